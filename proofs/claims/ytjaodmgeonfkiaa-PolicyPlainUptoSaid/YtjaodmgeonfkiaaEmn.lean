/-
  The engine, part mn: what the operations on maps do.
-/
import Derived.Test.YtjaodmgeonfkiaaEmm
namespace Go.Ab

section
variable {P : Program} {N : Nat} {G : Nat → Prop} {ι : Io} {e : Env} {h h' : Hp} {a : Act} {w : World} {o : Oper} {av : AV}

def lkRes (ok : Bool) (z : AV) : Option (Nat × DV) → AV
  | none => lkR ok z false
  | some (_, v) => lkR ok (avDV v) true
def upRes (es : List (DV × DV)) (kd vd : DV) : Option (Nat × DV) → List (DV × DV)
  | none => es ++ [(kd, vd)]
  | some (i, _) => es.set i (kd, vd)
def delRes (h : Hp) (l ver : Nat) (es : List (DV × DV)) : Option (Nat × DV) → Hp
  | none => h
  | some (i, _) => h.set l (.mp (ver + 1) (es.eraseIdx i))

theorem avDV_rel {v : Value} {x : DV} (hv : DVR G w v x) : VR G w ι h v (avDV x) := by
  cases hv with
  | s _ _ hd => exact .c _ _ (.d _ _ hd)
  | g cs l hn hc =>
    refine .agg cs _ (by simpa using hn) fun i u x hu hx => ?_
    simp only [List.getElem?_map, Option.map_eq_some_iff] at hx
    obtain ⟨d, hd, rfl⟩ := hx
    exact .d _ _ (hc i u d hu hd)

theorem map_at {v : Value} {l : Nat} {ver : Nat} {es : List (DV × DV)} (r : HR G ι h w) (hv : VR G w ι h v (.c (.mp l))) (hl : h[l]? = some (.mp ver es)) :
    ∃ b o ces clock, v = .map (some b) ∧ ι[l]? = some (b, o) ∧ w.heap[b]? = some (.map ces clock) ∧ Stamps ces.toList clock ∧ ER G w ces.toList es := by
  cases inv_c hv with
  | mp _ _ blk hb hk =>
    rw [hl] at hb
    cases hb
    obtain ⟨b, o, h1, h2⟩ := hk ver es rfl
    obtain ⟨b', o', ces, clock, g1, g2, g3, g4⟩ := r.blk l _ hl
    rw [h1] at g1
    cases g1
    exact ⟨b, o, ces, clock, h2, h1, g2, g3, g4⟩

theorem s_mkm (r : HR G ι h w) (t : TypeId) : OpRes G ι h w (.c (.mp h.length)) (h ++ [.mp 0 []]) ((do pure (.value (← Instr.makeMap t none)) : Sem Next).run P w) := by
  have hx := Ext.push_own r (.map #[] 0) (.mp 0 [])
  have hr : HR G (ι ++ [(w.heap.size, 0)]) (h ++ [.mp 0 []]) (push w (.map #[] 0)) := HR.push_own r _ _ ⟨w.heap.size, 0, #[], 0, by rw [← r.len]; simp, push_new w _, ⟨by simp, by simp⟩, ⟨rfl, by simp⟩⟩
  refine ⟨.map (some w.heap.size), push w (.map #[] 0), G, ι ++ [(w.heap.size, 0)], .inl ?_, hr, ?_, hx⟩
  · simp [Instr.makeMap, push]
  · refine .c _ _ (.mp _ _ (.mp 0 []) (by simp) fun ver es he => ⟨w.heap.size, 0, by rw [← r.len]; simp, rfl⟩)

theorem s_lk {t kt el : TypeId} {sc : Bool} {n : Nat} {ls : List (Nat × Nat)} {ok : Bool} {z : Value} {ti : TypeInfo} {zv : AV} {mv kv : Value} {l ver : Nat} {es : List (DV × DV)} {k : AV} {kd : DV} {r0 : Option (Nat × DV)} (r : HR G ι h w)
    (hu : P.underlying t = some (.map kt el)) (hk : keyInfo P kt = some (sc, n, ls)) (hi : P.info? el = some ti) (hz : ti.zero = some z) (hzv : VR G w ι h z zv)
    (hm : VR G w ι h mv (.c (.mp l))) (hl : h[l]? = some (.mp ver es)) (hkv : VR G w ι h kv k) (hkd : keyDV ls sc n k = some kd) (hf : mfind sc n ls kd es 0 = some r0) :
    OpRes G ι h w (lkRes ok zv r0) h ((do pure (.value (← Instr.lookup t mv kv ok)) : Sem Next).run P w) := by
  obtain ⟨b, o, ces, clock, rfl, h1, h2, h3, h4⟩ := map_at r hm hl
  obtain ⟨g1, ds, g2, g3⟩ := key_rel hkv hkd
  obtain ⟨u, q1, q2⟩ := find_run hk g1 h4 hf
  have hck := key_ck hk g1 g2 g3 ces.isEmpty
  cases r0 with
  | none =>
    cases u with
    | some u => exact q2.elim
    | none =>
      refine OpRes.value (v := if ok then .tuple #[z, .bool false] else z) r ?_ ?_
      · simp only [Instr.lookup, Sem.run_bind, r_und hu, Result.andThen_ok, MapKept.run_getObj_map h2, Sem.run_pure, hck, q1, r_zero hi hz]
      · cases ok with
        | false => exact hzv
        | true =>
          refine .tup _ _ rfl fun i v x hv hx => ?_
          match i, hv, hx with
          | 0, hv, hx => simp at hv hx; subst hv hx; exact hzv
          | 1, hv, hx => simp at hv hx; subst hv hx; exact .c _ _ (.d _ _ (.bool _))
          | i + 2, hv, hx => simp at hv
  | some p =>
    obtain ⟨j, v⟩ := p
    cases u with
    | none => exact q2.elim
    | some u =>
      obtain ⟨j', uv⟩ := u
      obtain ⟨rfl, _, c, hc, rfl, _⟩ := q2
      have hev : VR G w ι h c.val (avDV v) := by
        obtain ⟨_, e0, he0, he1⟩ := mfind_at hf
        have := (h4.2 (j' - 0) c e0 (by simpa using hc) (by simpa using he0)).2
        rw [he1] at this
        exact avDV_rel this
      refine OpRes.value (v := if ok then .tuple #[c.val, .bool true] else c.val) r ?_ ?_
      · simp only [Instr.lookup, Sem.run_bind, r_und hu, Result.andThen_ok, MapKept.run_getObj_map h2, Sem.run_pure, hck, q1]
      · cases ok with
        | false => exact hev
        | true =>
          refine .tup _ _ rfl fun i v x hv hx => ?_
          match i, hv, hx with
          | 0, hv, hx => simp at hv hx; subst hv hx; exact hev
          | 1, hv, hx => simp at hv hx; subst hv hx; exact .c _ _ (.d _ _ (.bool _))
          | i + 2, hv, hx => simp at hv

/-- a map becomes another one -/
theorem set_map {l b o ver : Nat} {es es' : List (DV × DV)} {ces ces' : Array MapEntry} {clock clock' : Nat} (r : HR G ι h w) (hl : h[l]? = some (.mp ver es)) (hi : ι[l]? = some (b, o)) (hb : w.heap[b]? = some (.map ces clock))
    (hs : Stamps ces'.toList clock') (he : ER G w ces'.toList es') :
    HR G ι (h.set l (.mp (ver + 1) es')) { w with heap := w.heap.setIfInBounds b (.map ces' clock') } ∧ Ext G ι h w G ι (h.set l (.mp (ver + 1) es')) { w with heap := w.heap.setIfInBounds b (.map ces' clock') } := by
  have hset := MapKept.heap_set (o' := .map ces' clock') hb
  have hkept : Kept ι ι w { w with heap := w.heap.setIfInBounds b (.map ces' clock') } l (.mp ver es) (.mp (ver + 1) es') := ⟨rfl, .inl (by omega)⟩
  have hx : Ext G ι h w G ι (h.set l (.mp (ver + 1) es')) { w with heap := w.heap.setIfInBounds b (.map ces' clock') } := Ext.set_own r hl hi rfl hkept (by simp) (fun b' hb' => hset.2 b' hb')
  refine ⟨HR.set_own r hl hi rfl hkept (by simp) (fun b' hb' => hset.2 b' hb') ⟨b, o, ces', clock', hi, hset.1, hs, he.mono (hx.g_same r)⟩, hx⟩

theorem er_push {ces : Array MapEntry} {es : List (DV × DV)} {kv xv : Value} {kd vd : DV} {n : Nat} (he : ER G w ces.toList es) (hk : DVR G w kv kd) (hv : DVR G w xv vd) : ER G w (ces.push { key := kv, val := xv, born := n }).toList (es ++ [(kd, vd)]) := by
  refine ⟨by simp [← he.1], fun i c e hc he' => ?_⟩
  rw [Array.toList_push] at hc
  rcases get_snoc hc with g | ⟨g, g'⟩
  · rcases get_snoc he' with q | ⟨q, q'⟩
    · exact he.2 i c e g q
    · have := get_lt g; have := he.1; omega
  · rcases get_snoc he' with q | ⟨q, q'⟩
    · have := get_lt q; have := he.1; omega
    · subst g' q'; exact ⟨hk, hv⟩

theorem er_set {ces : Array MapEntry} {es : List (DV × DV)} {kv xv : Value} {kd vd : DV} {i : Nat} (he : ER G w ces.toList es) (hk : DVR G w kv kd) (hv : DVR G w xv vd) : ER G w (ces.modify i fun e => { e with key := kv, val := xv }).toList (es.set i (kd, vd)) := by
  refine ⟨by simp [← he.1], fun j c e hc he' => ?_⟩
  rw [Array.getElem?_toList, Array.getElem?_modify] at hc
  rcases get_set he' with ⟨q1, q2, _⟩ | ⟨q1, q2⟩
  · subst q1 q2
    rw [if_pos rfl, Option.map_eq_some_iff] at hc
    obtain ⟨c0, _, rfl⟩ := hc
    exact ⟨hk, hv⟩
  · rw [if_neg (fun e => q1 e.symm)] at hc
    exact he.2 j c e (by simpa using hc) q2

theorem er_erase {ces : Array MapEntry} {es : List (DV × DV)} {i : Nat} (he : ER G w ces.toList es) : ER G w (ces.eraseIdxIfInBounds i).toList (es.eraseIdx i) := by
  have e : (ces.eraseIdxIfInBounds i).toList = ces.toList.eraseIdx i := by simp
  rw [e]
  refine ⟨by simp [List.length_eraseIdx, he.1], fun j c e hc he' => ?_⟩
  rw [List.getElem?_eraseIdx] at hc he'
  split at hc
  · rename_i hj; rw [if_pos hj] at he'; exact he.2 _ c e hc he'
  · rename_i hj; rw [if_neg hj] at he'; exact he.2 _ c e hc he'

theorem s_up {t kt el : TypeId} {sc : Bool} {n : Nat} {ls : List (Nat × Nat)} {mv kv xv : Value} {l ver : Nat} {es : List (DV × DV)} {k x : AV} {kd vd : DV} {h1 : Hp} {r0 : Option (Nat × DV)} (r : HR G ι h w)
    (hu : P.underlying t = some (.map kt el)) (hk : keyInfo P kt = some (sc, n, ls)) (hm : VR G w ι h mv (.c (.mp l))) (hkv : VR G w ι h kv k) (hkd : keyDV ls sc n k = some kd) (hxv : VR G w ι h xv x) (hvd : valDV h x = some (vd, h1))
    (hl : h1[l]? = some (.mp ver es)) (hf : mfind sc n ls kd es 0 = some r0) :
    ∃ w' G', (Instr.mapUpdate t mv kv xv).run P w = .ok () w' ∧ HR G' ι (h1.set l (.mp (ver + 1) (upRes es kd vd r0))) w' ∧
      Ext G ι h w G' ι (h1.set l (.mp (ver + 1) (upRes es kd vd r0))) w' := by
  obtain ⟨G1, r1, dv, x1⟩ := val_rel r hxv hvd
  obtain ⟨b, o, ces, clock, rfl, g1, g2, g3, g4⟩ := map_at r1 (hm.ext x1 r) hl
  obtain ⟨q1, ds, q2, q3⟩ := key_rel (hkv.ext x1 r) hkd
  obtain ⟨u, p1, p2⟩ := find_run hk q1 g4 hf
  have hck := key_ck hk q1 q2 q3 false
  cases r0 with
  | none =>
    cases u with
    | some u => exact p2.elim
    | none =>
      obtain ⟨a1, a2⟩ := set_map (ces' := ces.push { key := kv, val := xv, born := clock }) (clock' := clock + 1) r1 hl g1 g2 (by
        refine ⟨fun c hc => ?_, ?_⟩
        · rw [Array.toList_push] at hc
          rcases List.mem_append.1 hc with hc | hc
          · have := g3.1 c hc; omega
          · rw [List.mem_singleton.1 hc]; exact Nat.lt_succ_self _
        · rw [Array.toList_push, List.map_append, List.nodup_append]
          refine ⟨g3.2, by simp, fun x hx y hy => ?_⟩
          simp only [List.map_cons, List.map_nil, List.mem_singleton] at hy
          obtain ⟨c, hc, rfl⟩ := List.mem_map.1 hx
          have := g3.1 c hc
          omega) (er_push g4 q1 dv)
      refine ⟨_, G1, ?_, a1, x1.trans a2⟩
      simp only [Instr.mapUpdate, Sem.run_bind, r_und hu, Result.andThen_ok, MapKept.run_getObj_map g2, hck, p1, MapKept.run_setObj_map _ g2]
  | some p =>
    obtain ⟨j, v⟩ := p
    cases u with
    | none => exact p2.elim
    | some u =>
      obtain ⟨j', uv⟩ := u
      obtain ⟨rfl, _, c, hc, rfl, hq⟩ := p2
      simp only [Nat.sub_zero, Array.getElem?_toList] at hc
      obtain ⟨_, e0, he0, _⟩ := mfind_at hf
      have hckey := (g4.2 j' c e0 (by simpa using hc) (by simpa using he0)).1
      obtain ⟨ds', hds'⟩ := mfind_key hf e0 he0
      have hst := key_stays (w := w) hk q1 hckey q2 hds' hq
      obtain ⟨a1, a2⟩ := set_map (ces' := ces.modify j' fun e => { e with key := kv, val := xv }) (clock' := clock) r1 hl g1 g2 (by
        have hborn : (ces.modify j' fun e => { e with key := kv, val := xv }).toList.map (·.born) = ces.toList.map (·.born) := by
          apply List.ext_getElem?
          intro i
          simp only [List.getElem?_map, Array.getElem?_toList, Array.getElem?_modify]
          split
          · cases ces[i]? <;> rfl
          · rfl
        refine ⟨fun c' hc' => ?_, by rw [hborn]; exact g3.2⟩
        have : c'.born ∈ ces.toList.map (·.born) := by rw [← hborn]; exact List.mem_map.2 ⟨c', hc', rfl⟩
        obtain ⟨c2, hc2, e2⟩ := List.mem_map.1 this
        rw [← e2]; exact g3.1 c2 hc2) (er_set g4 q1 dv)
      refine ⟨_, G1, ?_, a1, x1.trans a2⟩
      simp only [Instr.mapUpdate, Sem.run_bind, r_und hu, Result.andThen_ok, MapKept.run_getObj_map g2, hck, p1, hc, Option.map_some, Option.getD_some, hst, MapKept.run_setObj_map _ g2]

theorem s_del {t kt el ty : TypeId} {u2 : TypeId} {sc : Bool} {n : Nat} {ls : List (Nat × Nat)} {mv kv : Value} {l ver : Nat} {es : List (DV × DV)} {k : AV} {kd : DV} {r0 : Option (Nat × DV)} (r : HR G ι h w)
    (hu : P.underlying t = some (.map kt el)) (hk : keyInfo P kt = some (sc, n, ls)) (hm : VR G w ι h mv (.c (.mp l))) (hkv : VR G w ι h kv k) (hkd : keyDV ls sc n k = some kd)
    (hl : h[l]? = some (.mp ver es)) (hf : mfind sc n ls kd es 0 = some r0) :
    ∃ w', (Builtin.delete_ #[t, u2] ty #[mv, kv]).run P w = .ok (.tuple #[]) w' ∧ HR G ι (delRes h l ver es r0) w' ∧
      Ext G ι h w G ι (delRes h l ver es r0) w' := by
  obtain ⟨b, o, ces, clock, rfl, g1, g2, g3, g4⟩ := map_at r hm hl
  obtain ⟨q1, ds, q2, q3⟩ := key_rel hkv hkd
  obtain ⟨u, p1, p2⟩ := find_run hk q1 g4 hf
  have hck := key_ck hk q1 q2 q3 ces.isEmpty
  cases r0 with
  | none =>
    cases u with
    | some u => exact p2.elim
    | none =>
      have hset : w.heap.setIfInBounds b (.map ces clock) = w.heap := by
        apply Array.ext_getElem?
        intro i
        by_cases e : i = b
        · subst e; rw [(MapKept.heap_set g2).1, g2]
        · exact (MapKept.heap_set g2).2 i e
      refine ⟨w, ?_, r, Ext.refl _ _ _ _⟩
      simp [Builtin.delete_, r_und hu, MapKept.run_getObj_map g2, hck, p1, MapKept.run_setObj_map _ g2, hset]
  | some p =>
    obtain ⟨j, v⟩ := p
    cases u with
    | none => exact p2.elim
    | some u =>
      obtain ⟨j', uv⟩ := u
      obtain ⟨rfl, _, c, hc, rfl, hq⟩ := p2
      have e : (ces.eraseIdxIfInBounds j').toList = ces.toList.eraseIdx j' := by simp
      obtain ⟨a1, a2⟩ := set_map (ces' := ces.eraseIdxIfInBounds j') (clock' := clock) r hl g1 g2 (by
        rw [e]
        refine ⟨fun c hc => g3.1 c (List.mem_of_mem_eraseIdx hc), ?_⟩
        exact List.Nodup.sublist ((List.eraseIdx_sublist _ _).map _) g3.2) (er_erase g4)
      refine ⟨_, ?_, a1, a2⟩
      simp [Builtin.delete_, r_und hu, MapKept.run_getObj_map g2, hck, p1, MapKept.run_setObj_map _ g2]

theorem s_lnm {t kt el ty : TypeId} {mv : Value} {l ver : Nat} {es : List (DV × DV)} (r : HR G ι h w) (hu : P.underlying t = some (.map kt el)) (hm : VR G w ι h mv (.c (.mp l))) (hl : h[l]? = some (.mp ver es)) :
    (Builtin.len_ #[t] ty #[mv]).run P w = .ok (.int .i64 es.length) w := by
  obtain ⟨b, o, ces, clock, rfl, g1, g2, g3, g4⟩ := map_at r hm hl
  have := g4.1
  simp only [Array.length_toList] at this
  simp [Builtin.len_, r_und hu, MapKept.run_getObj_map g2, goInt, this]

theorem mstep_apz {sz bytes : Nat} {z : List D} {x y : AV} (hs : mstep h (.apz sz bytes z) [x, y] = some (av, h')) :
    ∃ l n, x = .c (.d (.list true sz l)) ∧ y = .c (.d (.int .i64 n)) ∧ 0 < n ∧ n.toNat * bytes ≤ 140737488355328 ∧ av = .c (.arr h.length 0 0 n.toNat) ∧ h' = h ++ [.da true 0 sz (List.replicate n.toNat z)] := by
  unfold mstep at hs
  split at hs
  all_goals rename_i heq1 heq2
  all_goals first | (cases heq1; done) | skip
  · simp only [MOp.apz.injEq] at heq1
    obtain ⟨rfl, rfl, rfl⟩ := heq1
    simp only [List.cons.injEq, and_true] at heq2
    obtain ⟨rfl, rfl⟩ := heq2
    split at hs
    · rename_i hc
      obtain ⟨rfl, h2, h3⟩ := hc
      simp only [Option.some.injEq, Prod.mk.injEq] at hs
      exact ⟨_, _, rfl, rfl, h2, h3, hs.1.symm, hs.2.symm⟩
    · cases hs
  · cases hs

theorem mstep_lk {sc : Bool} {n : Nat} {ls : List (Nat × Nat)} {ok : Bool} {z m k : AV} (hs : mstep h (.lk sc n ls ok z) [m, k] = some (av, h')) :
    ∃ l ver es kd r0, m = .c (.mp l) ∧ h[l]? = some (.mp ver es) ∧ keyDV ls sc n k = some kd ∧ mfind sc n ls kd es 0 = some r0 ∧ av = (lkRes ok z r0) ∧ h' = h := by
  unfold mstep at hs
  split at hs
  all_goals rename_i heq1 heq2
  all_goals first | (cases heq1; done) | skip
  · simp only [MOp.lk.injEq] at heq1
    obtain ⟨rfl, rfl, rfl, rfl, rfl⟩ := heq1
    simp only [List.cons.injEq, and_true] at heq2
    obtain ⟨rfl, rfl⟩ := heq2
    split at hs
    · rename_i ver es kd h1 h2
      split at hs
      · rename_i h3
        simp only [Option.some.injEq, Prod.mk.injEq] at hs
        exact ⟨_, ver, es, kd, none, rfl, h1, h2, h3, hs.1.symm, hs.2.symm⟩
      · rename_i j v h3
        simp only [Option.some.injEq, Prod.mk.injEq] at hs
        exact ⟨_, ver, es, kd, some (j, v), rfl, h1, h2, h3, hs.1.symm, hs.2.symm⟩
      · cases hs
    · cases hs
  · cases hs

theorem mstep_up {sc : Bool} {n : Nat} {ls : List (Nat × Nat)} {m k x : AV} (hs : mstep h (.up sc n ls) [m, k, x] = some (av, h')) :
    ∃ l ver es kd vd h1 r0, m = .c (.mp l) ∧ keyDV ls sc n k = some kd ∧ valDV h x = some (vd, h1) ∧ h1[l]? = some (.mp ver es) ∧ mfind sc n ls kd es 0 = some r0 ∧ av = .c .u ∧ h' = h1.set l (.mp (ver + 1) (upRes es kd vd r0)) := by
  unfold mstep at hs
  split at hs
  all_goals rename_i heq1 heq2
  all_goals first | (cases heq1; done) | skip
  · simp only [MOp.up.injEq] at heq1
    obtain ⟨rfl, rfl, rfl⟩ := heq1
    simp only [List.cons.injEq, and_true] at heq2
    obtain ⟨rfl, rfl, rfl⟩ := heq2
    split at hs
    · rename_i kd vd h1 hk hv
      split at hs
      · rename_i ver es hl
        split at hs
        · rename_i h3
          simp only [Option.some.injEq, Prod.mk.injEq] at hs
          exact ⟨_, ver, es, kd, vd, h1, none, rfl, hk, hv, hl, h3, hs.1.symm, hs.2.symm⟩
        · rename_i j v h3
          simp only [Option.some.injEq, Prod.mk.injEq] at hs
          exact ⟨_, ver, es, kd, vd, h1, some (j, v), rfl, hk, hv, hl, h3, hs.1.symm, hs.2.symm⟩
        · cases hs
      · cases hs
    · cases hs
  · cases hs

theorem mstep_del {sc : Bool} {n : Nat} {ls : List (Nat × Nat)} {m k : AV} (hs : mstep h (.del sc n ls) [m, k] = some (av, h')) :
    ∃ l ver es kd r0, m = .c (.mp l) ∧ h[l]? = some (.mp ver es) ∧ keyDV ls sc n k = some kd ∧ mfind sc n ls kd es 0 = some r0 ∧ av = .tup [] ∧ h' = (delRes h l ver es r0) := by
  unfold mstep at hs
  split at hs
  all_goals rename_i heq1 heq2
  all_goals first | (cases heq1; done) | skip
  · simp only [MOp.del.injEq] at heq1
    obtain ⟨rfl, rfl, rfl⟩ := heq1
    simp only [List.cons.injEq, and_true] at heq2
    obtain ⟨rfl, rfl⟩ := heq2
    split at hs
    · rename_i ver es kd h1 h2
      split at hs
      · rename_i h3
        simp only [Option.some.injEq, Prod.mk.injEq] at hs
        exact ⟨_, ver, es, kd, none, rfl, h1, h2, h3, hs.1.symm, hs.2.symm⟩
      · rename_i j v h3
        simp only [Option.some.injEq, Prod.mk.injEq] at hs
        exact ⟨_, ver, es, kd, some (j, v), rfl, h1, h2, h3, hs.1.symm, hs.2.symm⟩
      · cases hs
    · cases hs
  · cases hs

theorem mstep_lnm {m : AV} (hs : mstep h .lnm [m] = some (av, h')) : ∃ l ver es, m = .c (.mp l) ∧ h[l]? = some (.mp ver es) ∧ av = .c (.d (.int .i64 es.length)) ∧ h' = h := by
  unfold mstep at hs
  split at hs
  all_goals rename_i heq1 heq2
  all_goals first | (cases heq1; done) | skip
  · simp only [List.cons.injEq, and_true] at heq2
    subst heq2
    split at hs
    · rename_i ver es h1
      simp only [Option.some.injEq, Prod.mk.injEq] at hs
      exact ⟨_, ver, es, rfl, h1, hs.1.symm, hs.2.symm⟩
    · cases hs
  · cases hs

theorem l_makeMap {t : TypeId} {rs : Option Operand} (r : Rel N G ι e h a w) (hop : o.op = .makeMap t rs) (hs : astep e h (compOp P o) = some (av, h')) : OpRes G ι h w av h' ((execOp a.eval o).run P w) := by
  cases rs with
  | some x => simp only [compOp, hop] at hs; exact absurd hs bad_step
  | none =>
    simp only [compOp, hop, astep, evs, mstep, Option.some.injEq, Prod.mk.injEq] at hs
    obtain ⟨rfl, rfl⟩ := hs
    have := s_mkm (P := P) r.hr t
    simp only [execOp, hop, Option.map_none]
    exact this

theorem l_lookup {t : TypeId} {x i : Operand} {ok : Bool} (r : Rel N G ι e h a w) (hop : o.op = .lookup t x i ok) (hs : astep e h (compOp P o) = some (av, h')) : OpRes G ι h w av h' ((execOp a.eval o).run P w) := by
  simp only [compOp, hop] at hs
  split at hs
  · rename_i kt el hu
    split at hs
    · rename_i sc n ls x' i' ti hk hx hi hti
      split at hs
      · rename_i z hz
        split at hs
        · rename_i zv hzv
          simp only [astep, evs] at hs
          obtain ⟨l, ver, es, kd, r0, h1, h2, h3, h4, rfl, rfl⟩ := mstep_lk hs
          have hm := cx_sound hx r
          rw [h1] at hm
          have := s_lk (P := P) (ok := ok) r.hr hu hk hti hz (tcav_sound hzv G w ι h') hm h2 (cx_sound hi r) h3 h4
          simp only [execOp, hop]
          exact this
        · exact absurd hs bad_step
      · exact absurd hs bad_step
    · exact absurd hs bad_step
  · exact absurd hs bad_step

theorem l_update {t : TypeId} {m k v : Operand} (r : Rel N G ι e h a w) (hop : o.op = .mapUpdate t m k v) (hs : astep e h (compOp P o) = some (av, h')) : OpRes G ι h w av h' ((execOp a.eval o).run P w) := by
  simp only [compOp, hop] at hs
  split at hs
  · rename_i kt el hu
    split at hs
    · rename_i sc n ls m' k' v' hk hm hkk hvv
      simp only [astep, evs] at hs
      obtain ⟨l, ver, es, kd, vd, h1, r0, g1, g2, g3, g4, g5, rfl, rfl⟩ := mstep_up hs
      have hmv := cx_sound hm r
      rw [g1] at hmv
      obtain ⟨w', G', q1, q2, q3⟩ := s_up (P := P) r.hr hu hk hmv (cx_sound hkk r) g2 (cx_sound hvv r) g3 g4 g5
      refine ⟨undef, w', G', ι, .inr ⟨?_, rfl⟩, q2, .c _ _ (.u _), q3⟩
      simp [execOp, hop, q1]
    · exact absurd hs bad_step
  · exact absurd hs bad_step

end
end Go.Ab
