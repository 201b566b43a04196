/-
  Merged texts, part i.
-/
import Derived.Test.YtollegfnkaomeaaZh
import Derived.Maps.RangeRun
/-
  The engine: arenas, part c: each operation on values that lead into an arena does in the model what its condition says.
-/
namespace Go.Ab
section
variable {P : Program} {N : Nat} {G : Nat → Prop} {ι : Io} {L : Lv} {h : Hp} {a : Act} {w : World} {o : Oper} {K : AV → Hp → Prop}
theorem vr_adr (b o : Nat) : VR G w ι h (.pointer (some ⟨b, o, none⟩)) (.c (.d (.adr b o))) := .c _ _ (.d _ _ (.adr b o))
def Goes (P : Program) (G : Nat → Prop) (ι : Io) (h : Hp) (a : Act) (w : World) (o : Oper) (K : AV → Hp → Prop) : Prop :=
 ∃ av h', OpRes G ι h w av h' ((execOp a.eval o).run P w) ∧ K av h'
theorem bad_ar {Q : Prop} (hv : vAr .bad L h K) : Q := by simp [vAr] at hv
theorem a_nilc {x : Operand} (r : Rel N G ι (lkL L) h a w) (hop : o.op = .nilCheck x) (hv : vAr (compOp P o) L h K) : Goes P G ι h a w o K := by
 simp only [compOp, hop] at hv
 split at hv
 ·rename_i y hy
  have hvx := cx_sound hy r
  simp only [vAr, evN_eq] at hv
  split at hv
  ·rename_i b off hx
   rw [hx] at hvx
   have hp := inv_adr hvx
   exact ⟨_, _, OpRes.value r.hr (by simp [execOp, hop, hp]) (hp ▸ hvx), hv⟩
  ·exact hv.elim
 ·exact bad_ar hv
theorem a_fa {s : TypeId} {x : Operand} {f : Nat} (r : Rel N G ι (lkL L) h a w) (hop : o.op = .fieldAddr s x f) (hv : vAr (compOp P o) L h K) : Goes P G ι h a w o K := by
 simp only [compOp, hop] at hv
 split at hv
 ·rename_i x' fs hx hu
  have hvx := cx_sound hx r
  split at hv
  ·rename_i fl hf
   split at hv
   ·rename_i ti hti
    split at hv
    ·rename_i hz
     simp only [vAr, evN_eq] at hv
     split at hv
     ·rename_i b off hxv
      rw [hxv] at hvx
      refine ⟨_, _, OpRes.value r.hr (v := .pointer (some ⟨b, off + fl.offset, none⟩)) ?_ (vr_adr _ _), hv⟩
      simp [execOp, hop, inv_adr hvx, Instr.fieldAt, Instr.sureAddr, r_und hu, hf, fieldPlace, r_size hti, hz, add_none]
     ·exact hv.elim
    ·exact bad_ar hv
   ·exact bad_ar hv
  ·exact bad_ar hv
 ·exact bad_ar hv
theorem a_ia {t : TypeId} {x i : Operand} (r : Rel N G ι (lkL L) h a w) (hop : o.op = .indexAddr t x i) (hv : vAr (compOp P o) L h K) : Goes P G ι h a w o K := by
 simp only [compOp, hop] at hv
 split at hv
 ·rename_i x' i' el hx hi hu
  have hvx := cx_sound hx r
  have hvi := cx_sound hi r
  split at hv
  ·rename_i ti hti
   simp only [vAr, evN_eq] at hv
   split at hv
   ·rename_i k n b off sz' m cap h1 h2
    rw [h1] at hvi; rw [h2] at hvx
    split at hv
    ·rename_i hsz
     have hsz := Nat.eq_of_beq_eq_true hsz
     have h01 := hv.1 ()
     rw [nI_eq] at h01
     refine ⟨_, _, OpRes.value r.hr (v := .pointer (some ⟨b, off + n.toNat * ti.size, none⟩)) ?_ (vr_adr _ _), hv.2 _ rfl⟩
     have e1 := inv_sl hvx
     have e2 := inv_int hvi
     have h02 : n < m ∧ 0 ≤ n := ⟨h01.2, h01.1⟩
     simp [execOp, hop, e1, e2, Instr.indexAt, asIntOf, r_und hu, h01, r_size hti, add_none]
    ·exact hv.elim
   ·exact hv.elim
  ·exact bad_ar hv
 ·rename_i x' i' n el hx hi hu
  have hvx := cx_sound hx r
  have hvi := cx_sound hi r
  split at hv
  ·rename_i ti hti
   cases i' with
   | k v => simp [vAr] at hv
   | t it =>
    simp only [vAr, evN_eq, lkN_eq] at hv
    split at hv
    ·rename_i k m b off h1 h2
     have hvi : VR G w ι h (a.eval i) (lkL L it) := hvi
     rw [h1] at hvi; rw [h2] at hvx
     have h01 := hv.1 ()
     rw [nI_eq] at h01
     have hk := vAll_sound hv.2 h01.1 h01.2
     refine ⟨_, _, OpRes.value r.hr (v := .pointer (some ⟨b, off + m.toNat * ti.size, none⟩)) ?_ (vr_adr _ _), hk⟩
     simp [execOp, hop, inv_int hvi, inv_adr hvx, Instr.indexAt, asIntOf, r_und hu, Instr.sureAddr, h01, r_size hti, add_none]
    ·exact hv.elim
  ·exact bad_ar hv
 ·exact bad_ar hv
theorem am_head {m : Ar} {rest : Hp} (r : HR G ι (.am m :: rest) w) {b : Nat} {N : Nat} {xs : List D} (hx : m b = some (.cs N xs)) : ∃ (c : Array Value) (t : TypeId) (fr : Nat × Nat), w.heap[b]? = some (.cells c t fr) ∧ c.size = N ∧ xs.length ≤ N ∧
  (∀ k, k < c.size → ¬ (fr.1 ≤ k ∧ k < fr.2)) ∧ ∀ (i : Nat) (x : D), xs[i]? = some x → ∃ v, c[i]? = some v ∧ DR G w v x := r.blk 0 _ rfl b _ hx
theorem a_load {t : TypeId} {x : Operand} (r : Rel N G ι (lkL L) h a w) (hop : o.op = .load t x) (hv : vAr (compOp P o) L h K) : Goes P G ι h a w o K := by
 simp only [compOp, hop] at hv
 split at hv
 ·rename_i n y hn hy
  have hvx := cx_sound hy r
  simp only [vAr, evN_eq] at hv
  split at hv
  ·rename_i m rest b off hx
   rw [hx] at hvx
   have hp := inv_adr hvx
   split at hv
   ·obtain ⟨N', xs, c, h1, h2, h3⟩ := hv
    obtain ⟨cs, tt, fr, a1, a2, a3, a4, a5⟩ := am_head r.hr h1
    obtain ⟨v, g1, g2⟩ := a5 off c h2
    have hcell : w.cell? ⟨b, off, none⟩ = some v := by rw [cell_of a1]; exact g1
    exact ⟨_, _, OpRes.value r.hr (v := v) (by simp [execOp, hop, hp, Instr.loadAt, Instr.sureAddr, loadVar, ldk_none hn, hcell]) (.c _ _ (.d _ _ g2)), h3⟩
   ·rename_i n
    obtain ⟨N', xs, ds, h1, h2, h3, h4⟩ := hv
    obtain ⟨cs, tt, fr, a1, a2, a3, a4, a5⟩ := am_head r.hr h1
    have hc : ∀ (j : Nat) (x : CV), ((xs.drop off).map CV.d)[j]? = some x → ∃ y, w.cell? ⟨b, off + j, none⟩ = some y ∧ CR G w ι (.am m :: rest) y x := by
     intro j x hx
     simp only [List.getElem?_map, Option.map_eq_some_iff, List.getElem?_drop] at hx
     obtain ⟨d, hd, rfl⟩ := hx
     obtain ⟨v, g1, g2⟩ := a5 _ d hd
     exact ⟨v, by rw [cell_of a1]; exact g1, .d _ _ g2⟩
    have hle : n ≤ ((xs.drop off).map CV.d).length := by
     rw [List.length_map, ← h3, ← h2, List.length_take]; omega
    obtain ⟨vs, q1, q2, q3⟩ := loadCells_sound P hc hle
    obtain ⟨k1, k2⟩ := ldk_some (w := w) hn
    refine ⟨_, _, OpRes.value r.hr (v := .agg vs) (by simp [execOp, hop, hp, Instr.loadAt, Instr.sureAddr, loadVar, k1, k2, q1]) (.agg _ _ (by simp; omega) fun i v x hv hx => ?_), h4⟩
    rw [← h2, List.map_take, List.getElem?_take] at hx
    split at hx
    ·exact q3 i v x hv hx
    ·cases hx
  ·exact hv.elim
 ·exact bad_ar hv
theorem a_store {t : TypeId} {x y : Operand} (r : Rel N G ι (lkL L) h a w) (hop : o.op = .store t x y) (hv : vAr (compOp P o) L h K) : Goes P G ι h a w o K := by
 simp only [compOp, hop] at hv
 split at hv
 ·rename_i i x' y' hi hx hy
  have hvx := cx_sound hx r
  have hvy := cx_sound hy r
  simp only [vAr, evN_eq] at hv
  split at hv
  ·rename_i m rest b off cs hxv hcs
   rw [hxv] at hvx
   split at hv
   ·rename_i ds hds
    obtain ⟨hn, N', xs, h1, h2, h3⟩ := hv
    obtain ⟨c, tt, fr, a1, a2, a3, a4, a5⟩ := am_head r.hr h1
    obtain ⟨d1, d2⟩ := toDs_get hds
    obtain ⟨hsz, hrel⟩ := hvy.cells hcs (toDs_ok hds)
    have hvs : (a.eval y).cells.toList.length = ds.length := by rw [list_of_cells hsz, d1]
    have hone : ∀ v ∈ (a.eval y).cells.toList, v.oneCell' = true := by
     intro v hv
     obtain ⟨i, hi⟩ := List.mem_iff_getElem?.1 hv
     rw [Array.getElem?_toList] at hi
     have hi2 : i < cs.length := by have := (Array.getElem?_eq_some_iff.1 hi).1; omega
     have := hrel i v _ hi (List.getElem?_eq_getElem hi2)
     have hd := toD_sound this (d2 i _ (ds[i]'(by omega)) (List.getElem?_eq_getElem hi2) (List.getElem?_eq_getElem _))
     exact hd.one.1
    obtain ⟨w', c', q1, q2, q3, q4, q5, q6, q7⟩ := storeCells_run P b off tt fr (a.eval y).cells.toList w c 0 a1 a4 (by omega) hone
    have hg : ∀ bb, G bb → G bb ∧ w'.heap[bb]? = w.heap[bb]? := fun bb hbb => ⟨hbb, q6 bb fun e => (r.hr.g bb hbb).2 (e ▸ am_owned (h := .am m :: rest) rfl h1)⟩
    have hA : ABR G w' b (.cs N' (xs.take off ++ (ds ++ xs.drop (off + ds.length)))) := by
     refine ⟨c', tt, fr, q2, by omega, by rw [splice_len _ _ _ h2]; exact a3, by rw [q3]; exact a4, fun i x hx => ?_⟩
     rw [splice_get _ _ _ _ h2] at hx
     rw [q4]
     simp only [Nat.add_zero, hvs]
     split at hx
     ·rename_i hi
      rw [if_pos hi]
      have hi2 : i - off < cs.length := by omega
      have hi3 : i - off < (a.eval y).cells.size := by omega
      refine ⟨(a.eval y).cells[i - off], by rw [Array.getElem?_toList]; exact Array.getElem?_eq_getElem hi3, ?_⟩
      have hcr := hrel (i - off) _ _ (Array.getElem?_eq_getElem hi3) (List.getElem?_eq_getElem hi2)
      exact (toD_sound hcr (d2 _ _ x (List.getElem?_eq_getElem hi2) hx)).mono hg
     ·rename_i hi
      rw [if_neg hi]
      obtain ⟨v, g1, g2⟩ := a5 i x hx
      exact ⟨v, g1, g2.mono hg⟩
    obtain ⟨k1, k2⟩ := HR.am_set r.hr (h := .am m :: rest) rfl h1 q5 q6 hA q7
    refine ⟨_, _, ⟨undef, w', G, ι, .inr ⟨?_, rfl⟩, k1, .c _ _ (.u _), k2⟩, h3 _ rfl⟩
    have hsz2 : (a.eval y).cells.size = i.size := by omega
    simp [execOp, hop, inv_adr hvx, Instr.storeAt, Instr.sureAddr, storeVar, r_size hi, hsz2, q1]
   ·exact hv.elim
  ·exact hv.elim
 ·exact bad_ar hv
theorem a_boxv {v : Value} {x : X} (t : TypeId) (hr : HR G ι h w) (hvx : VR G w ι h v (evN L x)) (hv : vAr (.box x) L h K) :
  ∃ av h', OpRes G ι h w av h' ((do pure (.value (.pointer (some (← newVar t v)))) : Sem Next).run P w) ∧ K av h' := by
 simp only [vAr] at hv
 split at hv
 ·rename_i m rest cs hcs
  split at hv
  ·rename_i ds hds
   obtain ⟨d1, d2⟩ := toKs_get hds
   obtain ⟨hsz, hrel⟩ := hvx.cells hcs (toKs_ok hds)
   have hpush : ∀ bb, G bb → G bb ∧ (push w (.cells v.cells t)).heap[bb]? = w.heap[bb]? := fun bb hbb => ⟨hbb, push_old w _ (hr.g bb hbb).1⟩
   have hA : ABR G (push w (.cells v.cells t)) w.heap.size (.cs v.cells.size ds) := by
    refine ⟨v.cells, t, (0, 0), push_new w _, rfl, by omega, by simp, fun i x hx => ?_⟩
    have hi := get_lt hx
    refine ⟨v.cells[i]'(by omega), Array.getElem?_eq_getElem _, ?_⟩
    have hcr := hrel i _ _ (Array.getElem?_eq_getElem (by omega)) (List.getElem?_eq_getElem (l := cs) (i := i) (by omega))
    exact (toK_sound hcr (d2 _ _ x (List.getElem?_eq_getElem _) hx)).mono hpush
   obtain ⟨k0, k1, k2⟩ := HR.am_new hr (h := .am m :: rest) rfl (.cells v.cells t) hA
   exact ⟨_, _, ⟨_, _, G, ι, .inl (by simp [newVar, newRow]; rfl), k1, vr_adr _ _, k2⟩, hv _ _ _ k0 (by omega) rfl⟩
  ·exact hv.elim
 ·exact hv.elim
theorem a_alloc {el : TypeId} (r : Rel N G ι (lkL L) h a w) (hop : o.op = .alloc el) (hv : vAr (compOp P o) L h K) : Goes P G ι h a w o K := by
 simp only [compOp, hop] at hv
 split at hv
 ·rename_i i hi
  split at hv
  ·rename_i z hz
   split at hv
   ·rename_i v hv'
    obtain ⟨av, h', k1, k2⟩ := a_boxv (P := P) el r.hr (L := L) (x := .k v) (tcav_sound hv' G w ι h) hv
    refine ⟨av, h', ?_, k2⟩
    simp only [execOp, hop, Instr.alloc, Sem.run_bind, r_zero hi hz, Result.andThen_ok] at k1 ⊢
    exact k1
   ·exact bad_ar hv
  ·exact bad_ar hv
 ·exact bad_ar hv
theorem a_box {el : TypeId} {x : Operand} (r : Rel N G ι (lkL L) h a w) (hop : o.op = .box el x) (hv : vAr (compOp P o) L h K) : Goes P G ι h a w o K := by
 simp only [compOp, hop] at hv
 split at hv
 ·rename_i y hy
  obtain ⟨av, h', k1, k2⟩ := a_boxv (P := P) el r.hr (L := L) (x := y) (by rw [evN_eq]; exact cx_sound hy r) hv
  refine ⟨av, h', ?_, k2⟩
  simp only [execOp, hop, Instr.box, Sem.run_bind, newVar, newRow, run_newObj, Result.andThen_ok, Sem.run_pure] at k1 ⊢
  exact k1
 ·exact bad_ar hv
theorem mks_run {t el : TypeId} {k k' : IntKind} {ln cp : Int} {zd : List D} {ti : TypeInfo} {z : Value} (hu : P.underlying t = some (.slice el)) (hi : P.info? el = some ti) (g2 : ti.zero = some z)
  (h0 : 0 ≤ ln) (h1 : ln ≤ cp) (hb : cp.toNat * ti.bytes ≤ 140737488355328) (hc : cp ≤ 9223372036854775807) (_ : zds P el = some zd) :
  (Instr.makeSlice t (.int k ln) (.int k' cp)).run P w = .ok (.slice (some ⟨w.heap.size, 0, none⟩) ln.toNat cp.toNat) (push w (.cells ((Array.range (cp.toNat * ti.size)).map (z.cells[· % z.cells.size]!)) el)) := by
 have hwl : IntKind.i64.wrap ln = ln := wrap_id (by omega) (by omega)
 have hwc : IntKind.i64.wrap cp = cp := wrap_id (by omega) (by omega)
 have hbI : ¬ (2 : Int) ^ 48 < (ti.bytes : Int) * cp := by
  have : (ti.bytes : Int) * cp = ((cp.toNat * ti.bytes : Nat) : Int) := by
   rw [Int.natCast_mul, Int.toNat_of_nonneg (by omega), Int.mul_comm]
  rw [this]; omega
 have e1 : ¬ cp < 0 := by omega
 have e2 : ¬ ln < 0 := by omega
 have e3 : ¬ cp < ln := by omega
 simp only [Instr.makeSlice, Sem.run_bind, r_und hu, Result.andThen_ok, asInt, asIntOf, Sem.run_pure, r_info hi, hwl, hwc, Sem.run_ite, r_size hi, run_askRoom]
 simp only [gt_iff_lt, e1, hbI, e2, e3, decide_false, Bool.or_self, Bool.false_eq_true, if_false]
 by_cases hz0 : cp.toNat * ti.size = 0
 ·simp only [hz0, if_true, Result.andThen_ok, newRow, Sem.run_bind, run_newObj, Sem.run_pure]
  have : ∀ f : Nat → Value, Array.map f (Array.range 0) = #[] := fun f => by simp
  simp [push, this]
 ·simp only [hz0, if_false, r_zero hi g2, Result.andThen_ok, newRow, Sem.run_bind, run_newObj, Sem.run_pure]
  rfl
theorem a_mks {t : TypeId} {l c : Operand} (r : Rel N G ι (lkL L) h a w) (hop : o.op = .makeSlice t l c) (hv : vAr (compOp P o) L h K) : Goes P G ι h a w o K := by
 simp only [compOp, hop] at hv
 split at hv
 ·rename_i el l' c' hu hl hc
  have hvl := cx_sound hl r
  have hvc := cx_sound hc r
  split at hv
  ·rename_i z ti hz hti
   simp only [vAr, evN_eq] at hv
   split at hv
   ·rename_i m rest k n k' q h1 h2
    rw [h1] at hvl; rw [h2] at hvc
    obtain ⟨p1, p2, p3, p4⟩ := hv.1 ()
    subst p2
    obtain ⟨i, zv, g1, g2, g3, g4, g5⟩ := zds_sound hz
    rw [hti] at g1; cases g1
    have hrun := mks_run (P := P) (w := w) (k := k) (k' := k') hu hti g2 p1 (Int.le_refl _) p4 p3 hz
    have hlz := laid_zero (G := G) (w := w) n.toNat (n.toNat * ti.size) g4 g3 (g5 G w) (Nat.le_refl _)
    have hpush : ∀ bb, G bb → G bb ∧ (push w (.cells ((Array.range (n.toNat * ti.size)).map (zv.cells[· % zv.cells.size]!)) el)).heap[bb]? = w.heap[bb]? := fun bb hbb => ⟨hbb, push_old w _ (r.hr.g bb hbb).1⟩
    have hA := ABR.of_laid (laid_mono hlz hpush) (push_new w _) (fr := (0, 0)) (by simp) (by simp)
    obtain ⟨k0, k1, k2⟩ := HR.am_new r.hr (h := .am m :: rest) rfl _ hA
    refine ⟨_, _, ⟨_, _, G, ι, .inl ?_, k1, .c _ _ (.d _ _ (.slA _ _ _ _ _)), k2⟩, hv.2 _ _ _ _ _ k0 rfl (by simp) rfl rfl⟩
    simp only [execOp, hop, Sem.run_bind, inv_int hvl, inv_int hvc, hrun, Result.andThen_ok, Sem.run_pure]
   ·exact hv.elim
  ·exact bad_ar hv
 ·exact bad_ar hv
theorem a_isnil {op : BinOp} {xt yt : TypeId} {x y : Operand} (r : Rel N G ι (lkL L) h a w) (hop : o.op = .binOp op xt x y yt) (hv : vAr (compOp P o) L h K) : Goes P G ι h a w o K := by
 have key : ∀ kd x', cx P xt x = some x' → (op = .eql ∨ op = .neq) → ((kd = 0 ∧ lnil y = true ∧ ∃ el, P.underlying xt = some (.slice el)) ∨ (kd = 1 ∧ pnil y = true ∧ ∃ el, P.underlying xt = some (.pointer el)) ∨ (kd = 2 ∧ fnil y = true ∧ ∃ ps rs v, P.underlying xt = some (.func ps rs v))) →
   vAr (.isnil kd (op == .neq) x') L h K → Goes P G ι h a w o K := by
  intro kd x' hcx hopk hty hv
  have hvx := cx_sound hcx r
  simp only [vAr, evN_eq] at hv
  split at hv
  ·rename_i b off hx
   rw [hx] at hvx
   have := b_nil_at (P := P) r hop x' 1 false hcx hopk hty (fun h => by cases h) (fun _ => ⟨_, inv_adr hvx, rfl⟩) (fun h => by cases h)
   refine ⟨_, _, this, ?_⟩
   have e : (if (op == BinOp.neq) = true then !false else false) = (op == BinOp.neq) := by cases (op == BinOp.neq) <;> rfl
   rw [e]; exact hv
  ·rename_i b off sz n cap hx
   rw [hx] at hvx
   have := b_nil_at (P := P) r hop x' 0 false hcx hopk hty (fun _ => ⟨_, _, _, inv_sl hvx, rfl⟩) (fun h => by cases h) (fun h => by cases h)
   refine ⟨_, _, this, ?_⟩
   have e : (if (op == BinOp.neq) = true then !false else false) = (op == BinOp.neq) := by cases (op == BinOp.neq) <;> rfl
   rw [e]; exact hv
  ·exact hv.elim
 simp only [compOp, hop] at hv
 split at hv
 ·rename_i x' y' hx' hy'
  split at hv
  all_goals (repeat' split at hv) <;> first | exact bad_ar hv | (simp [vAr] at hv; done) | skip
  all_goals
   rename_i hu hl
   first
    | exact key 0 x' hx' (by simp) (.inl ⟨rfl, hl, _, hu⟩) hv
    | exact key 1 x' hx' (by simp) (.inr (.inl ⟨rfl, hl, _, hu⟩)) hv
    | (exfalso; simp only [vAr] at hv; split at hv <;> first | exact hv | (rename_i h0 _; cases h0))
 ·exact bad_ar hv
theorem a_app {c : Call} {x y : Operand} {t u el el2 : TypeId} {x' y' : X} {z : List D} {ti : TypeInfo} (r : Rel N G ι (lkL L) h a w) (hop : o.op = .call c) (hc : c.callee = .builtin .append) (ha : c.args.toList = [x, y]) (ht : c.argTypes.toList = [t, u])
  (hx : cx P t x = some x') (hy : cx P u y = some y') (hu : P.underlying t = some (.slice el)) (hu2 : P.underlying u = some (.slice el2)) (hz : zds P el = some z) (hti : P.info? el = some ti) (hpos : 0 < ti.bytes)
  (hv : vAr (.app ti.size ti.bytes z x' y') L h K) : Goes P G ι h a w o K := by
 have hvx := cx_sound hx r
 have hvy := cx_sound hy r
 obtain ⟨i, zv, g1, g2, g3, g4, g5⟩ := zds_sound hz
 rw [hti] at g1; cases g1
 have hexec := exec_app (P := P) (a := a) (w := w) hop hc ha ht
 have T : AppTy P t u el el2 ti zv ti.size ti.bytes := ⟨hu, hu2, hti, rfl, rfl, hpos, g2, g4⟩
 simp only [vAr, evN_eq] at hv
 split at hv
 ·rename_i m rest sz' ys hys
  split at hv
  ·rename_i hsz
   have hsz := Nat.eq_of_beq_eq_true hsz
   subst hsz
   split at hv
   ·-- onto the nil slice
    rename_i sz2 l0 hxv
    rw [hxv] at hvx
    split at hv
    ·rename_i hsz2
     have hsz2 := Nat.eq_of_beq_eq_true hsz2
     subst hsz2
     obtain ⟨hv1, hv2⟩ := hv
     obtain ⟨hne, hroom⟩ := hv1 ()
     have hvx0 : a.eval x = .slice none 0 0 ∧ l0 = [] := by
      revert hvx
      generalize a.eval x = v
      intro hvx
      cases inv_d hvx; exact ⟨rfl, rfl⟩
     obtain ⟨ex, rfl⟩ := hvx0
     have hpos2 : 0 < ys.length := by cases ys with | nil => exact absurd rfl hne | cons => simp
     obtain ⟨w1, hw1⟩ : ∃ w1 : World, w1 = { w with drawn := w.drawn + 1 } := ⟨_, rfl⟩
     have hh : w1.heap = w.heap := by rw [hw1]
     have hr1 := r.hr.same_heap hh
     have hx1 := Ext.same_heap (G := G) (ι := ι) (h := .am m :: rest) hh
     have hxv1 : view (.am m :: rest) (.c (.d (.list true ti.size []))) = some (ti.size, []) := rfl
     obtain ⟨co, a1, a2, a3⟩ := view_laid (P := P) hr1 (hvx.ext hx1 r.hr) hxv1
     obtain ⟨cn, b1, b2, b3⟩ := view_laid (P := P) hr1 (hvy.ext hx1 r.hr) hys
     obtain ⟨ay, capy, hvy', _⟩ := view_len r.hr hvy hys
     have hlen : (Builtin.lenOf (a.eval y)).run P w = .ok ys.length w := by rw [hvy']; rfl
     obtain ⟨cap', c, k1, k2, k3, k4⟩ := append_grow_run (G := G) (P := P) (xs := []) (ys := ys) o.type T.hu T.hdy T.hpos T.hi T.hsz T.hby T.hz T.hzs ex rfl rfl hlen w1 hw1 a1 b1 a3 a2 b3 b2 (by omega) (by simpa using hroom)
     rw [List.nil_append] at k3
     have hpush : ∀ bb, G bb → G bb ∧ (push w1 (.cells c el)).heap[bb]? = w1.heap[bb]? := fun bb hbb => ⟨hbb, push_old w1 _ (hr1.g bb hbb).1⟩
     have hle : ys.length * ti.size ≤ c.size := Nat.le_trans (Nat.mul_le_mul_right _ (by omega)) k4
     have hA := ABR.of_laid (laid_mono k3 hpush) (push_new w1 _) (fr := (0, 0)) (by simp) hle
     obtain ⟨j0, j1, j2⟩ := HR.am_new hr1 (h := .am m :: rest) rfl _ hA
     refine ⟨_, _, ⟨_, _, G, ι, .inl (by rw [hexec, k1]; rfl), j1, .c _ _ (.d _ _ (.slA _ _ ti.size _ _)), hx1.trans j2⟩, ?_⟩
     exact hv2 _ _ _ _ _ j0 (by omega) (by omega) k4 rfl
    ·exact hv.elim
   ·-- onto a row of the arena
    rename_i b off sz2 n cap hxv
    rw [hxv] at hvx
    split at hv
    ·rename_i hsz2
     have hsz2 := Nat.eq_of_beq_eq_true hsz2
     subst hsz2
     obtain ⟨N', es, hm, rfl, rfl, hes, hcap, hN, hroom, hK⟩ := hv
     have hroom := hroom ()
     have hmx : es.length ≤ 9223372036854775807 := room_le hpos (Nat.le_trans (Nat.mul_le_mul_right _ (Nat.le_add_right es.length ys.length)) hroom.2)
     obtain ⟨r2, e2, hNb, r0⟩ := HR.borrow r.hr (h := .am m :: rest) rfl hm hes hmx
     simp only [List.set_cons_zero] at r2 e2 r0
     have hlast : (.am (mdel m b) :: rest ++ [Blk.da true 0 ti.size es])[rest.length + 1]? = some (.da true 0 ti.size es) := by simp
     have hix : (ι ++ [(b, 0)])[rest.length + 1]? = some (b, 0) := by
      have := r.hr.len; simp only [List.length_cons] at this
      rw [← this]; simp
     have hvxA : VR G w (ι ++ [(b, 0)]) (.am (mdel m b) :: rest ++ [Blk.da true 0 ti.size es]) (a.eval x) (.c (.arr (rest.length + 1) 0 0 es.length)) := by
      rw [inv_sl hvx]
      refine .c _ _ (.arr _ _ _ _ _ (.da true 0 ti.size es) hlast rfl (fun sz3 es3 he => ?_) fun _ _ he => by cases he)
      cases he
      refine ⟨b, 0, cap, hix, by omega, hcap, ?_, .inl (by simp)⟩
      rw [← hNb, Nat.zero_add, Nat.zero_add]; exact hN
     have hysA : view (.am (mdel m b) :: rest ++ [Blk.da true 0 ti.size es]) (ev (lkL L) y') = some (ti.size, ys) := by
      revert hys
      generalize ev (lkL L) y' = yv
      intro hys
      unfold view at hys ⊢
      split at hys
      ·exact hys
      ·exact hys
      ·rename_i l v i n
       cases l with
       | zero => simp at hys
       | succ l =>
        simp only [List.getElem?_cons_succ, List.cons_append] at hys ⊢
        split at hys
        ·rename_i rr v' s es' he
         rw [get_snoc_old he]
         exact hys
        ·cases hys
      ·cases hys
     obtain ⟨v', w', G', ι', k1, k2, k3, k4, k5⟩ := append_own0 (P := P) o.type T r2 hvxA hlast (hvy.ext e2 r.hr) hysA (by simpa using hroom.2)
     obtain ⟨b1, hb1⟩ := k5 b rfl hix
     have hset : List.set (.am (mdel m b) :: rest ++ [Blk.da true 0 ti.size es]) (rest.length + 1) (.da true (0 + 1) ti.size ((es.drop 0).take es.length ++ ys)) = (.am (mdel m b) :: rest) ++ [Blk.da true 1 ti.size (es ++ ys)] := by
      simp
     rw [hset] at k2 k3 k4
     have hrefs : refsH (Blk.am (mdel m b) :: rest).length (Blk.am (mdel m b) :: rest) = true := r0.refs
     obtain ⟨j0, j1, j2⟩ := HR.give (m := mdel m b) (hA := .am (mdel m b) :: rest) k2 hrefs rfl (by simpa using hb1) (e2.trans k4) (by simp)
     have hvv : ∃ cap', v' = .slice (some ⟨b1, 0, none⟩) (es.length + ys.length) cap' ∧ es.length + ys.length ≤ cap' ∧ cap' * ti.size ≤ bsize w' b1 := by
      cases k3 with
      | c _ _ hc =>
       cases hc with
       | arr _ _ _ _ _ blk hb ha hk hk0 =>
        have hl2 : (.am (mdel m b) :: rest ++ [Blk.da true 1 ti.size (es ++ ys)])[rest.length + 1]? = some (.da true 1 ti.size (es ++ ys)) := by simp
        rw [hl2] at hb; cases hb
        obtain ⟨b2, o2, cap2, q1, q2, q3, q4, q5⟩ := hk _ _ rfl
        rw [hb1] at q1; cases q1
        refine ⟨cap2, ?_, q3, by simpa using q4⟩
        rcases q5 with q5 | ⟨q5, _⟩
        ·simpa using q5
        ·have := hroom.1
         cases ys with
         | nil => exact absurd rfl this
         | cons => simp at q5
     obtain ⟨cap', rfl, f1, f2⟩ := hvv
     refine ⟨_, _, ⟨_, _, G', _, .inl (by rw [hexec, k1]; rfl), j1, .c _ _ (.d _ _ (.slA _ _ ti.size _ _)), j2⟩, ?_⟩
     exact hK _ _ _ _ _ j0 rfl f1 f2 rfl
    ·exact hv.elim
   ·exact hv.elim
  ·exact hv.elim
 ·exact hv.elim
theorem a_call {c : Call} (r : Rel N G ι (lkL L) h a w) (hop : o.op = .call c) (hv : vAr (compOp P o) L h K) : Goes P G ι h a w o K := by
 cases hc : c.callee with
 | invoke _ _ =>
  simp only [compOp, hop, hc] at hv
  split at hv
  ·simp [vAr] at hv
  ·exact bad_ar hv
 | value f =>
  simp only [compOp, hop, hc] at hv
  split at hv
  ·rename_i heq; cases heq
  all_goals (repeat' split at hv) <;> first | exact bad_ar hv | (simp [vAr] at hv; done)
 | builtin b =>
  simp only [compOp, hop, hc] at hv
  unfold compB at hv
  split at hv
  case h_1 =>
   rename_i x t ha ht
   split at hv
   ·rename_i x' hx
    split at hv
    ·simp [vAr] at hv
    ·rename_i el hu
     have hvx := cx_sound hx r
     simp only [vAr, evN_eq] at hv
     split at hv
     ·rename_i bb off sz n cap hxv
      rw [hxv] at hvx
      refine ⟨_, _, OpRes.value r.hr (v := .int .i64 n) ?_ (.c _ _ (.d _ _ (.int _ _))), hv _ (by rw [nI_eq])⟩
      rw [exec_len (P := P) (a := a) (w := w) hop hc ha ht, inv_sl hvx]
      simp [Builtin.len_, r_und hu, goInt]
     ·exact hv.elim
    ·simp [vAr] at hv
    ·exact bad_ar hv
   ·exact bad_ar hv
  case h_7 =>
   rename_i x y t u ha ht
   split at hv
   ·rename_i x' y' hx hy
    split at hv
    ·rename_i el el2 hu hu2
     split at hv
     ·rename_i z ti hz hti
      split at hv
      ·rename_i hpos
       exact a_app r hop hc ha ht hx hy hu hu2 hz hti hpos hv
      ·exact bad_ar hv
     ·exact bad_ar hv
    ·(repeat' split at hv) <;> first | exact bad_ar hv | (simp [vAr] at hv; done)
    ·exact bad_ar hv
   ·exact bad_ar hv
  all_goals (repeat' split at hv) <;> first | exact bad_ar hv | (simp [vAr] at hv; done)
theorem it_at {v : Value} {i l ver : Nat} {es : List (DV × DV)} (r : HR G ι h w) (hv : VR G w ι h v (.c (.it i))) (hi : h[i]? = some (.mi l ver es)) :
  ∃ b o mb seen clock blk, v = .pointer (some ⟨b, 0, none⟩) ∧ ι[i]? = some (b, o) ∧ w.heap[b]? = some (.mapIter (some mb) clock seen clock) ∧ h[l]? = some blk ∧ blk.allows ver = true ∧
   ∀ all, blk = .mp ver all → ∃ o' ces, ι[l]? = some (mb, o') ∧ w.heap[mb]? = some (.map ces clock) ∧ ItR G w seen ces.toList es := by
 cases inv_c hv with
 | it _ _ blk hb hk =>
  rw [hi] at hb
  cases hb
  obtain ⟨b, o, h1, h2⟩ := hk l ver es rfl
  obtain ⟨b', o', mb, seen, clock, blk, g1, g2, g3, g4, g5⟩ := r.blk i _ hi
  rw [h1] at g1
  cases g1
  exact ⟨b, o, mb, seen, clock, blk, h2, h1, g2, g3, g4, g5⟩
theorem a_rng {t : TypeId} {x : Operand} (r : Rel N G ι (lkL L) h a w) (hop : o.op = .range t x) (hv : vAr (compOp P o) L h K) : Goes P G ι h a w o K := by
 simp only [compOp, hop] at hv
 split at hv
 ·rename_i y kt el hx hu
  have hvx := cx_sound hx r
  simp only [vAr, evN_eq] at hv
  split at hv
  ·rename_i l hl
   rw [hl] at hvx
   split at hv
   ·rename_i ver es hh
    obtain ⟨b, o', ces, clock, g1, g2, g3, g4, g5⟩ := map_at r.hr hvx hh
    have hx2 := Ext.push_own r.hr (.mapIter (some b) clock #[] clock) (.mi l ver ((.g [], .g []) :: es)) rfl
    have hlt := get_lt hh
    have hun : unseen #[] ces.toList = ces.toList := by simp [unseen]
    have hr2 : HR G (ι ++ [(w.heap.size, 0)]) (h ++ [.mi l ver ((.g [], .g []) :: es)]) (push w (.mapIter (some b) clock #[] clock)) :=
     HR.push_own r.hr _ _ rfl ⟨w.heap.size, 0, b, #[], clock, .mp ver es, by rw [← r.hr.len]; simp, push_new w _, by rw [List.getElem?_append_left hlt]; exact hh, by simp [Blk.allows], fun all ha => by
      cases ha
      refine ⟨o', ces, by rw [List.getElem?_append_left (by rw [r.hr.len]; exact hlt)]; exact g2, ?_, _, _, rfl, ?_, fun hk => by cases hk⟩
      ·rw [push_old w _ (by have := Array.getElem?_eq_some_iff.1 g3; exact this.1)]; exact g3
      ·rw [hun]; exact g5.mono (hx2.g_same r.hr)⟩
    refine ⟨_, _, ⟨.pointer (some ⟨w.heap.size, 0, none⟩), push w (.mapIter (some b) clock #[] clock), G, ι ++ [(w.heap.size, 0)], .inl ?_, hr2, ?_, hx2⟩, hv⟩
    ·simp [execOp, hop, Instr.range, r_und hu, g1, MapKept.run_getObj_map g3, push]
    ·exact .c _ _ (.it _ _ (.mi l ver ((.g [], .g []) :: es)) (by simp) fun m v e he => ⟨w.heap.size, 0, by rw [← r.hr.len]; simp, rfl⟩)
   ·exact hv.elim
  ·exact hv.elim
 ·exact bad_ar hv
theorem unseen_push {seen : Array Nat} {ces : List MapEntry} {e : MapEntry} {j : Nat} (hn : (ces.map (·.born)).Nodup) (hj : (unseen seen ces)[j]? = some e) : unseen (seen.push e.born) ces = (unseen seen ces).eraseIdx j := by
 have h1 : unseen (seen.push e.born) ces = (unseen seen ces).filter fun c => c.born != e.born := by
  simp only [unseen, List.filter_filter]
  refine List.filter_congr fun c _ => ?_
  by_cases hc : c.born = e.born <;> simp [hc]
 have hnd : ((unseen seen ces).map (·.born)).Nodup := hn.sublist (List.filter_sublist.map _)
 rw [h1]
 generalize unseen seen ces = l at *
 clear h1 hn
 induction l generalizing j with
 | nil => simp at hj
 | cons c l ih =>
  simp only [List.map_cons, List.nodup_cons] at hnd
  cases j with
  | zero =>
   simp only [List.getElem?_cons_zero, Option.some.injEq] at hj
   subst hj
   simp only [List.filter_cons, bne_self_eq_false, Bool.false_eq_true, if_false, List.eraseIdx_cons_zero]
   refine List.filter_eq_self.2 fun x hx => ?_
   simp only [bne_iff_ne, ne_eq]
   intro hb
   exact hnd.1 (List.mem_map.2 ⟨x, hx, hb⟩)
  | succ j =>
   simp only [List.getElem?_cons_succ] at hj
   have hmem := List.mem_of_getElem? hj
   have hne : c.born ≠ e.born := fun hb => hnd.1 (List.mem_map.2 ⟨e, hmem, hb.symm⟩)
   simp only [List.filter_cons, List.eraseIdx_cons_succ]
   rw [if_pos (by simp [hne]), ih hj hnd.2]
theorem a_nx {x : Operand} {s : Bool} (r : Rel N G ι (lkL L) h a w) (hop : o.op = .next x s) (hv : vAr (compOp P o) L h K) : Goes P G ι h a w o K := by
 simp only [compOp, hop] at hv
 split at hv
 ·rename_i y hx
  have hvx := cx_sound hx r
  simp only [vAr, evN_eq] at hv
  split at hv
  ·rename_i i hxi
   rw [hxi] at hvx
   split at hv
   ·rename_i l v e0 rest hi
    split at hv
    ·rename_i v' all hl
     obtain ⟨q1, q2, q3⟩ := hv
     have q1 := q1 ()
     subst q1
     obtain ⟨b, o1, mb, seen, clock, blk, f1, f2, f3, f4, f5, f6⟩ := it_at r.hr hvx hi
     rw [hl] at f4
     cases f4
     obtain ⟨o2, ces, f7, f8, e1, rest1, f9, f10, f11⟩ := f6 all rfl
     cases f9
     obtain ⟨b3, o3, ces3, clock3, k1, k2, k3, k4⟩ := r.hr.blk l _ hl
     rw [f7] at k1
     cases k1
     rw [f8] at k2
     cases k2
     have hlf : (leftOf ces seen).toList = unseen seen ces.toList := by simp [leftOf, unseen]
     rcases run_next_at (P := P) w o.type b mb clock clock seen ces clock f3 f8 k3.1 (Nat.le_refl _) with ⟨h0, hrun⟩ | ⟨e, he, w1, hw1, hrun⟩
     ·have hr0 : rest = [] := by
       have : (unseen seen ces.toList).length = 0 := by rw [← hlf]; simpa using h0
       exact List.eq_nil_of_length_eq_zero (by rw [← f10.1]; exact this)
      refine ⟨_, _, OpRes.value r.hr (v := .tuple #[.bool false]) ?_ (.tup _ _ rfl fun i v x hv hx => ?_), q2 hr0⟩
      ·simp [execOp, hop, f1, hrun]
      ·match i, hv, hx with
       | 0, hv, hx => simp at hv hx; subst hv hx; exact .c _ _ (.d _ _ (.bool _))
       | i + 1, hv, hx => simp at hv
     ·rw [hlf] at he
      obtain ⟨j, hj⟩ := List.mem_iff_getElem?.1 he
      have hjl := get_lt hj
      have hje : rest[j]? = some (rest[j]'(by rw [← f10.1]; exact hjl)) := List.getElem?_eq_getElem _
      generalize rest[j]'(by rw [← f10.1]; exact hjl) = ky at hje
      obtain ⟨ky1, ky2⟩ := ky
      obtain ⟨d1, d2⟩ := f10.2 j e _ hj hje
      have hheap : w1.heap = w.heap := by rcases hw1 with rfl | rfl <;> rfl
      have hq1 : Quiet w w1 := by rcases hw1 with rfl | rfl <;> first | exact ⟨rfl, rfl, rfl, Nat.le_refl _⟩ | exact ⟨rfl, rfl, rfl, Nat.le_succ _⟩
      have hset : ∀ b', b' ≠ b → (ChangeMaps.setBlock w1 b (.mapIter (some mb) clock (seen.push e.born) clock)).heap[b']? = w.heap[b']? := by
       intro b' hb'
       simp only [ChangeMaps.setBlock, hheap]
       rw [Array.getElem?_setIfInBounds, if_neg (fun e => hb' e.symm)]
      have hnew : (ChangeMaps.setBlock w1 b (.mapIter (some mb) clock (seen.push e.born) clock)).heap[b]? = some (.mapIter (some mb) clock (seen.push e.born) clock) := by
       simp only [ChangeMaps.setBlock, hheap]
       rw [Array.getElem?_setIfInBounds, if_pos rfl, if_pos (Array.getElem?_eq_some_iff.1 f3).1]
      have hmb : mb ≠ b := fun e => by rw [e, f3] at f8; cases f8
      have hq : Quiet w (ChangeMaps.setBlock w1 b (.mapIter (some mb) clock (seen.push e.born) clock)) := hq1
      have hsize : (ChangeMaps.setBlock w1 b (.mapIter (some mb) clock (seen.push e.born) clock)).heap.size = w.heap.size := by simp [ChangeMaps.setBlock, hheap]
      have hil : i ≠ l := fun e => by rw [e, hl] at hi; cases hi
      have hkept : Kept ι ι w (ChangeMaps.setBlock w1 b (.mapIter (some mb) clock (seen.push e.born) clock)) i (.mi l v' (e0 :: rest)) (.mi l v' ((ky1, ky2) :: rest.eraseIdx j)) := ⟨rfl, rfl, rfl⟩
      have hx3 := Ext.set_own (G := G) r.hr hi f2 rfl rfl hkept hsize hset hq
      have hsame := hx3.g_same r.hr
      have hER : ER G (ChangeMaps.setBlock w1 b (.mapIter (some mb) clock (seen.push e.born) clock)) (unseen (seen.push e.born) ces.toList) (rest.eraseIdx j) := by
       rw [unseen_push k3.2 hj]
       refine ⟨by simp [List.length_eraseIdx, f10.1], fun i c e hc he' => ?_⟩
       rw [List.getElem?_eraseIdx] at hc he'
       split at hc
       ·rename_i hj; rw [if_pos hj] at he'; exact ⟨(f10.2 _ c e hc he').1.mono hsame, (f10.2 _ c e hc he').2.mono hsame⟩
       ·rename_i hj; rw [if_neg hj] at he'; exact ⟨(f10.2 _ c e hc he').1.mono hsame, (f10.2 _ c e hc he').2.mono hsame⟩
      have hmem : e ∈ ces.toList := by
       have := List.mem_of_getElem? hj
       simp only [unseen, List.mem_filter] at this
       exact this.1
      have hr3 := HR.set_own r.hr hi f2 rfl rfl hkept hsize hset ⟨b, o1, mb, seen.push e.born, clock, .mp v' all, f2, hnew, by rw [List.getElem?_set, if_neg hil]; exact hl, by simp [Blk.allows], fun all' ha => ⟨o2, ces, f7, by rw [hset mb hmb]; exact f8, _, _, rfl, hER, fun _ => ⟨e, hmem, by simp, d1.mono hsame, d2.mono hsame⟩⟩⟩ hq
      refine ⟨_, _, ⟨.tuple #[.bool true, e.key, e.val], _, G, ι, .inl ?_, hr3, .tup _ _ rfl fun i v x hv hx => ?_, hx3⟩, q3 j ky1 ky2 _ hje rfl⟩
      ·simp [execOp, hop, f1, hrun]
      ·match i, hv, hx with
       | 0, hv, hx => simp at hv hx; subst hv hx; exact .c _ _ (.d _ _ (.bool _))
       | 1, hv, hx => simp at hv hx; subst hv hx; exact avDV_rel (d1.mono hsame)
       | 2, hv, hx => simp at hv hx; subst hv hx; exact avDV_rel (d2.mono hsame)
       | i + 3, hv, hx => simp at hv
    ·exact hv.elim
   ·exact hv.elim
  ·exact hv.elim
 ·exact bad_ar hv
theorem a_ent {x : Operand} (r : Rel N G ι (lkL L) h a w) (hop : o.op = .entry x) (hv : vAr (compOp P o) L h K) : Goes P G ι h a w o K := by
 simp only [compOp, hop] at hv
 split at hv
 ·rename_i y hx
  have hvx := cx_sound hx r
  simp only [vAr, evN_eq] at hv
  split at hv
  ·rename_i i hxi
   rw [hxi] at hvx
   split at hv
   ·rename_i l v k y rest hi
    split at hv
    ·rename_i v' all hl
     obtain ⟨q1, q2, q3⟩ := hv
     have q1 := q1 ()
     subst q1
     obtain ⟨b, o1, mb, seen, clock, blk, f1, f2, f3, f4, f5, f6⟩ := it_at r.hr hvx hi
     rw [hl] at f4
     cases f4
     obtain ⟨o2, ces, f7, f8, e1, rest1, f9, f10, f11⟩ := f6 all rfl
     cases f9
     obtain ⟨c, p1, p2, p3, p4⟩ := f11 q2
     obtain ⟨b3, o3, ces3, clock3, k1, k2, k3, k4⟩ := r.hr.blk l _ hl
     rw [f7] at k1
     cases k1
     rw [f8] at k2
     cases k2
     have hf : ces.find? (·.born == c.born) = some c := by rw [← Array.find?_toList]; exact find_born c ces.toList k3.2 p1
     refine ⟨_, _, OpRes.value r.hr (v := .tuple #[c.key, c.val]) ?_ (.tup _ _ rfl fun i v x hv hx => ?_), q3⟩
     ·simp [execOp, hop, f1, Instr.entry, getObj, Sem.run, f3, f8, p2, hf]
     ·match i, hv, hx with
      | 0, hv, hx => simp at hv hx; subst hv hx; exact avDV_rel p3
      | 1, hv, hx => simp at hv hx; subst hv hx; exact avDV_rel p4
      | i + 2, hv, hx => simp at hv
    ·exact hv.elim
   ·exact hv.elim
  ·exact hv.elim
 ·exact bad_ar hv
theorem ar_sound (r : Rel N G ι (lkL L) h a w) (hv : vAr (compOp P o) L h K) : Goes P G ι h a w o K := by
 cases hop : o.op
 case nilCheck => exact a_nilc r hop hv
 case fieldAddr => exact a_fa r hop hv
 case indexAddr => exact a_ia r hop hv
 case load => exact a_load r hop hv
 case store => exact a_store r hop hv
 case alloc => exact a_alloc r hop hv
 case box => exact a_box r hop hv
 case makeSlice => exact a_mks r hop hv
 case binOp => exact a_isnil r hop hv
 case call => exact a_call r hop hv
 case range => exact a_rng r hop hv
 case next => exact a_nx r hop hv
 case entry => exact a_ent r hop hv
 all_goals
  exfalso
  simp only [compOp, hop] at hv
  (repeat' split at hv) <;> first | contradiction | exact bad_ar hv | (simp [vAr] at hv; done)
end
end Go.Ab

/-
  The engine, part w: texts and functions.
-/
namespace Go.Ab
section
variable {P : Program} {ro : Option Nat} {N : Nat} {G0 : Nat → Prop} {ι0 : Io} {h0 : Hp} {w0 : World}
theorem KeepL_get {n : Nat} {L : Lv} : ∀ {L' : Lv}, KeepL n L L' → ∀ i, lkL L' i = .c .u ∨ (lkL L' i = lkL L i ∧ refsA n (lkL L i) = true) := by
 intro L'
 induction L' with
 | nil => intro _ i; exact .inl rfl
 | cons p r ih =>
  intro hk i
  obtain ⟨j, v⟩ := p
  obtain ⟨⟨h1, h2⟩, h3⟩ := hk
  simp only [lkL, upd]
  by_cases hj : j = i
  ·subst hj
   rw [if_pos rfl]
   rw [lkN_eq] at h1
   right; exact ⟨h1.symm, by rw [h1]; exact h2⟩
  ·rw [if_neg hj]; exact ih h3 i
theorem Wk.cut_fits {m : Nat} {L L' : Lv} {h h' : Hp} {a : Act} {w : World} (heap : ∃ t, h = h' ++ t) (least : m ≤ h'.length) (refs : refsH h'.length h' = true) (env : KeepL h'.length L L') (hm : h0.length ≤ m)
    (hf : Fits N G0 ι0 h0 w0 (lkL L) h a w) : Fits N G0 ι0 h0 w0 (lkL L') h' a w := by
  obtain ⟨t, rfl⟩ := heap
  obtain ⟨G, ι, st⟩ := hf
  have hlen := st.rel.hr.len
  simp only [List.length_append] at hlen
  have hle := least
  have hι : ∀ l, l < h'.length → (ι.take h'.length)[l]? = ι[l]? := fun l hl => by rw [List.getElem?_take, if_pos hl]
  have hown : ∀ b, owned (ι.take h'.length) h' b → owned ι (h' ++ t) b := fun b ⟨l, k, h2, h3⟩ =>
    ⟨l, k, by rw [take_get (get_lt h2)]; exact h2, own1_io h3 fun _ => (hι l (get_lt h2)).symm⟩
  have hr : HR G (ι.take h'.length) h' w :=
    { len := by simp; omega
      own := fun l l' b k k' b1 b2 c1 c2 => st.rel.hr.own l l' b k k' (by rw [take_get (get_lt b1)]; exact b1) (by rw [take_get (get_lt b2)]; exact b2)
        (own1_io c1 fun _ => (hι l (get_lt b1)).symm) (own1_io c2 fun _ => (hι l' (get_lt b2)).symm)
      g := fun b hb => ⟨(st.rel.hr.g b hb).1, fun ho => (st.rel.hr.g b hb).2 (hown b ho)⟩
      blk := fun l k hk => by
        have hl := get_lt hk
        have hb := st.rel.hr.blk l k (by rw [take_get hl]; exact hk)
        have hrb := refsH_get refs l k hk
        cases k with
        | dead => trivial
        | am m' => exact hb
        | bx cs =>
          obtain ⟨b, o, c, ty, fr, h1, h2, h3, h4, h5⟩ := hb
          refine ⟨b, o, c, ty, fr, by rw [hι l hl]; exact h1, h2, h3, h4, fun i x hx => ?_⟩
          obtain ⟨v, hv, hc⟩ := h5 i x hx
          exact ⟨v, hv, refsC_move hc (refsCs_get hrb i x hx)⟩
        | mp ver es =>
          obtain ⟨b, o, ces, clock, h1, h2⟩ := hb
          exact ⟨b, o, ces, clock, by rw [hι l hl]; exact h1, h2⟩
        | mi m' ver es =>
          have hm' : m' < h'.length := Nat.le_of_ble_eq_true hrb
          obtain ⟨b, o, mb, seen, clock, blk, h1, h2, h3, h4, h5⟩ := hb
          rw [take_get hm'] at h3
          refine ⟨b, o, mb, seen, clock, blk, by rw [hι l hl]; exact h1, h2, h3, h4, fun all ha => ?_⟩
          obtain ⟨o', ces, g1, g2⟩ := h5 all ha
          exact ⟨o', ces, by rw [hι m' hm']; exact g1, g2⟩
        | da rl v sz es =>
          cases rl with
          | false => exact hb
          | true =>
            obtain ⟨b, o, c, ty, fr, hmx, h1, h2, h3⟩ := hb
            exact ⟨b, o, c, ty, fr, hmx, by rw [hι l hl]; exact h1, h2, h3⟩ }
  refine ⟨G, ι.take h'.length, ⟨hr, st.rel.size, fun i => ?_⟩, ?_, st.dfr.sub hown⟩
  · rcases KeepL_get env i with h1 | ⟨h1, h2⟩
    · simp only [lk, h1]; exact .c _ _ (.u _)
    · simp only [lk, h1]; exact refsA_move (st.rel.env i) h2
  · exact
      { size := st.ext.size
        quiet := st.ext.quiet
        frame := st.ext.frame
        gmono := st.ext.gmono
        gnew := st.ext.gnew
        onew := fun b ho => st.ext.onew b (hown b ho)
        keep := fun l k hk => by
          obtain ⟨k', h1, h2⟩ := st.ext.keep l k hk
          have hl : l < h'.length := by have := get_lt hk; omega
          rw [take_get hl] at h1
          refine ⟨k', h1, ?_⟩
          cases k with
          | dead => cases k' <;> first | trivial | (simp [Kept] at h2)
          | am m' => cases k' <;> first | trivial | (simp [Kept] at h2)
          | bx cs =>
            cases k' with
            | dead => trivial
            | bx cs' => exact ⟨h2.1, by rw [hι l hl]; exact h2.2⟩
            | _ => simp [Kept] at h2
          | mp v es =>
            cases k' with
            | dead => trivial
            | mp v' es' => exact ⟨by rw [hι l hl]; exact h2.1, h2.2⟩
            | _ => simp [Kept] at h2
          | mi m' v es =>
            cases k' with
            | dead => trivial
            | mi m2 v' es' => exact ⟨h2.1, h2.2.1, by rw [hι l hl]; exact h2.2.2⟩
            | _ => simp [Kept] at h2
          | da rl v sz es =>
            cases k' with
            | dead => trivial
            | da rl' v' sz' es' =>
              rcases h2 with h2 | ⟨q1, q0, q2, q3, q4, q5⟩
              · exact .inl h2
              · exact .inr ⟨q1, q0, q2, q3, by rw [hι l hl]; exact q4, q5⟩
            | _ => simp [Kept] at h2 }
theorem nil_value {G : Nat → Prop} {w : World} {v : Value} {sz : Nat} (hd : DR G w v (.list true sz [])) : v = .slice none 0 0 := by
 cases hd; rfl
theorem FzH_get {l v sz : Nat} {es : List (List D)} : ∀ {h h' : Hp} {n : Nat}, FzH l v sz es n h h' → h.length = h'.length ∧
  ∀ (i : Nat) (b b' : Blk), h[i]? = some b → h'[i]? = some b' → (n + i = l ∧ b' = .dead) ∨ (n + i ≠ l ∧ FzB l v sz es b b') := by
 intro h
 induction h with
 | nil =>
  intro h' n hf
  cases h' with
  | nil => exact ⟨rfl, by simp⟩
  | cons => simp [FzH] at hf
 | cons b h ih =>
  intro h' n hf
  cases h' with
  | nil => simp [FzH] at hf
  | cons b' h' =>
   obtain ⟨h1, h2⟩ := hf
   obtain ⟨i1, i2⟩ := ih h2
   refine ⟨by simp [i1], fun i x y hx hy => ?_⟩
   cases i with
   | zero => simp at hx hy; subst hx hy; exact h1
   | succ i =>
    simp at hx hy
    rcases i2 i x y hx hy with ⟨q1, q2⟩ | ⟨q1, q2⟩
    ·exact .inl ⟨by omega, q2⟩
    ·exact .inr ⟨by omega, q2⟩
theorem FzCs_get {l v sz : Nat} {es : List (List D)} : ∀ {xs ys : List CV}, FzCs l v sz es xs ys → xs.length = ys.length ∧ ∀ (i : Nat) (x y : CV), xs[i]? = some x → ys[i]? = some y → FzC l v sz es x y := by
 intro xs
 induction xs with
 | nil =>
  intro ys hf
  cases ys with
  | nil => exact ⟨rfl, by simp⟩
  | cons => simp [FzCs] at hf
 | cons x xs ih =>
  intro ys hf
  cases ys with
  | nil => simp [FzCs] at hf
  | cons y ys =>
   obtain ⟨h1, h2⟩ := hf
   obtain ⟨i1, i2⟩ := ih h2
   refine ⟨by simp [i1], fun i a b ha hb => ?_⟩
   cases i with
   | zero => simp at ha hb; subst ha hb; exact h1
   | succ i => simp at ha hb; exact i2 i a b ha hb
theorem Wk.fz_fits {L L' : Lv} {h h' : Hp} {a : Act} {w : World} (l v sz : Nat) (rl : Bool) (es : List (List D)) (hl : h[l]? = some (.da rl v sz es)) (env : ∀ i, lkL L' i = .c .u ∨ FzA l v sz es (lkL L i) (lkL L' i)) (heap : FzH l v sz es 0 h h')
    (hf : Fits N G0 ι0 h0 w0 (lkL L) h a w) : Fits N G0 ι0 h0 w0 (lkL L') h' a w := by
  obtain ⟨G, ι, st⟩ := hf
  have hr := st.rel.hr
  obtain ⟨G1, q1, q2, qd⟩ : ∃ G1, HR G1 ι (h.set l .dead) w ∧ Ext G ι h w G1 ι (h.set l .dead) w ∧ ∀ (u : Value) (n : Nat), n = es.length → CR G w ι h u (.arr l v 0 n) → DR G1 w u (.list false sz es) := by
    cases rl with
    | false =>
      have hes : es = [] := hr.blk l _ hl
      subst hes
      refine ⟨G, HR.kill hr hl, Ext.kill hl, fun u n hn hc => ?_⟩
      cases hc with
      | arr _ _ _ _ _ blk hb _ _ hk0 => rw [hl] at hb; cases hb; obtain ⟨_, _, rfl⟩ := hk0 sz [] rfl; exact .nils false sz
    | true =>
      obtain ⟨b, o, c, ty, fr, hmx, g1, g2, g3⟩ := hr.blk l _ hl
      refine ⟨_, HR.freeze hr hl g1 rfl, Ext.freeze hl g1 rfl, fun u n hn hc => ?_⟩
      subst hn
      have hfz : frz h (.arr l v 0 es.length) = some (.list false sz es, h.set l .dead) := by simp [frz, hl]
      obtain ⟨G', k1, k2, k3⟩ := frz_sound hr hc hfz
      -- the frozen set of 'frz_sound' is the same one
      cases hc with
      | arr _ _ _ _ _ blk hb ha hk hk0 =>
        rw [hl] at hb; cases hb
        obtain ⟨b', o', cap, f1, f2, f3, f4, f5⟩ := hk sz es rfl
        rw [g1] at f1; cases f1
        obtain ⟨b2, o2, c2, t2, fr2, hmx2, p1, p2, p3, p4, p5, p6⟩ := hr.blk l _ hl
        rw [g1] at p1; cases p1
        have hext := Ext.freeze (G := G) (w := w) hl g1 rfl
        rcases f5 with rfl | ⟨hn0, hc0, o', rfl⟩
        · have := DR.sl (G := fun x => G x ∨ x = b) (w := w) b (o + 0 * sz) cap sz es (fun p q => (c2[o + p * sz + q]?).getD undef) (fun _ => .inr rfl) (by omega) hmx p5 ?_ ?_
          · exact this
          · intro p e q x he hq
            obtain ⟨y, hy, _⟩ := p6 _ e q x he hq
            rw [cell_of p2]
            have : o + 0 * sz + p * sz + q = o + p * sz + q := by omega
            rw [this, hy]; rfl
          · intro p e q x he hq
            obtain ⟨y, hy, hd⟩ := p6 _ e q x he hq
            simp only [hy, Option.getD_some]
            exact hd.ext hext hr
        · have : es = [] := List.eq_nil_of_length_eq_zero hn0
          subst this
          exact .emp _ _
  obtain ⟨hlen, hget⟩ := FzH_get heap
  have hk : ∀ k b, (h.set l .dead)[k]? = some b → ∃ b', h'[k]? = some b' ∧ Kept ι ι w w k b b' ∧ (∀ x, own1 ι k b' x ↔ own1 ι k b x) ∧ ((b = .dead ∧ b' = .dead) ∨ ∃ b0, h[k]? = some b0 ∧ b = b0 ∧ k ≠ l ∧ FzB l v sz es b0 b') := by
    intro k b hb
    have hkl : k < h'.length := by have := get_lt hb; simp at this; omega
    have hb' : h'[k]? = some h'[k] := List.getElem?_eq_getElem hkl
    refine ⟨h'[k], hb', ?_⟩
    rcases get_set hb with ⟨e1, e2, _⟩ | ⟨e1, e2⟩
    · subst e1 e2
      rcases hget k _ _ hl hb' with ⟨_, q⟩ | ⟨q, _⟩
      · rw [q]; exact ⟨trivial, fun _ => Iff.rfl, .inl ⟨rfl, rfl⟩⟩
      · omega
    · rcases hget k _ _ e2 hb' with ⟨q, _⟩ | ⟨q, q3⟩
      · omega
      · refine ⟨?_, ?_, .inr ⟨b, e2, rfl, e1, q3⟩⟩
        · generalize h'[k] = x at q3
          cases q3 with
          | same => exact Kept.refl ι w k b
          | bx xs ys hc => exact ⟨(FzCs_get hc).1.symm, rfl⟩
        · generalize h'[k] = x at q3
          cases q3 <;> exact fun _ => Iff.rfl
  have hk1 : ∀ k b, (h.set l .dead)[k]? = some b → ∃ b', h'[k]? = some b' ∧ Kept ι ι w w k b b' := fun k b hb => let ⟨b', x1, x2, _⟩ := hk k b hb; ⟨b', x1, x2⟩
  have hg1 : ∀ b, G1 b → G1 b ∧ w.heap[b]? = w.heap[b]? := fun b hb => ⟨hb, rfl⟩
  have hcv : ∀ (u : Value) (x y : CV), CR G w ι h u x → FzC l v sz es x y → CR G1 w ι h' u y := by
    intro u x y hc hz
    cases hz with
    | keep => exact (hc.ext q2 hr).mono hg1 hk1
    | arr n hn => exact .d _ _ (qd u n hn hc)
    | drop => exact .u _
  have hback : ∀ (k : Nat) (b' : Blk), h'[k]? = some b' → ∃ b : Blk, (List.set h l Blk.dead)[k]? = some b ∧ ∀ x, own1 ι k b' x ↔ own1 ι k b x := by
    intro k b' hb'
    have hkl : k < (List.set h l Blk.dead).length := by have := get_lt hb'; simp; omega
    have hb := List.getElem?_eq_getElem hkl
    obtain ⟨b2, x1, _, x3, _⟩ := hk k _ hb
    rw [hb'] at x1; cases x1
    exact ⟨_, hb, x3⟩
  have hown : ∀ b, owned ι h' b ↔ owned ι (h.set l .dead) b := by
    intro b
    constructor
    · rintro ⟨k, blk, x2, x3⟩
      obtain ⟨b1, y1, y2⟩ := hback k blk x2
      exact ⟨k, b1, y1, (y2 b).1 x3⟩
    · rintro ⟨k, blk, x2, x3⟩
      obtain ⟨b1, y1, _, y2, _⟩ := hk k blk x2
      exact ⟨k, b1, y1, (y2 b).2 x3⟩
  have hr' : HR G1 ι h' w :=
    { len := by rw [← hlen]; exact hr.len
      own := fun l1 l2 b k1 k2 c1 c2 d1 d2 => by
        obtain ⟨b1, x1, x2⟩ := hback l1 k1 c1
        obtain ⟨b2, y1, y2⟩ := hback l2 k2 c2
        exact q1.own l1 l2 b b1 b2 x1 y1 ((x2 b).1 d1) ((y2 b).1 d2)
      g := fun b hb => ⟨(q1.g b hb).1, fun ho => (q1.g b hb).2 ((hown b).1 ho)⟩
      blk := fun k b' hb' => by
        have hkl : k < (List.set h l Blk.dead).length := by have := get_lt hb'; simp; omega
        have hb := List.getElem?_eq_getElem hkl
        obtain ⟨b2, x1, _, _, x4⟩ := hk k _ hb
        rw [hb'] at x1; cases x1
        have hbr := q1.blk k _ hb
        rcases x4 with ⟨_, e2⟩ | ⟨b0, e1, e2, e3, e4⟩
        · subst e2; trivial
        · rw [e2] at hbr hb
          cases e4 with
          | bx xs ys hc =>
            obtain ⟨b, o, c, t, fr, h1, h2, h3, h4, h5⟩ := hr.blk k _ e1
            obtain ⟨z1, z2⟩ := FzCs_get hc
            refine ⟨b, o, c, t, fr, h1, h2, by omega, h4, fun i y hy => ?_⟩
            have hi := get_lt hy
            have hx : xs[i]? = some (xs[i]'(by omega)) := List.getElem?_eq_getElem (by omega)
            obtain ⟨u, hu, hcr⟩ := h5 i _ hx
            exact ⟨u, hu, hcv u _ y hcr (z2 i _ y hx hy)⟩
          | same =>
            cases b' with
            | dead => trivial
            | am m' => exact hbr
            | bx cs =>
              obtain ⟨b, o, c, t, fr, h1, h2, h3, h4, h5⟩ := hbr
              refine ⟨b, o, c, t, fr, h1, h2, h3, h4, fun i x hx => ?_⟩
              obtain ⟨u, hu, hcr⟩ := h5 i x hx
              exact ⟨u, hu, hcr.mono hg1 hk1⟩
            | mp ver es => exact hbr
            | mi m' ver es' =>
              obtain ⟨b, o, mb, seen, clock, blk, h1, h2, h3, h4, h5⟩ := hbr
              obtain ⟨b3, y1, y2, _, y4⟩ := hk m' blk h3
              refine ⟨b, o, mb, seen, clock, b3, h1, h2, y1, y2.allows h4, fun all ha => ?_⟩
              obtain ⟨v0, es0, z1, z2, z3⟩ := y2.mp ha
              subst z1
              rcases z3 with z3 | ⟨z3, z4, _⟩
              · simp only [Blk.allows, decide_eq_true_eq] at h4; omega
              · subst z3 z4; exact h5 _ rfl
            | da rl v2 sz2 es2 =>
              cases rl with
              | false => exact hbr
              | true => exact hbr }
  have hext : Ext G1 ι (h.set l .dead) w G1 ι h' w :=
    { size := Nat.le_refl _
      quiet := ⟨rfl, rfl, rfl, Nat.le_refl _⟩
      frame := fun _ _ _ => rfl
      gmono := fun _ h => h
      gnew := fun _ h => .inl h
      onew := fun b ho => .inl ((hown b).1 ho)
      keep := hk1 }
  refine ⟨G1, ι, ⟨hr', st.rel.size, fun i => ?_⟩, (st.ext.trans q2).trans hext, (st.dfr.ext q2).ext hext⟩
  rcases env i with h1 | h1
  · simp only [lk, h1]; exact .c _ _ (.u _)
  · have hvr := st.rel.env i
    simp only [lk] at hvr ⊢
    revert h1
    generalize lkL L' i = y
    intro h1
    generalize lkL L i = x at hvr h1
    generalize a.tmps.getD i undef = u at hvr ⊢
    cases h1 with
    | same => exact (hvr.ext q2 hr).mono hg1 hk1
    | c x y hz =>
      cases hvr with
      | c _ _ hc => exact .c _ _ (hcv _ _ _ hc hz)
    | agg xs ys hz =>
      obtain ⟨z1, z2⟩ := FzCs_get hz
      cases hvr with
      | agg cs _ hn hc =>
        refine .agg _ _ (by omega) fun j u y hu hy => ?_
        have hj := get_lt hy
        have hx : xs[j]? = some (xs[j]'(by omega)) := List.getElem?_eq_getElem (by omega)
        exact hcv u _ y (hc j u _ hu hx) (z2 j _ y hx hy)
    | fn b f xs ys hz =>
      obtain ⟨z1, z2⟩ := FzCs_get hz
      cases hvr with
      | c _ _ hc0 =>
        cases hc0 with
        | fn _ _ _ vs _ hv hn hc =>
          refine .c _ _ (.fn _ b f vs ys hv (by omega) fun j u y hu hy => ?_)
          have hj := get_lt hy
          have hx : xs[j]? = some (xs[j]'(by omega)) := List.getElem?_eq_getElem (by omega)
          exact hcv u _ y (hc j u _ hu hx) (z2 j _ y hx hy)
theorem Wk.fits {m : Nat} {L L' : Lv} {h h' : Hp} {a : Act} {w : World} (hw : Wk m L h L' h') (hm : h0.length ≤ m) : Fits N G0 ι0 h0 w0 (lkL L) h a w → Fits N G0 ι0 h0 w0 (lkL L') h' a w := by
  induction hw with
  | trans _ _ ih1 ih2 => exact fun hf => ih2 (ih1 hf)
  | fz l v sz r es hl env heap => exact Wk.fz_fits l v sz r es hl env heap
  | cut heap least refs env => exact Wk.cut_fits heap least refs env hm
  | same hh env =>
    intro hf
    subst hh
    obtain ⟨G, ι, st⟩ := hf
    refine ⟨G, ι, ⟨st.rel.hr, st.rel.size, fun i => ?_⟩, st.ext, st.dfr⟩
    rcases env i with h1 | h1
    · simp only [lk, h1]; exact .c _ _ (.u _)
    · simp only [lk, h1]; exact st.rel.env i
  | fg i =>
    intro ⟨G, ι, st⟩
    refine ⟨G, ι, ⟨st.rel.hr, st.rel.size, fun k => ?_⟩, st.ext, st.dfr⟩
    simp only [lkL, lk, upd]
    split
    · rename_i e
      subst e
      have := st.rel.env i
      rw [lk, ← lkN_eq] at this
      exact this.fg
    · exact st.rel.env k
  | nilS i sz hi =>
    intro ⟨G, ι, st⟩
    obtain ⟨q1, q2, q3⟩ := new_nil (sz := sz) st.rel.hr
    refine ⟨G, _, ⟨q1, st.rel.size, fun k => ?_⟩, st.ext.trans q3, st.dfr.ext q3⟩
    simp only [lkL, lk, upd]
    split
    · rename_i e
      subst e
      have := st.rel.env i
      rw [lk, ← lkN_eq, hi] at this
      rw [nil_value (inv_d this)]
      exact q2
    · exact (st.rel.env k).ext q3 st.rel.hr
  | nilB l j sz cs hl hj =>
    rename_i L h
    intro ⟨G, ι, st⟩
    obtain ⟨q1, q2, q3⟩ := new_nil (sz := sz) st.rel.hr
    have hl' := get_snoc_old (a := Blk.da false 0 sz []) hl
    obtain ⟨b, o, c, ty, fr, h1, h2, h3, h4, h5⟩ := q1.blk l _ hl'
    have hkept : Kept (ι ++ [(0, 0)]) (ι ++ [(0, 0)]) w w l (.bx cs) (.bx (cs.set j (.arr h.length 0 0 0))) := ⟨by simp, rfl⟩
    have hext := Ext.set_own (G := G) q1 hl' h1 rfl rfl hkept rfl (fun _ _ => rfl)
    have hr := HR.set_own (G := G) q1 hl' h1 rfl rfl hkept rfl (fun _ _ => rfl) ⟨b, o, c, ty, fr, h1, h2, by simpa using h3, h4, fun i x hx => by
      rcases get_set hx with ⟨e1, e2, _⟩ | ⟨_, e1⟩
      · subst e1 e2
        obtain ⟨v, hv, hc⟩ := h5 i _ hj
        refine ⟨v, hv, ?_⟩
        have hd : DR G w v (.list true sz []) := by cases hc; assumption
        rw [nil_value hd]
        exact (inv_c q2).ext hext q1
      · obtain ⟨v, hv, hc⟩ := h5 i x e1
        exact ⟨v, hv, hc.ext hext q1⟩⟩
    exact ⟨G, _, ⟨hr, st.rel.size, fun k => ((st.rel.env k).ext q3 st.rel.hr).ext hext q1⟩, (st.ext.trans q3).trans hext, (st.dfr.ext q3).ext hext⟩
  | rst l v sz sz' r es hl =>
    rename_i L h
    intro ⟨G, ι, st⟩
    have hr := st.rel.hr
    have hkept : Kept ι ι w w l (.da r v sz es) (.da false (v + 1) sz' []) := .inl (by omega)
    have hown : ∀ l2 k b, (h.set l (.da false (v + 1) sz' []))[l2]? = some k → own1 ι l2 k b → h[l2]? = some k := by
      intro l2 k b h1 h2
      rcases get_set h1 with ⟨_, e2, _⟩ | ⟨_, e1⟩
      · subst e2; cases h2.1
      · exact e1
    have how : ∀ b, owned ι (h.set l (.da false (v + 1) sz' [])) b → owned ι h b := fun b ⟨l2, k, h1, h2⟩ => ⟨l2, k, hown l2 k b h1 h2, h2⟩
    have hext : Ext G ι h w G ι (h.set l (.da false (v + 1) sz' [])) w :=
      { size := Nat.le_refl _
        quiet := ⟨rfl, rfl, rfl, Nat.le_refl _⟩
        frame := fun _ _ _ => rfl
        gmono := fun _ h => h
        gnew := fun _ h => .inl h
        onew := fun b ho => .inl (how b ho)
        keep := fun l2 k hk => by
          by_cases e : l2 = l
          · subst e
            rw [hl] at hk; cases hk
            exact ⟨_, List.getElem?_set_self (get_lt hl), hkept⟩
          · exact ⟨k, by rw [List.getElem?_set_ne (fun e2 => e e2.symm)]; exact hk, Kept.refl ι w l2 k⟩ }
    have hr' : HR G ι (h.set l (.da false (v + 1) sz' [])) w :=
      { len := by simp [hr.len]
        own := fun l1 l2 b k1 k2 b1 b2 c1 c2 => hr.own l1 l2 b k1 k2 (hown l1 k1 b b1 c1) (hown l2 k2 b b2 c2) c1 c2
        g := fun b hb => ⟨(hr.g b hb).1, fun ho => (hr.g b hb).2 (how b ho)⟩
        blk := fun l2 k hk => by
          rcases get_set hk with ⟨_, e2, _⟩ | ⟨_, e1⟩
          · subst e2; rfl
          · exact BR.ext hext hr e1 rfl fun _ _ => rfl }
    exact ⟨G, ι, ⟨hr', st.rel.size, fun k => (st.rel.env k).ext hext hr⟩, st.ext.trans hext, st.dfr.ext hext⟩
  | nilK l b j v sz sz' cs hl hb hj =>
    rename_i L h
    intro ⟨G, ι, st⟩
    have hr := st.rel.hr
    obtain ⟨b0, o, c, ty, fr, h1, h2, h3, h4, h5⟩ := hr.blk b _ hb
    have hkept : Kept ι ι w w b (.bx cs) (.bx (cs.set j (.arr l v 0 0))) := ⟨by simp, rfl⟩
    have hext := Ext.set_own (G := G) hr hb h1 rfl rfl hkept rfl (fun _ _ => rfl)
    have hnil : CR G w ι h (.slice none 0 0) (.arr l v 0 0) := .arr _ l v 0 0 _ hl (by simp [Blk.allows]) (fun sz es he => by cases he) fun sz es he => ⟨rfl, rfl, rfl⟩
    have hr' := HR.set_own (G := G) hr hb h1 rfl rfl hkept rfl (fun _ _ => rfl) ⟨b0, o, c, ty, fr, h1, h2, by simpa using h3, h4, fun i x hx => by
      rcases get_set hx with ⟨e1, e2, _⟩ | ⟨_, e1⟩
      · subst e1 e2
        obtain ⟨u, hu, hc⟩ := h5 i _ hj
        refine ⟨u, hu, ?_⟩
        have hd : DR G w u (.list true sz' []) := by cases hc; assumption
        rw [nil_value hd]
        exact hnil.ext hext hr
      · obtain ⟨u, hu, hc⟩ := h5 i x e1
        exact ⟨u, hu, hc.ext hext hr⟩⟩
    exact ⟨G, ι, ⟨hr', st.rel.size, fun k => (st.rel.env k).ext hext hr⟩, st.ext.trans hext, st.dfr.ext hext⟩
def bVals (b : Bool) (xs ys : Array Value) : Array Value := match b with
 | false => xs ++ ys
 | true => ys ++ xs
def bLs (b : Bool) (xs ys : List Value) : List Value := match b with
 | false => xs ++ ys
 | true => ys ++ xs
theorem callv_exec {o : Oper} {x : X} {xs : List X} {a : Act} {w : World} {f : Nat} {b : Bool} {vs : Array Value} (hc : compOp P o = .callv x xs) (hx : ∀ op, cx P 0 op = some x → a.eval op = fnV b f vs) (hlt : Nat.blt f 4294967296 = true) (hf : FnOk P f) :
  ∃ c : Call, (execOp a.eval o).run P w = .ok (.enter f (bVals b (c.args.map a.eval) vs)) w ∧ cxs P c.argTypes.toList c.args.toList = some xs := by
 cases hoo : o.op
 case call c =>
  simp only [compOp, hoo] at hc
  split at hc
  ·exact absurd hc compB_callv
  ·split at hc
   ·split at hc <;> cases hc
   ·cases hc
  ·rename_i t hcal
   split at hc
   ·rename_i l hl
    cases hc
    have hev := hx (.tmp t) rfl
    obtain ⟨fn, h1, h2, h3⟩ := hf.ok
    refine ⟨c, ?_, hl⟩
    cases b
    ·rw [fnV_fn hlt] at hev
     simp only at hev
     simp only [execOp, hoo, resolve, hcal, hev, Deferred.ofValue, Sem.run_bind, Sem.run_pure, Result.andThen_ok, invoke, Array.empty_append]
     exact callFunc_run h1 h2 h3
    ·rw [fnV_fn hlt] at hev
     simp only at hev
     simp only [execOp, hoo, resolve, hcal, hev, Deferred.ofValue, Sem.run_bind, Sem.run_pure, Result.andThen_ok, invoke, Array.append_empty]
     exact callFunc_run h1 h2 h3
   ·cases hc
  ·split at hc <;> cases hc
  ·cases hc
 case makeMap t rs => exfalso; cases rs <;> (simp only [compOp, hoo] at hc; cases hc)
 case makeFunc fn first caps =>
  exfalso
  cases fn
  case func g =>
   simp only [compOp, hoo] at hc
   revert hc
   (repeat' split) <;> intro hc <;> cases hc
  all_goals (simp only [compOp, hoo] at hc; cases hc)
 all_goals
  exfalso
  simp only [compOp, hoo] at hc
  revert hc
  (repeat' split) <;> intro hc <;> cases hc
theorem ivRow_mem {t g : Nat} {k : Option (Option Nat)} : ∀ {rows : List (Nat × Nat × Option (Option Nat))}, ivRow rows t = some (g, k) → (t, g, k) ∈ rows := by
 intro rows
 induction rows with
 | nil => intro h; cases h
 | cons r rs ih =>
  obtain ⟨t', f, k'⟩ := r
  intro h
  simp only [ivRow] at h
  split at h
  ·rename_i he
   cases h
   rw [Nat.eq_of_beq_eq_true he]; simp
  ·exact List.mem_cons_of_mem _ (ih h)
theorem wrap_ptr {w : World} {xt : TypeId} {ad : Addr} {s : String} : (Builtin.ssaWrapNilChk_ #[xt] xt #[.pointer (some ad), strVal "", strVal s]).run P w = .ok (.pointer (some ad)) w := rfl
theorem ivk_exec {N : Nat} {G : Nat → Prop} {ι : Io} {e : Env} {h : Hp} {o : Oper} {rows : List (Nat × Nat × Option (Option Nat))} {x : X} {xs : List X} {a : Act} {w : World} {b : Bool} {t g : Nat} {caps : List CV} {k : Option (Option Nat)} {pv rv : AV}
  (hc : compOp P o = .ivk rows x xs) (r : Rel N G ι e h a w) (hx : ev e x = .c (.fn b (4294967296 + t) caps)) (hr : ivRow rows t = some (g, k)) (hp : payA b caps = some pv) (hv : rcvA h pv k = some rv) :
  ∃ (c : Call) (recv : Value), (execOp a.eval o).run P w = .ok (.enter g (#[recv] ++ c.args.map a.eval)) w ∧ cxs P c.argTypes.toList c.args.toList = some xs ∧ VR G w ι h recv rv := by
 cases hoo : o.op
 case call c =>
  simp only [compOp, hoo] at hc
  split at hc
  ·exact absurd hc compB_ivk
  ·split at hc
   ·split at hc <;> cases hc
   ·cases hc
  ·split at hc <;> cases hc
  ·rename_i xo name hcal
   split at hc
   ·rename_i x' l hx' hl
    cases hc
    have hvx := cx_sound hx' r
    rw [hx] at hvx
    obtain ⟨vs, ex, hn, hcr⟩ := inv_fn hvx
    obtain ⟨v, e1, e2⟩ := pay_sound (t := t) hn hcr hp
    rw [e1] at ex
    have hm := ivRow_mem hr
    simp only [ivRows, List.mem_filterMap, List.mem_range] at hm
    obtain ⟨t', ht', hrow⟩ := hm
    have hfuel : ∃ n, P.types.size + Made.depth = n + 1 := ⟨P.types.size + Made.depth - 1, by omega⟩
    obtain ⟨n, hn'⟩ := hfuel
    unfold ivRow1 at hrow
    split at hrow
    rotate_left
    ·cases hrow
    rename_i ti hti
    split at hrow
    rotate_left
    ·cases hrow
    rename_i m hm
    split at hrow
    rotate_left
    ·cases hrow
    rename_i f pr hpath hfunc
    split at hrow
    rotate_left
    ·cases hrow
    rename_i fn hfn
    split at hrow
    rotate_left
    ·cases hrow
    rename_i hok
    simp only [Bool.and_eq_true, bne_iff_ne, ne_eq] at hok
    obtain ⟨⟨o1, o2⟩, _⟩ := hok
    -- the method is found, its receiver got
    have fin : ∀ recv, t' = t → f = g → (receiverAt t (.val v) pr (some ((name.splitOn ".").getLastD name))).run P w = .ok recv w → VR G w ι h recv rv → ∃ (c : Call) (recv : Value), (execOp a.eval o).run P w = .ok (.enter g (#[recv] ++ c.args.map a.eval)) w ∧ cxs P c.argTypes.toList c.args.toList = some xs ∧ VR G w ι h recv rv := by
     rintro recv rfl rfl hrun hvr
     refine ⟨c, recv, ?_, hl, hvr⟩
     have hmeth : (method (P.types.size + Made.depth) t' v name).run P w = .ok (f, recv) w := by
      rw [hn']
      have hpe : m.path.isEmpty = true := by
       rw [Array.isEmpty_iff]; apply Array.ext'; simpa using hpath
      simp only [method, Sem.run_bind, r_info hti, Result.andThen_ok, hm, hpath, follow, Sem.run_pure, hfunc, hpe, if_true, hrun]
     have hcall : (callFunc f (#[recv] ++ c.args.map a.eval)).run P w = .ok (.enter f (#[recv] ++ c.args.map a.eval)) w := callFunc_run hfn o1 o2
     have hcm : (callMethod (.iface t' v) name (c.args.map a.eval)).run P w = .ok (.enter f (#[recv] ++ c.args.map a.eval)) w := by
      simp only [callMethod, Sem.run_bind, run_program, Result.andThen_ok, hmeth, hcall]
     simp only [execOp, hoo, resolve, hcal, ex, Sem.run_bind, Sem.run_pure, Result.andThen_ok, invoke]
     have h0 : (#[Value.iface t' v] ++ c.args.map a.eval)[0]? = some (.iface t' v) := by rw [Array.getElem?_append_left (by simp)]; rfl
     have h1 : (#[Value.iface t' v] ++ c.args.map a.eval).extract 1 (#[Value.iface t' v] ++ c.args.map a.eval).size = c.args.map a.eval := by
      apply Array.ext'; simp; exact List.take_of_length_le (by simp)
     simp only [h0, h1]
     exact hcm
    have deref : ∀ (el : TypeId) (kk : Option Nat), P.underlying t' = some (.pointer el) → pr = false → ldk P el = some kk → t' = t → f = g → k = some kk → ∃ (c : Call) (recv : Value), (execOp a.eval o).run P w = .ok (.enter g (#[recv] ++ c.args.map a.eval)) w ∧ cxs P c.argTypes.toList c.args.toList = some xs ∧ VR G w ι h recv rv := by
     rintro el kk hu rfl hk rfl rfl rfl
     have key : ∀ recv, (∃ ad, v = .pointer (some ad) ∧ (loadVar el ad).run P w = .ok recv w) → VR G w ι h recv rv → ∃ (c : Call) (recv : Value), (execOp a.eval o).run P w = .ok (.enter f (#[recv] ++ c.args.map a.eval)) w ∧ cxs P c.argTypes.toList c.args.toList = some xs ∧ VR G w ι h recv rv := by
      rintro recv ⟨ad, rfl, hld⟩ hvr
      refine fin recv rfl rfl ?_ hvr
      simp only [receiverAt, Sem.run_bind, r_und hu, Result.andThen_ok, Place.get, Sem.run_pure]
      rw [wrap_ptr]
      simp only [Result.andThen_ok, asAddr, Sem.run_pure, hld]
     cases kk with
     | none =>
      simp only [rcvA] at hv
      split at hv
      ·rename_i cc cs hrd
       cases hv
       obtain ⟨bb, oo, rfl, _⟩ := rd_sound r.hr e2 hrd
       obtain ⟨y, k1, k2⟩ := s_ld1 (P := P) r.hr e2 hk hrd
       refine key y ⟨_, rfl, ?_⟩ k2
       simpa [Instr.loadAt, Instr.sureAddr] using k1
      ·cases hv
     | some nn =>
      simp only [rcvA] at hv
      split at hv
      ·rename_i cs hrd
       split at hv
       ·rename_i hle
        cases hv
        obtain ⟨bb, oo, rfl, _⟩ := rd_sound r.hr e2 hrd
        obtain ⟨y, k1, k2⟩ := s_ldn (P := P) r.hr e2 hk hrd hle
        refine key y ⟨_, rfl, ?_⟩ k2
        simpa [Instr.loadAt, Instr.sureAddr] using k1
       ·cases hv
      ·cases hv
    split at hrow
    ·cases hrow
    ·rename_i el hu
     split at hrow
     ·cases hrow
      simp only [rcvA, Option.some.injEq] at hv
      subst hv
      refine fin v rfl rfl ?_ e2
      simp only [receiverAt, Sem.run_bind, r_und hu, Result.andThen_ok, Place.get, Sem.run_pure]
     ·split at hrow
      ·rename_i kk hk
       cases hrow
       exact deref el kk hu rfl hk rfl rfl rfl
      ·cases hrow
    ·rename_i d hni hnp hu
     split at hrow
     ·cases hrow
     ·cases hrow
      simp only [rcvA, Option.some.injEq] at hv
      subst hv
      refine fin v rfl rfl ?_ e2
      simp only [receiverAt, Sem.run_bind, r_und hu, Result.andThen_ok]
      cases d <;> first | exact absurd rfl (hnp _) | rfl
    ·cases hrow
   ·cases hc
  ·cases hc
 case makeMap t rs => exfalso; cases rs <;> (simp only [compOp, hoo] at hc; cases hc)
 case makeFunc fn first caps =>
  exfalso
  cases fn
  case func g =>
   simp only [compOp, hoo] at hc
   revert hc
   (repeat' split) <;> intro hc <;> cases hc
  all_goals (simp only [compOp, hoo] at hc; cases hc)
 all_goals
  exfalso
  simp only [compOp, hoo] at hc
  revert hc
  (repeat' split) <;> intro hc <;> cases hc
theorem callv_slot {o : Oper} {x : X} {xs : List X} (hc : compOp P o = .callv x xs) : ∃ t, x = .t t := by
 cases hoo : o.op
 case call c =>
  simp only [compOp, hoo] at hc
  split at hc
  ·exact absurd hc compB_callv
  ·split at hc
   ·split at hc <;> cases hc
   ·cases hc
  ·split at hc
   ·cases hc; exact ⟨_, rfl⟩
   ·cases hc
  ·split at hc <;> cases hc
  ·cases hc
 case makeMap t rs => exfalso; cases rs <;> (simp only [compOp, hoo] at hc; cases hc)
 case makeFunc fn first caps =>
  exfalso
  cases fn
  case func g =>
   simp only [compOp, hoo] at hc
   revert hc
   (repeat' split) <;> intro hc <;> cases hc
  all_goals (simp only [compOp, hoo] at hc; cases hc)
 all_goals
  exfalso
  simp only [compOp, hoo] at hc
  revert hc
  (repeat' split) <;> intro hc <;> cases hc
theorem isnil_exec {o : Oper} {ne : Bool} {x : X} {G : Nat → Prop} {ι : Io} {e : Env} {h : Hp} {a : Act} {w : World} {nl : Bool} {sz : Nat} {l : List (List D)} (hc : compOp P o = .isnil 0 ne x) (r : Rel N G ι e h a w)
  (hx : ev e x = .c (.d (.list nl sz l))) : ∃ b : Bool, (b = true → l = []) ∧ OpRes G ι h w (.c (.d (.bool (if ne then !b else b)))) h ((execOp a.eval o).run P w) := by
 have key : ∀ op xt (x0 y0 : Operand) yt x', o.op = .binOp op xt x0 y0 yt → cx P xt x0 = some x' → (op = .eql ∨ op = .neq) → lnil y0 = true → (∃ el, P.underlying xt = some (.slice el)) → x' = x → (op == .neq) = ne →
   ∃ b : Bool, (b = true → l = []) ∧ OpRes G ι h w (.c (.d (.bool (if ne then !b else b)))) h ((execOp a.eval o).run P w) := by
  intro op xt x0 y0 yt x' hop hcx hopk hl hu he hne
  subst he hne
  have r1 := cx_sound hcx r
  rw [hx] at r1
  obtain ⟨ad, n, c, e1, e2⟩ := nil_either r1
  exact ⟨ad.isNone, e2, b_nil_at r hop x' 0 ad.isNone hcx hopk (.inl ⟨rfl, hl, hu⟩) (fun _ => ⟨ad, n, c, e1, rfl⟩) (fun h => by cases h) (fun h => by cases h)⟩
 cases hoo : o.op
 case binOp op xt x0 y0 yt =>
  simp only [compOp, hoo] at hc
  split at hc
  ·rename_i x' y' hx' hy'
   split at hc
   all_goals
    (repeat' split at hc) <;> first | (cases hc; done) | skip
    all_goals
     simp only [AOp.isnil.injEq] at hc
     obtain ⟨hk, hne, hxx⟩ := hc
     first | (cases hk; done) | skip
     rename_i hu hl
     exact key _ _ _ _ _ _ hoo hx' (by simp) hl ⟨_, hu⟩ hxx hne
  ·cases hc
 case call c =>
  exfalso
  simp only [compOp, hoo] at hc
  split at hc
  ·exact absurd hc compB_isnil
  ·split at hc
   ·split at hc <;> cases hc
   ·cases hc
  ·split at hc <;> cases hc
  ·split at hc <;> cases hc
  ·cases hc
 case makeMap t rs => exfalso; cases rs <;> (simp only [compOp, hoo] at hc; cases hc)
 case makeFunc fn first caps =>
  exfalso
  cases fn
  case func g =>
   simp only [compOp, hoo] at hc
   revert hc
   (repeat' split) <;> intro hc <;> cases hc
  all_goals (simp only [compOp, hoo] at hc; cases hc)
 all_goals
  exfalso
  simp only [compOp, hoo] at hc
  revert hc
  (repeat' split) <;> intro hc <;> cases hc
theorem len_slot {o : Oper} {x : X} {G : Nat → Prop} {ι : Io} {e : Env} {h : Hp} {a : Act} {w : World} (hc : compOp P o = .len x) (r : Rel N G ι e h a w) : ∃ v, VR G w ι h v (ev e x) := by
 have key : ∀ t y, cx P t y = some x → ∃ v, VR G w ι h v (ev e x) := fun t y hy => ⟨_, cx_sound hy r⟩
 cases hoo : o.op
 case call c =>
  simp only [compOp, hoo] at hc
  split at hc
  ·unfold compB at hc
   (repeat' split at hc) <;> first | (cases hc; done) | skip
   cases hc
   exact key _ _ (by assumption)
  ·split at hc
   ·split at hc <;> cases hc
   ·cases hc
  ·split at hc <;> cases hc
  ·split at hc <;> cases hc
  ·cases hc
 case makeMap t rs => exfalso; cases rs <;> (simp only [compOp, hoo] at hc; cases hc)
 case makeFunc fn first caps =>
  exfalso
  cases fn
  case func g =>
   simp only [compOp, hoo] at hc
   revert hc
   (repeat' split) <;> intro hc <;> cases hc
  all_goals (simp only [compOp, hoo] at hc; cases hc)
 all_goals
  exfalso
  simp only [compOp, hoo] at hc
  revert hc
  (repeat' split) <;> intro hc <;> cases hc
theorem len_bound {o : Oper} {x : X} {G : Nat → Prop} {ι : Io} {e : Env} {h : Hp} {a : Act} {w : World} {sz : Nat} {l : List (List D)} (hc : compOp P o = .len x) (r : Rel N G ι e h a w)
  (hx : view h (ev e x) = some (sz, l)) : l.length ≤ 9223372036854775807 := by
 have key : ∀ t y, cx P t y = some x → l.length ≤ 9223372036854775807 := fun t y hy => by
  obtain ⟨_, _, _, _, hm⟩ := view_len r.hr (cx_sound hy r) hx
  exact hm
 cases hoo : o.op
 case call c =>
  simp only [compOp, hoo] at hc
  split at hc
  ·unfold compB at hc
   (repeat' split at hc) <;> first | (cases hc; done) | skip
   cases hc
   exact key _ _ (by assumption)
  ·split at hc
   ·split at hc <;> cases hc
   ·cases hc
  ·split at hc <;> cases hc
  ·split at hc <;> cases hc
  ·cases hc
 case makeMap t rs => exfalso; cases rs <;> (simp only [compOp, hoo] at hc; cases hc)
 case makeFunc fn first caps =>
  exfalso
  cases fn
  case func g =>
   simp only [compOp, hoo] at hc
   revert hc
   (repeat' split) <;> intro hc <;> cases hc
  all_goals (simp only [compOp, hoo] at hc; cases hc)
 all_goals
  exfalso
  simp only [compOp, hoo] at hc
  revert hc
  (repeat' split) <;> intro hc <;> cases hc
theorem fn_enter {o : Oper} {f : Nat} {fn : Func} {vs : List Value} {args : List AV} {h : Hp} {K : AV → Hp → Prop} {G : Nat → Prop} {ι : Io} {e : Env} {a : Act} {w : World} {K' : Act → World → Prop} {Q : Exit → Act → World → Prop}
  (st : St N G0 ι0 h0 w0 G ι e h a w) (hnd : ∀ c, o.op ≠ .defer c) (hfn : P.funcs[f]? = some fn) (hd : ∀ d, o.dst = some d → d < N) (hf : FnS P f args h K) (hv : VRs G w ι h vs args) (hrun : (execOp a.eval o).run P w = .ok (.enter f vs.toArray) w)
  (hK : ∀ v h' a' w', K v h' → Fits N G0 ι0 h0 w0 (putE e o.dst v) h' a' w' → K' a' w') : o.wpIn (Fen ro) 0 P a w K' Q := by
 refine oW_enter hnd hrun ((hf.out G ι w vs st.rel.hr hv).calls hfn) fun en w' ⟨v, r, G', ι', h', k0, k1, k2, k3, k4⟩ => ?_
 exact ⟨v, k0, hK r h' _ _ k1 ⟨G', ι', st.step hd k2 k3 k4⟩⟩
theorem fn_round {o : Oper} {l : Nat} {vs : List Value} {args : List AV} {h : Hp} {K : AV → Hp → Prop} {G : Nat → Prop} {ι : Io} {e : Env} {a : Act} {w : World} {K' : Act → World → Prop} {Q : Exit → Act → World → Prop}
  (st : St N G0 ι0 h0 w0 G ι e h a w) (hnd : ∀ c, o.op ≠ .defer c) (hn : NoFn P l) (hd : ∀ d, o.dst = some d → d < N) (hf : FnS P (8589934592 + l) args h K) (hv : VRs G w ι h vs args) (hrun : (execOp a.eval o).run P w = (Instr.yield l vs.toArray).run P w)
  (hK : ∀ v h' a' w', K v h' → Fits N G0 ι0 h0 w0 (putE e o.dst v) h' a' w' → K' a' w') : o.wpIn (Fen ro) 0 P a w K' Q := by
 obtain ⟨fn, tmps, asn, body, hy, hR⟩ := (hf.out G ι w vs st.rel.hr hv).yl hn
 refine oW_round hnd (hrun.trans hy) hR fun en w' ⟨v, r, G', ι', h', k0, k1, k2, k3, k4⟩ => ?_
 exact ⟨v, k0, hK r h' _ _ k1 ⟨G', ι', st.step hd k2 k3 k4⟩⟩
theorem yl_exec {o : Oper} {x : X} {xs : List X} {a : Act} {w : World} {l : Nat} (hc : compOp P o = .callv x xs) (hx : ∀ op, cx P 0 op = some x → a.eval op = .func (.yield l) #[] #[]) :
  ∃ c : Call, (execOp a.eval o).run P w = (Instr.yield l (c.args.map a.eval)).run P w ∧ cxs P c.argTypes.toList c.args.toList = some xs := by
 cases hoo : o.op
 case call c =>
  simp only [compOp, hoo] at hc
  split at hc
  ·exact absurd hc compB_callv
  ·split at hc
   ·split at hc <;> cases hc
   ·cases hc
  ·rename_i t hcal
   split at hc
   ·rename_i l' hl
    cases hc
    have hev := hx (.tmp t) rfl
    refine ⟨c, ?_, hl⟩
    simp only [execOp, hoo, resolve, hcal, hev, Deferred.ofValue, Sem.run_bind, Sem.run_pure, Result.andThen_ok, invoke, Array.empty_append]
   ·cases hc
  ·split at hc <;> cases hc
  ·cases hc
 case makeMap t rs => exfalso; cases rs <;> (simp only [compOp, hoo] at hc; cases hc)
 case makeFunc fn first caps =>
  exfalso
  cases fn
  case func g =>
   simp only [compOp, hoo] at hc
   revert hc
   (repeat' split) <;> intro hc <;> cases hc
  all_goals (simp only [compOp, hoo] at hc; cases hc)
 all_goals
  exfalso
  simp only [compOp, hoo] at hc
  revert hc
  (repeat' split) <;> intro hc <;> cases hc
theorem ivk_fn {o : Oper} {rows : List (Nat × Nat × Option (Option Nat))} {x : X} {xs : List X} {t g : Nat} {k : Option (Option Nat)} (hc : compOp P o = .ivk rows x xs) (hr : ivRow rows t = some (g, k)) : ∃ fn, P.funcs[g]? = some fn := by
 cases hoo : o.op
 case call c =>
  simp only [compOp, hoo] at hc
  split at hc
  ·exact absurd hc compB_ivk
  ·split at hc
   ·split at hc <;> cases hc
   ·cases hc
  ·split at hc <;> cases hc
  ·rename_i xo name hcal
   split at hc
   ·rename_i x' l hx' hl
    cases hc
    have hm := ivRow_mem hr
    simp only [ivRows, List.mem_filterMap, List.mem_range] at hm
    obtain ⟨t', ht', hrow⟩ := hm
    unfold ivRow1 at hrow
    split at hrow
    rotate_left
    ·cases hrow
    split at hrow
    rotate_left
    ·cases hrow
    split at hrow
    rotate_left
    ·cases hrow
    split at hrow
    rotate_left
    ·cases hrow
    rename_i fn hfn
    have fin : ∀ {f : Nat}, P.funcs[f]? = some fn → f = g → ∃ fn, P.funcs[g]? = some fn := fun h e => ⟨fn, e ▸ h⟩
    revert hrow
    (repeat' split) <;> intro hrow <;> first | (cases hrow; exact ⟨_, hfn⟩) | cases hrow
   ·cases hc
  ·cases hc
 case makeMap t rs => exfalso; cases rs <;> (simp only [compOp, hoo] at hc; cases hc)
 case makeFunc fn first caps =>
  exfalso
  cases fn
  case func g =>
   simp only [compOp, hoo] at hc
   revert hc
   (repeat' split) <;> intro hc <;> cases hc
  all_goals (simp only [compOp, hoo] at hc; cases hc)
 all_goals
  exfalso
  simp only [compOp, hoo] at hc
  revert hc
  (repeat' split) <;> intro hc <;> cases hc
theorem callS_sound {o : Oper} {c : Call} {f : Nat} {xs : List X} {m : Nat} (hm : h0.length ≤ m) (hoo : o.op = .call c) (ho : compOp P o = .call f xs) (hdN : ∀ d, o.dst = some d → d < N) {d : Bool} {L : Lv} {h : Hp} {K : Lv → AV → Hp → Prop}
  (hc : CallS P m d L h f xs K) : ∀ {a : Act} {w : World} {K' : Act → World → Prop} {Q : Exit → Act → World → Prop}, Fits N G0 ι0 h0 w0 (lkL L) h a w →
  (∀ L v h' a' w', K L v h' → Fits N G0 ι0 h0 w0 (putE (lkL L) o.dst v) h' a' w' → K' a' w') → o.wpIn (Fen ro) 0 P a w K' Q := by
 induction hc with
 | pure hp k =>
  intro a w K' Q hf hK
  obtain ⟨G, ι, st⟩ := hf
  obtain ⟨q1, q2⟩ := call_exec (a := a) (w := w) hoo ho
  have hargs : c.args.map a.eval = (c.args.toList.map a.eval).toArray := by apply Array.ext'; simp
  rw [hargs] at q1
  rw [evsN_eq] at hp
  exact fn_enter st (fun c' hc' => by rw [hoo] at hc'; cases hc') (compOp_fn hoo ho).choose_spec hdN hp.fn (args_sound st.rel q2) q1 (fun v h' a' w' hk hf => by obtain ⟨rfl, rfl⟩ := hk; exact hK _ _ _ _ _ k hf)
 | ro _ hp k =>
  intro a w K' Q hf hK
  obtain ⟨G, ι, st⟩ := hf
  obtain ⟨q1, q2⟩ := call_exec (a := a) (w := w) hoo ho
  have hargs : c.args.map a.eval = (c.args.toList.map a.eval).toArray := by apply Array.ext'; simp
  rw [hargs] at q1
  rw [evsN_eq] at hp
  exact fn_enter st (fun c' hc' => by rw [hoo] at hc'; cases hc') (compOp_fn hoo ho).choose_spec hdN hp.fn (args_sound st.rel q2) q1 (fun v h' a' w' hk hf => by obtain ⟨rfl, rfl⟩ := hk; exact hK _ _ _ _ _ k hf)
 | fn hfn =>
  intro a w K' Q hf hK
  obtain ⟨G, ι, st⟩ := hf
  obtain ⟨q1, q2⟩ := call_exec (a := a) (w := w) hoo ho
  have hargs : c.args.map a.eval = (c.args.toList.map a.eval).toArray := by apply Array.ext'; simp
  rw [hargs] at q1
  rw [evsN_eq] at hfn
  exact fn_enter st (fun c' hc' => by rw [hoo] at hc'; cases hc') (compOp_fn hoo ho).choose_spec hdN hfn (args_sound st.rel q2) q1 fun v h' a' w' hk hf => hK _ _ _ _ _ hk hf
 | wk hw _ ih =>
  intro a w K' Q hf hK
  exact ih ho (hw.fits hm hf) hK
theorem did_sound {ops : Array Oper} {o : Oper} {ao : AO} {m : Nat} (hm : h0.length ≤ m) {L : Lv} {h : Hp} {a : Act} {w : World} {K : Lv → AV → Hp → Prop} {K' : Act → World → Prop} {Q : Exit → Act → World → Prop}
  (hc : compO P ops N o = some ao) (hs : Did P m false ao.op L h K) (hf : Fits N G0 ι0 h0 w0 (lkL L) h a w)
  (hK : ∀ L v h' a' w', K L v h' → Fits N G0 ι0 h0 w0 (putE (lkL L) ao.dst v) h' a' w' → K' a' w') : o.wpIn (Fen ro) 0 P a w K' Q := by
 obtain ⟨hd, hdN, hop, hg⟩ := compO_dst hc
 rw [hd] at hK
 induction hs with
 | wk _ hw _ ih => exact ih (hw.fits hm hf) hK
 | @step L h K v h' hs _ hk =>
  have hf0 := hf
  obtain ⟨G, ι, st⟩ := hf
  rw [hop] at hs
  obtain ⟨v', w', G', ι', hrun, k1, k2, k3⟩ := op_sound st.rel hs
  rcases hrun with hrun | ⟨hrun, rfl⟩
  ·exact oW_value (nd_step hs) hrun (hK _ _ _ _ _ hk ⟨G', ι', st.step hdN k1 k2 k3⟩)
  ·exact oW_skip (nd_step hs) hrun (hK _ _ _ _ _ hk ⟨G', ι', st.step hdN k1 k2 k3⟩)
 | @call L h K f xs ho hc' =>
  have hf0 := hf
  obtain ⟨G, ι, st⟩ := hf
  rw [hop] at ho
  obtain ⟨c, hoo⟩ := compOp_call ho
  exact callS_sound hm hoo ho hdN hc' hf0 hK
 | @len L h K x sz l ho _ hx hk =>
  have hf0 := hf
  obtain ⟨G, ι, st⟩ := hf
  have hb := len_bound (by rw [← hop]; exact ho) st.rel hx
  have hs : astep (lkL L) h ao.op = some (.c (.d (.int .i64 l.length)), h) := by rw [ho]; simp only [astep, lenv_view hx]
  rw [hop] at hs
  obtain ⟨v', w', G', ι', hrun, k1, k2, k3⟩ := op_sound st.rel hs
  rcases hrun with hrun | ⟨hrun, rfl⟩
  ·exact oW_value (nd_step hs) hrun (hK _ _ _ _ _ (hk hb) ⟨G', ι', st.step hdN k1 k2 k3⟩)
  ·exact oW_skip (nd_step hs) hrun (hK _ _ _ _ _ (hk hb) ⟨G', ι', st.step hdN k1 k2 k3⟩)
 | @lenA L h K x l v i n ho _ hx hsol hk =>
  have hf0 := hf
  obtain ⟨G, ι, st⟩ := hf
  obtain ⟨vv, hvv⟩ := len_slot (by rw [← hop]; exact ho) st.rel
  obtain ⟨sz, ls, hview, hlen⟩ : ∃ sz ls, view h (ev (lkL L) x) = some (sz, ls) ∧ ls.length = n := by
   rw [hx] at hvv ⊢
   cases inv_c hvv with
   | arr _ _ _ _ _ blk hb ha hk1 hk0 =>
    simp only [solid, hb] at hsol
    cases blk <;> simp at hsol
    rename_i rl v' sz es
    subst hsol
    refine ⟨sz, (es.drop i).take n, by simp [view, hb], ?_⟩
    cases rl with
    | false => obtain ⟨_, hn, _⟩ := hk0 sz es rfl; subst hn; simp
    | true => obtain ⟨b, o', cap, h1, h2, _⟩ := hk1 sz es rfl; simp; omega
  have hb := len_bound (by rw [← hop]; exact ho) st.rel hview
  have hs : astep (lkL L) h ao.op = some (.c (.d (.int .i64 n)), h) := by rw [ho]; simp only [astep, lenv_view hview, hlen]
  rw [hop] at hs
  obtain ⟨v', w', G', ι', hrun, k1, k2, k3⟩ := op_sound st.rel hs
  rcases hrun with hrun | ⟨hrun, rfl⟩
  ·exact oW_value (nd_step hs) hrun (hK _ _ _ _ _ (hk (by omega)) ⟨G', ι', st.step hdN k1 k2 k3⟩)
  ·exact oW_skip (nd_step hs) hrun (hK _ _ _ _ _ (hk (by omega)) ⟨G', ι', st.step hdN k1 k2 k3⟩)
 | @nil L h K ne x nl sz l ho _ hx hk =>
  have hf0 := hf
  obtain ⟨G, ι, st⟩ := hf
  rw [hop] at ho
  obtain ⟨b, hb, v', w', G', ι', hrun, k1, k2, k3⟩ := isnil_exec ho st.rel hx
  rcases hrun with hrun | ⟨hrun, rfl⟩
  ·exact oW_value (nd_of (by rw [ho]; intro h; cases h)) hrun (hK _ _ _ _ _ (hk b hb) ⟨G', ι', st.step hdN k1 k2 k3⟩)
  ·exact oW_skip (nd_of (by rw [ho]; intro h; cases h)) hrun (hK _ _ _ _ _ (hk b hb) ⟨G', ι', st.step hdN k1 k2 k3⟩)
 | @ar L h K K0 _ ha hk =>
  have hf0 := hf
  obtain ⟨G, ι, st⟩ := hf
  rw [hop] at ha
  obtain ⟨av, h', ⟨v', w', G', ι', hrun, k1, k2, k3⟩, k0⟩ := ar_sound st.rel ha
  have hnd : ∀ c, o.op ≠ .defer c := nd_of fun hb => by rw [hb] at ha; exact ha.elim
  rcases hrun with hrun | ⟨hrun, rfl⟩
  ·exact oW_value hnd hrun (hK _ _ _ _ _ (hk _ _ k0) ⟨G', ι', st.step hdN k1 k2 k3⟩)
  ·exact oW_skip hnd hrun (hK _ _ _ _ _ (hk _ _ k0) ⟨G', ι', st.step hdN k1 k2 k3⟩)
 | @callv L h K x xs b f caps ho _ hx hlt hfn hc' =>
  have hf0 := hf
  obtain ⟨G, ι, st⟩ := hf
  rw [hop] at ho
  obtain ⟨t, rfl⟩ := callv_slot ho
  have hvx := st.rel.env t
  have hx' : lk (lkL L) t = .c (.fn b f caps) := hx
  rw [hx'] at hvx
  obtain ⟨vs, hvs, hn, hcr⟩ : ∃ vs : Array Value, a.tmps.getD t undef = fnV b f vs ∧ vs.size = caps.length ∧ ∀ (i : Nat) (v : Value) (c : CV), vs[i]? = some v → caps[i]? = some c → CR G w ι h v c := by
   revert hvx
   generalize a.tmps.getD t undef = v
   intro hvx
   cases inv_c hvx with
   | fn _ _ _ vs _ hv hn hc => exact ⟨vs, hv, hn, hc⟩
  obtain ⟨c, q1, q2⟩ := callv_exec (a := a) (w := w) (vs := vs) ho (fun op hop' => by
   cases op with
   | tmp t' => simp only [cx, Option.some.injEq, X.t.injEq] at hop'; subst hop'; exact hvs
   | const v => simp [cx] at hop'
   | global g => simp [cx] at hop'
   | func g => simp only [cx] at hop'; split at hop' <;> simp at hop') hlt hfn
  obtain ⟨t1, t2⟩ := args_sound st.rel q2
  have hargs : bVals b (c.args.map a.eval) vs = (bLs b (c.args.toList.map a.eval) vs.toList).toArray := by apply Array.ext'; cases b <;> simp [bVals, bLs]
  rw [hargs] at q1
  have hv : VRs G w ι h (bLs b (c.args.toList.map a.eval) vs.toList) (bArgs b (evsN L xs) (caps.map .c)) := by
   rw [evsN_eq]
   cases b with
   | true =>
    refine ⟨by simp only [bArgs, bLs, List.length_append, t1, Array.length_toList, hn, List.length_map], fun i v x hv hx => ?_⟩
    simp only [bArgs, bLs] at hv hx
    rcases Nat.lt_or_ge i vs.toList.length with hi | hi
    ·rw [List.getElem?_append_left hi] at hv
     rw [List.getElem?_append_left (by rw [List.length_map]; rw [Array.length_toList] at hi; omega)] at hx
     simp only [List.getElem?_map, Option.map_eq_some_iff] at hx
     obtain ⟨y, hy, rfl⟩ := hx
     exact .c _ _ (hcr _ v y (by simpa using hv) hy)
    ·rw [List.getElem?_append_right hi] at hv
     rw [List.getElem?_append_right (by rw [List.length_map]; rw [Array.length_toList] at hi; omega)] at hx
     rw [List.length_map, ← hn, ← Array.length_toList] at hx
     exact t2 _ v x hv hx
   | false =>
   simp only [bArgs, bLs]
   refine ⟨by simp only [List.length_append, t1, Array.length_toList, hn, List.length_map], fun i v x hv hx => ?_⟩
   rcases Nat.lt_or_ge i (c.args.toList.map a.eval).length with hi | hi
   ·rw [List.getElem?_append_left hi] at hv
    rw [List.getElem?_append_left (by omega)] at hx
    exact t2 i v x hv hx
   ·rw [List.getElem?_append_right hi] at hv
    rw [List.getElem?_append_right (by omega)] at hx
    simp only [List.getElem?_map, Option.map_eq_some_iff] at hx
    obtain ⟨y, hy, rfl⟩ := hx
    rw [← t1] at hy
    exact .c _ _ (hcr _ v y (by simpa using hv) hy)
  have hnd : ∀ c, o.op ≠ .defer c := nd_of (by rw [ho]; intro h; cases h)
  obtain ⟨fn, hfn1, _⟩ := hfn.ok
  cases hc' with
  | pure hp k => exact fn_enter st hnd hfn1 hdN hp.fn hv q1 (fun v h' a' w' hk hf => by obtain ⟨rfl, rfl⟩ := hk; exact hK _ _ _ _ _ k hf)
  | fn hf => exact fn_enter st hnd hfn1 hdN hf hv q1 fun v h' a' w' hk hf => hK _ _ _ _ _ hk hf
 | @yl L h K x xs l ho _ hx hn hc' =>
  have hf0 := hf
  obtain ⟨G, ι, st⟩ := hf
  rw [hop] at ho
  obtain ⟨t, rfl⟩ := callv_slot ho
  have hvx := st.rel.env t
  have hx' : lk (lkL L) t = .c (.d (.yl l)) := hx
  rw [hx'] at hvx
  have hvs : a.tmps.getD t undef = .func (.yield l) #[] #[] := by
   revert hvx
   generalize a.tmps.getD t undef = v
   intro hvx
   have := inv_d hvx
   cases this; rfl
  obtain ⟨c, q1, q2⟩ := yl_exec (a := a) (w := w) (l := l) ho (fun op hop' => by
   cases op with
   | tmp t' => simp only [cx, Option.some.injEq, X.t.injEq] at hop'; subst hop'; exact hvs
   | const v => simp [cx] at hop'
   | global g => simp [cx] at hop'
   | func g => simp only [cx] at hop'; split at hop' <;> simp at hop')
  have hargs : c.args.map a.eval = (c.args.toList.map a.eval).toArray := by apply Array.ext'; simp
  rw [hargs] at q1
  have hv := args_sound st.rel q2
  rw [← evsN_eq] at hv
  have hnd : ∀ c, o.op ≠ .defer c := nd_of (by rw [ho]; intro h; cases h)
  cases hc' with
  | pure hp k => exact fn_round st hnd hn hdN hp.fn hv q1 (fun v h' a' w' hk hf => by obtain ⟨rfl, rfl⟩ := hk; exact hK _ _ _ _ _ k hf)
  | fn hf => exact fn_round st hnd hn hdN hf hv q1 fun v h' a' w' hk hf => hK _ _ _ _ _ hk hf
 | @ivk L h K rows x xs b t caps g k pv rv ho _ hx hr hp hrv hc' =>
  have hf0 := hf
  obtain ⟨G, ι, st⟩ := hf
  rw [hop] at ho
  obtain ⟨c, recv, q1, q2, q3⟩ := ivk_exec ho st.rel hx hr hp hrv
  obtain ⟨t1, t2⟩ := args_sound st.rel q2
  have hargs : #[recv] ++ c.args.map a.eval = (recv :: c.args.toList.map a.eval).toArray := by apply Array.ext'; simp
  rw [hargs] at q1
  have hv : VRs G w ι h (recv :: c.args.toList.map a.eval) (rv :: evsN L xs) := by
   rw [evsN_eq]
   refine ⟨by simp only [List.length_cons, t1], fun i v x hv hx => ?_⟩
   cases i with
   | zero => simp at hv hx; subst hv hx; exact q3
   | succ i => simp only [List.getElem?_cons_succ] at hv hx; exact t2 i v x hv hx
  have hnd : ∀ c, o.op ≠ .defer c := nd_of (by rw [ho]; intro h; cases h)
  obtain ⟨fn, hfn1⟩ := ivk_fn ho hr
  cases hc' with
  | pure hp k => exact fn_enter st hnd hfn1 hdN hp.fn hv q1 (fun v h' a' w' hk hf => by obtain ⟨rfl, rfl⟩ := hk; exact hK _ _ _ _ _ k hf)
  | fn hf => exact fn_enter st hnd hfn1 hdN hf hv q1 fun v h' a' w' hk hf => hK _ _ _ _ _ hk hf
theorem region_seq {ops : Array Oper} {m : Nat} (hm : h0.length ≤ m) {Q : Exit → Act → World → Prop} : ∀ (os : List Oper) (aos : List AO) (k : Nat) (L : Lv) (h : Hp) (K : Lv → Hp → Prop) (a : Act) (w : World),
  (∀ i, os[i]? = ops[k + i]?) → compOs P ops N os = some aos → aos.all (gOk N) = true → runO P m false aos L h K → Fits N G0 ι0 h0 w0 (lkL L) h a w →
  (∀ L' h' a' w', K L' h' → Fits N G0 ι0 h0 w0 (lkL L') h' a' w' → Q .normal a' w') → wpOpsIn (Fen ro) 0 P ops Q (List.range' k os.length) a w := by
 intro os
 induction os with
 | nil =>
  intro aos k L h K a w _ hc _ hv hf hQ
  simp only [compOs, Option.some.injEq] at hc
  subst hc
  exact hQ L h a w hv hf
 | cons o os ih =>
  intro aos k L h K a w hk hc hg hv hf hQ
  simp only [compOs] at hc
  split at hc
  ·rename_i ao l hao hl
   cases hc
   simp only [List.all_cons, Bool.and_eq_true] at hg
   have hok : ops[k]? = some o := by have := hk 0; simpa using this.symm
   have hrest : ∀ L' h' a' w', runO P m false l L' h' K → Fits N G0 ι0 h0 w0 (lkL L') h' a' w' → wpOpsIn (Fen ro) 0 P ops Q (List.range' (k + 1) os.length) a' w' := fun L' h' a' w' hv' hf' =>
    ih l (k + 1) L' h' K a' w' (fun i => by have := hk (i + 1); simp only [List.getElem?_cons_succ] at this; rw [this]; congr 1; omega) hl hg.2 hv' hf' hQ
   simp only [List.length_cons, List.range'_succ]
   rw [wpOpsIn_cons]
   unfold wpOpIn
   simp only [hok]
   obtain ⟨G, ι, st⟩ := hf
   obtain ⟨hd, hdN, hop, hgs⟩ := compO_dst hao
   have hgN := gOk_spec hg.1
   rcases hv with ⟨hgv, hv⟩ | ⟨hgv, hv⟩
   ·rw [gv_wanted st.rel hgs hgv hgN]
    simp only [if_true]
    refine did_sound hm hao hv ⟨G, ι, st⟩ fun L' v h' a' w' hk' hf' => ?_
    exact hrest _ _ _ _ hk' (by rw [putL_eq]; exact hf')
   ·rw [gv_wanted st.rel hgs hgv hgN]
    simp only [Bool.false_eq_true, if_false]
    refine ⟨fun f _ => Fen.fn ro f, hrest _ _ _ _ hv ⟨G, ι, ?_⟩⟩
    rw [putL_eq, hd]
    exact st.step hdN st.rel.hr (.tup #[] [] rfl (by simp)) (Ext.refl _ _ _ _)
  ·cases hc
theorem runO_run {aops : List AO} {m : Nat} : ∀ (aos : List AO) (k : Nat) (L : Lv) (h : Hp) (K : Lv → Hp → Prop), (∀ i, aos[i]? = aops[k + i]?) → runO P m true aos L h K →
  ∃ L' h', RunI P aops (List.range' k aos.length) (lkL L) h (lkL L') h' ∧ K L' h' := by
 intro aos
 induction aos with
 | nil => intro k L h K _ hv; exact ⟨L, h, ⟨rfl, rfl⟩, hv⟩
 | cons o aos ih =>
  intro k L h K hk hv
  have hok : aops[k]? = some o := by have := hk 0; simpa using this.symm
  have next : ∀ L' h', StepD P o (lkL L) h (lkL L') h' → runO P m true aos L' h' K → ∃ L' h', RunI P aops (List.range' k (o :: aos).length) (lkL L) h (lkL L') h' ∧ K L' h' := by
   intro L' h' hs hv'
   obtain ⟨L2, h2, hr, hk2⟩ := ih (k + 1) L' h' K (fun i => by have := hk (i + 1); simp only [List.getElem?_cons_succ] at this; rw [this]; congr 1; omega) hv'
   exact ⟨L2, h2, ⟨o, _, _, hok, hs, hr⟩, hk2⟩
  rcases hv with ⟨hgv, hv⟩ | ⟨hgv, hv⟩
  ·cases hv with
   | wk hd => cases hd
   | step v h' hs hcl hk' =>
    refine next (putL L o.dst v) h' ⟨?_, fun hc => .inr (hcl rfl hc)⟩ hk'
    rw [putL_eq]; unfold StepR; rw [hgv]; exact .inl ⟨v, hs, rfl⟩
   | call f xs ho hc =>
    cases hc with
    | pure hp hk' =>
     rename_i r
     rw [evsN_eq] at hp
     refine next (putL L o.dst r) h ⟨?_, fun hc => .inl rfl⟩ hk'
     rw [putL_eq]; unfold StepR; rw [hgv]; exact .inr ⟨f, xs, r, ho, .inl hp, rfl, rfl⟩
    | ro hm0 hp hk' =>
     rename_i r
     rw [evsN_eq] at hp
     refine next (putL L o.dst r) h ⟨?_, fun hc => .inl rfl⟩ hk'
     rw [putL_eq]; unfold StepR; rw [hgv]; exact .inr ⟨f, xs, r, ho, .inr hp, rfl, rfl⟩
   | callv x xs b f caps ho hd => cases hd
   | yl x xs l ho hd => cases hd
   | ivk rows x xs b t caps g k pv rv ho hd => cases hd
   | ar K0 hd => cases hd
   | nil ne x nl sz l ho hd => cases hd
   | len x sz l ho hd => cases hd
   | lenA x l v i n ho hd => cases hd
  ·refine next (putL L o.dst (.tup [])) h ⟨?_, fun _ => .inl rfl⟩ hv
   rw [putL_eq]; unfold StepR; rw [hgv]; exact ⟨rfl, rfl⟩
end
end Go.Ab

/-
  The engine: other numbers for the blocks.
-/
namespace Go.Ab
def rnC (ρ : Nat → Nat) : CV → CV
 | .ptr l v i j => .ptr (ρ l) v i j
 | .arr l v i n => .arr (ρ l) v i n
 | .mp l => .mp (ρ l)
 | .it l => .it (ρ l)
 | .fn b f caps => .fn b f (rnCs ρ caps)
 | x => x
where
  rnCs (ρ : Nat → Nat) : List CV → List CV
  | [] => []
  | x :: r => rnC ρ x :: rnCs ρ r
abbrev rnCs (ρ : Nat → Nat) : List CV → List CV := rnC.rnCs ρ
theorem rnCs_get (ρ : Nat → Nat) (l : List CV) (i : Nat) : (rnCs ρ l)[i]? = (l[i]?).map (rnC ρ) := by
 induction l generalizing i with
 | nil => simp [rnCs, rnC.rnCs]
 | cons x r ih =>
  cases i with
  | zero => simp [rnCs, rnC.rnCs]
  | succ i => simpa [rnCs, rnC.rnCs] using ih i
theorem rnCs_len (ρ : Nat → Nat) (l : List CV) : (rnCs ρ l).length = l.length := by
 induction l with
 | nil => rfl
 | cons x r ih => simpa [rnCs, rnC.rnCs] using ih
def rnA (ρ : Nat → Nat) : AV → AV
 | .c x => .c (rnC ρ x)
 | .agg l => .agg (rnCs ρ l)
 | .tup l => .tup (rnAs ρ l)
where
  rnAs (ρ : Nat → Nat) : List AV → List AV
  | [] => []
  | x :: r => rnA ρ x :: rnAs ρ r
abbrev rnAs (ρ : Nat → Nat) : List AV → List AV := rnA.rnAs ρ
theorem rnAs_get (ρ : Nat → Nat) (l : List AV) (i : Nat) : (rnAs ρ l)[i]? = (l[i]?).map (rnA ρ) := by
 induction l generalizing i with
 | nil => simp [rnAs, rnA.rnAs]
 | cons x r ih =>
  cases i with
  | zero => simp [rnAs, rnA.rnAs]
  | succ i => simpa [rnAs, rnA.rnAs] using ih i
theorem rnAs_len (ρ : Nat → Nat) (l : List AV) : (rnAs ρ l).length = l.length := by
 induction l with
 | nil => rfl
 | cons x r ih => simpa [rnAs, rnA.rnAs] using ih
def rnB (ρ : Nat → Nat) : Blk → Blk
 | .bx cs => .bx (rnCs ρ cs)
 | .mi m v es => .mi (ρ m) v es
 | b => b
def rnH (ρ : Nat → Nat) : Hp → Hp
 | [] => []
 | b :: r => rnB ρ b :: rnH ρ r
theorem rnH_get (ρ : Nat → Nat) (h : Hp) (i : Nat) : (rnH ρ h)[i]? = (h[i]?).map (rnB ρ) := by
 induction h generalizing i with
 | nil => simp [rnH]
 | cons x r ih =>
  cases i with
  | zero => simp [rnH]
  | succ i => simpa [rnH] using ih i
theorem rnH_len (ρ : Nat → Nat) (h : Hp) : (rnH ρ h).length = h.length := by
 induction h with
 | nil => rfl
 | cons x r ih => simpa [rnH] using ih
theorem rnB_off (ρ : Nat → Nat) (b : Blk) (v i j : Nat) : (rnB ρ b).off v i j = b.off v i j := by cases b <;> rfl
theorem rnB_allows (ρ : Nat → Nat) (b : Blk) (v : Nat) : (rnB ρ b).allows v = b.allows v := by cases b <;> rfl
theorem rnB_da {ρ : Nat → Nat} {b : Blk} {r : Bool} {v sz : Nat} {es : List (List D)} : rnB ρ b = .da r v sz es ↔ b = .da r v sz es := by cases b <;> simp [rnB]
theorem rnB_mp {ρ : Nat → Nat} {b : Blk} {v : Nat} {es : List (DV × DV)} : rnB ρ b = .mp v es ↔ b = .mp v es := by cases b <;> simp [rnB]
structure Among (ρ : Nat → Nat) (ιc : Io) (hc : Hp) (ι : Io) (h : Hp) : Prop where
 blk : ∀ i k, hc[i]? = some k → h[ρ i]? = some (rnB ρ k)
 at' : ∀ i k, hc[i]? = some k → ι[ρ i]? = ιc[i]?
section
variable {G : Nat → Prop} {w : World} {ιc ι : Io} {hc h : Hp} {ρ : Nat → Nat}
theorem CR.rn (am : Among ρ ιc hc ι h) {v : Value} {c : CV} (hx : CR G w ιc hc v c) : CR G w ι h v (rnC ρ c) := by
 induction hx with
 | u => exact .u _
 | d _ _ hd => exact .d _ _ hd
 | cl _ _ _ _ hd hc => exact .cl _ _ _ _ hd hc
 | rp b o cs hG hc => exact .rp b o cs hG hc
 | mp _ l blk hb hk =>
  refine .mp _ _ _ (am.blk l blk hb) fun ver es he => ?_
  obtain ⟨b, o, h1, h2⟩ := hk ver es (rnB_mp.1 he)
  exact ⟨b, o, by rw [am.at' l blk hb]; exact h1, h2⟩
 | it _ l blk hb hk =>
  refine .it _ _ _ (am.blk l blk hb) fun m ver es he => ?_
  cases blk with
  | mi m0 v0 es0 =>
   simp only [rnB, Blk.mi.injEq] at he
   obtain ⟨b, o, h1, h2⟩ := hk m0 v0 es0 rfl
   exact ⟨b, o, by rw [am.at' l _ hb]; exact h1, h2⟩
  | _ => simp [rnB] at he
 | ptr _ l ver i j blk hb ha hk =>
  refine .ptr _ _ _ _ _ _ (am.blk l blk hb) (by rw [rnB_allows]; exact ha) fun k hk' => ?_
  rw [rnB_off] at hk'
  obtain ⟨b, o, h1, h2⟩ := hk k hk'
  exact ⟨b, o, by rw [am.at' l blk hb]; exact h1, h2⟩
 | arr _ l ver i j blk hb ha hk hk0 =>
  refine .arr _ _ _ _ _ _ (am.blk l blk hb) (by rw [rnB_allows]; exact ha) (fun sz es he => ?_) fun sz es he => hk0 sz es (rnB_da.1 he)
  obtain ⟨b, o, cap, h1, h2⟩ := hk sz es (rnB_da.1 he)
  exact ⟨b, o, cap, by rw [am.at' l blk hb]; exact h1, h2⟩
 | fn v b f vs caps hv hn hc ih =>
  refine .fn v b f vs _ hv (by rw [hn]; exact (rnCs_len ρ caps).symm) fun i v c hv hx => ?_
  rw [show rnC.rnCs ρ caps = rnCs ρ caps from rfl, rnCs_get, Option.map_eq_some_iff] at hx
  obtain ⟨c0, h1, rfl⟩ := hx
  exact ih i v c0 hv h1
theorem CR.unrn (am : Among ρ ιc hc ι h) {v : Value} {x : CV} (hx : CR G w ι h v x) : ∀ c, x = rnC ρ c → refsC hc.length c = true → CR G w ιc hc v c := by
 have at1 : ∀ l, l < hc.length → ∃ k, hc[l]? = some k := fun l hl => ⟨_, List.getElem?_eq_getElem hl⟩
 induction hx with
 | u v => intro c e hr; cases c <;> first | exact .u _ | (simp [rnC] at e)
 | d _ _ hd => intro c e hr; cases c <;> simp [rnC] at e; subst e; exact .d _ _ hd
 | cl _ _ _ _ hd hc => intro c e hr; cases c <;> simp [rnC] at e; obtain ⟨rfl, rfl, rfl⟩ := e; exact .cl _ _ _ _ hd hc
 | rp b o cs hG hc => intro c e hr; cases c <;> simp [rnC] at e; subst e; exact .rp b o _ hG hc
 | mp _ l blk hb hk =>
  intro c e hr
  cases c <;> simp [rnC] at e
  rename_i l0
  obtain ⟨k, hk0⟩ := at1 l0 (Nat.le_of_ble_eq_true hr)
  rw [e, am.blk l0 k hk0] at hb
  cases hb
  refine .mp _ _ k hk0 fun ver es he => ?_
  obtain ⟨b, o, h1, h2⟩ := hk ver es (rnB_mp.2 he)
  exact ⟨b, o, by rw [← am.at' l0 k hk0, ← e]; exact h1, h2⟩
 | it _ l blk hb hk =>
  intro c e hr
  cases c <;> simp [rnC] at e
  rename_i l0
  obtain ⟨k, hk0⟩ := at1 l0 (Nat.le_of_ble_eq_true hr)
  rw [e, am.blk l0 k hk0] at hb
  cases hb
  refine .it _ _ k hk0 fun m ver es he => ?_
  subst he
  obtain ⟨b, o, h1, h2⟩ := hk (ρ m) ver es rfl
  exact ⟨b, o, by rw [← am.at' l0 _ hk0, ← e]; exact h1, h2⟩
 | ptr _ l ver i j blk hb ha hk =>
  intro c e hr
  cases c <;> simp [rnC] at e
  rename_i l0 v0 i0 j0
  obtain ⟨e, rfl, rfl, rfl⟩ := e
  obtain ⟨k, hk0⟩ := at1 l0 (Nat.le_of_ble_eq_true hr)
  rw [e, am.blk l0 k hk0] at hb
  cases hb
  rw [rnB_allows] at ha
  refine .ptr _ _ _ _ _ k hk0 ha fun n hn => ?_
  obtain ⟨b, o, h1, h2⟩ := hk n (by rw [rnB_off]; exact hn)
  exact ⟨b, o, by rw [← am.at' l0 k hk0, ← e]; exact h1, h2⟩
 | arr _ l ver i j blk hb ha hk hk0 =>
  intro c e hr
  cases c <;> simp [rnC] at e
  rename_i l0 v0 i0 j0
  obtain ⟨e, rfl, rfl, rfl⟩ := e
  obtain ⟨k, hk1⟩ := at1 l0 (Nat.le_of_ble_eq_true hr)
  rw [e, am.blk l0 k hk1] at hb
  cases hb
  rw [rnB_allows] at ha
  refine .arr _ _ _ _ _ k hk1 ha (fun sz es he => ?_) fun sz es he => hk0 sz es (rnB_da.2 he)
  obtain ⟨b, o, cap, h1, h2⟩ := hk sz es (rnB_da.2 he)
  exact ⟨b, o, cap, by rw [← am.at' l0 k hk1, ← e]; exact h1, h2⟩
 | fn v b f vs caps hv hn hc ih =>
  intro c e hr
  cases c <;> simp [rnC] at e
  rename_i b0 f0 caps0
  obtain ⟨rfl, rfl, e⟩ := e
  have e' : caps = rnCs ρ caps0 := e
  refine .fn _ _ _ vs caps0 hv (by rw [hn, e', rnCs_len]) fun i v c hv hx => ?_
  have hx' : caps[i]? = some (rnC ρ c) := by rw [e', rnCs_get, hx]; rfl
  exact ih i v _ hv hx' c rfl (refsCs_get hr i c hx)
theorem VR.rn (am : Among ρ ιc hc ι h) {v : Value} {x : AV} (hx : VR G w ιc hc v x) : VR G w ι h v (rnA ρ x) := by
 induction hx with
 | c _ _ h1 => exact .c _ _ (h1.rn am)
 | agg cs l hn h1 =>
  refine .agg cs _ (by rw [hn]; exact (rnCs_len ρ l).symm) fun i v x hv hx => ?_
  rw [rnCs_get, Option.map_eq_some_iff] at hx
  obtain ⟨c0, h2, rfl⟩ := hx
  exact (h1 i v c0 hv h2).rn am
 | tup cs l hn h1 ih =>
  refine .tup cs _ (by rw [hn]; exact (rnAs_len ρ l).symm) fun i v x hv hx => ?_
  rw [show rnA.rnAs ρ l = rnAs ρ l from rfl, rnAs_get, Option.map_eq_some_iff] at hx
  obtain ⟨c0, h2, rfl⟩ := hx
  exact ih i v c0 hv h2
theorem VR.unrn (am : Among ρ ιc hc ι h) {v : Value} {x : AV} (hx : VR G w ι h v (rnA ρ x)) (hr : refsA hc.length x = true) : VR G w ιc hc v x := by
 cases x with
 | c x =>
  cases hx with
  | c _ _ h1 => exact .c _ _ (h1.unrn am x rfl hr)
 | agg l =>
  cases hx with
  | agg cs _ hn h1 =>
   refine .agg cs l (by rw [hn, rnCs_len]) fun i v x hv hx => ?_
   exact (h1 i v (rnC ρ x) hv (by rw [rnCs_get, hx]; rfl)).unrn am x rfl (refsCs_get hr i x hx)
 | tup l =>
  cases l with
  | nil => cases hx with | tup cs _ hn h1 => exact .tup cs [] hn (by simp)
  | cons a r => simp [refsA] at hr
theorem BR.rn (am : Among ρ ιc hc ι h) {i : Nat} {k : Blk} (hk : hc[i]? = some k) (hx : BR G w ιc hc i k) : BR G w ι h (ρ i) (rnB ρ k) := by
 have ha := am.at' i k hk
 cases k with
 | dead => trivial
 | am m => exact hx
 | bx cs =>
  obtain ⟨b, o, c, t, fr, h1, h2, h3, h4, h5⟩ := hx
  refine ⟨b, o, c, t, fr, by rw [ha]; exact h1, h2, by rw [rnCs_len]; exact h3, h4, fun j x hx => ?_⟩
  rw [rnCs_get, Option.map_eq_some_iff] at hx
  obtain ⟨c0, g1, rfl⟩ := hx
  obtain ⟨v, g2, g3⟩ := h5 j c0 g1
  exact ⟨v, g2, g3.rn am⟩
 | da r v sz es =>
  cases r with
  | false => exact hx
  | true =>
   obtain ⟨b, o, c, t, fr, h0, h1, h2⟩ := hx
   exact ⟨b, o, c, t, fr, h0, by rw [ha]; exact h1, h2⟩
 | mp v es =>
  obtain ⟨b, o, ces, clock, h1, h2⟩ := hx
  exact ⟨b, o, ces, clock, by rw [ha]; exact h1, h2⟩
 | mi m v es =>
  obtain ⟨b, o, mb, seen, clock, blk, h1, h2, h3, h4, h5⟩ := hx
  refine ⟨b, o, mb, seen, clock, _, by rw [ha]; exact h1, h2, am.blk m blk h3, by rw [rnB_allows]; exact h4, fun all he => ?_⟩
  obtain ⟨o', ces, g1, g2⟩ := h5 all (rnB_mp.1 he)
  exact ⟨o', ces, by rw [am.at' m blk h3]; exact g1, g2⟩
theorem BR.unrn (am : Among ρ ιc hc ι h) {i : Nat} {k : Blk} (hk : hc[i]? = some k) (hr : refsB hc.length k = true) (hx : BR G w ι h (ρ i) (rnB ρ k)) : BR G w ιc hc i k := by
 have ha := am.at' i k hk
 cases k with
 | dead => trivial
 | am m => exact hx
 | bx cs =>
  obtain ⟨b, o, c, t, fr, h1, h2, h3, h4, h5⟩ := hx
  refine ⟨b, o, c, t, fr, by rw [← ha]; exact h1, h2, by rw [rnCs_len] at h3; exact h3, h4, fun j x hx => ?_⟩
  obtain ⟨v, g2, g3⟩ := h5 j (rnC ρ x) (by rw [rnCs_get, hx]; rfl)
  exact ⟨v, g2, g3.unrn am x rfl (refsCs_get hr j x hx)⟩
 | da r v sz es =>
  cases r with
  | false => exact hx
  | true =>
   obtain ⟨b, o, c, t, fr, h0, h1, h2⟩ := hx
   exact ⟨b, o, c, t, fr, h0, by rw [← ha]; exact h1, h2⟩
 | mp v es =>
  obtain ⟨b, o, ces, clock, h1, h2⟩ := hx
  exact ⟨b, o, ces, clock, by rw [← ha]; exact h1, h2⟩
 | mi m v es =>
  obtain ⟨b, o, mb, seen, clock, blk, h1, h2, h3, h4, h5⟩ := hx
  have hm : m < hc.length := Nat.le_of_ble_eq_true hr
  have hkm : hc[m]? = some (hc[m]'hm) := List.getElem?_eq_getElem hm
  rw [am.blk m _ hkm] at h3
  cases h3
  rw [rnB_allows] at h4
  refine ⟨b, o, mb, seen, clock, _, by rw [← ha]; exact h1, h2, hkm, h4, fun all he => ?_⟩
  obtain ⟨o', ces, g1, g2⟩ := h5 all (rnB_mp.2 he)
  exact ⟨o', ces, by rw [← am.at' m _ hkm]; exact g1, g2⟩
theorem own1_rn {ι ιc : Io} {i l b : Nat} {k : Blk} (h : ι[l]? = ιc[i]?) : own1 ι l (rnB ρ k) b ↔ own1 ιc i k b := by
 cases k <;> simp only [own1, rnB, Blk.live, h]
theorem owned_rn (am : Among ρ ιc hc ι h) {b : Nat} (ho : owned ιc hc b) : ∃ i k, hc[i]? = some k ∧ own1 ιc i k b ∧ own1 ι (ρ i) (rnB ρ k) b ∧ h[ρ i]? = some (rnB ρ k) := by
 obtain ⟨i, k, h2, h3⟩ := ho
 exact ⟨i, k, h2, h3, (own1_rn (am.at' i k h2)).2 h3, am.blk i k h2⟩
theorem owned_up (am : Among ρ ιc hc ι h) {b : Nat} (ho : owned ιc hc b) : owned ι h b := by
 obtain ⟨i, k, h1, h2, h3, h4⟩ := owned_rn am ho
 exact ⟨ρ i, _, h4, h3⟩
theorem HR.down (am : Among ρ ιc hc ι h) (hr : HR G ι h w) (hl : ιc.length = hc.length) (hinj : ∀ i j, i < hc.length → j < hc.length → ρ i = ρ j → i = j) (hcl : refsH hc.length hc = true) : HR G ιc hc w where
 len := hl
 own l l' b k k' h3 h4 h5 h6 := by
  refine hinj l l' (get_lt h3) (get_lt h4) ?_
  exact hr.own (ρ l) (ρ l') b _ _ (am.blk l k h3) (am.blk l' k' h4) ((own1_rn (am.at' l k h3)).2 h5) ((own1_rn (am.at' l' k' h4)).2 h6)
 g b hb := ⟨(hr.g b hb).1, fun ho => (hr.g b hb).2 (owned_up am ho)⟩
 blk l k hk := BR.unrn am hk (refsH_get hcl l k hk) (hr.blk _ _ (am.blk l k hk))
end
end Go.Ab

/-
  The engine: regions whose order is drawn and which make memory of their own. Each new block has a place kept for it, so that the order in which the blocks are made does not matter.
-/
namespace Go.Ab
def rfC : CV → List Nat
 | .ptr l _ _ _ => [l]
 | .arr l _ _ _ => [l]
 | .mp l => [l]
 | .it l => [l]
 | .fn _ _ caps => rfCs caps
 | _ => []
where
  rfCs : List CV → List Nat
  | [] => []
  | x :: r => rfC x ++ rfCs r
abbrev rfCs : List CV → List Nat := rfC.rfCs
def rfA : AV → List Nat
 | .c x => rfC x
 | .agg l => rfCs l
 | .tup l => rfAs l
where
  rfAs : List AV → List Nat
  | [] => []
  | x :: r => rfA x ++ rfAs r
abbrev rfAs : List AV → List Nat := rfA.rfAs
def rfB : Blk → List Nat
 | .bx cs => rfCs cs
 | .mi m _ _ => [m]
 | _ => []
theorem rfCs_mem {l : List CV} {n : Nat} : n ∈ rfCs l ↔ ∃ x ∈ l, n ∈ rfC x := by
 induction l with
 | nil => simp [rfCs, rfC.rfCs]
 | cons x r ih =>
  rw [show rfCs (x :: r) = rfC x ++ rfCs r from rfl, List.mem_append, ih]
  simp
theorem rfAs_mem {l : List AV} {n : Nat} : n ∈ rfAs l ↔ ∃ x ∈ l, n ∈ rfA x := by
 induction l with
 | nil => simp [rfAs, rfA.rfAs]
 | cons x r ih =>
  rw [show rfAs (x :: r) = rfA x ++ rfAs r from rfl, List.mem_append, ih]
  simp
theorem rf_agreeC {h h' : Hp} {x : CV} (hx : ∀ l ∈ rfC x, h'[l]? = h[l]?) : agreeC h h' x := by
 cases x with
 | fn b f caps =>
  intro c hc
  have hx2 : ∀ l ∈ rfC c, h'[l]? = h[l]? := fun l hl => hx l (rfCs_mem.2 ⟨c, hc, hl⟩)
  cases c <;> first | trivial | exact hx2 _ (by simp [rfC])
 | _ => first | trivial | exact hx _ (by simp [rfC])
theorem rf_agree {h h' : Hp} {x : AV} (hx : ∀ l ∈ rfA x, h'[l]? = h[l]?) : agreeA h h' x := by
 cases x with
 | c x => exact rf_agreeC hx
 | agg l => exact fun y hy => rf_agreeC fun n hn => hx n (rfCs_mem.2 ⟨y, hy, hn⟩)
 | tup l => trivial
theorem CR.lt {G : Nat → Prop} {w : World} {ι : Io} {h : Hp} {v : Value} {x : CV} (hx : CR G w ι h v x) : ∀ l ∈ rfC x, l < h.length := by
 induction hx with
 | ptr _ l ver i j blk hb => intro n hn; simp only [rfC, List.mem_singleton] at hn; subst hn; exact get_lt hb
 | arr _ l ver i j blk hb => intro n hn; simp only [rfC, List.mem_singleton] at hn; subst hn; exact get_lt hb
 | mp _ l blk hb => intro n hn; simp only [rfC, List.mem_singleton] at hn; subst hn; exact get_lt hb
 | it _ l blk hb => intro n hn; simp only [rfC, List.mem_singleton] at hn; subst hn; exact get_lt hb
 | fn v b f vs caps hv hn hc ih =>
  intro n hm
  obtain ⟨x, hx, hxn⟩ := rfCs_mem.1 hm
  obtain ⟨i, hi⟩ := List.mem_iff_getElem?.1 hx
  have hl := get_lt hi
  exact ih i _ x (Array.getElem?_eq_getElem (by omega)) hi n hxn
 | _ => intro n hn; simp [rfC] at hn
theorem VR.lt {G : Nat → Prop} {w : World} {ι : Io} {h : Hp} {v : Value} {x : AV} (hx : VR G w ι h v x) : ∀ l ∈ rfA x, l < h.length := by
 induction hx with
 | c _ x hc => exact hc.lt
 | agg cs l hn hc =>
  intro n hm
  obtain ⟨x, hx, hxn⟩ := rfCs_mem.1 hm
  obtain ⟨i, hi⟩ := List.mem_iff_getElem?.1 hx
  have hl := get_lt hi
  exact (hc i _ x (Array.getElem?_eq_getElem (by omega)) hi).lt n hxn
 | tup cs l hn hc ih =>
  intro n hm
  obtain ⟨x, hx, hxn⟩ := rfAs_mem.1 hm
  obtain ⟨i, hi⟩ := List.mem_iff_getElem?.1 hx
  have hl := get_lt hi
  exact ih i _ x (Array.getElem?_eq_getElem (by omega)) hi n hxn
theorem BR.lt {G : Nat → Prop} {w : World} {ι : Io} {h : Hp} {i : Nat} {k : Blk} (hx : BR G w ι h i k) : ∀ l ∈ rfB k, l < h.length := by
 cases k with
 | bx cs =>
  obtain ⟨b, o, c, t, fr, h1, h2, h3, h4, h5⟩ := hx
  intro n hm
  obtain ⟨x, hx, hxn⟩ := rfCs_mem.1 hm
  obtain ⟨i, hi⟩ := List.mem_iff_getElem?.1 hx
  obtain ⟨v, _, g2⟩ := h5 i x hi
  exact g2.lt n hxn
 | mi m ver es =>
  obtain ⟨b, o, mb, seen, clock, blk, _, _, h3, _⟩ := hx
  intro n hn
  simp only [rfB, List.mem_singleton] at hn
  subst hn
  exact get_lt h3
 | _ => intro n hn; simp [rfB] at hn
/-! Renaming one block. -/
section
variable {r m : Nat}
def mvN (r m : Nat) : Nat → Nat := fun i => if i = r then m else i
theorem rnC_fix {x : CV} (hx : r ∉ rfC x) : rnC (mvN r m) x = x := by
 have aux : ∀ x : CV, r ∉ rfC x → rnC (mvN r m) x = x := by
  intro x
  refine CV.rec (motive_1 := fun x => r ∉ rfC x → rnC (mvN r m) x = x) (motive_2 := fun l => r ∉ rfCs l → rnCs (mvN r m) l = l) ?_ ?_ ?_ ?_ ?_ ?_ ?_ ?_ ?_ ?_ ?_ x
  ·intro _; rfl
  ·intro _ _; rfl
  ·intro _ _ _ _; rfl
  ·intro _ _; rfl
  ·intro l v i j h; simp only [rfC, List.mem_singleton] at h; simp only [rnC, mvN]; rw [if_neg (fun e => h e.symm)]
  ·intro l v i j h; simp only [rfC, List.mem_singleton] at h; simp only [rnC, mvN]; rw [if_neg (fun e => h e.symm)]
  ·intro l h; simp only [rfC, List.mem_singleton] at h; simp only [rnC, mvN]; rw [if_neg (fun e => h e.symm)]
  ·intro l h; simp only [rfC, List.mem_singleton] at h; simp only [rnC, mvN]; rw [if_neg (fun e => h e.symm)]
  ·intro b f caps ih h
   show CV.fn b f (rnCs (mvN r m) caps) = _
   rw [ih h]
  ·intro _; rfl
  ·intro x l ih1 ih2 h
   rw [show rfCs (x :: l) = rfC x ++ rfCs l from rfl, List.mem_append, not_or] at h
   show rnC (mvN r m) x :: rnCs (mvN r m) l = _
   rw [ih1 h.1, ih2 h.2]
 exact aux x hx
theorem rnCs_fix {l : List CV} (hx : r ∉ rfCs l) : rnCs (mvN r m) l = l := by
 induction l with
 | nil => rfl
 | cons x l ih =>
  rw [show rfCs (x :: l) = rfC x ++ rfCs l from rfl, List.mem_append, not_or] at hx
  show rnC (mvN r m) x :: rnCs (mvN r m) l = _
  rw [rnC_fix hx.1, ih hx.2]
theorem rnB_fix {k : Blk} (hx : r ∉ rfB k) : rnB (mvN r m) k = k := by
 cases k with
 | bx cs => show Blk.bx (rnCs (mvN r m) cs) = _; rw [rnCs_fix hx]
 | mi n v es => simp only [rfB, List.mem_singleton] at hx; simp only [rnB, mvN]; rw [if_neg (fun e => hx e.symm)]
 | _ => rfl
end
theorem refsC_of {n : Nat} : ∀ {x : CV}, (∀ l ∈ rfC x, l < n) → refsC n x = true := by
 intro x
 refine CV.rec (motive_1 := fun x => (∀ l ∈ rfC x, l < n) → refsC n x = true) (motive_2 := fun cs => (∀ l ∈ rfCs cs, l < n) → refsCs n cs = true) ?_ ?_ ?_ ?_ ?_ ?_ ?_ ?_ ?_ ?_ ?_ x
 ·intro _; rfl
 ·intro _ _; rfl
 ·intro _ _ _ _; rfl
 ·intro _ _; rfl
 ·intro l v i j h; exact Nat.ble_eq_true_of_le (h l (by simp [rfC]))
 ·intro l v i j h; exact Nat.ble_eq_true_of_le (h l (by simp [rfC]))
 ·intro l h; exact Nat.ble_eq_true_of_le (h l (by simp [rfC]))
 ·intro l h; exact Nat.ble_eq_true_of_le (h l (by simp [rfC]))
 ·intro b f caps ih h; exact ih h
 ·intro _; rfl
 ·intro x l ih1 ih2 h
  show (match refsC n x with | true => refsCs n l | false => false) = true
  rw [ih1 fun y hy => h y (List.mem_append_left _ hy)]
  exact ih2 fun y hy => h y (List.mem_append_right _ hy)
theorem refsCs_of {n : Nat} : ∀ {l : List CV}, (∀ x ∈ rfCs l, x < n) → refsCs n l = true := by
 intro l
 induction l with
 | nil => intro _; rfl
 | cons x l ih =>
  intro h
  show (match refsC n x with | true => refsCs n l | false => false) = true
  rw [refsC_of fun y hy => h y (List.mem_append_left _ hy)]
  exact ih fun y hy => h y (List.mem_append_right _ hy)
theorem refsH_of {n : Nat} : ∀ {h : Hp}, (∀ k ∈ h, ∀ x ∈ rfB k, x < n) → refsH n h = true := by
 intro h
 induction h with
 | nil => intro _; rfl
 | cons k h ih =>
  intro hx
  show (match refsB n k with | true => refsH n h | false => false) = true
  have hk : refsB n k = true := by
   have hk := hx k (by simp)
   cases k with
   | bx cs => exact refsCs_of hk
   | mi m v es => exact Nat.ble_eq_true_of_le (hk m (by simp [rfB]))
   | _ => rfl
  rw [hk]
  exact ih fun k hk => hx k (by simp [hk])
theorem VR.mv {G : Nat → Prop} {w : World} {ιc ι : Io} {hc h : Hp} {r m : Nat} (am : Among (mvN r m) ιc hc ι h) {v : Value} {x : AV} (hx : VR G w ι h v x) : r ∉ rfA x → (∀ l ∈ rfA x, l < hc.length) → VR G w ιc hc v x := by
 induction hx with
 | c v x h1 => intro hr hl; exact .c _ _ (h1.unrn am x (rnC_fix hr).symm (refsC_of hl))
 | agg cs l hn h1 =>
  intro hr hl
  refine .agg cs l hn fun i v x hv hx => ?_
  have hm := List.mem_of_getElem? hx
  exact (h1 i v x hv hx).unrn am x (rnC_fix fun h => hr (rfCs_mem.2 ⟨x, hm, h⟩)).symm (refsC_of fun y hy => hl y (rfCs_mem.2 ⟨x, hm, hy⟩))
 | tup cs l hn h1 ih =>
  intro hr hl
  refine .tup cs l hn fun i v x hv hx => ?_
  have hm := List.mem_of_getElem? hx
  exact ih i v x hv hx (fun h => hr (rfAs_mem.2 ⟨x, hm, h⟩)) fun y hy => hl y (rfAs_mem.2 ⟨x, hm, hy⟩)
end Go.Ab

/-
  The engine: regions that make memory, part b: a new block is put at the place that is kept for it.
-/
namespace Go.Ab
section
variable {P : Program} {ro : Option Nat} {N : Nat} {G0 : Nat → Prop} {ι0 : Io} {h0 : Hp} {w0 : World}
def Free (l : Nat) (e : Env) (h : Hp) : Prop := (∀ n, l ∉ rfA (e n)) ∧ ∀ (i : Nat) (k : Blk), h[i]? = some k → l ∉ rfB k
def AlF (f : Nat → AV) : Prop := (∃ m v, f = fun n => .c (.arr n v 0 m)) ∨ f = (fun n => .c (.ptr n 0 0 0)) ∨ f = fun n => .c (.mp n)
theorem AlF.rf {f : Nat → AV} (h : AlF f) (n : Nat) : rfA (f n) = [n] := by
 rcases h with ⟨m, v, rfl⟩ | rfl | rfl <;> rfl
theorem AlF.rn {f : Nat → AV} (h : AlF f) (r m : Nat) : rnA (mvN r m) (f r) = f m := by
 rcases h with ⟨k, v, rfl⟩ | rfl | rfl <;> simp [rnA, rnC, mvN]
theorem get_set_at {α : Type} {l : List α} {i : Nat} {a : α} (h : i < l.length) : (l.set i a)[i]? = some a := by simp [h]
theorem get_set_ne {α : Type} {l : List α} {i j : Nat} {a : α} (h : i ≠ j) : (l.set i a)[j]? = l[j]? := List.getElem?_set_ne h
theorem Kept.rnI {ι ι' ι2 : Io} {w w' : World} {l : Nat} {k k' : Blk} (hk : Kept ι ι' w w' l k k') (h : ι2[l]? = ι'[l]?) : Kept ι ι2 w w' l k k' := by
 cases k' <;> cases k <;> simp only [Kept, h] at hk ⊢ <;> exact hk
theorem Fits.move {e : Env} {h : Hp} {k : Blk} {a : Act} {w : World} {r : Nat} {dst : Option Nat} {f : Nat → AV} (hf : Fits N G0 ι0 h0 w0 (putE e dst (f h.length)) (h ++ [k]) a w) (hfree : Free r e h) (hlt : ∀ n, ∀ l ∈ rfA (e n), l < h.length) (hr0 : h0.length ≤ r) (hrl : r < h.length)
    (hk : r ∉ rfB k ∧ ∀ l ∈ rfB k, l < h.length) (hfo : AlF f) (hbl : ∀ (i : Nat) (k : Blk), h[i]? = some k → ∀ l ∈ rfB k, l < h.length) : Fits N G0 ι0 h0 w0 (putE e dst (f r)) (h.set r k) a w := by
  obtain ⟨G, ι, st⟩ := hf
  have hlen := st.rel.hr.len
  simp only [List.length_append, List.length_singleton] at hlen
  have hι : ∃ p, ι[h.length]? = some p := ⟨_, List.getElem?_eq_getElem (by omega)⟩
  obtain ⟨p, hp⟩ := hι
  let ιc := (ι.take h.length).set r p
  have hιl : ιc.length = h.length := by simp only [ιc, List.length_set, List.length_take]; omega
  have hιr : ιc[r]? = some p := by simp only [ιc]; exact get_set_at (by simp only [List.length_take]; omega)
  have hιo : ∀ i, i ≠ r → i < h.length → ιc[i]? = ι[i]? := fun i hi hl => by
    simp only [ιc]; rw [get_set_ne (fun e => hi e.symm), List.getElem?_take_of_lt hl]
  have am : Among (mvN r h.length) ιc (h.set r k) ι (h ++ [k]) := by
    refine ⟨fun i b hb => ?_, fun i b hb => ?_⟩
    · rcases get_set hb with ⟨rfl, rfl, _⟩ | ⟨hne, hb⟩
      · rw [rnB_fix hk.1]; simp [mvN]
      · rw [rnB_fix (hfree.2 i b hb)]
        simp only [mvN, if_neg hne]
        exact get_snoc_old hb
    · rcases get_set hb with ⟨rfl, rfl, _⟩ | ⟨hne, hb⟩
      · simp only [mvN, if_true]; rw [hp, hιr]
      · simp only [mvN, if_neg hne]; rw [hιo i hne (get_lt hb)]
  have hcl : refsH (h.set r k).length (h.set r k) = true := refsH_of fun b hb l hl => by
    rw [List.length_set]
    obtain ⟨i, hi⟩ := List.mem_iff_getElem?.1 hb
    rcases get_set hi with ⟨rfl, rfl, _⟩ | ⟨hne, hb⟩
    · exact hk.2 l hl
    · exact hbl i b hb l hl
  have hinj : ∀ i j, i < (h.set r k).length → j < (h.set r k).length → mvN r h.length i = mvN r h.length j → i = j := by
    intro i j hi hj hij
    rw [List.length_set] at hi hj
    simp only [mvN] at hij
    split at hij <;> split at hij <;> omega
  have hr := HR.down am st.rel.hr (by rw [hιl, List.length_set]) hinj hcl
  refine ⟨G, ιc, ⟨{ hr := hr, size := st.rel.size, env := fun n => ?_ }, ?_, st.dfr.sub fun b hb => owned_up am hb⟩⟩
  · have hv : VR G w ι (h ++ [k]) (a.tmps.getD n undef) (putE e dst (f h.length) n) := st.rel.env n
    show VR G w ιc (h.set r k) (a.tmps.getD n undef) (putE e dst (f r) n)
    have other : (∀ d, dst = some d → d ≠ n) → VR G w ιc (h.set r k) (a.tmps.getD n undef) (putE e dst (f r) n) := fun hn => by
      have e1 : ∀ v, putE e dst v n = e n := fun v => putE_other fun hd => hn n hd rfl
      rw [e1] at hv ⊢
      exact hv.mv am (hfree.1 n) (by rw [List.length_set]; exact hlt n)
    cases hd : dst with
    | none => rw [← hd]; exact other (by rw [hd]; simp)
    | some d =>
      by_cases hdn : d = n
      · subst hdn
        rw [hd] at hv
        simp only [putE, upd, if_true] at hv ⊢
        rw [← hfo.rn r h.length] at hv
        refine hv.unrn am ?_
        rw [List.length_set]
        rcases hfo with ⟨q, qv, rfl⟩ | rfl | rfl <;> exact Nat.ble_eq_true_of_le hrl
      · rw [← hd]; exact other fun d' hd' => by rw [hd] at hd'; cases hd'; exact hdn
  · have ex := st.ext
    exact { size := ex.size, quiet := ex.quiet, frame := ex.frame, gmono := ex.gmono, gnew := ex.gnew,
            onew := fun b hb => ex.onew b (owned_up am hb),
            keep := fun l k0 hk0 => by
              obtain ⟨k', h1, h2⟩ := ex.keep l k0 hk0
              have hl0 := get_lt hk0
              have hlr : l ≠ r := by omega
              have hlh : l < h.length := by omega
              rw [List.getElem?_append_left hlh] at h1
              refine ⟨k', by rw [get_set_ne (fun e => hlr e.symm)]; exact h1, ?_⟩
              exact h2.rnI (hιo l hlr hlh) }
end
end Go.Ab

/-
  The engine: regions that make memory, part c: what each operation does is fixed ahead; operations that do not touch the same blocks change places.
-/
namespace Go.Ab
inductive Wt where
 | no
 | up (l : Nat) (k : Blk)
 | al (l : Nat) (k : Blk)
def Wt.tgt : Wt → Option Nat
 | .no => none
 | .up l _ => some l
 | .al l _ => some l
def Wt.rf : Wt → List Nat
 | .no => []
 | .up _ k => rfB k
 | .al _ k => rfB k
def Wt.ap (h : Hp) : Wt → Hp
 | .no => h
 | .up l k => h.set l k
 | .al l k => h.set l k
theorem ap_len {h : Hp} {t : Wt} : (t.ap h).length = h.length := by cases t <;> simp [Wt.ap]
theorem ap_get {h : Hp} {t : Wt} {l : Nat} (hl : t.tgt ≠ some l) : (t.ap h)[l]? = h[l]? := by
 cases t with
 | no => rfl
 | up n k => exact get_set_ne fun e => hl (by rw [e]; rfl)
 | al n k => exact get_set_ne fun e => hl (by rw [e]; rfl)
theorem ap_some {h : Hp} {t : Wt} {i : Nat} {k : Blk} (hk : (t.ap h)[i]? = some k) : h[i]? = some k ∨ rfB k = t.rf := by
 cases t with
 | no => exact .inl hk
 | up n b => rcases get_set hk with ⟨rfl, rfl, _⟩ | ⟨_, hk⟩; exact .inr rfl; exact .inl hk
 | al n b => rcases get_set hk with ⟨rfl, rfl, _⟩ | ⟨_, hk⟩; exact .inr rfl; exact .inl hk
theorem ap_comm {h : Hp} {s t : Wt} (hst : ∀ l, s.tgt = some l → t.tgt ≠ some l) : t.ap (s.ap h) = s.ap (t.ap h) := by
 have key : ∀ (l n : Nat) (k b : Blk), l ≠ n → (h.set l k).set n b = (h.set n b).set l k := fun l n k b hne => List.set_comm _ _ hne
 cases s with
 | no => rfl
 | up l k =>
  cases t with
  | no => rfl
  | up n b => exact key l n k b fun e => hst l rfl (by rw [e]; rfl)
  | al n b => exact key l n k b fun e => hst l rfl (by rw [e]; rfl)
 | al l k =>
  cases t with
  | no => rfl
  | up n b => exact key l n k b fun e => hst l rfl (by rw [e]; rfl)
  | al n b => exact key l n k b fun e => hst l rfl (by rw [e]; rfl)
def Yld (P : Program) (o : AO) (e : Env) (h : Hp) (v : AV) (t : Wt) : Prop :=
 (gv e o.g = some false ∧ v = .tup [] ∧ t = .no) ∨ (gv e o.g = some true ∧ match t with
  | .no => astep e h o.op = some (v, h) ∨ ∃ f xs, o.op = .call f xs ∧ PureR P h f (evs e xs) v
  | .up l k => astep e h o.op = some (v, h.set l k)
  | .al l k => ∃ f, AlF f ∧ v = f l ∧ (astep e h o.op = some (f h.length, h ++ [k]) ∨ ∃ g xs, o.op = .call g xs ∧ FnS P g (evs e xs) h fun r h' => r = f h.length ∧ h' = h ++ [k]))
def Ef (P : Program) (o : AO) (e : Env) (h : Hp) (v : AV) (t : Wt) (T : List Nat) : Prop :=
 ∀ (e' : Env) (h' : Hp), (∀ n ∈ slotsOf o, e' n = e n) → (∀ l ∈ T, h'[l]? = h[l]?) → Yld P o e' h' v t
structure Tr where
 (v : AV) (t : Wt) (T : List Nat)
def Disj (a b : Tr) : Prop := (∀ l, a.t.tgt = some l → l ∉ b.T ∧ b.t.tgt ≠ some l) ∧ ∀ l, b.t.tgt = some l → l ∉ a.T
def S3 (P : Program) (o : AO) (q : Tr) (e : Env) (h : Hp) (e' : Env) (h' : Hp) : Prop :=
 Ef P o e h q.v q.t q.T ∧ e' = putE e o.dst q.v ∧ h' = q.t.ap h ∧ ∀ l k, q.t = .al l k → h[l]? = some .dead
def slotOk (a b : AO) : Bool :=
 (match a.dst with
 | some d => !(slotsOf b).contains d && b.dst != some d
 | none => true) &&
 (match b.dst with
 | some d => !(slotsOf a).contains d
 | none => true)
theorem slotOk_spec {a b : AO} (h : slotOk a b = true) : (∀ d, a.dst = some d → d ∉ slotsOf b ∧ b.dst ≠ some d) ∧ (∀ d, b.dst = some d → d ∉ slotsOf a) := by
 simp only [slotOk, Bool.and_eq_true] at h
 obtain ⟨h1, h2⟩ := h
 refine ⟨fun d hd => ?_, fun d hd => ?_⟩
 ·rw [hd] at h1
  simp only [Bool.and_eq_true, Bool.not_eq_true', bne_iff_ne] at h1
  exact ⟨by simpa using h1.1, h1.2⟩
 ·rw [hd] at h2
  simpa using h2
theorem commute3 {P : Program} {a b : AO} {qa qb : Tr} {e e1 e2 : Env} {h h1 h2 : Hp} (ha : S3 P a qa e h e1 h1) (hb : S3 P b qb e1 h1 e2 h2) (hc : slotOk a b = true) (hd : Disj qa qb) :
  ∃ e1' h1', S3 P b qb e h e1' h1' ∧ S3 P a qa e1' h1' e2 h2 := by
 obtain ⟨c1, c2⟩ := slotOk_spec hc
 obtain ⟨ea, rfl, rfl, da⟩ := ha
 obtain ⟨eb, rfl, rfl, db⟩ := hb
 obtain ⟨d1, d2⟩ := hd
 have hab : ∀ l, qb.t.tgt = some l → qa.t.tgt ≠ some l := fun l hl h => (d1 l h).2 hl
 refine ⟨_, _, ⟨fun e' h' hs hh => ?_, rfl, rfl, fun l k hq => ?_⟩, ⟨fun e' h' hs hh => ?_, ?_, ?_, fun l k hq => ?_⟩⟩
 ·refine eb e' h' (fun n hn => ?_) fun l hl => ?_
  ·rw [hs n hn, putE_other fun hd => (c1 n hd).1 hn]
  ·rw [hh l hl, ap_get fun ht => (d1 l ht).1 hl]
 ·rw [← ap_get (t := qa.t) (hab l (by rw [hq]; rfl))]; exact db l k hq
 ·refine ea e' h' (fun n hn => ?_) fun l hl => ?_
  ·rw [hs n hn, putE_other fun hd => c2 n hd hn]
  ·rw [hh l hl, ap_get fun ht => d2 l ht hl]
 ·exact putE_comm fun d hd => (c1 d hd).2
 ·exact ap_comm fun l hl => (d1 l hl).2
 ·rw [ap_get (t := qb.t) fun ht => hab l ht (by rw [hq]; rfl)]; exact da l k hq
def RunT (P : Program) (aops : List AO) (tr : Nat → Tr) : List Nat → Env → Hp → Env → Hp → Prop
 | [], e, h, e', h' => e' = e ∧ h' = h
 | i :: r, e, h, e', h' => ∃ o e1 h1, aops[i]? = some o ∧ S3 P o (tr i) e h e1 h1 ∧ RunT P aops tr r e1 h1 e' h'
theorem front3 {P : Program} {aops : List AO} {tr : Nat → Tr} : ∀ (l1 : List Nat) (i : Nat) (l2 : List Nat) (e : Env) (h : Hp) (e' : Env) (h' : Hp),
  (∀ j ∈ l1, (∀ x y, aops[j]? = some x → aops[i]? = some y → slotOk x y = true) ∧ Disj (tr j) (tr i)) → RunT P aops tr (l1 ++ i :: l2) e h e' h' →
  ∃ o e1 h1, aops[i]? = some o ∧ S3 P o (tr i) e h e1 h1 ∧ RunT P aops tr (l1 ++ l2) e1 h1 e' h' := by
 intro l1
 induction l1 with
 | nil => intro i l2 e h e' h' _ hr; exact hr
 | cons j l1 ih =>
  intro i l2 e h e' h' hc hr
  obtain ⟨x, e1, h1, hx, hstep, hrest⟩ := hr
  obtain ⟨o, e2, h2, ho, hs2, hr2⟩ := ih i l2 e1 h1 e' h' (fun k hk => hc k (by simp [hk])) hrest
  obtain ⟨g1, g2⟩ := hc j (by simp)
  obtain ⟨e1', h1', k1, k2⟩ := commute3 hstep hs2 (g1 x o hx ho) g2
  exact ⟨o, e1', h1', ho, k1, x, e2, h2, hx, k2, hr2⟩
section
variable {P : Program} {ro : Option Nat} {N : Nat} {G0 : Nat → Prop} {ι0 : Io} {h0 : Hp} {w0 : World}
theorem Fits.dead {e : Env} {h : Hp} {a : Act} {w : World} (hf : Fits N G0 ι0 h0 w0 e h a w) : Fits N G0 ι0 h0 w0 e (h ++ [.dead]) a w := by
  obtain ⟨G, ι, st⟩ := hf
  have hr := st.rel.hr
  have hon : ∀ l k b, (h ++ [.dead])[l]? = some k → own1 (ι ++ [(0, 0)]) l k b → h[l]? = some k ∧ own1 ι l k b := by
    intro l k b h2 h3
    rcases get_snoc h2 with d | ⟨d, d'⟩
    · exact ⟨d, own1_snoc (by rw [hr.len]; exact get_lt d) h3⟩
    · subst d'; cases h3.1
  have hown : ∀ b, owned (ι ++ [(0, 0)]) (h ++ [Blk.dead]) b → owned ι h b := by
    intro b ⟨l', blk, h2, h3⟩
    exact ⟨l', blk, hon l' blk b h2 h3⟩
  have hι : ∀ l, l < h.length → (ι ++ [(0, 0)])[l]? = ι[l]? := fun l hl => List.getElem?_append_left (by rw [hr.len]; exact hl)
  have ex : Ext G ι h w G (ι ++ [(0, 0)]) (h ++ [.dead]) w :=
    { size := Nat.le_refl _, quiet := ⟨rfl, rfl, rfl, Nat.le_refl _⟩, frame := fun _ _ _ => rfl, gmono := fun _ h => h, gnew := fun _ h => .inl h, onew := fun b hb => .inl (hown b hb),
      keep := fun l k hk => ⟨k, get_snoc_old hk, (Kept.refl ι w l k).rnI (hι l (get_lt hk))⟩ }
  refine ⟨G, ι ++ [(0, 0)], ⟨{ hr := ?_, size := st.rel.size, env := fun i => (st.rel.env i).ext ex hr }, st.ext.trans ex, st.dfr.ext ex⟩⟩
  refine { len := by simp [hr.len], own := fun l1 l2 b k1 k2 c1 c2 d1 d2 => hr.own l1 l2 b k1 k2 (hon _ _ _ c1 d1).1 (hon _ _ _ c2 d2).1 (hon _ _ _ c1 d1).2 (hon _ _ _ c2 d2).2, g := fun b hb => ⟨(hr.g b hb).1, fun ho => (hr.g b hb).2 (hown b ho)⟩, blk := ?_ }
  · intro l k hk
    rcases get_snoc hk with g | ⟨_, rfl⟩
    · exact BR.ext ex hr g (hι l (get_lt g)) fun _ _ => rfl
    · trivial
theorem Fits.deads {e : Env} {h : Hp} {a : Act} {w : World} (hf : Fits N G0 ι0 h0 w0 e h a w) : ∀ m, Fits N G0 ι0 h0 w0 e (h ++ List.replicate m .dead) a w := by
 intro m
 induction m with
 | zero => simpa using hf
 | succ m ih =>
  have := ih.dead
  rw [List.append_assoc, ← List.replicate_succ'] at this
  exact this
def Kept3 (l : Nat) (k : Blk) (e : Env) (h : Hp) (n0 : Nat) : Prop := Free l e h ∧ n0 ≤ l ∧ l ∉ rfB k ∧ ∀ x ∈ rfB k, x < h.length
theorem s3_sound {ops : Array Oper} {o : Oper} {ao : AO} {q : Tr} {e e' : Env} {h h' : Hp} {a : Act} {w : World} {K : Act → World → Prop} {Q : Exit → Act → World → Prop} (hc : compO P ops N o = some ao)
  (hgN : ∀ s q, ao.g = some (s, q) → s < N) (hs : S3 P ao q e h e' h') (hal : ∀ l k, q.t = .al l k → Kept3 l k e h h0.length) (hf : Fits N G0 ι0 h0 w0 e h a w) (hK : ∀ a' w', Fits N G0 ι0 h0 w0 e' h' a' w' → K a' w') :
  if Region.wanted o (yielded ops a.tmps) then o.wpIn (Fen ro) 0 P a w K Q else (∀ f, o.about P w a.eval = some f → (Fen ro).fn f) ∧ K (a.put o.dst undef) w := by
 obtain ⟨v, t, T⟩ := q
 obtain ⟨hef, rfl, rfl, hdead⟩ := hs
 have hy := hef e h (fun _ _ => rfl) fun _ _ => rfl
 simp only at hy hal hdead hK
 have nat : ∀ e1 h1, StepR P ao e h e1 h1 → (∀ a' w', Fits N G0 ι0 h0 w0 e1 h1 a' w' → K a' w') → if Region.wanted o (yielded ops a.tmps) then o.wpIn (Fen ro) 0 P a w K Q else (∀ f, o.about P w a.eval = some f → (Fen ro).fn f) ∧ K (a.put o.dst undef) w :=
  fun e1 h1 h2 h3 => step_sound hc hgN h2 hf h3
 rcases hy with ⟨hg, rfl, rfl⟩ | ⟨hg, hy⟩
 ·exact nat _ _ (by unfold StepR; rw [hg]; exact ⟨rfl, rfl⟩) hK
 ·cases t with
  | no =>
   refine nat _ _ ?_ hK
   unfold StepR; rw [hg]
   rcases hy with hy | ⟨f, xs, h1, h2⟩
   ·exact .inl ⟨v, hy, rfl⟩
   ·exact .inr ⟨f, xs, v, h1, .inl h2, rfl, rfl⟩
  | up l k =>
   refine nat _ _ ?_ hK
   unfold StepR; rw [hg]
   exact .inl ⟨v, hy, rfl⟩
  | al l k =>
   obtain ⟨f, hfo, rfl, hy⟩ := hy
   obtain ⟨k1, k2, k3, k4⟩ := hal l k rfl
   have hd := hdead l k rfl
   have hff := hf
   obtain ⟨G, ι, st⟩ := hff
   have mv : ∀ a' w', Fits N G0 ι0 h0 w0 (putE e ao.dst (f h.length)) (h ++ [k]) a' w' → K a' w' := fun a' w' hf' => hK a' w' (hf'.move k1 (fun n => (st.rel.env n).lt) k2 (get_lt hd) ⟨k3, k4⟩ hfo fun i b hb => (st.rel.hr.blk i b hb).lt)
   rcases hy with hy | ⟨fn, xs, hcall, hfs⟩
   ·exact nat (putE e ao.dst (f h.length)) (h ++ [k]) (by unfold StepR; rw [hg]; exact .inl ⟨_, hy, rfl⟩) mv
   ·obtain ⟨hd1, hdN, hop, hgs⟩ := compO_dst hc
    rw [gv_wanted st.rel hgs hg hgN]
    simp only [if_true]
    rw [hop] at hcall
    obtain ⟨c, hoo⟩ := compOp_call hcall
    obtain ⟨q1, q2⟩ := call_exec (a := a) (w := w) hoo hcall
    obtain ⟨fd, hfn⟩ := compOp_fn hoo hcall
    obtain ⟨t1, t2⟩ := args_sound st.rel q2
    have hargs : c.args.map a.eval = (c.args.toList.map a.eval).toArray := by apply Array.ext'; simp
    rw [hargs] at q1
    refine oW_enter (fun c' hc' => by rw [hoo] at hc'; cases hc') q1 ((hfs.out G ι w _ st.rel.hr ⟨t1, t2⟩).calls hfn) fun en w' ⟨v, r, G', ι', h', j0, j1, j2, j3, j4⟩ => ?_
    obtain ⟨rfl, rfl⟩ := j1
    rw [hd1] at mv
    exact ⟨v, j0, mv _ _ ⟨G', ι', st.step hdN j2 j3 j4⟩⟩
end
end Go.Ab

/-
  The engine: regions that make memory, part d: every order comes to the same.
-/
namespace Go.Ab
section
variable {P : Program} {ro : Option Nat} {N : Nat} {G0 : Nat → Prop} {ι0 : Io} {h0 : Hp} {w0 : World}
def bitM (ops : Array Oper) (i j : Nat) : Bool := ((masks ops.toList []).getD i 0).testBit j
structure TC (ops : Array Oper) (tr : Nat → Tr) (cur : List Nat) : Prop where
 dis : ∀ i ∈ cur, ∀ j ∈ cur, j < i → bitM ops i j = false → Disj (tr j) (tr i)
 new : ∀ i ∈ cur, ∀ j ∈ cur, j ≠ i → bitM ops i j = false → ∀ l k, (tr j).t = .al l k → l ∉ rfA (tr i).v ∧ l ∉ (tr i).t.rf
def Inv3 (n0 : Nat) (tr : Nat → Tr) (cur : List Nat) (e : Env) (h : Hp) : Prop := ∀ i ∈ cur, ∀ l k, (tr i).t = .al l k → Kept3 l k e h n0
def drawOk2 (os : List Oper) (aos : List AO) : Bool :=
 let ms := masks os []
 (List.range os.length).all fun i =>
  (match os[i]? with
  | some o => (direct o).all fun j => decide (j < i)
  | none => true) &&
  (List.range i).all fun j => (ms.getD i 0).testBit j || (match aos[j]?, aos[i]? with
   | some x, some y => slotOk x y
   | _, _ => false)
def Seg3 (P : Program) (n0 : Nat) (ops : Array Oper) (aops : List AO) (cur : List Nat) (e : Env) (h : Hp) (C : Env → Hp → Prop) : Prop :=
 ∃ m tr e' h', RunT P aops tr cur e (h ++ List.replicate m .dead) e' h' ∧ TC ops tr cur ∧ Inv3 n0 tr cur e (h ++ List.replicate m .dead) ∧ C e' h'
def PlanK3 (ro : Option Nat) (P : Program) (N : Nat) (G0 : Nat → Prop) (ι0 : Io) (h0 : Hp) (w0 : World) (ops : Array Oper) (aops : List AO) (Q : Exit → Act → World → Prop) : List (Nat × List Nat) → Env → Hp → Prop
 | [], e, h => ∀ a w, Fits N G0 ι0 h0 w0 e h a w → Q .normal a w
 | (b, is) :: r, e, h => Bar ops b ∧ ∀ (a : Act) (w : World) (K : Act → World → Prop), Fits N G0 ι0 h0 w0 e h a w →
   (∀ e2 h2 a' w', Fits N G0 ι0 h0 w0 e2 h2 a' w' → Seg3 P h0.length ops aops is e2 h2 (PlanK3 ro P N G0 ι0 h0 w0 ops aops Q r) → K a' w') → wpOpIn (Fen ro) 0 P ops Q b K a w
theorem any3 {ops : Array Oper} {aops : List AO} {Q : Exit → Act → World → Prop} (hcomp : compOs P ops N ops.toList = some aops) (hg : aops.all (gOk N) = true)
  (hd : drawOk2 ops.toList aops = true) : ∀ (fuel : Nat) (listed : Array Bool) (cur : List Nat) (bs : List (Nat × List Nat)) (tr : Nat → Tr) (e : Env) (h : Hp) (e1 : Env) (h1 : Hp) (a : Act) (w : World),
  Rem ops listed (cur ++ flatP bs) → (cur ++ flatP bs).length ≤ fuel → Closed ops listed → Fits N G0 ι0 h0 w0 e h a w → RunT P aops tr cur e h e1 h1 → TC ops tr cur → Inv3 h0.length tr cur e h → PlanK3 ro P N G0 ι0 h0 w0 ops aops Q bs e1 h1 → wpAnyIn (Fen ro) 0 P .any ops Q fuel listed a w := by
 have hd' : ∀ i o, ops.toList[i]? = some o → (∀ j ∈ direct o, j < i) ∧ ∀ j, j < i → bitM ops i j = true ∨ ∃ x y, aops[j]? = some x ∧ aops[i]? = some y ∧ slotOk x y = true := by
  intro i o ho
  simp only [drawOk2, List.all_eq_true, List.mem_range, Bool.and_eq_true, Bool.or_eq_true] at hd
  obtain ⟨h1, h2⟩ := hd i (get_lt ho)
  rw [ho] at h1
  simp only [List.all_eq_true, decide_eq_true_eq] at h1
  refine ⟨h1, fun j hj => ?_⟩
  rcases h2 j hj with h3 | h3
  ·exact .inl h3
  ·right
   split at h3
   ·rename_i x y hx hy; exact ⟨x, y, hx, hy, h3⟩
   ·cases h3
 have hd1 : ∀ i o, ops.toList[i]? = some o → ∀ j ∈ direct o, j < i := fun i o ho => (hd' i o ho).1
 have hempty : ∀ listed rem, Rem ops listed rem → Closed ops listed → Region.ready .any ops listed = [] → rem = [] := by
  intro listed rem hr _ hready
  cases rem with
  | nil => rfl
  | cons i rem =>
   exfalso
   have hi := (hr.mem i).1 (by simp)
   have ho : ops.toList[i]? = some (ops.toList[i]'(by simpa using hi.1)) := List.getElem?_eq_getElem _
   have : i ∈ Region.ready .any ops listed := by
    rw [ready_mem]
    refine ⟨hi.1, hi.2, _, ho, fun m hm => ?_⟩
    have hmi := (hd' i _ ho).1 m hm
    have hnot : m ∉ i :: rem := by
     intro hmem
     simp only [List.mem_cons] at hmem
     rcases hmem with h | h
     ·omega
     ·have := (List.pairwise_cons.1 hr.sorted).1 m h; omega
    have hms : m < ops.size := by omega
    have : ¬ (listed.getD m true = false) := fun hf => hnot ((hr.mem m).2 ⟨hms, hf⟩)
    simp only [Array.getD_eq_getD_getElem?, Array.getElem?_eq_getElem (show m < listed.size by rw [hr.size]; exact hms), Option.getD_some] at this ⊢
    simpa using this
   rw [hready] at this
   cases this
 have hnil : ∀ cur (bs : List (Nat × List Nat)), cur ++ flatP bs = [] → cur = [] ∧ bs = [] := by
  intro cur bs h
  obtain ⟨h1, h2⟩ := List.append_eq_nil_iff.1 h
  refine ⟨h1, ?_⟩
  cases bs with
  | nil => rfl
  | cons x r => simp [flatP] at h2
 have hdone : ∀ listed rem i o j, Rem ops listed rem → Closed ops listed → ops.toList[i]? = some o → (∀ m ∈ direct o, listed.getD m false = true) → ((masks ops.toList []).getD i 0).testBit j = true → j ∈ rem → False := by
  intro listed rem i o j hr hc ho hdir hb hj
  have := before_listed hr.size hc i o j ho hdir hb
  have hj' := (hr.mem j).1 hj
  simp only [Array.getD_eq_getD_getElem?, Array.getElem?_eq_getElem (show j < listed.size by rw [hr.size]; exact hj'.1), Option.getD_some] at this hj'
  rw [this] at hj'; simp at hj'
 intro fuel
 induction fuel with
 | zero =>
  intro listed cur bs tr e h e1 h1 a w hr hl hc hf hrun htc hinv hpl
  obtain ⟨rfl, rfl⟩ := hnil cur bs (List.eq_nil_of_length_eq_zero (by omega))
  obtain ⟨rfl, rfl⟩ := hrun
  refine ⟨?_, hpl a w hf⟩
  apply List.eq_nil_iff_forall_not_mem.2
  intro i hi
  rw [ready_mem] at hi
  have := (hr.mem i).2 ⟨hi.1, hi.2.1⟩
  cases this
 | succ fuel ih =>
  intro listed cur bs tr e h e' h' a w hr hl hc hf hrun htc hinv hpl
  refine ⟨fun hready => ?_, fun i hi => ?_⟩
  ·obtain ⟨rfl, rfl⟩ := hnil _ _ (hempty listed _ hr hc hready)
   obtain ⟨rfl, rfl⟩ := hrun
   exact hpl a w hf
  ·rw [ready_mem] at hi
   obtain ⟨hin, hil, o, ho, hdir⟩ := hi
   have himem := (hr.mem i).2 ⟨hin, hil⟩
   rcases List.mem_append.1 himem with hicur | hibs
   ·obtain ⟨l1, l2, hrem⟩ := List.append_of_mem hicur
    subst hrem
    have hpair := hr.sorted
    rw [List.append_assoc, List.cons_append] at hr hpair
    rw [List.pairwise_append] at hpair
    have hl1 : ∀ j ∈ l1, j < i := fun j hj => hpair.2.2 j hj i (by simp)
    have hl2 : ∀ j ∈ l2, i < j := fun j hj => (List.pairwise_cons.1 hpair.2.1).1 j (by simp [hj])
    have hnb : ∀ j ∈ l1 ++ l2, bitM ops i j = false := fun j hj => by
     cases hb : bitM ops i j with
     | false => rfl
     | true => exact (hdone listed _ i o j hr hc ho hdir hb (by rcases List.mem_append.1 hj with h | h <;> simp [h])).elim
    have hcompat : ∀ j ∈ l1, (∀ x y, aops[j]? = some x → aops[i]? = some y → slotOk x y = true) ∧ Disj (tr j) (tr i) := by
     intro j hj
     refine ⟨fun x y hx hy => ?_, htc.dis i (by simp) j (by simp [hj]) (hl1 j hj) (hnb j (by simp [hj]))⟩
     rcases (hd' i o ho).2 j (hl1 j hj) with hb | ⟨x', y', hx', hy', hcc⟩
     ·rw [hnb j (by simp [hj])] at hb; cases hb
     ·rw [hx] at hx'; rw [hy] at hy'; cases hx'; cases hy'; exact hcc
    obtain ⟨ao, e1, h1, hao, hstep, hrest⟩ := front3 l1 i l2 e h e' h' hcompat hrun
    have hco := (compOs_get hcomp).2 i o ao ho hao
    have hgo := gOk_spec (N := N) (by rw [List.all_eq_true] at hg; exact hg ao (List.mem_of_getElem? hao))
    have hoi : ops[i]? = some o := by simpa using ho
    obtain ⟨hr2, hc2⟩ := rem_step hr hc hin ho hdir hd1
    have hsub : ∀ j ∈ l1 ++ l2, j ∈ l1 ++ i :: l2 := fun j hj => by
     rcases List.mem_append.1 hj with h | h <;> simp [h]
    have hne : ∀ j ∈ l1 ++ l2, j ≠ i := fun j hj e => by
     rcases List.mem_append.1 hj with h | h
     ·have := hl1 j h; omega
     ·have := hl2 j h; omega
    have htc2 : TC ops tr (l1 ++ l2) := ⟨fun x hx y hy => htc.dis x (hsub x hx) y (hsub y hy), fun x hx y hy => htc.new x (hsub x hx) y (hsub y hy)⟩
    have hinv2 : Inv3 h0.length tr (l1 ++ l2) e1 h1 := by
     intro j hj l k hq
     obtain ⟨⟨f1, f2⟩, k2, k3, k4⟩ := hinv j (hsub j hj) l k hq
     obtain ⟨n1, n2⟩ := htc.new i (by simp) j (hsub j hj) (hne j hj) (hnb j hj) l k hq
     obtain ⟨_, rfl, rfl, _⟩ := hstep
     refine ⟨⟨fun n => ?_, fun x kb hx => ?_⟩, k2, k3, by rw [ap_len]; exact k4⟩
     ·cases hdst : ao.dst with
      | none => exact f1 n
      | some d =>
       simp only [putE, upd]
       split
       ·exact n1
       ·exact f1 n
     ·rcases ap_some hx with hx | hx
      ·exact f2 x kb hx
      ·rw [hx]; exact n2
    unfold wpOpIn
    simp only [hoi]
    exact s3_sound hco hgo hstep (fun l k hq => hinv i (by simp) l k hq) hf fun a' w' hf' => ih (listed.setIfInBounds i true) (l1 ++ l2) bs tr e1 h1 e' h' a' w' (by rw [List.append_assoc]; exact hr2) (by simp at hl ⊢; omega) hc2 hf' hrest htc2 hinv2 hpl
   ·cases bs with
    | nil => cases hibs
    | cons q r =>
     obtain ⟨b, is⟩ := q
     simp only [flatP, List.mem_cons] at hibs
     obtain ⟨hbar, hpl⟩ := hpl
     have hpair := hr.sorted
     rw [List.pairwise_append] at hpair
     have hib : i = b := by
      rcases hibs with h | h
      ·exact h
      ·exfalso
       have hbi : b < i := (List.pairwise_cons.1 hpair.2.1).1 i (by simpa using h)
       exact hdone listed _ i o b hr hc ho hdir (hbar.2 i hbi hin) (by simp [flatP])
     subst hib
     have hcur : cur = [] := by
      cases cur with
      | nil => rfl
      | cons j cur =>
       exfalso
       have hji : j < i := hpair.2.2 j (by simp) i (by simp [flatP])
       exact hdone listed _ i o j hr hc ho hdir (hbar.1 j hji) (by simp)
     subst hcur
     obtain ⟨rfl, rfl⟩ := hrun
     obtain ⟨hr2, hc2⟩ := rem_step (l1 := []) (by simpa [flatP] using hr) hc hin ho hdir hd1
     refine hpl a w _ hf fun e2 h2 a' w' hf2 hseg => ?_
     obtain ⟨m, tr2, e3, h3, q1, q2, q3, q4⟩ := hseg
     exact ih (listed.setIfInBounds i true) is r tr2 e2 _ e3 h3 a' w' hr2 (by simp [flatP] at hl ⊢; omega) hc2 (hf2.deads m) q1 q2 q3 q4
theorem region3 {id : Nat} {ops : Array Oper} {aops : List AO} {Q : Exit → Act → World → Prop} {e : Env} {h : Hp} {a : Act} {w : World} {cur : List Nat} {bs : List (Nat × List Nat)} (hm : P.follows .mixedOrders = true)
  (hcomp : compOs P ops N ops.toList = some aops) (hg : aops.all (gOk N) = true) (hd : drawOk2 ops.toList aops = true) (hf : Fits N G0 ι0 h0 w0 e h a w)
  (hall : cur ++ flatP bs = List.range ops.size) (hseg : Seg3 P h0.length ops aops cur e h (PlanK3 ro P N G0 ι0 h0 w0 ops aops Q bs)) : (Code.region id ops true).wpIn (Fen ro) 0 P Q a w := by
 obtain ⟨m, tr, e', h', q1, q2, q3, q4⟩ := hseg
 refine wpIn_region_any hm (any3 hcomp hg hd ops.size (Array.replicate ops.size false) cur bs tr e _ e' h' a _ ?_ (by simp [hall]) ?_ ((hf.deads m).same_heap rfl) q1 q2 q3 q4)
 ·rw [hall]
  refine ⟨by simp, fun i => ?_, List.pairwise_lt_range⟩
  simp only [List.mem_range, Array.getD_eq_getD_getElem?, Array.getElem?_replicate]
  constructor
  ·intro hi; exact ⟨hi, by simp [hi]⟩
  ·exact fun hi => hi.1
 ·intro i o ho hl
  have hi : i < ops.size := by simpa using get_lt ho
  simp [Array.getD_eq_getD_getElem?, hi] at hl
end
end Go.Ab

