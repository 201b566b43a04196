/-
  The engine, part n: the rest of the operations, and all of them together.
-/
import Derived.Test.YtjaodmgeonfkiaaEm
namespace Go.Ab

section
variable {P : Program} {N : Nat} {G : Nat → Prop} {ι : Io} {e : Env} {h h' : Hp} {a : Act} {w : World} {o : Oper} {av : AV}

theorem l_un {op : UnOp} {t : TypeId} {x : Operand} (r : Rel N G ι e h a w) (hop : o.op = .unOp op t x) (hs : astep e h (compOp P o) = some (av, h')) :
    OpRes G ι h w av h' ((execOp a.eval o).run P w) := by
  simp only [compOp, hop] at hs
  split at hs
  · rename_i y hy
    simp only [astep] at hs
    split at hs
    · rename_i d hd
      simp only [Option.map_eq_some_iff, Prod.mk.injEq] at hs
      obtain ⟨d', hd', rfl, rfl⟩ := hs
      have hv := cx_sound hy r
      rw [hd] at hv
      have hexec : (execOp a.eval o).run P w = ((Op.unary op (a.eval x)).run P w).andThen fun v w' => .ok (.value v) w' := by
        simp only [execOp, hop, Sem.run_bind, Sem.run_pure]
      unfold unD at hd'
      split at hd'
      · cases hd'
        rw [inv_bool hv] at hexec
        exact OpRes.value r.hr (by rw [hexec]; rfl) (.c _ _ (.d _ _ (.bool _)))
      · cases hd'
        rw [inv_int hv] at hexec
        exact OpRes.value r.hr (by rw [hexec]; rfl) (.c _ _ (.d _ _ (.int _ _)))
      · cases hd'
        rw [inv_int hv] at hexec
        exact OpRes.value r.hr (by rw [hexec]; rfl) (.c _ _ (.d _ _ (.int _ _)))
      · cases hd'
    · cases hs
  · exact absurd hs bad_step

theorem bts_run (f : Value → ByteArray → Sem (ForInStep ByteArray)) (hf : ∀ n s, (f (.int .u8 n) s).run P w = .ok (.yield (s.push (UInt8.ofNat n.toNat))) w) :
    ∀ (vs : List Value) (l : List (List D)) (s : List UInt8) (acc : ByteArray), vs.length = l.length →
    (∀ (i : Nat) (v : Value) (e : List D), vs[i]? = some v → l[i]? = some e → ∃ x, e = [x] ∧ DR G w v x) → btsD l = some s →
    ∃ out : ByteArray, (forIn vs acc f).run P w = .ok out w ∧ out.data.toList = acc.data.toList ++ s := by
  intro vs
  induction vs with
  | nil =>
    intro l s acc hl _ hb
    cases l with
    | nil => simp only [btsD, Option.some.injEq] at hb; subst hb; exact ⟨acc, by simp, by simp⟩
    | cons => simp at hl
  | cons v vs ih =>
    intro l s acc hl hr hb
    cases l with
    | nil => simp at hl
    | cons e l =>
      obtain ⟨x, rfl, hd⟩ := hr 0 v e rfl rfl
      unfold btsD at hb
      split at hb
      · rename_i h0; cases h0
      · rename_i n r' heq
        simp only [List.cons.injEq, and_true] at heq
        obtain ⟨rfl, rfl⟩ := heq
        simp only [Option.map_eq_some_iff] at hb
        obtain ⟨s', hs', rfl⟩ := hb
        cases hd
        obtain ⟨out, k1, k2⟩ := ih l s' (acc.push (UInt8.ofNat n.toNat)) (by simpa using hl) (fun i v e hv he => hr (i + 1) v e (by simpa using hv) (by simpa using he)) hs'
        refine ⟨out, ?_, ?_⟩
        · simp only [List.forIn_cons, Sem.run_bind, hf, Result.andThen_ok]
          exact k1
        · rw [k2]; simp
      · cases hb

theorem view_nil {v : Value} {xv : AV} {sz n c : Nat} {l : List (List D)} (hv : VR G w ι h v xv) (hw : view h xv = some (sz, l)) (hx : v = .slice none n c) : l = [] := by
  cases hv with
  | agg => simp [view] at hw
  | tup => simp [view] at hw
  | c _ x hc =>
    cases hc with
    | u => simp [view] at hw
    | rp => simp [view] at hw
    | ptr => simp [view] at hw
    | fn => simp [view] at hw
    | mp => simp [view] at hw
    | it => simp [view] at hw
    | d _ x hd =>
      cases hd with
      | nils => simp only [view, Option.some.injEq, Prod.mk.injEq] at hw; exact hw.2.symm
      | emp => simp only [view, Option.some.injEq, Prod.mk.injEq] at hw; exact hw.2.symm
      | sl => cases hx
      | _ => simp [view] at hw
    | cl _ nl sz' l' hd _ =>
      simp only [view, Option.some.injEq, Prod.mk.injEq] at hw
      obtain ⟨rfl, rfl⟩ := hw
      cases hd with
      | nils => rfl
      | emp => rfl
      | sl => cases hx
    | arr _ l' ver i n' blk hb ha hk hk0 =>
      simp only [view, hb] at hw
      cases blk with
      | bx => simp at hw
      | dead => simp at hw
      | mp => simp at hw
      | mi => simp at hw
      | da rl v' sz' es =>
        simp only at hw
        split at hw
        · rename_i hv'; subst hv'
          cases rl with
          | false =>
            obtain ⟨_, hn, _⟩ := hk0 sz' es rfl
            subst hn
            simp only [Option.some.injEq, Prod.mk.injEq, List.take_zero] at hw
            exact hw.2.symm
          | true =>
          obtain ⟨b0, o0, cap0, _, _, _, _, h5⟩ := hk sz' es rfl
          rcases h5 with h5 | ⟨_, _, o', h5⟩ <;> (rw [h5] at hx; cases hx)
        · cases hw

theorem l_conv {src dst : TypeId} {x : Operand} (r : Rel N G ι e h a w) (hop : o.op = .convert src dst x) (hs : astep e h (compOp P o) = some (av, h')) :
    OpRes G ι h w av h' ((execOp a.eval o).run P w) := by
  simp only [compOp, hop] at hs
  split at hs
  · rename_i y hy
    have hv := cx_sound hy r
    split at hs
    · rename_i k1 k hu1 hu2
      simp only [astep] at hs
      split at hs
      · rename_i k0 n hn
        simp only [Option.some.injEq, Prod.mk.injEq] at hs
        obtain ⟨rfl, rfl⟩ := hs
        rw [hn] at hv
        have ex := inv_int hv
        exact OpRes.value r.hr (v := .int k (k.wrap n)) (by simp [execOp, hop, ex, convert, r_und hu1, r_und hu2, Conv.intToInt]) (.c _ _ (.d _ _ (.int _ _)))
      · cases hs
    · rename_i el hu1 hu2
      split at hs
      · rename_i hu3
        simp only [astep] at hs
        split at hs
        · rename_i l hl
          simp only [Option.map_eq_some_iff, Prod.mk.injEq] at hs
          obtain ⟨s, hss, rfl, rfl⟩ := hs
          obtain ⟨ad, cap, hx, hcap⟩ := view_len r.hr hv hl
          obtain ⟨vs, c1, c2, c3, c4⟩ := view_cells (P := P) r.hr hv hl
          have hexec : (execOp a.eval o).run P w = ((Conv.bytesToString (a.eval x)).run P w).andThen fun v w' => .ok (.value v) w' := by
            rw [hx]
            simp [execOp, hop, convert, r_und hu1, r_und hu2, r_und hu3, hx]
          cases ad with
          | none =>
            have : l = [] := view_nil hv hl hx
            subst this
            simp only [btsD, Option.some.injEq] at hss
            subst hss
            refine OpRes.value r.hr (v := .string .empty) ?_ (.c _ _ (.d _ _ (.str _)))
            rw [hexec, hx]; rfl
          | some ad =>
            have hld : (loadCells ad l.length).run P w = .ok vs w := by
              rw [hx] at c1
              simpa [Builtin.firstCells] using c1
            have hrel : ∀ (i : Nat) (v : Value) (e : List D), vs.toList[i]? = some v → l[i]? = some e → ∃ x, e = [x] ∧ DR G w v x := by
              intro i v e hv' he
              have hlen := c3 i e he
              cases e with
              | nil => simp at hlen
              | cons x e =>
                cases e with
                | cons => simp at hlen
                | nil =>
                  obtain ⟨y', hy', hd⟩ := c4 i [x] 0 x he rfl
                  refine ⟨x, rfl, ?_⟩
                  simp only [Array.getElem?_toList] at hv'
                  simp only [Nat.mul_one, Nat.add_zero] at hy'
                  rw [hv'] at hy'; cases hy'; exact hd
            have hfor : ∀ (f : Value → ByteArray → Sem (ForInStep ByteArray)), (∀ n s, (f (.int .u8 n) s).run P w = .ok (.yield (s.push (UInt8.ofNat n.toNat))) w) →
                ∃ out : ByteArray, ((forIn vs ByteArray.empty f).run P w).andThen (fun a w' => (pure (Value.string a) : Sem Value).run P w') = .ok (.string out) w ∧ out.data.toList = s := by
              intro f hf
              obtain ⟨out, q1, q2⟩ := bts_run (P := P) f hf vs.toList l s .empty (by simp [c2]) hrel hss
              exact ⟨out, by rw [← Array.forIn_toList, q1]; rfl, by simpa using q2⟩
            have hend : ∃ out : ByteArray, (Conv.bytesToString (.slice (some ad) l.length cap)).run P w = .ok (.string out) w ∧ out.data.toList = s := by
              simp only [Conv.bytesToString, Sem.run_bind, hld, Result.andThen_ok]
              exact hfor _ (fun n s => rfl)
            obtain ⟨out, q1, q2⟩ := hend
            refine OpRes.value r.hr (v := .string out) ?_ ?_
            · rw [hexec, hx, q1]; rfl
            · have : s = out.data.toList := q2.symm
              rw [this]; exact .c _ _ (.d _ _ (.str _))
        · cases hs
      · exact absurd hs bad_step
    · exact absurd hs bad_step
  · exact absurd hs bad_step

theorem oint_sound {lo : Option Operand} {lo' : Option X} {n : Option Int} (r : Rel N G ι e h a w) (hc : ocx P lo = some lo') (ho : oint e lo' = some n) : IR (lo.map a.eval) n := by
  cases lo with
  | none => simp only [ocx, Option.some.injEq] at hc; subst hc; simp only [oint, Option.some.injEq] at ho; subst ho; exact .none
  | some x =>
    simp only [ocx, Option.map_eq_some_iff] at hc
    obtain ⟨y, hy, rfl⟩ := hc
    simp only [oint] at ho
    split at ho
    · rename_i k m hm
      cases ho
      have hv := cx_sound hy r
      rw [hm] at hv
      simp only [Option.map_some, inv_int hv]
      exact .some _ _
    · cases ho

theorem extract_toList (s : ByteArray) (l hh : Nat) : (s.extract l hh).data.toList = (s.data.toList.take hh).drop l := by
  simp only [ByteArray.data_extract, Array.toList_extract, List.extract, List.drop_take]

theorem l_slice {xt : TypeId} {x : Operand} {lo hi mx : Option Operand} (r : Rel N G ι e h a w) (hop : o.op = .slice xt x lo hi mx) (hs : astep e h (compOp P o) = some (av, h')) :
    OpRes G ι h w av h' ((execOp a.eval o).run P w) := by
  simp only [compOp, hop] at hs
  split at hs
  · rename_i x' lo' hi' mx' hx hlo hhi hmx
    have hv := cx_sound hx r
    split at hs
    · rename_i hu
      split at hs
      · rename_i hmx0
        simp only [astep] at hs
        split at hs
        · rename_i nlo nhi s hnlo hnhi hstr
          simp only [Option.map_eq_some_iff, Prod.mk.injEq] at hs
          obtain ⟨⟨l, hh, m⟩, hb, rfl, rfl⟩ := hs
          rw [hstr] at hv
          obtain ⟨bs, ex, ebs⟩ := inv_str hv
          have hsz : bs.size = s.length := by rw [str_size, ebs]
          obtain ⟨q1, q2, q3, q4⟩ := slb_run (P := P) (w := w) (isS := false) (oint_sound r hlo hnlo) (oint_sound r hhi hnhi) IR.none hb (Nat.le_refl _)
          have hmxn : mx = none := by
            cases mx with
            | none => rfl
            | some y => simp [ocx] at hmx
          subst hmxn
          refine OpRes.value r.hr (v := .string (bs.extract l hh)) ?_ ?_
          · simp only [execOp, hop, Sem.run_bind, Instr.sliceAt, r_und hu, Result.andThen_ok, Option.map_none, Instr.slice, ex, Option.isSome_none, Bool.false_eq_true, if_false, hsz, q1, Sem.run_pure]
          · rw [← ebs, ← extract_toList]; exact .c _ _ (.d _ _ (.str _))
        · cases hs
      · exact absurd hs bad_step
    · rename_i el hu
      split at hs
      · rename_i ti hti
        simp only [astep] at hs
        split at hs
        · rename_i nlo nhi nmx hnlo hnhi hnmx
          have key : ∀ av', slv ti.size (ev e x') nlo nhi nmx = some av' → (∀ l v i n, ev e x' = .c (.arr l v i n) → ∃ r es, h[l]? = some (.da r v ti.size es)) → OpRes G ι h w av' h ((execOp a.eval o).run P w) := by
            intro av' h1 h2
            obtain ⟨v', k1, k2⟩ := s_sl (P := P) hv hu hti rfl (oint_sound r hlo hnlo) (oint_sound r hhi hnhi) (oint_sound r hmx hnmx) h1 h2
            exact OpRes.value r.hr (by simp only [execOp, hop, Sem.run_bind, k1, Result.andThen_ok, Sem.run_pure]) k2
          split at hs
          · rename_i l v i n harr
            split at hs
            · rename_i rl v' sz' es hes
              split at hs
              · rename_i hcond
                obtain ⟨rfl, rfl⟩ := hcond
                simp only [Option.map_eq_some_iff, Prod.mk.injEq] at hs
                obtain ⟨av', h1, rfl, rfl⟩ := hs
                refine key _ (by rw [harr]; exact h1) fun l2 v2 i2 n2 h2 => ?_
                rw [harr] at h2; cases h2; exact ⟨_, _, hes⟩
              · cases hs
            · cases hs
          · rename_i hnot
            simp only [Option.map_eq_some_iff, Prod.mk.injEq] at hs
            obtain ⟨av', h1, rfl, rfl⟩ := hs
            exact key _ h1 fun l2 v2 i2 n2 h2 => absurd h2 (hnot l2 v2 i2 n2)
        · cases hs
      · exact absurd hs bad_step
    · exact absurd hs bad_step
  · exact absurd hs bad_step

theorem l_fa {s : TypeId} {x : Operand} {f : Nat} (r : Rel N G ι e h a w) (hop : o.op = .fieldAddr s x f) (hs : astep e h (compOp P o) = some (av, h')) :
    OpRes G ι h w av h' ((execOp a.eval o).run P w) := by
  simp only [compOp, hop] at hs
  split at hs
  · rename_i x' fs hx hu
    have hv := cx_sound hx r
    split at hs
    · rename_i fl hf
      split at hs
      · rename_i ti hti
        split at hs
        · rename_i hz
          simp only [astep] at hs
          split at hs
          · rename_i cs hcs
            simp only [Option.some.injEq, Prod.mk.injEq] at hs
            obtain ⟨rfl, rfl⟩ := hs
            rw [hcs] at hv
            obtain ⟨v, k1, k2⟩ := s_fa (P := P) hv hu hf hti hz
            exact OpRes.value r.hr (by simp only [execOp, hop, Sem.run_bind, k1, Result.andThen_ok, Sem.run_pure]) k2
          · rename_i l v i j hcs
            split at hs
            · rename_i hsol
              simp only [Option.some.injEq, Prod.mk.injEq] at hs
              obtain ⟨rfl, rfl⟩ := hs
              rw [hcs] at hv
              obtain ⟨v', k1, k2⟩ := s_fap (P := P) hv hsol hu hf hti hz
              exact OpRes.value r.hr (by simp only [execOp, hop, Sem.run_bind, k1, Result.andThen_ok, Sem.run_pure]) k2
            · cases hs
          · cases hs
        · exact absurd hs bad_step
      · exact absurd hs bad_step
    · exact absurd hs bad_step
  · exact absurd hs bad_step

/-- a part of an aggregate -/
theorem part_sound {t : TypeId} {n : Option Nat} {cs : Array Value} {l : List CV} {off : Nat} {x : AV} (hk : ldk P t = some n) (hn : cs.size = l.length)
    (hc : ∀ (i : Nat) (v : Value) (x : CV), cs[i]? = some v → l[i]? = some x → CR G w ι h v x)
    (hx : (n = none ∧ ∃ c, l[off]? = some c ∧ x = .c c) ∨ (∃ m, n = some m ∧ off + m ≤ l.length ∧ x = .agg ((l.drop off).take m))) :
    ∃ v, (part t cs off).run P w = .ok v w ∧ VR G w ι h v x := by
  rcases hx with ⟨rfl, c, hl, rfl⟩ | ⟨m, rfl, hm, rfl⟩
  · have hlt := get_lt hl
    have h1 : cs[off]? = some cs[off] := Array.getElem?_eq_getElem (by omega)
    exact ⟨cs[off], by simp [part, ldk_none hk, h1], .c _ _ (hc off _ c h1 hl)⟩
  · obtain ⟨k1, k2⟩ := ldk_some (w := w) hk
    refine ⟨.agg (cs.extract off (off + m)), by simp [part, k1, k2], .agg _ _ (by simp; omega) fun i v x hv hx => ?_⟩
    have hi : i < m := by have := get_lt hx; simp at this; omega
    rw [Array.getElem?_extract_of_lt (by omega)] at hv
    rw [List.getElem?_take, if_pos hi, List.getElem?_drop] at hx
    exact hc (off + i) v x (by rw [Array.getElem?_eq_getElem (by omega)]; exact hv) hx

theorem l_field {t : TypeId} {x : Operand} {f : Nat} (r : Rel N G ι e h a w) (hop : o.op = .field t x f) (hs : astep e h (compOp P o) = some (av, h')) :
    OpRes G ι h w av h' ((execOp a.eval o).run P w) := by
  simp only [compOp, hop] at hs
  split at hs
  · rename_i x' fs hx hu
    have hv := cx_sound hx r
    split at hs
    · rename_i fl hf
      split at hs
      · rename_i n hn
        have fin : ∀ l av', ev e x' = .agg l → ((n = none ∧ ∃ c, l[fl.offset]? = some c ∧ av' = .c c) ∨ (∃ m, n = some m ∧ fl.offset + m ≤ l.length ∧ av' = .agg ((l.drop fl.offset).take m))) →
            OpRes G ι h w av' h ((execOp a.eval o).run P w) := by
          intro l av' hl hcase
          rw [hl] at hv
          obtain ⟨cs, ex, e2, e3⟩ := inv_agg hv
          obtain ⟨v, k1, k2⟩ := part_sound (P := P) hn e2 e3 hcase
          exact OpRes.value r.hr (by simp only [execOp, hop, Sem.run_bind, Instr.field, r_und hu, Result.andThen_ok, hf, ex, asAgg, k1, Sem.run_pure]) k2
        cases n with
        | none =>
          simp only [astep] at hs
          split at hs
          · rename_i l hl
            simp only [Option.map_eq_some_iff, Prod.mk.injEq] at hs
            obtain ⟨c, hc, rfl, rfl⟩ := hs
            exact fin l _ hl (.inl ⟨rfl, c, hc, rfl⟩)
          · cases hs
        | some m =>
          simp only [astep] at hs
          split at hs
          · rename_i l hl
            split at hs
            · rename_i hm
              simp only [Option.some.injEq, Prod.mk.injEq] at hs
              obtain ⟨rfl, rfl⟩ := hs
              exact fin l _ hl (.inr ⟨m, rfl, hm, rfl⟩)
            · cases hs
          · cases hs
      · exact absurd hs bad_step
    · exact absurd hs bad_step
  · exact absurd hs bad_step

theorem l_ia {t : TypeId} {x i : Operand} (r : Rel N G ι e h a w) (hop : o.op = .indexAddr t x i) (hs : astep e h (compOp P o) = some (av, h')) :
    OpRes G ι h w av h' ((execOp a.eval o).run P w) := by
  simp only [compOp, hop] at hs
  split at hs
  · rename_i x' i' el hx hi hu
    have hv := cx_sound hx r
    split at hs
    · rename_i ti hti
      simp only [astep] at hs
      split at hs
      · rename_i k n hn
        simp only [Option.map_eq_some_iff, Prod.mk.injEq] at hs
        obtain ⟨av', h1, rfl, rfl⟩ := hs
        have hiv := cx_sound hi r
        rw [hn] at hiv
        obtain ⟨v', k1, k2⟩ := s_ias (P := P) (k := k) hv hu hti rfl h1
        exact OpRes.value r.hr (by simp only [execOp, hop, Sem.run_bind, inv_int hiv, k1, Result.andThen_ok, Sem.run_pure]) k2
      · cases hs
    · exact absurd hs bad_step
  · rename_i x' i' n el hx hi hu
    have hv := cx_sound hx r
    split at hs
    · rename_i ti hti
      simp only [astep] at hs
      split at hs
      · rename_i k m hn
        have hiv := cx_sound hi r
        rw [hn] at hiv
        split at hs
        · rename_i hm
          split at hs
          · rename_i cs hcs
            simp only [Option.some.injEq, Prod.mk.injEq] at hs
            obtain ⟨rfl, rfl⟩ := hs
            rw [hcs] at hv
            obtain ⟨b, o', ex, hG, hc⟩ := inv_rp hv
            refine OpRes.value r.hr (v := .pointer (some ⟨b, o' + m.toNat * ti.size, none⟩)) ?_ (.c _ _ (.rp _ _ _ hG fun j y hy => ?_))
            · simp [execOp, hop, inv_int hiv, Instr.indexAt, asIntOf, r_und hu, ex, Instr.sureAddr, hm, r_size hti, add_none]
            · rw [List.getElem?_drop] at hy
              obtain ⟨v, q1, q2⟩ := hc _ y hy
              exact ⟨v, by rw [Nat.add_assoc]; exact q1, q2⟩
          · rename_i l v p j hcs
            split at hs
            · rename_i hsol
              simp only [Option.some.injEq, Prod.mk.injEq] at hs
              obtain ⟨rfl, rfl⟩ := hs
              rw [hcs] at hv
              obtain ⟨blk, b, o', q, h1, h2, h3, h4, ex⟩ := ptr_at (inv_c hv) hsol
              refine OpRes.value r.hr (v := .pointer (some ⟨b, o' + q + m.toNat * ti.size, none⟩)) ?_ (.c _ _ (.ptr _ _ _ _ _ blk h1 h2 fun q' hq' => ⟨b, o', h3, ?_⟩))
              · simp [execOp, hop, inv_int hiv, Instr.indexAt, asIntOf, r_und hu, ex, Instr.sureAddr, hm, r_size hti, add_none]
              · rw [off_some h4] at hq'; cases hq'; simp [Nat.add_assoc]
            · cases hs
          · cases hs
        · cases hs
      · cases hs
    · exact absurd hs bad_step
  · exact absurd hs bad_step

theorem l_index {t : TypeId} {x i : Operand} (r : Rel N G ι e h a w) (hop : o.op = .index t x i) (hs : astep e h (compOp P o) = some (av, h')) :
    OpRes G ι h w av h' ((execOp a.eval o).run P w) := by
  simp only [compOp, hop] at hs
  split at hs
  · rename_i x' i' hx hi hu
    simp only [astep] at hs
    split at hs
    · rename_i s k n h1 h2
      split at hs
      · rename_i hn
        simp only [Option.map_eq_some_iff, Prod.mk.injEq] at hs
        obtain ⟨b, hb, rfl, rfl⟩ := hs
        have hv := cx_sound hx r
        have hiv := cx_sound hi r
        rw [h1] at hv; rw [h2] at hiv
        obtain ⟨bs, ex, ebs⟩ := inv_str hv
        have hbs : bs[n.toNat]? = some b := by
          have hlt := get_lt hb
          have hlt' : n.toNat < bs.size := by rw [str_size, ebs]; exact hlt
          rw [getElem?_pos bs n.toNat hlt']
          have : bs[n.toNat] = bs.data.toList[n.toNat]'(by simpa using hlt') := by simp; rfl
          rw [this]
          simp only [ebs]
          rw [← hb, List.getElem?_eq_getElem hlt]
        exact OpRes.value r.hr (v := .int .u8 b.toNat) (by simp [execOp, hop, inv_int hiv, ex, Instr.index, asIntOf, r_und hu, hn, hbs]) (.c _ _ (.d _ _ (.int _ _)))
      · cases hs
    · cases hs
  · rename_i x' i' n el hx hi hu
    split at hs
    · rename_i ti kk hti hkk
      simp only [astep] at hs
      split at hs
      · rename_i l k m h1 h2
        have hv := cx_sound hx r
        have hiv := cx_sound hi r
        rw [h1] at hv; rw [h2] at hiv
        obtain ⟨cs, ex, e2, e3⟩ := inv_agg hv
        split at hs
        · rename_i hm
          have fin : ∀ av', ((kk = none ∧ ∃ c, l[m.toNat * ti.size]? = some c ∧ av' = .c c) ∨ (∃ q, kk = some q ∧ m.toNat * ti.size + q ≤ l.length ∧ av' = .agg ((l.drop (m.toNat * ti.size)).take q))) →
              OpRes G ι h w av' h ((execOp a.eval o).run P w) := by
            intro av' hcase
            obtain ⟨v, k1, k2⟩ := part_sound (P := P) hkk e2 e3 hcase
            exact OpRes.value r.hr (by simp [execOp, hop, inv_int hiv, ex, Instr.index, asIntOf, r_und hu, hm, r_size hti, k1]) k2
          cases kk with
          | none =>
            simp only [Option.isSome_none, Bool.false_eq_true, if_false, Option.map_eq_some_iff, Prod.mk.injEq] at hs
            obtain ⟨c, hc, rfl, rfl⟩ := hs
            exact fin _ (.inl ⟨rfl, c, hc, rfl⟩)
          | some q =>
            have hq : q = ti.size := by
              obtain ⟨_, k2⟩ := ldk_some (w := w) hkk
              rw [r_size hti] at k2; cases k2; rfl
            subst hq
            simp only [Option.isSome_some, if_true] at hs
            split at hs
            · rename_i hle
              simp only [Option.some.injEq, Prod.mk.injEq] at hs
              obtain ⟨rfl, rfl⟩ := hs
              exact fin _ (.inr ⟨_, rfl, hle, rfl⟩)
            · cases hs
        · cases hs
      · cases hs
    · exact absurd hs bad_step
  · exact absurd hs bad_step

theorem l_ext {x : Operand} {i : Nat} (r : Rel N G ι e h a w) (hop : o.op = .extract x i) (hs : astep e h (compOp P o) = some (av, h')) :
    OpRes G ι h w av h' ((execOp a.eval o).run P w) := by
  simp only [compOp, hop] at hs
  split at hs
  · rename_i x' hx
    simp only [astep] at hs
    split at hs
    · rename_i l hl
      simp only [Option.map_eq_some_iff, Prod.mk.injEq] at hs
      obtain ⟨v, hv, rfl, rfl⟩ := hs
      have hv0 := cx_sound hx r
      rw [hl] at hv0
      obtain ⟨cs, ex, e2, e3⟩ := inv_tup hv0
      have hlt := get_lt hv
      have h1 : cs[i]? = some cs[i] := Array.getElem?_eq_getElem (by omega)
      exact OpRes.value r.hr (v := cs[i]) (by simp [execOp, hop, ex, Instr.extract, h1]) (e3 i _ v h1 hv)
    · cases hs
  · exact absurd hs bad_step

theorem l_mks {t : TypeId} {l c : Operand} (r : Rel N G ι e h a w) (hop : o.op = .makeSlice t l c) (hs : astep e h (compOp P o) = some (av, h')) :
    OpRes G ι h w av h' ((execOp a.eval o).run P w) := by
  simp only [compOp, hop] at hs
  split at hs
  · rename_i el l' c' hu hl hc
    split at hs
    · rename_i z ti hz hti
      simp only [astep] at hs
      split at hs
      · rename_i k n k' m h1 h2
        split at hs
        · rename_i hcond
          simp only [Option.some.injEq, Prod.mk.injEq] at hs
          obtain ⟨rfl, rfl⟩ := hs
          have hv := cx_sound hl r
          have hv' := cx_sound hc r
          rw [h1] at hv; rw [h2] at hv'
          obtain ⟨v, w', G', ι', k1, k2, k3, k4⟩ := s_mks (k := k) (k' := k') r.hr hu hz hti hcond.1 hcond.2.1 hcond.2.2.2 hcond.2.2.1
          exact ⟨v, w', G', ι', .inl (by simp only [execOp, hop, Sem.run_bind, inv_int hv, inv_int hv', k1, Result.andThen_ok, Sem.run_pure]), k2, k3, k4⟩
        · cases hs
      · cases hs
    · exact absurd hs bad_step
  · exact absurd hs bad_step

end
end Go.Ab
