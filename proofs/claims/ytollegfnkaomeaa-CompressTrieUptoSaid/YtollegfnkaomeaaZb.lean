/-
  Merged texts, part b.
-/
import Derived.Test.YtollegfnkaomeaaZa
import Derived.Laws.Sem
/-
  The engine, part c: operations on abstract values that make no memory and write none, and what each does in the model.
-/
namespace Go.Ab
inductive X where
 | t (n : Nat)
 | k (v : AV)
 deriving Inhabited
def ev (e : Env) : X → AV
 | .t n => lk e n
 | .k v => v
def cells : AV → Option (List CV)
 | .c .u => none
 | .c x => some [x]
 | .agg l => some l
 | .tup _ => none
theorem DR.one {G : Nat → Prop} {w : World} {v : Value} {x : D} (h : DR G w v x) : v.oneCell' = true ∧ v.cells = #[v] := by
 cases h <;> exact ⟨rfl, rfl⟩
def solid (h : Hp) : CV → Bool
 | .u => false
 | .ptr l v i j => match h[l]? with
  | some k => (k.off v i j).isSome
  | none => false
 | .arr l v _ _ => match h[l]? with
  | some (.da _ v' _ _) => v' == v
  | _ => false
 | .mp l => match h[l]? with
  | some (.mp _ _) => true
  | _ => false
 | .it l => match h[l]? with
  | some (.mi _ _ _) => true
  | _ => false
 | _ => true
theorem CR.one {G : Nat → Prop} {w : World} {ι : Io} {h : Hp} {v : Value} {x : CV} (hx : CR G w ι h v x) (hs : solid h x = true) :
  v.oneCell' = true ∧ v.cells = #[v] := by
 cases hx with
 | u => simp [solid] at hs
 | d _ x hd => exact hd.one
 | cl _ nl sz l hd _ => exact hd.one
 | rp => exact ⟨rfl, rfl⟩
 | ptr _ l ver i j blk hb ha hk =>
  simp only [solid, hb, Option.isSome_iff_exists] at hs
  obtain ⟨k, hk'⟩ := hs
  obtain ⟨b, o, _, rfl⟩ := hk k hk'
  exact ⟨rfl, rfl⟩
 | arr _ l ver i n blk hb ha hk hk0 =>
  simp only [solid, hb] at hs
  cases blk with
  | bx => simp at hs
  | dead => simp at hs
  | mp => simp at hs
  | mi => simp at hs
  | am => simp at hs
  | da rl v' sz es =>
   simp only [beq_iff_eq] at hs; subst hs
   cases rl with
   | false => obtain ⟨_, _, rfl⟩ := hk0 sz es rfl; exact ⟨rfl, rfl⟩
   | true =>
   obtain ⟨b, o, cap, _, _, _, _, h5⟩ := hk sz es rfl
   rcases h5 with rfl | ⟨_, _, o', rfl⟩ <;> exact ⟨rfl, rfl⟩
 | mp _ l blk hb hk =>
  simp only [solid, hb] at hs
  cases blk <;> simp at hs
  obtain ⟨b, o, _, rfl⟩ := hk _ _ rfl
  exact ⟨rfl, rfl⟩
 | it _ l blk hb hk =>
  simp only [solid, hb] at hs
  cases blk <;> simp at hs
  obtain ⟨b, o, _, rfl⟩ := hk _ _ _ rfl
  exact ⟨rfl, rfl⟩
 | fn v b f vs caps hv hn hc => subst hv; cases b <;> (unfold fnV; split <;> exact ⟨rfl, rfl⟩)
def cellsOk (h : Hp) (l : List CV) : Bool := l.all (solid h)
theorem VR.cells {G : Nat → Prop} {w : World} {ι : Io} {h : Hp} {v : Value} {av : AV} {cs : List CV} (hx : VR G w ι h v av) (hc : cells av = some cs)
  (hs : cellsOk h cs = true) :
  v.cells.size = cs.length ∧ (∀ (i : Nat) (y : Value) (x : CV), v.cells[i]? = some y → cs[i]? = some x → CR G w ι h y x) := by
 cases hx with
 | c _ x hcx =>
  cases hcx' : x with
  | u => subst hcx'; simp [Ab.cells] at hc
  | _ =>
   all_goals
    have hx0 := hcx'
    subst hcx'
    simp only [Ab.cells, Option.some.injEq] at hc
    subst hc
    have h1 := hcx.one (by simpa [cellsOk] using hs)
    rw [h1.2]
    refine ⟨rfl, fun i y z hy hz => ?_⟩
    cases i with
    | zero => simp at hy hz; subst hy hz; exact hcx
    | succ i => simp at hy
 | agg cs' l hn hcc =>
  simp only [Ab.cells, Option.some.injEq] at hc
  subst hc
  exact ⟨hn, hcc⟩
 | tup => simp [Ab.cells] at hc
def cvD : D → CV
 | .rp cs => .rp cs
 | x => .d x
theorem cvD_rel {G : Nat → Prop} {w : World} {ι : Io} {h : Hp} {v : Value} {x : D} (hd : DR G w v x) : CR G w ι h v (cvD x) := by
 cases hd with
 | rp b o cs g hG hc hr => exact .rp b o cs hG fun j x hx => ⟨_, hc j x hx, hr j x hx⟩
 | bool b => exact .d _ _ (.bool b)
 | int k n => exact .d _ _ (.int k n)
 | str s => exact .d _ _ (.str s)
 | nils nl sz => exact .d _ _ (.nils nl sz)
 | emp a sz => exact .d _ _ (.emp a sz)
 | nilp => exact .d _ _ .nilp
 | nilm => exact .d _ _ .nilm
 | nilf => exact .d _ _ .nilf
 | nili => exact .d _ _ .nili
 | adr b o => exact .d _ _ (.adr b o)
 | slA b o sz n cap => exact .d _ _ (.slA b o sz n cap)
 | yl l => exact .d _ _ (.yl l)
 | mpf b clock ces es0 es hp hG hb hlen hst hk hv => exact .d _ _ (.mpf b clock ces es0 es hp hG hb hlen hst hk hv)
 | sl b off cap sz l g hG hcap hmax hsz hc hr => exact .d _ _ (.sl b off cap sz l g hG hcap hmax hsz hc hr)
def mup (m : Ar) (b : Nat) (x : AB) : Ar := fun i => if i = b then some x else m i
def mdel (m : Ar) (b : Nat) : Ar := fun i => if i = b then none else m i
theorem mup_at (m : Ar) (b : Nat) (x : AB) : mup m b x b = some x := if_pos rfl
theorem mup_ne {m : Ar} {b i : Nat} {x : AB} (h : i ≠ b) : mup m b x i = m i := if_neg h
theorem mdel_at (m : Ar) (b : Nat) : mdel m b b = none := if_pos rfl
theorem mdel_ne {m : Ar} {b i : Nat} (h : i ≠ b) : mdel m b i = m i := if_neg h
section
variable {G : Nat → Prop} {w : World} {ι : Io} {h : Hp} {m : Ar} {b : Nat} {x : AB}
theorem am_owned (h0 : h[0]? = some (.am m)) (hx : m b = some x) : owned ι h b := ⟨0, _, h0, x, hx⟩
theorem HR.am_set {w' : World} {x0 : AB} (r : HR G ι h w) (h0 : h[0]? = some (.am m)) (hx0 : m b = some x0) (hsize : w'.heap.size = w.heap.size) (hother : ∀ c, c ≠ b → w'.heap[c]? = w.heap[c]?)
    (ha : ABR G w' b x) (hq : Quiet w w') : HR G ι (h.set 0 (.am (mup m b x))) w' ∧ Ext G ι h w G ι (h.set 0 (.am (mup m b x))) w' := by
  have hsub : ∀ c, own1 ι 0 (.am (mup m b x)) c → own1 ι 0 (.am m) c := by
    intro c ⟨y, hy⟩
    by_cases hc : c = b
    · subst hc; exact ⟨x0, hx0⟩
    · rw [mup_ne hc] at hy; exact ⟨y, hy⟩
  have hob : owned ι h b := am_owned h0 hx0
  have hg : ∀ c, G c → G c ∧ w'.heap[c]? = w.heap[c]? := fun c hc => ⟨hc, hother c fun e => (r.g c hc).2 (e ▸ hob)⟩
  have hne : ∀ l k, h[l]? = some k → l ≠ 0 → ∀ c, own1 ι l k c → w'.heap[c]? = w.heap[c]? := fun l k hk hl c hc => hother c fun e => hl (by subst e; exact (r.own 0 l c _ k h0 hk ⟨x0, hx0⟩ hc).symm)
  have hkeep : ∀ l k, h[l]? = some k → ∃ k', (h.set 0 (.am (mup m b x)))[l]? = some k' ∧ Kept ι ι w w' l k k' := by
    intro l k hk
    by_cases e : l = 0
    · subst e
      rw [h0] at hk; cases hk
      exact ⟨.am (mup m b x), by rw [List.getElem?_set_self (get_lt h0)], trivial⟩
    · exact ⟨k, by rw [List.getElem?_set_ne (fun q => e q.symm)]; exact hk, Kept.frame rfl (hne l k hk e)⟩
  refine ⟨?_, ?_⟩
  · exact
      { len := by simp [r.len]
        own := by
          intro l l' c k k' h1 h2 h3 h4
          rcases get_set h1 with ⟨e1, e2, _⟩ | ⟨e1, e2⟩ <;> rcases get_set h2 with ⟨f1, f2, _⟩ | ⟨f1, f2⟩
          · omega
          · subst e1 e2; exact r.own _ _ c _ k' h0 f2 (hsub c h3) h4
          · subst f1 f2; exact r.own _ _ c k _ e2 h0 h3 (hsub c h4)
          · exact r.own l l' c k k' e2 f2 h3 h4
        g := fun c hc => ⟨by rw [hsize]; exact (r.g c hc).1, fun ho => (r.g c hc).2 (owned_set h0 (hsub c) ho)⟩
        blk := fun l k hk => by
          rcases get_set hk with ⟨e1, e2, _⟩ | ⟨e1, e2⟩
          · subst e1 e2
            intro c y hy
            by_cases hc : c = b
            · subst hc; rw [mup_at] at hy; cases hy; exact ha
            · rw [mup_ne hc] at hy; exact (r.blk 0 _ h0 c y hy).mono hg (hother c hc)
          · exact BR.carry hg hkeep (r.blk l k e2) rfl (hne l k e2 e1) }
  · exact
      { size := by omega
        quiet := hq
        frame := fun c _ ho => hother c fun e => ho (e ▸ hob)
        gmono := fun _ h => h
        gnew := fun _ h => .inl h
        onew := fun c ho => .inl (owned_set h0 (hsub c) ho)
        keep := hkeep }
end
def amRd (h : Hp) (b o : Nat) : Option (List CV) := match h with
 | .am m :: _ => (match m b with
  | some (.cs _ xs) => some ((xs.drop o).map .d)
  | _ => none)
 | _ => none
def rd (h : Hp) : AV → Option (List CV)
 | .c (.d (.adr b o)) => amRd h b o
 | .c (.rp cs) => some (cs.map cvD)
 | .c (.ptr l v i j) => match h[l]? with
  | some (.bx cs) => if i = 0 then some (cs.drop j) else none
  | some (.da _ v' _ es) => if v' = v then
    match es[i]? with
    | some e => some ((e.drop j).map .d)
    | none => none
   else none
  | _ => none
 | _ => none
theorem cell_of {w : World} {b o : Nat} {c : Array Value} {t : TypeId} {fr : Nat × Nat} (h : w.heap[b]? = some (.cells c t fr)) : w.cell? ⟨b, o, none⟩ = c[o]? := by
 simp [World.cell?, h]
theorem rd_sound {G : Nat → Prop} {w : World} {ι : Io} {h : Hp} {v : Value} {av : AV} {cs : List CV} (r : HR G ι h w) (hx : VR G w ι h v av) (hc : rd h av = some cs) :
  ∃ b o, v = .pointer (some ⟨b, o, none⟩) ∧ ∀ (j : Nat) (x : CV), cs[j]? = some x → ∃ y, w.cell? ⟨b, o + j, none⟩ = some y ∧ CR G w ι h y x := by
 cases hx with
 | agg => simp [rd] at hc
 | tup => simp [rd] at hc
 | c _ x hcx =>
  cases hcx with
  | u => simp [rd] at hc
  | d _ x hd =>
   cases hd with
   | adr b o =>
    simp only [rd] at hc
    unfold amRd at hc
    split at hc
    ·rename_i m rest
     split at hc
     ·rename_i N xs hx
      cases hc
      obtain ⟨c, t, fr, a1, a2, a3, a4, a5⟩ := r.blk 0 _ rfl b _ hx
      refine ⟨b, o, rfl, fun j x hx => ?_⟩
      simp only [List.getElem?_map, Option.map_eq_some_iff, List.getElem?_drop] at hx
      obtain ⟨d, hd, rfl⟩ := hx
      obtain ⟨y, hy, hdr⟩ := a5 _ d hd
      exact ⟨y, by rw [cell_of a1]; exact hy, .d _ _ hdr⟩
     ·cases hc
    ·cases hc
   | _ => simp [rd] at hc
  | cl => simp [rd] at hc
  | arr => simp [rd] at hc
  | mp => simp [rd] at hc
  | it => simp [rd] at hc
  | fn => simp [rd] at hc
  | rp b o ds hG hds =>
   simp only [rd, Option.some.injEq] at hc
   subst hc
   refine ⟨b, o, rfl, fun j x hx => ?_⟩
   simp only [List.getElem?_map, Option.map_eq_some_iff] at hx
   obtain ⟨d, hd, rfl⟩ := hx
   obtain ⟨y, hy, hdr⟩ := hds j d hd
   exact ⟨y, hy, cvD_rel hdr⟩
  | ptr _ l ver i j blk hb ha hk =>
   simp only [rd, hb] at hc
   have hbr := r.blk l blk hb
   cases blk with
   | dead => simp at hc
   | mp => simp at hc
   | mi => simp at hc
   | am => simp at hc
   | bx bs =>
    simp only at hc
    split at hc
    ·rename_i hi0
     subst hi0
     cases hc
     obtain ⟨b, o, h1, rfl⟩ := hk j (by simp [Blk.off])
     obtain ⟨b', o', c, t, fr, g1, g2, g3, g4, g5⟩ := hbr
     rw [h1] at g1; cases g1
     refine ⟨b, o + j, rfl, fun k x hx => ?_⟩
     rw [List.getElem?_drop] at hx
     obtain ⟨y, hy, hcr⟩ := g5 (j + k) x hx
     exact ⟨y, by rw [cell_of g2, Nat.add_assoc]; exact hy, hcr⟩
    ·cases hc
   | da rl v' sz es =>
    simp only at hc
    split at hc
    ·rename_i hv
     subst hv
     split at hc
     ·rename_i e he
      cases hc
      cases rl with
      | false => simp only [BR] at hbr; subst hbr; simp at he
      | true =>
      obtain ⟨b, o, h1, rfl⟩ := hk (i * sz + j) (by simp [Blk.off])
      obtain ⟨b', o', c, t, fr, hmx, g1, g2, g3, g4, g5, g6⟩ := hbr
      rw [h1] at g1; cases g1
      refine ⟨b, o + (i * sz + j), rfl, fun k x hx => ?_⟩
      simp only [List.getElem?_map, Option.map_eq_some_iff, List.getElem?_drop] at hx
      obtain ⟨d, hd, rfl⟩ := hx
      obtain ⟨y, hy, hdr⟩ := g6 i e (j + k) d he hd
      refine ⟨y, ?_, .d _ _ hdr⟩
      rw [cell_of g2, ← hy]
      congr 1; omega
     ·cases hc
    ·cases hc
theorem loadCells_run (P : Program) (w : World) (b o : Nat) (f : Nat → Value) : ∀ (n i : Nat) (acc : Array Value),
  (∀ j, j < n → w.cell? ⟨b, o + (i + j), none⟩ = some (f (i + j))) →
  (loadCellsFrom ⟨b, o, none⟩ i n acc).run P w = .ok (acc ++ (Array.ofFn (n := n) fun j => f (i + j))) w := by
 intro n
 induction n with
 | zero => intro i acc _; simp [loadCellsFrom]
 | succ n ih =>
  intro i acc hf
  have h0 : w.cell? ((⟨b, o, none⟩ : Addr).add i) = some (f i) := by
   have := hf 0 (by omega)
   simp only [Nat.add_zero] at this
   unfold Addr.add
   split
   ·rename_i hi; subst hi; exact this
   ·exact this
  simp only [loadCellsFrom, Sem.run_bind, run_load, h0, Result.andThen_ok]
  rw [ih (i + 1) (acc.push (f i)) (fun j hj => by
   have := hf (j + 1) (by omega)
   rw [show i + 1 + j = i + (j + 1) by omega]; exact this)]
  congr 1
  rw [Array.push_eq_append, Array.append_assoc]
  congr 1
  apply Array.ext
  ·simp; omega
  ·intro k h1 h2
   simp only [Array.size_append, Array.size_ofFn] at h1
   cases k with
   | zero => simp
   | succ k =>
    rw [Array.getElem_append_right (by simp)]
    simp
    congr 1; omega
theorem loadCells_sound {G : Nat → Prop} {ι : Io} {h : Hp} (P : Program) {w : World} {b o n : Nat} {cs : List CV}
  (hc : ∀ (j : Nat) (x : CV), cs[j]? = some x → ∃ y, w.cell? ⟨b, o + j, none⟩ = some y ∧ CR G w ι h y x) (hn : n ≤ cs.length) :
  ∃ vs : Array Value, (loadCells ⟨b, o, none⟩ n).run P w = .ok vs w ∧ vs.size = n ∧ ∀ (i : Nat) (v : Value) (x : CV), vs[i]? = some v → cs[i]? = some x → CR G w ι h v x := by
 have hcell : ∀ j, j < n → w.cell? ⟨b, o + (0 + j), none⟩ = some ((w.cell? ⟨b, o + (0 + j), none⟩).getD undef) := by
  intro j hj
  have hj' : cs[j]? = some (cs[j]'(by omega)) := List.getElem?_eq_getElem (by omega)
  obtain ⟨y, hy, _⟩ := hc j _ hj'
  simp [hy]
 have := loadCells_run P w b o (fun k => (w.cell? ⟨b, o + k, none⟩).getD undef) n 0 #[] hcell
 refine ⟨_, this, by simp, fun i v x hv hx => ?_⟩
 obtain ⟨y, hy, hcr⟩ := hc i x hx
 simp only [Array.empty_append] at hv
 have hin : i < n := by
  rcases Nat.lt_or_ge i n with h' | h'
  ·exact h'
  ·rw [Array.getElem?_eq_none (by simpa using h')] at hv; cases hv
 rw [Array.getElem?_eq_getElem (by simpa using hin)] at hv
 simp only [Array.getElem_ofFn, Nat.zero_add, hy, Option.getD_some, Option.some.injEq] at hv
 subst hv; exact hcr
def wr (h : Hp) (p : AV) (cs : List CV) : Option Hp :=
 match p with
 | .c (.ptr l _ i j) => match h[l]? with
  | some (.bx bs) => if i = 0 ∧ j + cs.length ≤ bs.length then some (h.set l (.bx (bs.take j ++ (cs ++ bs.drop (j + cs.length))))) else none
  | _ => none
 | _ => none
def fgD : D → D
 | .list _ sz l => .list false sz l
 | x => x
theorem DR.fg {G : Nat → Prop} {w : World} {v : Value} {x : D} (hx : DR G w v x) : DR G w v (fgD x) := by
 cases hx with
 | nils nl sz => exact .nils false sz
 | emp a sz => exact .emp a sz
 | sl b off cap sz l g hG hcap hmax hsz hc hr => exact .sl b off cap sz l g hG hcap hmax hsz hc hr
 | bool b => exact .bool b
 | int k n => exact .int k n
 | str s => exact .str s
 | nilp => exact .nilp
 | nilm => exact .nilm
 | nilf => exact .nilf
 | nili => exact .nili
 | adr b o => exact .adr b o
 | slA b o sz n cap => exact .slA b o sz n cap
 | yl l => exact .yl l
 | mpf b clock ces es0 es hp hG hb hlen hst hk hv => exact .mpf b clock ces es0 es hp hG hb hlen hst hk hv
 | rp b o cs g hG hc hr => exact .rp b o cs g hG hc hr
def fgC : CV → CV
 | .d x => .d (fgD x)
 | .cl _ sz l => .d (.list false sz l)
 | x => x
def fgA : AV → AV
 | .c x => .c (fgC x)
 | .agg l => .agg (l.map fgC)
 | x => x
theorem CR.fg {G : Nat → Prop} {w : World} {ι : Io} {h : Hp} {v : Value} {x : CV} (hx : CR G w ι h v x) : CR G w ι h v (fgC x) := by
 cases hx with
 | d _ x hd => exact .d _ _ hd.fg
 | cl _ nl sz l hd _ => exact .d _ _ hd.fg
 | u => exact .u _
 | rp b o cs hG hc => exact .rp b o cs hG hc
 | ptr v l ver i j blk hb ha hk => exact .ptr v l ver i j blk hb ha hk
 | arr v l ver i n blk hb ha hk hk0 => exact .arr v l ver i n blk hb ha hk hk0
 | mp v l blk hb hk => exact .mp v l blk hb hk
 | it v l blk hb hk => exact .it v l blk hb hk
 | fn v b f vs caps hv hn hc => exact .fn v b f vs caps hv hn hc
theorem VR.fg {G : Nat → Prop} {w : World} {ι : Io} {h : Hp} {v : Value} {x : AV} (hx : VR G w ι h v x) : VR G w ι h v (fgA x) := by
 cases hx with
 | c _ x hc => exact .c _ _ hc.fg
 | agg cs l hn hc =>
  refine .agg cs _ (by simpa using hn) fun i v x hv hx => ?_
  simp only [List.getElem?_map, Option.map_eq_some_iff] at hx
  obtain ⟨y, hy, rfl⟩ := hx
  exact (hc i v y hv hy).fg
 | tup cs l hn hc => exact .tup cs l hn hc
def toD : CV → Option D
 | .d x => some (fgD x)
 | .cl _ sz l => some (.list false sz l)
 | _ => none
def toDs : List CV → Option (List D)
 | [] => some []
 | x :: r => match toD x, toDs r with
  | some d, some ds => some (d :: ds)
  | _, _ => none
def wrd (h : Hp) (p : AV) (cs : List CV) : Option Hp :=
 match p with
 | .c (.ptr l v i j) => match h[l]? with
  | some (.da r v' sz es) => if v' = v then
    match es[i]?, toDs cs with
    | some e, some ds => if j + ds.length ≤ sz then some (h.set l (.da r v' sz (es.set i (e.take j ++ (ds ++ e.drop (j + ds.length)))))) else none
    | _, _ => none
   else none
  | _ => none
 | .c (.d (.adr b o)) => match h with
  | .am m :: r => (match m b, toDs cs with
   | some (.cs N xs), some ds => if o + ds.length ≤ xs.length then some (.am (mup m b (.cs N (xs.take o ++ (ds ++ xs.drop (o + ds.length))))) :: r) else none
   | _, _ => none)
  | _ => none
 | _ => none
end Go.Ab

/-
  The engine, part d: stores into owned blocks, new blocks, freezing.
-/
namespace Go.Ab
theorem add_none (b o n : Nat) : (⟨b, o, none⟩ : Addr).add n = ⟨b, o + n, none⟩ := by
 unfold Addr.add
 split
 ·rename_i h; subst h; rfl
 ·rfl
theorem setCell_other {w : World} {b o b' : Nat} {v : Value} (h : b' ≠ b) : (w.setCell ⟨b, o, none⟩ v).heap[b']? = w.heap[b']? := by
 simp only [World.setCell, Array.getElem?_modify]
 rw [if_neg (fun e => h e.symm)]
theorem setCell_at {w : World} {b o : Nat} {v : Value} {c : Array Value} {t : TypeId} {fr : Nat × Nat} (h : w.heap[b]? = some (.cells c t fr)) :
  (w.setCell ⟨b, o, none⟩ v).heap[b]? = some (.cells (c.setIfInBounds o v) t fr) := by
 simp [World.setCell, Array.getElem?_modify, h]
theorem setCell_size {w : World} {a : Addr} {v : Value} : (w.setCell a v).heap.size = w.heap.size := by
 simp [World.setCell]
theorem frozen_of {w : World} {b o : Nat} {c : Array Value} {t : TypeId} {fr : Nat × Nat} (h : w.heap[b]? = some (.cells c t fr))
  (hf : ¬ (fr.1 ≤ o ∧ o < fr.2)) : w.frozen? ⟨b, o, none⟩ = false := by
 obtain ⟨lo, hi⟩ := fr
 simp only [World.frozen?, h]
 simpa using hf
theorem storeCells_run (P : Program) (b o : Nat) (t : TypeId) (fr : Nat × Nat) : ∀ (vs : List Value) (w : World) (c : Array Value) (i : Nat),
  w.heap[b]? = some (.cells c t fr) → (∀ k, k < c.size → ¬ (fr.1 ≤ k ∧ k < fr.2)) → o + i + vs.length ≤ c.size → (∀ v ∈ vs, v.oneCell' = true) →
  ∃ w' c', (storeCells ⟨b, o, none⟩ vs i).run P w = .ok () w' ∧ w'.heap[b]? = some (.cells c' t fr) ∧ c'.size = c.size ∧
   (∀ k, c'[k]? = if o + i ≤ k ∧ k < o + i + vs.length then vs[k - (o + i)]? else c[k]?) ∧ w'.heap.size = w.heap.size ∧ (∀ b', b' ≠ b → w'.heap[b']? = w.heap[b']?) ∧ Quiet w w' := by
 intro vs
 induction vs with
 | nil =>
  intro w c i hw _ _ _
  refine ⟨w, c, rfl, hw, rfl, fun k => ?_, rfl, fun _ _ => rfl, rfl, rfl, rfl, Nat.le_refl _⟩
  rw [if_neg (by simp)]
 | cons v vs ih =>
  intro w c i hw hf hs ho
  simp only [List.length_cons] at hs
  have hcell : w.cell? ⟨b, o + i, none⟩ = c[o + i]? := cell_of hw
  have hlt : o + i < c.size := by omega
  have hcell' : w.cell? ⟨b, o + i, none⟩ = some c[o + i] := by rw [hcell, Array.getElem?_eq_getElem hlt]
  have hfz : w.frozen? ⟨b, o + i, none⟩ = false := frozen_of hw (hf _ hlt)
  have hrun : (store ((⟨b, o, none⟩ : Addr).add i) v).run P w = .ok () (w.setCell ⟨b, o + i, none⟩ v) := by
   rw [add_none, run_store P w _ v .plain (ho v (by simp)), hcell']
   simp [hfz]
  have hw1 := setCell_at (o := o + i) (v := v) hw
  obtain ⟨w', c', g1, g2, g3, g4, g5, g6, g7⟩ := ih (w.setCell ⟨b, o + i, none⟩ v) (c.setIfInBounds (o + i) v) (i + 1) hw1
   (by simpa using hf) (by simp; omega) (fun x hx => ho x (by simp [hx]))
  refine ⟨w', c', ?_, g2, by simpa using g3, fun k => ?_, by rw [g5, setCell_size], fun b' hb' => by rw [g6 b' hb', setCell_other hb'], g7⟩
  ·simp only [storeCells, Sem.run_bind, hrun, Result.andThen_ok, g1]
  ·rw [g4 k, Array.getElem?_setIfInBounds]
   simp only [List.length_cons]
   by_cases h1 : k = o + i
   ·subst h1
    rw [if_neg (by omega), if_pos rfl, if_pos (by omega)]
    simp
   ·have h1' : ¬ o + i = k := fun e => h1 e.symm
    simp only [h1', if_false]
    by_cases h2 : o + (i + 1) ≤ k ∧ k < o + (i + 1) + vs.length
    ·rw [if_pos h2, if_pos (by omega)]
     rw [show k - (o + i) = (k - (o + (i + 1))) + 1 by omega]
     simp
    ·rw [if_neg h2, if_neg (by omega)]
theorem splice_get {α : Type} (l new : List α) (j k : Nat) (hj : j + new.length ≤ l.length) :
  (l.take j ++ (new ++ l.drop (j + new.length)))[k]? = if j ≤ k ∧ k < j + new.length then new[k - j]? else l[k]? := by
 have ht : (l.take j).length = j := by simp; omega
 by_cases h1 : k < j
 ·rw [List.getElem?_append_left (by omega), if_neg (by omega), List.getElem?_take, if_pos h1]
 ·rw [List.getElem?_append_right (by omega), ht]
  by_cases h2 : k < j + new.length
  ·rw [List.getElem?_append_left (by omega), if_pos (by omega)]
  ·rw [List.getElem?_append_right (by omega), if_neg (by omega), List.getElem?_drop]
   congr 1; omega
theorem splice_len {α : Type} (l new : List α) (j : Nat) (hj : j + new.length ≤ l.length) : (l.take j ++ (new ++ l.drop (j + new.length))).length = l.length := by
 simp; omega
theorem list_of_cells {v : Value} {n : Nat} (h : v.cells.size = n) : v.cells.toList.length = n := by simpa using h
theorem wr_sound {G : Nat → Prop} {ι : Io} {h h' : Hp} {w : World} {p v : Value} {pv xv : AV} {cs : List CV} (P : Program) (r : HR G ι h w) (hp : VR G w ι h p pv)
  (hx : VR G w ι h v xv) (hc : cells xv = some cs) (hs : cellsOk h cs = true) (hw : wr h pv cs = some h') :
  ∃ b o w', p = .pointer (some ⟨b, o, none⟩) ∧ (storeCells ⟨b, o, none⟩ v.cells.toList).run P w = .ok () w' ∧ HR G ι h' w' ∧ Ext G ι h w G ι h' w' := by
 cases hp with
 | agg => simp [wr] at hw
 | tup => simp [wr] at hw
 | c _ x hcx =>
  cases hcx with
  | u => simp [wr] at hw
  | d => simp [wr] at hw
  | cl => simp [wr] at hw
  | arr => simp [wr] at hw
  | fn => simp [wr] at hw
  | mp => simp [wr] at hw
  | it => simp [wr] at hw
  | rp => simp [wr] at hw
  | ptr _ l ver i j blk hb ha hk =>
   simp only [wr, hb] at hw
   cases blk with
   | dead => simp at hw
   | mp => simp at hw
   | mi => simp at hw
   | am => simp at hw
   | da => simp at hw
   | bx bs =>
    simp only at hw
    split at hw
    ·rename_i hcond
     obtain ⟨hi0, hjn⟩ := hcond
     subst hi0
     cases hw
     obtain ⟨b, o, h1, rfl⟩ := hk j (by simp [Blk.off])
     obtain ⟨b', o', c, t, fr, g1, g2, g3, g4, g5⟩ := r.blk l _ hb
     rw [h1] at g1; cases g1
     obtain ⟨hsz, hrel⟩ := hx.cells hc hs
     have hone : ∀ y ∈ v.cells.toList, y.oneCell' = true := by
      intro y hy
      obtain ⟨k, hk1, hk2⟩ := List.getElem_of_mem hy
      have hk3 : k < cs.length := by have := hk1; simp at this; omega
      have h1' : v.cells[k]? = some y := by rw [← hk2]; simp at hk1 ⊢
      have h2' : cs[k]? = some cs[k] := List.getElem?_eq_getElem hk3
      have := hrel k y _ h1' h2'
      exact (this.one (by simp only [cellsOk, List.all_eq_true] at hs; exact hs _ (List.getElem_mem hk3))).1
     have hlen : v.cells.toList.length = cs.length := by simpa using hsz
     obtain ⟨w', c', q1, q2, q3, q4, q5, q6, q7⟩ := storeCells_run P b (o + j) t fr v.cells.toList w c 0 g2 g4 (by omega) hone
     have hkept : Kept ι ι w w' l (.bx bs) (.bx (bs.take j ++ (cs ++ bs.drop (j + cs.length)))) := ⟨splice_len bs cs j hjn, rfl⟩
     have hext := Ext.set_own (G := G) r hb h1 rfl rfl hkept q5 q6
     refine ⟨b, o + j, w', rfl, q1, HR.set_own r hb h1 rfl rfl hkept q5 q6 ?_, hext⟩
     refine ⟨b, o, c', t, fr, h1, q2, by rw [splice_len bs cs j hjn]; omega, by rw [q3]; exact g4, fun k x hkx => ?_⟩
     rw [splice_get bs cs j k hjn] at hkx
     split at hkx
     ·rename_i hin
      have h1' : v.cells[k - j]? = some (v.cells[k - j]'(by omega)) := Array.getElem?_eq_getElem (by omega)
      refine ⟨_, ?_, (hrel (k - j) _ x h1' hkx).ext hext r⟩
      rw [q4 (o + k), if_pos (by omega)]
      rw [show o + k - (o + j + 0) = k - j by omega]
      rw [Array.getElem?_toList]; exact h1'
     ·rename_i hin
      obtain ⟨y, hy, hcr⟩ := g5 k x hkx
      refine ⟨y, ?_, hcr.ext hext r⟩
      rw [q4 (o + k), if_neg (by omega)]; exact hy
    ·cases hw
theorem toD_sound {G : Nat → Prop} {w : World} {ι : Io} {h : Hp} {v : Value} {x : CV} {d : D} (hx : CR G w ι h v x) (hd : toD x = some d) : DR G w v d := by
 cases hx with
 | d _ x hdr => simp only [toD, Option.some.injEq] at hd; subst hd; exact hdr.fg
 | cl _ nl sz l hdr _ => simp only [toD, Option.some.injEq] at hd; subst hd; exact hdr.fg
 | u => simp [toD] at hd
 | arr => simp [toD] at hd
 | fn => simp [toD] at hd
 | mp => simp [toD] at hd
 | it => simp [toD] at hd
 | rp => simp [toD] at hd
 | ptr => simp [toD] at hd
theorem toDs_get {cs : List CV} : ∀ {ds : List D}, toDs cs = some ds → ds.length = cs.length ∧ ∀ (i : Nat) (x : CV) (d : D), cs[i]? = some x → ds[i]? = some d → toD x = some d := by
 induction cs with
 | nil => intro ds h; simp only [toDs, Option.some.injEq] at h; subst h; simp
 | cons x r ih =>
  intro ds h
  simp only [toDs] at h
  split at h
  ·rename_i d ds' hd hds
   cases h
   obtain ⟨h1, h2⟩ := ih hds
   refine ⟨by simp [h1], fun i y e hy he => ?_⟩
   cases i with
   | zero => simp at hy he; subst hy he; exact hd
   | succ i => simp at hy he; exact h2 i y e hy he
  ·cases h
theorem toD_solid {h : Hp} {x : CV} {d : D} (hd : toD x = some d) : solid h x = true := by
 cases x <;> simp_all [toD, solid]
theorem toDs_ok {h : Hp} {cs : List CV} : ∀ {ds : List D}, toDs cs = some ds → cellsOk h cs = true := by
 induction cs with
 | nil => intro ds _; rfl
 | cons x r ih =>
  intro ds hd
  simp only [toDs] at hd
  split at hd
  ·rename_i d ds' h1 h2
   simp only [cellsOk, List.all_cons, Bool.and_eq_true]
   exact ⟨toD_solid h1, ih h2⟩
  ·cases hd
theorem wrd_sound {G : Nat → Prop} {ι : Io} {h h' : Hp} {w : World} {p v : Value} {pv xv : AV} {cs : List CV} (P : Program) (r : HR G ι h w) (hp : VR G w ι h p pv)
  (hx : VR G w ι h v xv) (hc : cells xv = some cs) (hw : wrd h pv cs = some h') :
  ∃ b o w', p = .pointer (some ⟨b, o, none⟩) ∧ (storeCells ⟨b, o, none⟩ v.cells.toList).run P w = .ok () w' ∧ HR G ι h' w' ∧ Ext G ι h w G ι h' w' := by
 cases hp with
 | agg => simp [wrd] at hw
 | tup => simp [wrd] at hw
 | c _ x hcx =>
  cases hcx with
  | u => simp [wrd] at hw
  | d _ x hd =>
   cases hd with
   | adr b o =>
    simp only [wrd] at hw
    split at hw
    ·rename_i m rest
     split at hw
     ·rename_i N xs ds hx0 hds
      split at hw
      ·rename_i h2
       cases hw
       obtain ⟨c, tt, fr, a1, a2, a3, a4, a5⟩ := r.blk 0 _ rfl b _ hx0
       obtain ⟨d1, d2⟩ := toDs_get hds
       obtain ⟨hsz, hrel⟩ := hx.cells hc (toDs_ok hds)
       have hvs : v.cells.toList.length = ds.length := by simp; omega
       have hone : ∀ y ∈ v.cells.toList, y.oneCell' = true := by
        intro y hy
        obtain ⟨i, hi⟩ := List.mem_iff_getElem?.1 hy
        rw [Array.getElem?_toList] at hi
        have hi2 : i < cs.length := by have := (Array.getElem?_eq_some_iff.1 hi).1; omega
        have := hrel i y _ hi (List.getElem?_eq_getElem hi2)
        have hd := toD_sound this (d2 i _ (ds[i]'(by omega)) (List.getElem?_eq_getElem hi2) (List.getElem?_eq_getElem _))
        exact hd.one.1
       obtain ⟨w', c', q1, q2, q3, q4, q5, q6, q7⟩ := storeCells_run P b o tt fr v.cells.toList w c 0 a1 a4 (by omega) hone
       have hg : ∀ bb, G bb → G bb ∧ w'.heap[bb]? = w.heap[bb]? := fun bb hbb => ⟨hbb, q6 bb fun e => (r.g bb hbb).2 (e ▸ am_owned (h := .am m :: rest) rfl hx0)⟩
       have hA : ABR G w' b (.cs N (xs.take o ++ (ds ++ xs.drop (o + ds.length)))) := by
        refine ⟨c', tt, fr, q2, by omega, by rw [splice_len _ _ _ h2]; exact a3, by rw [q3]; exact a4, fun i x hx => ?_⟩
        rw [splice_get _ _ _ _ h2] at hx
        rw [q4]
        simp only [Nat.add_zero, hvs]
        split at hx
        ·rename_i hi
         rw [if_pos hi]
         have hi2 : i - o < cs.length := by omega
         have hi3 : i - o < v.cells.size := by omega
         refine ⟨v.cells[i - o], by rw [Array.getElem?_toList]; exact Array.getElem?_eq_getElem hi3, ?_⟩
         have hcr := hrel (i - o) _ _ (Array.getElem?_eq_getElem hi3) (List.getElem?_eq_getElem hi2)
         exact (toD_sound hcr (d2 _ _ x (List.getElem?_eq_getElem hi2) hx)).mono hg
        ·rename_i hi
         rw [if_neg hi]
         obtain ⟨y, g1, g2⟩ := a5 i x hx
         exact ⟨y, g1, g2.mono hg⟩
       obtain ⟨k1, k2⟩ := HR.am_set r (h := .am m :: rest) rfl hx0 q5 q6 hA q7
       exact ⟨b, o, w', rfl, q1, k1, k2⟩
      ·cases hw
     ·cases hw
    ·cases hw
   | _ => simp [wrd] at hw
  | cl => simp [wrd] at hw
  | arr => simp [wrd] at hw
  | fn => simp [wrd] at hw
  | mp => simp [wrd] at hw
  | it => simp [wrd] at hw
  | rp => simp [wrd] at hw
  | ptr _ l ver i j blk hb ha hk =>
   simp only [wrd, hb] at hw
   cases blk with
   | dead => simp at hw
   | mp => simp at hw
   | mi => simp at hw
   | am => simp at hw
   | bx => simp at hw
   | da rl v' sz es =>
    simp only at hw
    split at hw
    ·rename_i hv
     subst hv
     split at hw
     ·rename_i e ds he hds
      split at hw
      ·rename_i hjn
       cases hw
       cases rl with
       | false => have := r.blk l _ hb; simp only [BR] at this; subst this; simp at he
       | true =>
       obtain ⟨hdl, hdg⟩ := toDs_get hds
       have hs : cellsOk h cs = true := toDs_ok hds
       obtain ⟨b, o, h1, rfl⟩ := hk (i * sz + j) (by simp [Blk.off])
       obtain ⟨b', o', c, t, fr, hmx, g1, g2, g3, g4, g5, g6⟩ := r.blk l _ hb
       rw [h1] at g1; cases g1
       have hil := get_lt he
       have hel := g5 i e he
       have hmul : i * sz + sz ≤ es.length * sz := by
        have : (i + 1) * sz ≤ es.length * sz := Nat.mul_le_mul_right sz hil
        rw [Nat.add_mul, Nat.one_mul] at this; exact this
       obtain ⟨hsz, hrel⟩ := hx.cells hc hs
       have hone : ∀ y ∈ v.cells.toList, y.oneCell' = true := by
        intro y hy
        obtain ⟨k, hk1, hk2⟩ := List.getElem_of_mem hy
        have hk3 : k < cs.length := by have := hk1; simp at this; omega
        have h1' : v.cells[k]? = some y := by rw [← hk2]; simp at hk1 ⊢
        have h2' : cs[k]? = some cs[k] := List.getElem?_eq_getElem hk3
        have := hrel k y _ h1' h2'
        exact (this.one (by simp only [cellsOk, List.all_eq_true] at hs; exact hs _ (List.getElem_mem hk3))).1
       have hlen : v.cells.toList.length = ds.length := by rw [hdl]; simpa using hsz
       obtain ⟨w', c', q1, q2, q3, q4, q5, q6, q7⟩ := storeCells_run P b (o + (i * sz + j)) t fr v.cells.toList w c 0 g2 g4 (by omega) hone
       have hkept : Kept ι ι w w' l (.da true v' sz es) (.da true v' sz (es.set i (e.take j ++ (ds ++ e.drop (j + ds.length))))) := by
        refine .inr ⟨rfl, rfl, rfl, by simp, rfl, fun _ b1 o1 hb1 => ?_⟩
        rw [h1] at hb1; cases hb1
        simp [bsize, q2, g2, q3]
       have hext := Ext.set_own (G := G) r hb h1 rfl rfl hkept q5 q6
       refine ⟨b, o + (i * sz + j), w', rfl, q1, HR.set_own r hb h1 rfl rfl hkept q5 q6 ?_, hext⟩
       refine ⟨b, o, c', t, fr, by simpa using hmx, h1, q2, by simpa [q3] using g3, by rw [q3]; exact g4, fun i1 e1 he1 => ?_, fun i1 e1 k x he1 hkx => ?_⟩
       ·rcases get_set he1 with ⟨_, rfl, _⟩ | ⟨_, he1'⟩
        ·rw [splice_len e ds j (by omega)]; exact hel
        ·exact g5 i1 e1 he1'
       ·rcases get_set he1 with ⟨rfl, rfl, _⟩ | ⟨hne, he1'⟩
        ·rw [splice_get e ds j k (by omega)] at hkx
         split at hkx
         ·rename_i hin
          have h1' : v.cells[k - j]? = some (v.cells[k - j]'(by omega)) := Array.getElem?_eq_getElem (by omega)
          have h2' : cs[k - j]? = some (cs[k - j]'(by omega)) := List.getElem?_eq_getElem (by omega)
          have hcr := hrel (k - j) _ _ h1' h2'
          refine ⟨_, ?_, (toD_sound hcr (hdg (k - j) _ x h2' hkx)).ext hext r⟩
          rw [q4, if_pos (by omega)]
          rw [show o + i1 * sz + k - (o + (i1 * sz + j) + 0) = k - j by omega]
          rw [Array.getElem?_toList]; exact h1'
         ·rename_i hin
          obtain ⟨y, hy, hcr⟩ := g6 i1 e k x he hkx
          refine ⟨y, ?_, hcr.ext hext r⟩
          rw [q4, if_neg (by omega)]; exact hy
        ·obtain ⟨y, hy, hcr⟩ := g6 i1 e1 k x he1' hkx
         refine ⟨y, ?_, hcr.ext hext r⟩
         have hk' : k < sz := by have := get_lt hkx; rw [g5 i1 e1 he1'] at this; exact this
         have hsep : i1 * sz + k < i * sz + j ∨ i * sz + j + ds.length ≤ i1 * sz + k := by
          rcases Nat.lt_or_ge i1 i with hlt | hge
          ·left
           have : (i1 + 1) * sz ≤ i * sz := Nat.mul_le_mul_right sz hlt
           rw [Nat.add_mul, Nat.one_mul] at this; omega
          ·right
           have hgt : i < i1 := by omega
           have : (i + 1) * sz ≤ i1 * sz := Nat.mul_le_mul_right sz hgt
           rw [Nat.add_mul, Nat.one_mul] at this; omega
         rw [q4, if_neg (by omega)]; exact hy
      ·cases hw
     ·cases hw
    ·cases hw
theorem box_sound {G : Nat → Prop} {ι : Io} {h : Hp} {w : World} {v : Value} {xv : AV} {cs : List CV} (r : HR G ι h w) (hx : VR G w ι h v xv) (hc : cells xv = some cs)
  (hs : cellsOk h cs = true) (t : TypeId) :
  HR G (ι ++ [(w.heap.size, 0)]) (h ++ [.bx cs]) (push w (.cells v.cells t)) ∧
   VR G (push w (.cells v.cells t)) (ι ++ [(w.heap.size, 0)]) (h ++ [.bx cs]) (.pointer (some ⟨w.heap.size, 0, none⟩)) (.c (.ptr h.length 0 0 0)) ∧
   Ext G ι h w G (ι ++ [(w.heap.size, 0)]) (h ++ [.bx cs]) (push w (.cells v.cells t)) := by
 have hext := Ext.push_own r (.cells v.cells t) (.bx cs) rfl
 obtain ⟨hsz, hrel⟩ := hx.cells hc hs
 have hi : (ι ++ [(w.heap.size, 0)])[h.length]? = some (w.heap.size, 0) := by rw [← r.len]; simp
 refine ⟨HR.push_own r _ _ rfl ⟨w.heap.size, 0, v.cells, t, (0, 0), hi, push_new w _, by omega, by simp, fun i x hix => ?_⟩, ?_, hext⟩
 ·have h1' : v.cells[i]? = some (v.cells[i]'(by have := get_lt hix; omega)) := Array.getElem?_eq_getElem _
  exact ⟨_, by simp, (hrel i _ x h1' hix).ext hext r⟩
 ·refine .c _ _ (.ptr _ _ _ _ _ (.bx cs) (by simp) rfl fun k hk => ⟨w.heap.size, 0, hi, ?_⟩)
  simp only [Blk.off, if_true, Option.some.injEq] at hk
  subst hk; rfl
theorem inv_dvs {G : Nat → Prop} {w : World} {v : Value} {x : D} (h : DVR G w v (.s x)) : DR G w v x := by
 cases h with
 | s _ _ hd => exact hd
def toDD : List (DV × DV) → Option (List (D × D))
 | [] => some []
 | (.s x, .s y) :: r => match toDD r with
  | some l => some ((x, y) :: l)
  | none => none
 | _ => none
theorem toDD_get : ∀ {es : List (DV × DV)} {l : List (D × D)}, toDD es = some l → es.length = l.length ∧ ∀ (i : Nat) (e : D × D), l[i]? = some e → es[i]? = some (.s e.1, .s e.2)
 | [], l, h => by cases h; exact ⟨rfl, by simp⟩
 |(.s x, .s y) :: r, l, h => by
  simp only [toDD] at h
  split at h
  ·rename_i l' hl
   cases h
   obtain ⟨h1, h2⟩ := toDD_get hl
   refine ⟨by simp [h1], fun i e he => ?_⟩
   cases i with
   | zero => cases he; rfl
   | succ i => exact h2 i e he
  ·cases h
 | (.g x, y) :: r, l, h => by simp [toDD] at h
 | (.s x, .g y) :: r, l, h => by simp [toDD] at h
def frz (h : Hp) : CV → Option (D × Hp)
 | .d x => some (fgD x, h)
 | .cl _ sz l => some (.list false sz l, h)
 | .arr l v i n => match h[l]? with
  | some (.da _ v' sz es) => if v' = v then some (.list false sz ((es.drop i).take n), h.set l .dead) else none
  | _ => none
 | .rp cs => some (.rp cs, h)
 | .mp l => match h[l]? with
  | some (.mp _ es) => (match toDD es with
   | some ds => some (.mpf ds, h.set l .dead)
   | none => none)
  | _ => none
 | _ => none
theorem frz_sound {G : Nat → Prop} {ι : Io} {h h' : Hp} {w : World} {v : Value} {x : CV} {d : D} (r : HR G ι h w) (hx : CR G w ι h v x) (hf : frz h x = some (d, h')) :
  ∃ G', HR G' ι h' w ∧ DR G' w v d ∧ Ext G ι h w G' ι h' w := by
 cases hx with
 | u => simp [frz] at hf
 | rp b o cs hG hc =>
  simp only [frz, Option.some.injEq, Prod.mk.injEq] at hf
  obtain ⟨rfl, rfl⟩ := hf
  refine ⟨G, r, .rp b o cs (fun j => (w.cell? ⟨b, o + j, none⟩).getD default) hG (fun j x hx => ?_) fun j x hx => ?_, Ext.refl _ _ _ _⟩
  ·obtain ⟨v, hv, _⟩ := hc j x hx
   rw [hv]; rfl
  ·obtain ⟨v, hv, hd⟩ := hc j x hx
   rw [hv]; exact hd
 | ptr => simp [frz] at hf
 | fn => simp [frz] at hf
 | mp _ l blk hb hk =>
  simp only [frz, hb] at hf
  cases blk with
  | bx => simp at hf
  | dead => simp at hf
  | da => simp at hf
  | mi => simp at hf
  | am => simp at hf
  | mp ver es =>
   simp only at hf
   split at hf
   ·rename_i ds hds
    simp only [Option.some.injEq, Prod.mk.injEq] at hf
    obtain ⟨rfl, rfl⟩ := hf
    obtain ⟨b, o, hi, rfl⟩ := hk ver es rfl
    obtain ⟨b', o', ces, clock, g1, g2, g3, g4⟩ := r.blk l _ hb
    rw [hi] at g1; cases g1
    obtain ⟨d1, d2⟩ := toDD_get hds
    have hfz := HR.freeze r hb hi rfl
    have hef := Ext.freeze (G := G) (w := w) hb hi rfl
    refine ⟨_, hfz, .mpf b clock ces ds ds (List.Perm.refl _) (.inr rfl) g2 (by rw [g4.1, d1]) ⟨g3.1, g3.2⟩ (fun i c e hc he => ?_) (fun i c e hc he => ?_), hef⟩
    ·exact (inv_dvs (g4.2 i c _ hc (d2 i e he)).1).mono (hef.g_same r)
    ·exact (inv_dvs (g4.2 i c _ hc (d2 i e he)).2).mono (hef.g_same r)
   ·cases hf
 | it => simp [frz] at hf
 | d _ x hd => simp only [frz, Option.some.injEq, Prod.mk.injEq] at hf; obtain ⟨rfl, rfl⟩ := hf; exact ⟨G, r, hd.fg, Ext.refl _ _ _ _⟩
 | cl _ nl sz l hd hc => simp only [frz, Option.some.injEq, Prod.mk.injEq] at hf; obtain ⟨rfl, rfl⟩ := hf; exact ⟨G, r, hd.fg, Ext.refl _ _ _ _⟩
 | arr _ l ver i n blk hb ha hk hk0 =>
  simp only [frz, hb] at hf
  cases blk with
  | bx => simp at hf
  | dead => simp at hf
  | mp => simp at hf
  | mi => simp at hf
  | am => simp at hf
  | da rl v' sz es =>
   simp only at hf
   split at hf
   ·rename_i hv
    subst hv
    simp only [Option.some.injEq, Prod.mk.injEq] at hf
    obtain ⟨rfl, rfl⟩ := hf
    cases rl with
    | false =>
     obtain ⟨_, hn, rfl⟩ := hk0 sz es rfl
     subst hn
     exact ⟨G, HR.kill r hb, by simpa using DR.nils false sz, Ext.kill hb⟩
    | true =>
    obtain ⟨b, o, cap, h1, h2, h3, h4, h5⟩ := hk sz es rfl
    obtain ⟨b', o', c, t, fr, hmx, g1, g2, g3, g4, g5, g6⟩ := r.blk l _ hb
    rw [h1] at g1; cases g1
    have hext := Ext.freeze (G := G) (w := w) hb h1 rfl
    refine ⟨_, HR.freeze r hb h1 rfl, ?_, hext⟩
    have hlen : ((es.drop i).take n).length = n := by simp; omega
    rcases h5 with rfl | ⟨hn0, hc0, o', rfl⟩
    ·have := DR.sl (G := fun x => G x ∨ x = b) (w := w) b (o + i * sz) cap sz ((es.drop i).take n) (fun p q => (c[o + (i + p) * sz + q]?).getD undef)
      (fun _ => .inr rfl) (by omega) (by omega) ?_ ?_ ?_
     ·rw [hlen] at this; exact this
     ·intro p e he
      have hp := get_lt he
      rw [List.getElem?_take, if_pos (by omega), List.getElem?_drop] at he
      exact g5 _ e he
     ·intro p e q x he hq
      have hp := get_lt he
      rw [List.getElem?_take, if_pos (by omega), List.getElem?_drop] at he
      obtain ⟨y, hy, _⟩ := g6 _ e q x he hq
      rw [cell_of g2]
      have : o + i * sz + p * sz + q = o + (i + p) * sz + q := by rw [Nat.add_mul]; omega
      rw [this, hy]; rfl
     ·intro p e q x he hq
      have hp := get_lt he
      rw [List.getElem?_take, if_pos (by omega), List.getElem?_drop] at he
      obtain ⟨y, hy, hd⟩ := g6 _ e q x he hq
      simp only [hy, Option.getD_some]
      exact hd.ext hext r
    ·subst hn0
     simp only [List.take_zero]
     exact DR.sl (G := fun x => G x ∨ x = b) (w := w) b o' 0 sz [] (fun _ _ => undef) (fun h => absurd rfl h) (by simp) (by simp) (by simp) (by simp) (by simp)
   ·cases hf
end Go.Ab

