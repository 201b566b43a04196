/-
  The engine, part c: operations on abstract values that make no memory and write none, and what each does in the model.
-/
import Derived.Test.YtjaodmgeonfkiaaEb
import Derived.Laws.Sem
namespace Go.Ab

inductive X where
  | t (n : Nat)
  | k (v : AV)
  deriving Inhabited

def ev (e : Env) : X → AV
  | .t n => lk e n
  | .k v => v

def cells : AV → Option (List CV)
  | .c .u => none
  | .c x => some [x]
  | .agg l => some l
  | .tup _ => none

theorem DR.one {G : Nat → Prop} {w : World} {v : Value} {x : D} (h : DR G w v x) : v.oneCell' = true ∧ v.cells = #[v] := by
  cases h <;> exact ⟨rfl, rfl⟩

def isU : CV → Bool
  | .u => true
  | _ => false

/-- a pointer or a slice of the call's own is known only while its block has its version -/
def solid (h : Hp) : CV → Bool
  | .u => false
  | .ptr l v i j => match h[l]? with
    | some k => (k.off v i j).isSome
    | none => false
  | .arr l v _ _ => match h[l]? with
    | some (.da _ v' _ _) => v' == v
    | _ => false
  | .mp l => match h[l]? with
    | some (.mp _ _) => true
    | _ => false
  | .it l => match h[l]? with
    | some (.mi _ _ _) => true
    | _ => false
  | _ => true

theorem CR.one {G : Nat → Prop} {w : World} {ι : Io} {h : Hp} {v : Value} {x : CV} (hx : CR G w ι h v x) (hs : solid h x = true) :
    v.oneCell' = true ∧ v.cells = #[v] := by
  cases hx with
  | u => simp [solid] at hs
  | d _ x hd => exact hd.one
  | cl _ nl sz l hd _ => exact hd.one
  | rp => exact ⟨rfl, rfl⟩
  | ptr _ l ver i j blk hb ha hk =>
    simp only [solid, hb, Option.isSome_iff_exists] at hs
    obtain ⟨k, hk'⟩ := hs
    obtain ⟨b, o, _, rfl⟩ := hk k hk'
    exact ⟨rfl, rfl⟩
  | arr _ l ver i n blk hb ha hk hk0 =>
    simp only [solid, hb] at hs
    cases blk with
    | bx => simp at hs
    | dead => simp at hs
    | mp => simp at hs
    | mi => simp at hs
    | da rl v' sz es =>
      simp only [beq_iff_eq] at hs; subst hs
      cases rl with
      | false => obtain ⟨_, _, rfl⟩ := hk0 sz es rfl; exact ⟨rfl, rfl⟩
      | true =>
      obtain ⟨b, o, cap, _, _, _, _, h5⟩ := hk sz es rfl
      rcases h5 with rfl | ⟨_, _, o', rfl⟩ <;> exact ⟨rfl, rfl⟩
  | mp _ l blk hb hk =>
    simp only [solid, hb] at hs
    cases blk <;> simp at hs
    obtain ⟨b, o, _, rfl⟩ := hk _ _ rfl
    exact ⟨rfl, rfl⟩
  | it _ l blk hb hk =>
    simp only [solid, hb] at hs
    cases blk <;> simp at hs
    obtain ⟨b, o, _, rfl⟩ := hk _ _ _ rfl
    exact ⟨rfl, rfl⟩
  | fn => exact ⟨rfl, rfl⟩

/-- the value of an operand -/
def cellsOk (h : Hp) (l : List CV) : Bool := l.all (solid h)

theorem VR.cells {G : Nat → Prop} {w : World} {ι : Io} {h : Hp} {v : Value} {av : AV} {cs : List CV} (hx : VR G w ι h v av) (hc : cells av = some cs)
    (hs : cellsOk h cs = true) :
    v.cells.size = cs.length ∧ (∀ (i : Nat) (y : Value) (x : CV), v.cells[i]? = some y → cs[i]? = some x → CR G w ι h y x) := by
  cases hx with
  | c _ x hcx =>
    cases hcx' : x with
    | u => subst hcx'; simp [Ab.cells] at hc
    | _ =>
      all_goals
        have hx0 := hcx'
        subst hcx'
        simp only [Ab.cells, Option.some.injEq] at hc
        subst hc
        have h1 := hcx.one (by simpa [cellsOk] using hs)
        rw [h1.2]
        refine ⟨rfl, fun i y z hy hz => ?_⟩
        cases i with
        | zero => simp at hy hz; subst hy hz; exact hcx
        | succ i => simp at hy
  | agg cs' l hn hcc =>
    simp only [Ab.cells, Option.some.injEq] at hc
    subst hc
    exact ⟨hn, hcc⟩
  | tup => simp [Ab.cells] at hc

/-- what a pointer's target holds, from it on -/
def rd (h : Hp) : AV → Option (List CV)
  | .c (.rp cs) => some (cs.map .d)
  | .c (.ptr l v i j) => match h[l]? with
    | some (.bx cs) => if i = 0 then some (cs.drop j) else none
    | some (.da _ v' _ es) => if v' = v then
        match es[i]? with
        | some e => some ((e.drop j).map .d)
        | none => none
      else none
    | _ => none
  | _ => none

theorem cell_of {w : World} {b o : Nat} {c : Array Value} {t : TypeId} {fr : Nat × Nat} (h : w.heap[b]? = some (.cells c t fr)) : w.cell? ⟨b, o, none⟩ = c[o]? := by
  simp [World.cell?, h]

theorem rd_sound {G : Nat → Prop} {w : World} {ι : Io} {h : Hp} {v : Value} {av : AV} {cs : List CV} (r : HR G ι h w) (hx : VR G w ι h v av) (hc : rd h av = some cs) :
    ∃ b o, v = .pointer (some ⟨b, o, none⟩) ∧ ∀ (j : Nat) (x : CV), cs[j]? = some x → ∃ y, w.cell? ⟨b, o + j, none⟩ = some y ∧ CR G w ι h y x := by
  cases hx with
  | agg => simp [rd] at hc
  | tup => simp [rd] at hc
  | c _ x hcx =>
    cases hcx with
    | u => simp [rd] at hc
    | d => simp [rd] at hc
    | cl => simp [rd] at hc
    | arr => simp [rd] at hc
    | mp => simp [rd] at hc
    | it => simp [rd] at hc
    | fn => simp [rd] at hc
    | rp b o ds hG hds =>
      simp only [rd, Option.some.injEq] at hc
      subst hc
      refine ⟨b, o, rfl, fun j x hx => ?_⟩
      simp only [List.getElem?_map, Option.map_eq_some_iff] at hx
      obtain ⟨d, hd, rfl⟩ := hx
      obtain ⟨y, hy, hdr⟩ := hds j d hd
      exact ⟨y, hy, .d _ _ hdr⟩
    | ptr _ l ver i j blk hb ha hk =>
      simp only [rd, hb] at hc
      have hbr := r.blk l blk hb
      cases blk with
      | dead => simp at hc
      | mp => simp at hc
      | mi => simp at hc
      | bx bs =>
        simp only at hc
        split at hc
        · rename_i hi0
          subst hi0
          cases hc
          obtain ⟨b, o, h1, rfl⟩ := hk j (by simp [Blk.off])
          obtain ⟨b', o', c, t, fr, g1, g2, g3, g4, g5⟩ := hbr
          rw [h1] at g1; cases g1
          refine ⟨b, o + j, rfl, fun k x hx => ?_⟩
          rw [List.getElem?_drop] at hx
          obtain ⟨y, hy, hcr⟩ := g5 (j + k) x hx
          exact ⟨y, by rw [cell_of g2, Nat.add_assoc]; exact hy, hcr⟩
        · cases hc
      | da rl v' sz es =>
        simp only at hc
        split at hc
        · rename_i hv
          subst hv
          split at hc
          · rename_i e he
            cases hc
            cases rl with
            | false => simp only [BR] at hbr; subst hbr; simp at he
            | true =>
            obtain ⟨b, o, h1, rfl⟩ := hk (i * sz + j) (by simp [Blk.off])
            obtain ⟨b', o', c, t, fr, hmx, g1, g2, g3, g4, g5, g6⟩ := hbr
            rw [h1] at g1; cases g1
            refine ⟨b, o + (i * sz + j), rfl, fun k x hx => ?_⟩
            simp only [List.getElem?_map, Option.map_eq_some_iff, List.getElem?_drop] at hx
            obtain ⟨d, hd, rfl⟩ := hx
            obtain ⟨y, hy, hdr⟩ := g6 i e (j + k) d he hd
            refine ⟨y, ?_, .d _ _ hdr⟩
            rw [cell_of g2, ← hy]
            congr 1; omega
          · cases hc
        · cases hc

theorem loadCells_run (P : Program) (w : World) (b o : Nat) (f : Nat → Value) : ∀ (n i : Nat) (acc : Array Value),
    (∀ j, j < n → w.cell? ⟨b, o + (i + j), none⟩ = some (f (i + j))) →
    (loadCellsFrom ⟨b, o, none⟩ i n acc).run P w = .ok (acc ++ (Array.ofFn (n := n) fun j => f (i + j))) w := by
  intro n
  induction n with
  | zero => intro i acc _; simp [loadCellsFrom]
  | succ n ih =>
    intro i acc hf
    have h0 : w.cell? ((⟨b, o, none⟩ : Addr).add i) = some (f i) := by
      have := hf 0 (by omega)
      simp only [Nat.add_zero] at this
      unfold Addr.add
      split
      · rename_i hi; subst hi; exact this
      · exact this
    simp only [loadCellsFrom, Sem.run_bind, run_load, h0, Result.andThen_ok]
    rw [ih (i + 1) (acc.push (f i)) (fun j hj => by
      have := hf (j + 1) (by omega)
      rw [show i + 1 + j = i + (j + 1) by omega]; exact this)]
    congr 1
    rw [Array.push_eq_append, Array.append_assoc]
    congr 1
    apply Array.ext
    · simp; omega
    · intro k h1 h2
      simp only [Array.size_append, Array.size_ofFn] at h1
      cases k with
      | zero => simp
      | succ k =>
        rw [Array.getElem_append_right (by simp)]
        simp
        congr 1; omega

/-- an aggregate's cells, read one by one -/
theorem loadCells_sound {G : Nat → Prop} {ι : Io} {h : Hp} (P : Program) {w : World} {b o n : Nat} {cs : List CV}
    (hc : ∀ (j : Nat) (x : CV), cs[j]? = some x → ∃ y, w.cell? ⟨b, o + j, none⟩ = some y ∧ CR G w ι h y x) (hn : n ≤ cs.length) :
    ∃ vs : Array Value, (loadCells ⟨b, o, none⟩ n).run P w = .ok vs w ∧ vs.size = n ∧ ∀ (i : Nat) (v : Value) (x : CV), vs[i]? = some v → cs[i]? = some x → CR G w ι h v x := by
  have hcell : ∀ j, j < n → w.cell? ⟨b, o + (0 + j), none⟩ = some ((w.cell? ⟨b, o + (0 + j), none⟩).getD undef) := by
    intro j hj
    have hj' : cs[j]? = some (cs[j]'(by omega)) := List.getElem?_eq_getElem (by omega)
    obtain ⟨y, hy, _⟩ := hc j _ hj'
    simp [hy]
  have := loadCells_run P w b o (fun k => (w.cell? ⟨b, o + k, none⟩).getD undef) n 0 #[] hcell
  refine ⟨_, this, by simp, fun i v x hv hx => ?_⟩
  obtain ⟨y, hy, hcr⟩ := hc i x hx
  simp only [Array.empty_append] at hv
  have hin : i < n := by
    rcases Nat.lt_or_ge i n with h' | h'
    · exact h'
    · rw [Array.getElem?_eq_none (by simpa using h')] at hv; cases hv
  rw [Array.getElem?_eq_getElem (by simpa using hin)] at hv
  simp only [Array.getElem_ofFn, Nat.zero_add, hy, Option.getD_some, Option.some.injEq] at hv
  subst hv; exact hcr

def wr (h : Hp) (p : AV) (cs : List CV) : Option Hp :=
  match p with
  | .c (.ptr l _ i j) => match h[l]? with
    | some (.bx bs) => if i = 0 ∧ j + cs.length ≤ bs.length then some (h.set l (.bx (bs.take j ++ (cs ++ bs.drop (j + cs.length))))) else none
    | _ => none
  | _ => none

/-- data, where it is no longer known that a slice is nil -/
def fgD : D → D
  | .list _ sz l => .list false sz l
  | x => x

theorem DR.fg {G : Nat → Prop} {w : World} {v : Value} {x : D} (hx : DR G w v x) : DR G w v (fgD x) := by
  cases hx with
  | nils nl sz => exact .nils false sz
  | emp a sz => exact .emp a sz
  | sl b off cap sz l g hG hcap hmax hsz hc hr => exact .sl b off cap sz l g hG hcap hmax hsz hc hr
  | bool b => exact .bool b
  | int k n => exact .int k n
  | str s => exact .str s
  | nilp => exact .nilp
  | nilm => exact .nilm
  | nilf => exact .nilf
  | nili => exact .nili

def fgC : CV → CV
  | .d x => .d (fgD x)
  | .cl _ sz l => .d (.list false sz l)
  | x => x

def fgA : AV → AV
  | .c x => .c (fgC x)
  | .agg l => .agg (l.map fgC)
  | x => x

theorem CR.fg {G : Nat → Prop} {w : World} {ι : Io} {h : Hp} {v : Value} {x : CV} (hx : CR G w ι h v x) : CR G w ι h v (fgC x) := by
  cases hx with
  | d _ x hd => exact .d _ _ hd.fg
  | cl _ nl sz l hd _ => exact .d _ _ hd.fg
  | u => exact .u _
  | rp b o cs hG hc => exact .rp b o cs hG hc
  | ptr v l ver i j blk hb ha hk => exact .ptr v l ver i j blk hb ha hk
  | arr v l ver i n blk hb ha hk hk0 => exact .arr v l ver i n blk hb ha hk hk0
  | mp v l blk hb hk => exact .mp v l blk hb hk
  | it v l blk hb hk => exact .it v l blk hb hk
  | fn f vs caps hn hc => exact .fn f vs caps hn hc

theorem VR.fg {G : Nat → Prop} {w : World} {ι : Io} {h : Hp} {v : Value} {x : AV} (hx : VR G w ι h v x) : VR G w ι h v (fgA x) := by
  cases hx with
  | c _ x hc => exact .c _ _ hc.fg
  | agg cs l hn hc =>
    refine .agg cs _ (by simpa using hn) fun i v x hv hx => ?_
    simp only [List.getElem?_map, Option.map_eq_some_iff] at hx
    obtain ⟨y, hy, rfl⟩ := hx
    exact (hc i v y hv hy).fg
  | tup cs l hn hc => exact .tup cs l hn hc

/-- the data of a cell -/
def toD : CV → Option D
  | .d x => some (fgD x)
  | .cl _ sz l => some (.list false sz l)
  | _ => none

def toDs : List CV → Option (List D)
  | [] => some []
  | x :: r => match toD x, toDs r with
    | some d, some ds => some (d :: ds)
    | _, _ => none

def wrd (h : Hp) (p : AV) (cs : List CV) : Option Hp :=
  match p with
  | .c (.ptr l v i j) => match h[l]? with
    | some (.da r v' sz es) => if v' = v then
        match es[i]?, toDs cs with
        | some e, some ds => if j + ds.length ≤ sz then some (h.set l (.da r v' sz (es.set i (e.take j ++ (ds ++ e.drop (j + ds.length)))))) else none
        | _, _ => none
      else none
    | _ => none
  | _ => none

end Go.Ab
