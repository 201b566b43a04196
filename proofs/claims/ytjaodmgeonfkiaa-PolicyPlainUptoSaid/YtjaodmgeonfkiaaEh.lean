/-
  The engine, part h: new owned arrays, and append.
-/
import Derived.Test.YtjaodmgeonfkiaaEg
namespace Go.Ab

section
variable {P : Program} {w : World} {G : Nat → Prop} {ι : Io} {h : Hp}

/-- the cells of a list of elements, laid one behind the other -/
def laid (sz : Nat) (es : List (List D)) (G : Nat → Prop) (w : World) (c : Array Value) (o : Nat) : Prop :=
  (∀ (i : Nat) (e : List D), es[i]? = some e → e.length = sz) ∧
  ∀ (i : Nat) (e : List D) (j : Nat) (x : D), es[i]? = some e → e[j]? = some x → ∃ v, c[o + i * sz + j]? = some v ∧ DR G w v x

theorem laid_mono {sz : Nat} {es : List (List D)} {G' : Nat → Prop} {w' : World} {c : Array Value} {o : Nat} (hl : laid sz es G w c o)
    (hg : ∀ b, G b → G' b ∧ w'.heap[b]? = w.heap[b]?) : laid sz es G' w' c o :=
  ⟨hl.1, fun i e j x he hx => let ⟨v, h1, h2⟩ := hl.2 i e j x he hx; ⟨v, h1, h2.mono hg⟩⟩

/-- a new owned array -/
theorem new_da {sz n : Nat} {es : List (List D)} {c : Array Value} {cap : Nat} (t : TypeId) (hr : HR G ι h w) (hl : laid sz es G w c 0) (hn : es.length ≤ n) (hcap : n ≤ cap)
    (hc : cap * sz ≤ c.size) {k : Nat} (hk : k ≤ es.length) (hmx : es.length ≤ 9223372036854775807) :
    HR G (ι ++ [(w.heap.size, 0)]) (h ++ [.da true 0 sz es]) (push w (.cells c t)) ∧
      VR G (push w (.cells c t)) (ι ++ [(w.heap.size, 0)]) (h ++ [.da true 0 sz es]) (.slice (some ⟨w.heap.size, 0, none⟩) k cap) (.c (.arr h.length 0 0 k)) ∧
      Ext G ι h w G (ι ++ [(w.heap.size, 0)]) (h ++ [.da true 0 sz es]) (push w (.cells c t)) := by
  have hext := Ext.push_own hr (.cells c t) (.da true 0 sz es)
  have hi : (ι ++ [(w.heap.size, 0)])[h.length]? = some (w.heap.size, 0) := by rw [← hr.len]; simp
  have hl' := laid_mono hl (hext.g_same hr)
  have hes : es.length * sz ≤ c.size := Nat.le_trans (Nat.mul_le_mul_right sz (Nat.le_trans hn hcap)) hc
  refine ⟨HR.push_own hr _ _ ⟨w.heap.size, 0, c, t, (0, 0), hmx, hi, push_new w _, by omega, by simp, hl'.1, hl'.2⟩, ?_, hext⟩
  refine .c _ _ (.arr _ _ _ _ _ (.da true 0 sz es) (by simp) rfl (fun sz' es' he => ?_) fun sz' es' he => by cases he)
  cases he
  refine ⟨w.heap.size, 0, cap, hi, by omega, by omega, ?_, .inl ?_⟩
  · simp only [bsize, push_new, Nat.zero_add]; exact hc
  · simp

/-- an owned array gets another version, at the same block or at a new one -/
theorem HR.move {w' : World} {l b0 o0 b1 o1 : Nat} {k0 k : Blk} (r : HR G ι h w) (hk0 : h[l]? = some k0) (hi : ι[l]? = some (b0, o0)) (hlive : k0.live = true)
    (hkept : Kept ι (ι.set l (b1, o1)) w w' l k0 k) (hsize : w.heap.size ≤ w'.heap.size) (hother : ∀ b, b < w.heap.size → b ≠ b0 → w'.heap[b]? = w.heap[b]?)
    (hb1 : b1 = b0 ∨ b1 = w.heap.size) (hb : BR G w' (ι.set l (b1, o1)) (h.set l k) l k) (hq : Quiet w w' := by first | exact ⟨rfl, rfl⟩ | assumption | (subst_vars; exact ⟨rfl, rfl⟩)) :
    HR G (ι.set l (b1, o1)) (h.set l k) w' ∧ Ext G ι h w G (ι.set l (b1, o1)) (h.set l k) w' := by
  have hlι : l < ι.length := get_lt hi
  have hself : (ι.set l (b1, o1))[l]? = some (b1, o1) := by rw [List.getElem?_set_self hlι]
  have hne : ∀ l', l' ≠ l → (ι.set l (b1, o1))[l']? = ι[l']? := fun l' hl' => List.getElem?_set_ne (fun e => hl' e.symm)
  have howned : ∀ b, owned (ι.set l (b1, o1)) (h.set l k) b → b = b1 ∨ (owned ι h b ∧ b ≠ b0) := by
    intro b ⟨l', o, blk, h1, h2, h3⟩
    rcases get_set h2 with ⟨a1, _, _⟩ | ⟨a1, a2⟩
    · subst a1; rw [hself] at h1; cases h1; exact .inl rfl
    · rw [hne l' a1] at h1
      refine .inr ⟨⟨l', o, blk, h1, a2, h3⟩, fun e => a1 ?_⟩
      subst e
      exact (r.inj l l' b o0 o k0 blk hi h1 hk0 a2 hlive h3).symm
  have hb0 : owned ι h b0 := ⟨l, o0, k0, hi, hk0, hlive⟩
  have hext : Ext G ι h w G (ι.set l (b1, o1)) (h.set l k) w' :=
    { size := hsize
      quiet := hq
      frame := fun b hb ho => hother b hb fun e => ho (e ▸ hb0)
      gmono := fun _ h => h
      gnew := fun _ h => .inl h
      onew := fun b ho => by
        rcases howned b ho with e | e
        · rcases hb1 with h1 | h1
          · left; rw [e, h1]; exact hb0
          · right; omega
        · exact .inl e.1
      keep := fun l' k' hk' => by
        by_cases e : l' = l
        · subst e
          rw [hk0] at hk'; cases hk'
          exact ⟨k, by rw [List.getElem?_set_self (get_lt hk0)], hkept⟩
        · refine ⟨k', by rw [List.getElem?_set_ne (fun x => e x.symm)]; exact hk', ?_⟩
          cases k' with
          | dead => trivial
          | bx cs => exact ⟨rfl, hne l' e⟩
          | mi => exact ⟨rfl, rfl, hne l' e⟩
          | mp v es => exact ⟨hne l' e, .inr ⟨rfl, rfl, fun b o' hb => hother b (owned_lt r ⟨l', o', _, hb, hk', rfl⟩) fun eb => e (by subst eb; exact (r.inj l l' b o0 o' k0 _ hi hb hk0 hk' hlive rfl).symm)⟩⟩
          | da rl v sz es =>
            refine .inr ⟨rfl, rfl, rfl, rfl, hne l' e, fun hrl b o' hb => bsize_same (hother b ?_ fun eb => e ?_)⟩
            · exact owned_lt r ⟨l', o', _, hb, hk', hrl⟩
            · subst eb; exact (r.inj l l' b o0 o' k0 _ hi hb hk0 hk' hlive hrl).symm }
  refine ⟨{ len := by simp [r.len]
            inj := ?_
            g := ?_
            blk := ?_ }, hext⟩
  · intro l1 l2 b p1 p2 k1 k2 a1 a2 c1 c2 d1 d2
    rcases get_set c1 with ⟨e1, _, _⟩ | ⟨e1, f1⟩ <;> rcases get_set c2 with ⟨e2, _, _⟩ | ⟨e2, f2⟩
    · omega
    · exfalso
      subst e1; rw [hself] at a1; cases a1
      rw [hne l2 e2] at a2
      rcases hb1 with h1 | h1
      · subst h1; exact e2 (r.inj l1 l2 _ o0 p2 k0 k2 hi a2 hk0 f2 hlive d2).symm
      · have := owned_lt r ⟨l2, p2, k2, a2, f2, d2⟩; omega
    · exfalso
      subst e2; rw [hself] at a2; cases a2
      rw [hne l1 e1] at a1
      rcases hb1 with h1 | h1
      · subst h1; exact e1 (r.inj l2 l1 _ o0 p1 k0 k1 hi a1 hk0 f1 hlive d1).symm
      · have := owned_lt r ⟨l1, p1, k1, a1, f1, d1⟩; omega
    · rw [hne l1 e1] at a1; rw [hne l2 e2] at a2
      exact r.inj l1 l2 b p1 p2 k1 k2 a1 a2 f1 f2 d1 d2
  · intro b hb'
    have := r.g b hb'
    refine ⟨by omega, fun ho => ?_⟩
    rcases howned b ho with e | e
    · rcases hb1 with h1 | h1
      · exact this.2 (by rw [e, h1]; exact hb0)
      · omega
    · exact this.2 e.1
  · intro l' k' hk'
    rcases get_set hk' with ⟨e1, e2, _⟩ | ⟨e1, e2⟩
    · subst e1 e2; exact hb
    · cases hl : k'.live with
      | false => exact BR.of_dead (r.blk l' k' e2) hl
      | true =>
        refine BR.ext hext r e2 (hne l' e1) fun b o' hbo => hother b ?_ fun eb => e1 ?_
        · exact owned_lt r ⟨l', o', k', hbo, e2, hl⟩
        · subst eb; exact (r.inj l l' b o0 o' k0 _ hi hbo hk0 e2 hlive hl).symm

/-- an owned array that was nil gets a block -/
theorem HR.wake {l : Nat} {k0 k : Blk} {o : Obj} (r : HR G ι h w) (hk0 : h[l]? = some k0) (_hdead : k0.live = false)
    (hkept : Kept ι (ι.set l (w.heap.size, 0)) w (push w o) l k0 k) (hb : BR G (push w o) (ι.set l (w.heap.size, 0)) (h.set l k) l k) :
    HR G (ι.set l (w.heap.size, 0)) (h.set l k) (push w o) ∧ Ext G ι h w G (ι.set l (w.heap.size, 0)) (h.set l k) (push w o) := by
  have hlι : l < ι.length := by rw [r.len]; exact get_lt hk0
  have hself : (ι.set l (w.heap.size, 0))[l]? = some (w.heap.size, 0) := by rw [List.getElem?_set_self hlι]
  have hne : ∀ l', l' ≠ l → (ι.set l (w.heap.size, 0))[l']? = ι[l']? := fun l' hl' => List.getElem?_set_ne (fun e => hl' e.symm)
  have howned : ∀ b, owned (ι.set l (w.heap.size, 0)) (h.set l k) b → b = w.heap.size ∨ owned ι h b := by
    intro b ⟨l', o, blk, h1, h2, h3⟩
    rcases get_set h2 with ⟨a1, _, _⟩ | ⟨a1, a2⟩
    · subst a1; rw [hself] at h1; cases h1; exact .inl rfl
    · rw [hne l' a1] at h1
      exact .inr ⟨l', o, blk, h1, a2, h3⟩
  have hext : Ext G ι h w G (ι.set l (w.heap.size, 0)) (h.set l k) (push w o) :=
    { size := by simp [push]
      quiet := ⟨rfl, rfl⟩
      frame := fun b hb _ => push_old w o hb
      gmono := fun _ h => h
      gnew := fun _ h => .inl h
      onew := fun b ho => by
        rcases howned b ho with e | e
        · right; omega
        · exact .inl e
      keep := fun l' k' hk' => by
        by_cases e : l' = l
        · subst e
          rw [hk0] at hk'; cases hk'
          exact ⟨k, by rw [List.getElem?_set_self (get_lt hk0)], hkept⟩
        · refine ⟨k', by rw [List.getElem?_set_ne (fun x => e x.symm)]; exact hk', ?_⟩
          cases k' with
          | dead => trivial
          | bx cs => exact ⟨rfl, hne l' e⟩
          | mi => exact ⟨rfl, rfl, hne l' e⟩
          | mp v es => exact ⟨hne l' e, .inr ⟨rfl, rfl, fun b o' hb => push_old w o (owned_lt r ⟨l', o', _, hb, hk', rfl⟩)⟩⟩
          | da rl v sz es =>
            refine .inr ⟨rfl, rfl, rfl, rfl, hne l' e, fun hrl b o' hb => bsize_same (push_old w o ?_)⟩
            exact owned_lt r ⟨l', o', _, hb, hk', hrl⟩ }
  refine ⟨{ len := by simp [r.len]
            inj := ?_
            g := ?_
            blk := ?_ }, hext⟩
  · intro l1 l2 b p1 p2 k1 k2 a1 a2 c1 c2 d1 d2
    rcases get_set c1 with ⟨e1, _, _⟩ | ⟨e1, f1⟩ <;> rcases get_set c2 with ⟨e2, _, _⟩ | ⟨e2, f2⟩
    · omega
    · exfalso
      subst e1; rw [hself] at a1; cases a1
      rw [hne l2 e2] at a2
      have := owned_lt r ⟨l2, p2, k2, a2, f2, d2⟩; omega
    · exfalso
      subst e2; rw [hself] at a2; cases a2
      rw [hne l1 e1] at a1
      have := owned_lt r ⟨l1, p1, k1, a1, f1, d1⟩; omega
    · rw [hne l1 e1] at a1; rw [hne l2 e2] at a2
      exact r.inj l1 l2 b p1 p2 k1 k2 a1 a2 f1 f2 d1 d2
  · intro b hb'
    have := r.g b hb'
    refine ⟨by simp [push]; omega, fun ho => ?_⟩
    rcases howned b ho with e | e
    · omega
    · exact this.2 e
  · intro l' k' hk'
    rcases get_set hk' with ⟨e1, e2, _⟩ | ⟨e1, e2⟩
    · subst e1 e2; exact hb
    · cases hl : k'.live with
      | false => exact BR.of_dead (r.blk l' k' e2) hl
      | true =>
        refine BR.ext hext r e2 (hne l' e1) fun b o' hbo => push_old w o ?_
        exact owned_lt r ⟨l', o', k', hbo, e2, hl⟩

/-- is there something -/
def nz {α : Type} : List α → Bool
  | [] => false
  | _ :: _ => true

/-- the nil slice, taken as an array of the call's own -/
theorem new_nil {sz : Nat} (hr : HR G ι h w) :
    HR G (ι ++ [(0, 0)]) (h ++ [.da false 0 sz []]) w ∧ VR G w (ι ++ [(0, 0)]) (h ++ [.da false 0 sz []]) (.slice none 0 0) (.c (.arr h.length 0 0 0)) ∧
      Ext G ι h w G (ι ++ [(0, 0)]) (h ++ [.da false 0 sz []]) w := by
  have hi : ∀ l k, h[l]? = some k → (ι ++ [(0, 0)])[l]? = ι[l]? := fun l k hk => List.getElem?_append_left (by rw [hr.len]; exact get_lt hk)
  have howned : ∀ b, owned (ι ++ [(0, 0)]) (h ++ [.da false 0 sz []]) b → owned ι h b := by
    intro b ⟨l', o, blk, h1, h2, h3⟩
    rcases get_snoc h2 with d | ⟨d, d'⟩
    · rw [hi l' _ d] at h1; exact ⟨l', o, blk, h1, d, h3⟩
    · subst d'; simp [Blk.live] at h3
  have hext : Ext G ι h w G (ι ++ [(0, 0)]) (h ++ [.da false 0 sz []]) w :=
    { size := Nat.le_refl _
      quiet := ⟨rfl, rfl⟩
      frame := fun _ _ _ => rfl
      gmono := fun _ h => h
      gnew := fun _ h => .inl h
      onew := fun b ho => .inl (howned b ho)
      keep := fun l' k' hk' => ⟨k', get_snoc_old hk', by
        have e := hi l' k' hk'
        cases k' with
        | dead => trivial
        | bx cs => exact ⟨rfl, e⟩
        | mi => exact ⟨rfl, rfl, e⟩
        | mp v es => exact ⟨e, .inr ⟨rfl, rfl, fun _ _ _ => rfl⟩⟩
        | da rl v sz es => exact .inr ⟨rfl, rfl, rfl, rfl, e, fun _ _ _ _ => rfl⟩⟩ }
  refine ⟨{ len := by simp [hr.len]
            inj := ?_
            g := fun b hb => ⟨(hr.g b hb).1, fun ho => (hr.g b hb).2 (howned b ho)⟩
            blk := ?_ }, ?_, hext⟩
  · intro l1 l2 b p1 p2 k1 k2 a1 a2 c1 c2 d1 d2
    rcases get_snoc c1 with e1 | ⟨_, e1⟩
    · rcases get_snoc c2 with e2 | ⟨_, e2⟩
      · rw [hi l1 _ e1] at a1; rw [hi l2 _ e2] at a2
        exact hr.inj l1 l2 b p1 p2 k1 k2 a1 a2 e1 e2 d1 d2
      · subst e2; simp [Blk.live] at d2
    · subst e1; simp [Blk.live] at d1
  · intro l' k' hk'
    rcases get_snoc hk' with e | ⟨_, e⟩
    · exact BR.ext hext hr e (hi l' _ e) fun _ _ _ => rfl
    · subst e; simp [BR]
  · exact .c _ _ (.arr _ _ _ _ _ (.da false 0 sz []) (by simp) rfl (fun _ _ he => by cases he) fun _ _ _ => ⟨rfl, rfl, rfl⟩)

/-- what append makes: a list of one kind, and the elements that come behind -/
def appv (h : Hp) (sz bytes : Nat) (xv : AV) (ys : List (List D)) : Option (AV × Hp) :=
  match xv with
  | .c (.d (.list true sz' _)) => if sz' = sz ∧ ys.length * bytes ≤ 140737488355328 then some (.c (.arr h.length 0 0 ys.length), h ++ [.da (nz ys) 0 sz ys]) else none
  | .c (.cl nl sz' l) => if sz' = sz ∧ (l.length + ys.length) * bytes ≤ 140737488355328 then
      (match ys with
      | [] => some (.c (.cl nl sz' l), h)
      | y :: r => some (.c (.arr h.length 0 0 (l.length + (r.length + 1))), h ++ [.da true 0 sz (l ++ y :: r)]))
    else none
  | .c (.arr l v i n) => match h[l]? with
    | some (.da r v' sz' es) => if v' = v ∧ sz' = sz ∧ (n + ys.length) * bytes ≤ 140737488355328 then
        some (.c (.arr l (v + 1) 0 (n + ys.length)), h.set l (.da (r || nz ys) (v + 1) sz ((es.drop i).take n ++ ys)))
      else none
    | _ => none
  | _ => none

theorem growBy_le (n : Nat) : ∀ (r c : Nat), c < n → 256 ≤ c → Builtin.growBy n r c ≤ 2 * n := by
  intro r
  induction r with
  | zero => intro c hc _; simp only [Builtin.growBy]; omega
  | succ r ih =>
    intro c hc h256
    simp only [Builtin.growBy]
    split
    · omega
    · by_cases h1 : c + (c + 768) / 4 < n
      · exact ih _ h1 (by omega)
      · have hle : c + (c + 768) / 4 ≤ 2 * n := by omega
        generalize hc' : c + (c + 768) / 4 = c' at *
        have : Builtin.growBy n r c' = c' := by
          cases r with
          | zero => rfl
          | succ r => simp only [Builtin.growBy]; rw [if_pos (by omega)]
        omega

theorem nextcap_le {need cap : Nat} (h : cap < need) : Builtin.nextslicecap need cap ≤ 2 * need := by
  unfold Builtin.nextslicecap
  split
  · omega
  · split
    · omega
    · exact growBy_le need 4 cap h (by omega)

theorem zeroCells_size (z : Array Value) (n : Nat) : (Builtin.zeroCells z n).size = n * z.size := by
  simp [Builtin.zeroCells]

theorem laid_append {sz : Nat} {xs ys : List (List D)} {c1 c2 c3 : Array Value} (h1 : laid sz xs G w c1 0) (hs1 : c1.size = xs.length * sz) (h2 : laid sz ys G w c2 0)
    (hs2 : c2.size = ys.length * sz) : laid sz (xs ++ ys) G w (c1 ++ c2 ++ c3) 0 := by
  refine ⟨fun i e he => ?_, fun i e j x he hx => ?_⟩
  · rcases Nat.lt_or_ge i xs.length with hi | hi
    · rw [List.getElem?_append_left hi] at he; exact h1.1 i e he
    · rw [List.getElem?_append_right hi] at he; exact h2.1 _ e he
  · rcases Nat.lt_or_ge i xs.length with hi | hi
    · rw [List.getElem?_append_left hi] at he
      obtain ⟨v, hv, hd⟩ := h1.2 i e j x he hx
      refine ⟨v, ?_, hd⟩
      have hlt : 0 + i * sz + j < c1.size := by
        rcases Nat.lt_or_ge (0 + i * sz + j) c1.size with hlt | hge
        · exact hlt
        · rw [Array.getElem?_eq_none hge] at hv; cases hv
      rw [Array.append_assoc, Array.getElem?_append_left hlt]; exact hv
    · rw [List.getElem?_append_right hi] at he
      obtain ⟨v, hv, hd⟩ := h2.2 _ e j x he hx
      refine ⟨v, ?_, hd⟩
      have hmul : i * sz = xs.length * sz + (i - xs.length) * sz := by
        rw [← Nat.add_mul]; congr 1; omega
      have hlt : 0 + (i - xs.length) * sz + j < c2.size := by
        rcases Nat.lt_or_ge (0 + (i - xs.length) * sz + j) c2.size with hlt | hge
        · exact hlt
        · rw [Array.getElem?_eq_none hge] at hv; cases hv
      rw [Array.append_assoc, Array.getElem?_append_right (by omega), Array.getElem?_append_left (by omega)]
      rw [← hv]; congr 1; omega

/-- append, where the capacity does not do -/
theorem append_grow_run {vx vy : Value} {sz bytes n : Nat} {ys : List (List D)} {sT yT el el2 : TypeId} {ti : TypeInfo} {z : Value} {a : Option Addr} {sLen sCap : Nat} {xs : List (List D)} {co cn : Array Value} (ty : TypeId)
    (hu : P.underlying sT = some (.slice el)) (hdy : P.underlying yT = some (.slice el2)) (hpos : 0 < bytes) (hi : P.info? el = some ti) (hsz : ti.size = sz) (hby : ti.bytes = bytes)
    (hz : ti.zero = some z) (hzs : z.cells.size = sz) (hvx : vx = .slice a sLen sCap) (hlx : xs.length = sLen) (hly : ys.length = n)
    (hlen : (Builtin.lenOf vy).run P w = .ok n w)
    (w1 : World) (hw1' : w1 = { w with drawn := w.drawn + 1 }) (ho1 : (Builtin.firstCells sz sLen vx).run P w1 = .ok co w1) (ho2 : (Builtin.firstCells sz n vy).run P w1 = .ok cn w1)
    (hco1 : laid sz xs G w1 co 0) (hcos : co.size = xs.length * sz) (hcn1 : laid sz ys G w1 cn 0) (hcns : cn.size = ys.length * sz) (hneed : sCap < sLen + n)
    (hb : (sLen + n) * bytes ≤ 140737488355328) :
    ∃ cap' c, (Builtin.append_ #[sT, yT] ty #[vx, vy]).run P w = .ok (.slice (some ⟨w1.heap.size, 0, none⟩) (sLen + n) cap') (push w1 (.cells c el)) ∧ sLen + n ≤ cap' ∧
      laid sz (xs ++ ys) G w1 c 0 ∧ cap' * sz ≤ c.size := by
  have hq : ∀ a b c, (Question.appendCap a b c).forced = false := fun _ _ _ => rfl
  have hcut : ∃ cap', Question.cut (.appendCap (sLen + n) sCap el) (w.tape w.drawn (.appendCap (sLen + n) sCap el)) = cap' ∧ sLen + n ≤ cap' := ⟨_, rfl, by simp [Question.cut]⟩
  obtain ⟨cap', hcap1, hcap2⟩ := hcut
  have hsmall : ¬ 2 ^ 48 < Builtin.nextslicecap (sLen + n) sCap * bytes := by
    have h1 := nextcap_le hneed
    have h2 : Builtin.nextslicecap (sLen + n) sCap * bytes ≤ (2 * (sLen + n)) * bytes := Nat.mul_le_mul_right bytes h1
    rw [Nat.mul_assoc] at h2
    have h3 : (2 : Nat) ^ 48 = 281474976710656 := by decide
    omega
  have hrun : (Builtin.append_ #[sT, yT] ty #[vx, vy]).run P w =
      (.ok (.slice (some ⟨w1.heap.size, 0, none⟩) (sLen + n) cap') (push w1 (.cells (co ++ cn ++ Builtin.zeroCells z.cells (cap' - (sLen + n))) el)) : Result Value) := by
    subst hvx
    have hle : ¬ sLen + n ≤ sCap := by omega
    have hb0 : ¬ (IntKind.i64.max < ((sLen + n : Nat) : Int) ∧ bytes = 0) := by omega
    simp only [Builtin.append_, List.getElem?_toArray, List.getElem?_cons_zero, List.getElem?_cons_succ, Sem.run_bind, r_und hu, r_und hdy, Result.andThen_ok, r_size hi, Sem.run_pure, hlen, Sem.run_ite, hle, if_false, r_info hi,
        Bool.false_eq_true, false_or, hby, gt_iff_lt, hsmall, run_choose, hq, hcap1, run_askRoom, hsz, Bool.not_false, if_true]
    rw [← hw1']
    simp only [ho1, ho2, Result.andThen_ok, r_zero hi hz, newRow, Sem.run_bind, run_newObj, Sem.run_pure]
    rw [if_neg hb0]
    rfl
  have hl := laid_append (c3 := Builtin.zeroCells z.cells (cap' - (sLen + n))) hco1 hcos hcn1 hcns
  have hsize : cap' * sz ≤ (co ++ cn ++ Builtin.zeroCells z.cells (cap' - (sLen + n))).size := by
    simp only [Array.size_append, hcos, hcns, zeroCells_size, hzs, hlx, hly]
    rw [← Nat.add_mul, ← Nat.add_mul]
    apply Nat.mul_le_mul_right; omega
  exact ⟨cap', _, hrun, hcap2, hl, hsize⟩

/-- append, where the capacity does -/
theorem append_run {vy : Value} {sz n : Nat} {sT yT el el2 : TypeId} {ti : TypeInfo} {a : Option Addr} {sLen sCap : Nat} {cn : Array Value} {w' : World} (ty : TypeId)
    (hu : P.underlying sT = some (.slice el)) (hdy : P.underlying yT = some (.slice el2)) (hi : P.info? el = some ti) (hsz : ti.size = sz)
    (hlen : (Builtin.lenOf vy).run P w = .ok n w) (hnew : (Builtin.firstCells sz n vy).run P w = .ok cn w) (hneed : sLen + n ≤ sCap)
    (hst : ∀ x, a = some x → (storeCells (x.add (sLen * sz)) cn.toList).run P w = .ok () w') (hnone : a = none → w' = w) :
    (Builtin.append_ #[sT, yT] ty #[.slice a sLen sCap, vy]).run P w = .ok (.slice a (sLen + n) sCap) w' := by
  cases a with
  | none =>
    have := hnone rfl
    subst this
    simp only [Builtin.append_, List.getElem?_toArray, List.getElem?_cons_zero, List.getElem?_cons_succ, Sem.run_bind, r_und hu, r_und hdy, Result.andThen_ok, r_size hi, Sem.run_pure, hlen, Sem.run_ite, hneed, if_true, hsz,
      Bool.false_eq_true, if_false, Bool.not_false, hnew]
  | some x =>
    simp only [Builtin.append_, List.getElem?_toArray, List.getElem?_cons_zero, List.getElem?_cons_succ, Sem.run_bind, r_und hu, r_und hdy, Result.andThen_ok, r_size hi, Sem.run_pure, hlen, Sem.run_ite, hneed, if_true, hsz,
      Bool.false_eq_true, if_false, Bool.not_false, hnew, hst x rfl]

theorem lenOf_slice {a : Option Addr} {n c : Nat} : (Builtin.lenOf (.slice a n c)).run P w = .ok n w := rfl

theorem view_laid {v : Value} {av : AV} {sz : Nat} {l : List (List D)} (hr : HR G ι h w) (hv : VR G w ι h v av) (hw : view h av = some (sz, l)) :
    ∃ vs : Array Value, (Builtin.firstCells sz l.length v).run P w = .ok vs w ∧ vs.size = l.length * sz ∧ laid sz l G w vs 0 := by
  obtain ⟨vs, k1, k2, k3, k4⟩ := view_cells (P := P) hr hv hw
  refine ⟨vs, k1, k2, k3, fun i e j x he hx => ?_⟩
  obtain ⟨y, h1, h2⟩ := k4 i e j x he hx
  exact ⟨y, by simpa using h1, h2⟩

theorem DRs_one {sz : Nat} {es : List (List D)} {c : Array Value} (hl : laid sz es G w c 0) (hs : c.size = es.length * sz) : ∀ v ∈ c.toList, v.oneCell' = true := by
  intro v hv
  obtain ⟨k, hk1, hk2⟩ := List.getElem_of_mem hv
  simp only [Array.length_toList] at hk1
  have hpos : 0 < sz := by
    rcases Nat.eq_zero_or_pos sz with h0 | h0
    · subst h0; omega
    · exact h0
  have hi : k / sz < es.length := by rw [Nat.div_lt_iff_lt_mul hpos]; omega
  have he : es[k / sz]? = some es[k / sz] := List.getElem?_eq_getElem hi
  have hj : k % sz < (es[k / sz]).length := by rw [hl.1 _ _ he]; exact Nat.mod_lt _ hpos
  obtain ⟨y, hy, hd⟩ := hl.2 (k / sz) _ (k % sz) _ he (List.getElem?_eq_getElem hj)
  have hdm : k / sz * sz + k % sz = k := by have := Nat.div_add_mod k sz; rw [Nat.mul_comm] at this; exact this
  rw [show 0 + k / sz * sz + k % sz = k by omega, Array.getElem?_eq_getElem hk1] at hy
  simp only [Option.some.injEq] at hy
  rw [← hk2]
  simp only [Array.getElem_toList, hy]
  exact hd.one.1

theorem room_le {n bytes : Nat} (hp : 0 < bytes) (hb : n * bytes ≤ 140737488355328) : n ≤ 9223372036854775807 := by
  have : n * 1 ≤ n * bytes := Nat.mul_le_mul_left _ hp
  omega

/-- the facts on types that an append asks for -/
structure AppTy (P : Program) (sT yT el el2 : TypeId) (ti : TypeInfo) (z : Value) (sz bytes : Nat) : Prop where
  hu : P.underlying sT = some (.slice el)
  hdy : P.underlying yT = some (.slice el2)
  hi : P.info? el = some ti
  hsz : ti.size = sz
  hby : ti.bytes = bytes
  hpos : 0 < bytes
  hz : ti.zero = some z
  hzs : z.cells.size = sz

/-- append onto what has no room: a new array -/
theorem append_fresh {vx vy : Value} {xv yv : AV} {sz bytes : Nat} {sT yT el el2 : TypeId} {ti : TypeInfo} {z : Value} {a : Option Addr} {sCap : Nat} {xs ys : List (List D)} (ty : TypeId)
    (T : AppTy P sT yT el el2 ti z sz bytes) (hr : HR G ι h w) (hx : VR G w ι h vx xv) (hxv : view h xv = some (sz, xs)) (hy : VR G w ι h vy yv) (hyv : view h yv = some (sz, ys))
    (hvx : vx = .slice a xs.length sCap) (hneed : sCap < xs.length + ys.length) (hb : (xs.length + ys.length) * bytes ≤ 140737488355328) :
    ∃ v w' G' ι', (Builtin.append_ #[sT, yT] ty #[vx, vy]).run P w = .ok v w' ∧ HR G' ι' (h ++ [.da true 0 sz (xs ++ ys)]) w' ∧
      VR G' w' ι' (h ++ [.da true 0 sz (xs ++ ys)]) v (.c (.arr h.length 0 0 (xs.length + ys.length))) ∧ Ext G ι h w G' ι' (h ++ [.da true 0 sz (xs ++ ys)]) w' := by
  obtain ⟨w1, hw1⟩ : ∃ w1 : World, w1 = { w with drawn := w.drawn + 1 } := ⟨_, rfl⟩
  have hh : w1.heap = w.heap := by rw [hw1]
  have hr1 := hr.same_heap hh
  have hx1 := Ext.same_heap (G := G) (ι := ι) (h := h) hh
  obtain ⟨co, a1, a2, a3⟩ := view_laid (P := P) hr1 (hx.ext hx1 hr) hxv
  obtain ⟨cn, b1, b2, b3⟩ := view_laid (P := P) hr1 (hy.ext hx1 hr) hyv
  obtain ⟨ay, capy, hvy, _⟩ := view_len hr hy hyv
  have hlen : (Builtin.lenOf vy).run P w = .ok ys.length w := by rw [hvy]; rfl
  obtain ⟨cap', c, k1, k2, k3, k4⟩ := append_grow_run (G := G) (P := P) (xs := xs) (ys := ys) ty T.hu T.hdy T.hpos T.hi T.hsz T.hby T.hz T.hzs hvx rfl rfl hlen w1 hw1 a1 b1 a3 a2 b3 b2 hneed hb
  obtain ⟨q1, q2, q3⟩ := new_da (n := xs.length + ys.length) (cap := cap') (k := xs.length + ys.length) el hr1 k3 (by simp) k2 k4 (by simp) (by simp only [List.length_append]; exact room_le T.hpos hb)
  exact ⟨_, _, G, _, k1, q1, q2, hx1.trans q3⟩

theorem laid_at {sz : Nat} {es : List (List D)} {c c' : Array Value} {o p : Nat} (hl : laid sz es G w c p) (hc : ∀ k, k < es.length * sz → c'[o + k]? = c[p + k]?) : laid sz es G w c' o := by
  refine ⟨hl.1, fun i e j x he hx => ?_⟩
  obtain ⟨v, h1, h2⟩ := hl.2 i e j x he hx
  refine ⟨v, ?_, h2⟩
  have hil := get_lt he
  have hjl : j < sz := by have := get_lt hx; rw [hl.1 i e he] at this; exact this
  have hlt : i * sz + j < es.length * sz := by
    have : (i + 1) * sz ≤ es.length * sz := Nat.mul_le_mul_right sz hil
    rw [Nat.add_mul, Nat.one_mul] at this; omega
  rw [Nat.add_assoc, hc _ hlt, ← Nat.add_assoc]; exact h1

theorem laid_append2 {sz : Nat} {xs ys : List (List D)} {c : Array Value} {o : Nat} (h1 : laid sz xs G w c o) (h2 : laid sz ys G w c (o + xs.length * sz)) : laid sz (xs ++ ys) G w c o := by
  refine ⟨fun i e he => ?_, fun i e j x he hx => ?_⟩
  · rcases Nat.lt_or_ge i xs.length with hi | hi
    · rw [List.getElem?_append_left hi] at he; exact h1.1 i e he
    · rw [List.getElem?_append_right hi] at he; exact h2.1 _ e he
  · rcases Nat.lt_or_ge i xs.length with hi | hi
    · rw [List.getElem?_append_left hi] at he; exact h1.2 i e j x he hx
    · rw [List.getElem?_append_right hi] at he
      obtain ⟨v, hv, hd⟩ := h2.2 _ e j x he hx
      refine ⟨v, ?_, hd⟩
      have hmul : i * sz = xs.length * sz + (i - xs.length) * sz := by
        rw [← Nat.add_mul]; congr 1; omega
      rw [← hv]; congr 1; omega

/-- append onto an owned array -/
theorem append_own {vx vy : Value} {yv : AV} {sz bytes : Nat} {sT yT el el2 : TypeId} {ti : TypeInfo} {z : Value} {es ys : List (List D)} {l v i n : Nat} (ty : TypeId)
    (T : AppTy P sT yT el el2 ti z sz bytes) (hr : HR G ι h w) (hx : VR G w ι h vx (.c (.arr l v i n))) (hl : h[l]? = some (.da true v sz es)) (hy : VR G w ι h vy yv) (hyv : view h yv = some (sz, ys))
    (hb : (n + ys.length) * bytes ≤ 140737488355328) :
    ∃ v' w' G' ι', (Builtin.append_ #[sT, yT] ty #[vx, vy]).run P w = .ok v' w' ∧ HR G' ι' (h.set l (.da true (v + 1) sz ((es.drop i).take n ++ ys))) w' ∧
      VR G' w' ι' (h.set l (.da true (v + 1) sz ((es.drop i).take n ++ ys))) v' (.c (.arr l (v + 1) 0 (n + ys.length))) ∧ Ext G ι h w G' ι' (h.set l (.da true (v + 1) sz ((es.drop i).take n ++ ys))) w' := by
  have hxv : view h (.c (.arr l v i n)) = some (sz, (es.drop i).take n) := by simp [view, hl]
  obtain ⟨b, o, cap, g1, g2, g3, g4, g5⟩ : ∃ b o cap, ι[l]? = some (b, o) ∧ i + n ≤ es.length ∧ n ≤ cap ∧ o + (i + cap) * sz ≤ bsize w b ∧
        (vx = .slice (some ⟨b, o + i * sz, none⟩) n cap ∨ (n = 0 ∧ cap = 0 ∧ ∃ o', vx = .slice (some ⟨b, o', none⟩) 0 0)) := by
    cases hx with
    | c _ _ hc =>
      cases hc with
      | arr _ _ _ _ _ blk hb ha hk _ => rw [hl] at hb; cases hb; exact hk sz es rfl
  have hlen : ((es.drop i).take n).length = n := by simp; omega
  obtain ⟨ay, capy, hvy, _⟩ := view_len hr hy hyv
  have hleny : (Builtin.lenOf vy).run P w = .ok ys.length w := by rw [hvy]; rfl
  have hll : l < h.length := get_lt hl
  by_cases hneed : n + ys.length ≤ cap
  · rcases g5 with rfl | ⟨rfl, rfl, o', rfl⟩
    · -- in place
      obtain ⟨cn, b1, b2, b3⟩ := view_laid (P := P) hr hy hyv
      obtain ⟨b', o', c, t, fr, hmx, p1, p2, p3, p4, p5, p6⟩ := hr.blk l _ hl
      rw [g1] at p1; cases p1
      have hbs : bsize w b = c.size := by simp [bsize, p2]
      rw [hbs] at g4
      have hcap : (n + ys.length) * sz ≤ cap * sz := Nat.mul_le_mul_right sz hneed
      rw [Nat.add_mul] at hcap g4
      obtain ⟨w', c', q1, q2, q3, q4, q5, q6, q7⟩ := storeCells_run P b (o + i * sz + n * sz) t fr cn.toList w c 0 p2 p4 (by simp only [Array.length_toList, b2]; omega) (DRs_one b3 b2)
      have hrun := append_run (P := P) (vy := vy) (sz := sz) (n := ys.length) (a := some ⟨b, o + i * sz, none⟩) (sLen := n) (sCap := cap) (cn := cn) (w' := w') ty T.hu T.hdy T.hi T.hsz hleny b1 hneed
        (fun x hx => by cases hx; rw [add_none]; exact q1) (fun hx => by cases hx)
      have hext0 : ∀ b1 : Nat, b1 < w.heap.size → b1 ≠ b → w'.heap[b1]? = w.heap[b1]? := fun b1 _ hb1 => q6 b1 hb1
      have hlaid : laid sz ((es.drop i).take n ++ ys) G w c' (o + i * sz) := by
        refine laid_append2 ?_ ?_
        · have hold : laid sz ((es.drop i).take n) G w c (o + i * sz) := by
            refine ⟨fun p e he => ?_, fun p e q x he hx => ?_⟩
            · have hp := get_lt he
              rw [List.getElem?_take, if_pos (by omega), List.getElem?_drop] at he
              exact p5 _ e he
            · have hp := get_lt he
              rw [List.getElem?_take, if_pos (by omega), List.getElem?_drop] at he
              obtain ⟨y, hy, hd⟩ := p6 _ e q x he hx
              refine ⟨y, ?_, hd⟩
              rw [← hy]; congr 1; rw [Nat.add_mul]; omega
          refine laid_at hold fun k hk => ?_
          rw [hlen] at hk
          rw [q4, if_neg (by omega)]
        · rw [hlen]
          refine laid_at b3 fun k hk => ?_
          rw [q4, if_pos (by simp only [Array.length_toList, b2]; omega)]
          rw [Array.getElem?_toList]
          congr 1; omega
      have hkept : Kept ι (ι.set l (b, o + i * sz)) w w' l (.da true v sz es) (.da true (v + 1) sz ((es.drop i).take n ++ ys)) := .inl (by omega)
      have hframe : ∀ b1, G b1 → G b1 ∧ w'.heap[b1]? = w.heap[b1]? := fun b1 hb1 =>
        ⟨hb1, q6 b1 fun e => (hr.g b1 hb1).2 (e ▸ ⟨l, o, _, g1, hl, rfl⟩)⟩
      have hlaid' := laid_mono hlaid hframe
      obtain ⟨r1, r2⟩ := HR.move (k := .da true (v + 1) sz ((es.drop i).take n ++ ys)) (o1 := o + i * sz) hr hl g1 rfl hkept (by omega) hext0 (.inl rfl)
        ⟨b, o + i * sz, c', t, fr, by simp only [List.length_append, hlen]; exact room_le T.hpos hb, by rw [List.getElem?_set_self (by rw [hr.len]; exact hll)], q2, by rw [q3]; simp only [List.length_append, hlen]; rw [Nat.add_mul]; omega, by rw [q3]; exact p4, hlaid'.1, hlaid'.2⟩
      refine ⟨_, w', G, _, hrun, r1, ?_, r2⟩
      refine .c _ _ (.arr _ _ _ _ _ (.da true (v + 1) sz ((es.drop i).take n ++ ys)) (by rw [List.getElem?_set_self hll]) (by simp [Blk.allows]) (fun sz' es' he => ?_) fun sz' es' he => by cases he)
      cases he
      refine ⟨b, o + i * sz, cap, by rw [List.getElem?_set_self (by rw [hr.len]; exact hll)], by simp [hlen], hneed, ?_, .inl (by simp)⟩
      simp only [bsize, q2, q3, Nat.zero_add]; omega
    · -- nothing appended to an empty slice of no room
      have hy0 : ys.length = 0 := by omega
      have hys : ys = [] := List.eq_nil_of_length_eq_zero hy0
      obtain ⟨cn, b1, b2, b3⟩ := view_laid (P := P) hr hy hyv
      have hcn : cn.toList = [] := by apply List.eq_nil_of_length_eq_zero; simp only [Array.length_toList, b2, hy0]; omega
      have hrun := append_run (P := P) (vy := vy) (sz := sz) (n := ys.length) (a := some ⟨b, o', none⟩) (sLen := 0) (sCap := 0) (cn := cn) (w' := w) ty T.hu T.hdy T.hi T.hsz hleny b1 (by omega)
        (fun x hx => by rw [hcn]; rfl) (fun hx => by cases hx)
      obtain ⟨b', o'', c, t, fr, hmx, p1, p2, p3, p4, p5, p6⟩ := hr.blk l _ hl
      rw [g1] at p1; cases p1
      subst hys
      simp only [List.take_zero, List.nil_append, List.length_nil, Nat.add_zero] at *
      have hkept : Kept ι (ι.set l (b, o)) w w l (.da true v sz es) (.da true (v + 1) sz []) := .inl (by omega)
      obtain ⟨r1, r2⟩ := HR.move (k := .da true (v + 1) sz []) (o1 := o) hr hl g1 rfl hkept (Nat.le_refl _) (fun _ _ _ => rfl) (.inl rfl)
        ⟨b, o, c, t, fr, by simp, by rw [List.getElem?_set_self (by rw [hr.len]; exact hll)], p2, by simp; omega, p4, by simp, by simp⟩
      refine ⟨_, w, G, _, hrun, r1, ?_, r2⟩
      refine .c _ _ (.arr _ _ _ _ _ (.da true (v + 1) sz []) (by rw [List.getElem?_set_self hll]) (by simp [Blk.allows]) (fun sz' es' he => ?_) fun sz' es' he => by cases he)
      cases he
      refine ⟨b, o, 0, by rw [List.getElem?_set_self (by rw [hr.len]; exact hll)], by simp, by simp, ?_, .inr ⟨rfl, rfl, o', rfl⟩⟩
      simp only [bsize, p2]; simp; omega
  · -- a new array
    have hvx : ∃ a, vx = .slice a ((es.drop i).take n).length cap := by
      rw [hlen]
      rcases g5 with rfl | ⟨rfl, rfl, o', rfl⟩
      · exact ⟨_, rfl⟩
      · exact ⟨_, rfl⟩
    obtain ⟨a, hvx⟩ := hvx
    obtain ⟨w1, hw1⟩ : ∃ w1 : World, w1 = { w with drawn := w.drawn + 1 } := ⟨_, rfl⟩
    have hh : w1.heap = w.heap := by rw [hw1]
    have hr1 := hr.same_heap hh
    have hx1 := Ext.same_heap (G := G) (ι := ι) (h := h) hh
    obtain ⟨co, a1, a2, a3⟩ := view_laid (P := P) hr1 (hx.ext hx1 hr) hxv
    obtain ⟨cn, b1, b2, b3⟩ := view_laid (P := P) hr1 (hy.ext hx1 hr) hyv
    obtain ⟨cap', c, k1, k2, k3, k4⟩ := append_grow_run (G := G) (P := P) (xs := (es.drop i).take n) (ys := ys) ty T.hu T.hdy T.hpos T.hi T.hsz T.hby T.hz T.hzs hvx rfl rfl hleny w1 hw1 a1 b1 a3 a2 b3 b2
      (by rw [hlen]; omega) (by rw [hlen]; exact hb)
    have hkept : Kept ι (ι.set l (w1.heap.size, 0)) w1 (push w1 (.cells c el)) l (.da true v sz es) (.da true (v + 1) sz ((es.drop i).take n ++ ys)) := .inl (by omega)
    have hframe : ∀ b1, G b1 → G b1 ∧ (push w1 (.cells c el)).heap[b1]? = w1.heap[b1]? := fun b1 hb1 => ⟨hb1, push_old w1 _ (hr1.g b1 hb1).1⟩
    have hlaid' := laid_mono k3 hframe
    have hcl : ((es.drop i).take n ++ ys).length * sz ≤ c.size := Nat.le_trans (Nat.mul_le_mul_right sz (by simp only [List.length_append]; omega)) k4
    obtain ⟨r1, r2⟩ := HR.move (w' := push w1 (.cells c el)) (k := .da true (v + 1) sz ((es.drop i).take n ++ ys)) (b1 := w1.heap.size) (o1 := 0) hr1 hl g1 rfl hkept (by simp [push])
      (fun b2 hb2 _ => push_old w1 _ hb2) (.inr rfl)
      ⟨w1.heap.size, 0, c, el, (0, 0), by simp only [List.length_append, hlen]; exact room_le T.hpos hb, by rw [List.getElem?_set_self (by rw [hr.len]; exact hll)], push_new w1 _, by omega, by simp, hlaid'.1, hlaid'.2⟩
    refine ⟨_, _, G, _, k1, r1, ?_, hx1.trans r2⟩
    rw [hlen]
    refine .c _ _ (.arr _ _ _ _ _ (.da true (v + 1) sz ((es.drop i).take n ++ ys)) (by rw [List.getElem?_set_self hll]) (by simp [Blk.allows]) (fun sz' es' he => ?_) fun sz' es' he => by cases he)
    cases he
    rw [hlen] at k2
    refine ⟨w1.heap.size, 0, cap', by rw [List.getElem?_set_self (by rw [hr.len]; exact hll)], by simp [hlen], k2, ?_, .inl (by simp)⟩
    simp only [bsize, push_new, Nat.zero_add]; exact k4

theorem HR.bump {l : Nat} {k0 k : Blk} (r : HR G ι h w) (hk0 : h[l]? = some k0) (hdead : k.live = false) (hkept : Kept ι ι w w l k0 k) (hb : BR G w ι (h.set l k) l k) :
    HR G ι (h.set l k) w ∧ Ext G ι h w G ι (h.set l k) w := by
  have howned : ∀ b, owned ι (h.set l k) b → owned ι h b := fun b ho => owned_set hk0 (fun hc => by rw [hdead] at hc; cases hc) ho
  have hext : Ext G ι h w G ι (h.set l k) w :=
    { size := Nat.le_refl _
      quiet := ⟨rfl, rfl⟩
      frame := fun _ _ _ => rfl
      gmono := fun _ h => h
      gnew := fun _ h => .inl h
      onew := fun b ho => .inl (howned b ho)
      keep := fun l' k' hk' => by
        by_cases e : l' = l
        · subst e
          rw [hk0] at hk'; cases hk'
          exact ⟨k, by rw [List.getElem?_set_self (get_lt hk0)], hkept⟩
        · exact ⟨k', by rw [List.getElem?_set_ne (fun x => e x.symm)]; exact hk', Kept.refl ι w l' k'⟩ }
  refine ⟨{ len := by simp [r.len]
            inj := ?_
            g := fun b hb => ⟨(r.g b hb).1, fun ho => (r.g b hb).2 (howned b ho)⟩
            blk := ?_ }, hext⟩
  · intro l1 l2 b p1 p2 k1 k2 a1 a2 c1 c2 d1 d2
    rcases get_set c1 with ⟨_, e1, _⟩ | ⟨_, f1⟩
    · subst e1; rw [hdead] at d1; cases d1
    · rcases get_set c2 with ⟨_, e2, _⟩ | ⟨_, f2⟩
      · subst e2; rw [hdead] at d2; cases d2
      · exact r.inj l1 l2 b p1 p2 k1 k2 a1 a2 f1 f2 d1 d2
  · intro l' k' hk'
    rcases get_set hk' with ⟨e1, e2, _⟩ | ⟨e1, e2⟩
    · subst e1 e2; exact hb
    · exact BR.ext hext r e2 rfl fun _ _ _ => rfl

/-- append onto an array that is nil -/
theorem append_nil {vx vy : Value} {yv : AV} {sz bytes : Nat} {sT yT el el2 : TypeId} {ti : TypeInfo} {z : Value} {es ys : List (List D)} {l v i n : Nat} (ty : TypeId)
    (T : AppTy P sT yT el el2 ti z sz bytes) (hr : HR G ι h w) (hx : VR G w ι h vx (.c (.arr l v i n))) (hl : h[l]? = some (.da false v sz es)) (hy : VR G w ι h vy yv) (hyv : view h yv = some (sz, ys))
    (hb : (n + ys.length) * bytes ≤ 140737488355328) :
    ∃ v' w' G' ι', (Builtin.append_ #[sT, yT] ty #[vx, vy]).run P w = .ok v' w' ∧ HR G' ι' (h.set l (.da (false || nz ys) (v + 1) sz ((es.drop i).take n ++ ys))) w' ∧
      VR G' w' ι' (h.set l (.da (false || nz ys) (v + 1) sz ((es.drop i).take n ++ ys))) v' (.c (.arr l (v + 1) 0 (n + ys.length))) ∧ Ext G ι h w G' ι' (h.set l (.da (false || nz ys) (v + 1) sz ((es.drop i).take n ++ ys))) w' := by
  have hes : es = [] := hr.blk l _ hl
  subst hes
  obtain ⟨hi0, hn0, hvx⟩ : i = 0 ∧ n = 0 ∧ vx = .slice none 0 0 := by
    cases hx with
    | c _ _ hc =>
      cases hc with
      | arr _ _ _ _ _ blk hb ha _ hk => rw [hl] at hb; cases hb; exact hk sz [] rfl
  subst hi0 hn0 hvx
  obtain ⟨ay, capy, hvy, _⟩ := view_len hr hy hyv
  have hleny : (Builtin.lenOf vy).run P w = .ok ys.length w := by rw [hvy]; rfl
  have hll : l < h.length := get_lt hl
  simp only [List.drop_nil, List.take_nil, List.nil_append, Nat.zero_add, Bool.false_or] at *
  cases ys with
  | nil =>
    obtain ⟨cn, b1, b2, b3⟩ := view_laid (P := P) hr hy hyv
    have hcn : cn.toList = [] := by apply List.eq_nil_of_length_eq_zero; simp only [Array.length_toList, b2]; simp
    have hrun := append_run (P := P) (vy := vy) (sz := sz) (n := 0) (a := none) (sLen := 0) (sCap := 0) (cn := cn) (w' := w) ty T.hu T.hdy T.hi T.hsz hleny b1 (by omega)
      (fun x hx => by cases hx) (fun _ => rfl)
    obtain ⟨q1, q2⟩ := HR.bump (k := .da false (v + 1) sz []) hr hl rfl (.inl (by omega)) rfl
    refine ⟨_, w, G, ι, hrun, q1, ?_, q2⟩
    exact .c _ _ (.arr _ _ _ _ _ (.da false (v + 1) sz []) (by rw [List.getElem?_set_self hll]; rfl) (by simp [Blk.allows]) (fun _ _ he => by cases he) fun _ _ _ => ⟨rfl, rfl, rfl⟩)
  | cons y r =>
    obtain ⟨w1, hw1⟩ : ∃ w1 : World, w1 = { w with drawn := w.drawn + 1 } := ⟨_, rfl⟩
    have hh : w1.heap = w.heap := by rw [hw1]
    have hr1 := hr.same_heap hh
    have hx1 := Ext.same_heap (G := G) (ι := ι) (h := h) hh
    obtain ⟨cn, b1, b2, b3⟩ := view_laid (P := P) hr1 (hy.ext hx1 hr) hyv
    obtain ⟨cap', c, k1, k2, k3, k4⟩ := append_grow_run (G := G) (P := P) (xs := []) (ys := y :: r) (a := none) (sLen := 0) (sCap := 0) (co := #[]) ty T.hu T.hdy T.hpos T.hi T.hsz T.hby T.hz T.hzs rfl rfl rfl hleny w1 hw1
      (by simp [Builtin.firstCells]) b1 ⟨by simp, by simp⟩ (by simp) b3 b2 (by simp) (by simpa using hb)
    simp only [List.nil_append, Nat.zero_add] at k1 k2 k3
    have hkept : Kept ι (ι.set l (w1.heap.size, 0)) w1 (push w1 (.cells c el)) l (.da false v sz []) (.da true (v + 1) sz (y :: r)) := .inl (by omega)
    have hframe : ∀ b1, G b1 → G b1 ∧ (push w1 (.cells c el)).heap[b1]? = w1.heap[b1]? := fun b1 hb1 => ⟨hb1, push_old w1 _ (hr1.g b1 hb1).1⟩
    have hlaid' := laid_mono k3 hframe
    have hcl : (y :: r).length * sz ≤ c.size := Nat.le_trans (Nat.mul_le_mul_right sz k2) k4
    obtain ⟨r1, r2⟩ := HR.wake (o := .cells c el) hr1 hl rfl hkept
      ⟨w1.heap.size, 0, c, el, (0, 0), room_le T.hpos hb, by rw [List.getElem?_set_self (by rw [hr.len]; exact hll)], push_new w1 _, by omega, by simp, hlaid'.1, hlaid'.2⟩
    refine ⟨_, _, G, _, k1, r1, ?_, hx1.trans r2⟩
    refine .c _ _ (.arr _ _ _ _ _ (.da true (v + 1) sz (y :: r)) (by rw [List.getElem?_set_self hll]; rfl) (by simp [Blk.allows]) (fun sz' es' he => ?_) fun sz' es' he => by cases he)
    cases he
    refine ⟨w1.heap.size, 0, cap', by rw [List.getElem?_set_self (by rw [hr.len]; exact hll)], by simp, k2, ?_, .inl (by simp)⟩
    simp only [bsize, push_new, Nat.zero_add]; exact k4

theorem app_sound {vx vy : Value} {xv yv av' : AV} {h' : Hp} {sz bytes : Nat} {sT yT el el2 : TypeId} {ti : TypeInfo} {z : Value} {ys : List (List D)} (ty : TypeId)
    (T : AppTy P sT yT el el2 ti z sz bytes) (hr : HR G ι h w) (hx : VR G w ι h vx xv) (hy : VR G w ι h vy yv) (hyv : view h yv = some (sz, ys)) (hs : appv h sz bytes xv ys = some (av', h')) :
    ∃ v' w' G' ι', (Builtin.append_ #[sT, yT] ty #[vx, vy]).run P w = .ok v' w' ∧ HR G' ι' h' w' ∧ VR G' w' ι' h' v' av' ∧ Ext G ι h w G' ι' h' w' := by
  have hx0 := hx
  have nothing : ∀ (a : Option Addr) (n cap : Nat), vx = .slice a n cap → n ≤ cap → ys = [] →
      (Builtin.append_ #[sT, yT] ty #[vx, vy]).run P w = .ok vx w := by
    intro a n cap hvx hn hys
    subst hys
    obtain ⟨ay, capy, hvy, _⟩ := view_len hr hy hyv
    have hleny : (Builtin.lenOf vy).run P w = .ok 0 w := by rw [hvy]; rfl
    obtain ⟨cn, b1, b2, b3⟩ := view_laid (P := P) hr hy hyv
    have hcn : cn.toList = [] := by apply List.eq_nil_of_length_eq_zero; simp only [Array.length_toList, b2]; simp
    rw [hvx]
    exact append_run (P := P) (vy := vy) (sz := sz) (n := 0) (cn := cn) (w' := w) ty T.hu T.hdy T.hi T.hsz hleny b1 (by omega) (fun x _ => by rw [hcn]; rfl) (fun _ => rfl)
  unfold appv at hs
  split at hs
  · rename_i sz' l
    split at hs
    · rename_i hcond
      obtain ⟨rfl, hb⟩ := hcond
      cases hx with
      | c _ _ hc =>
        cases hc with
        | d _ _ hd =>
          cases hd with
          | nils =>
            simp only [Option.some.injEq, Prod.mk.injEq] at hs
            obtain ⟨rfl, rfl⟩ := hs
            cases ys with
            | nil =>
              obtain ⟨q1, q2, q3⟩ := new_nil (sz := sz') hr
              exact ⟨_, w, G, _, nothing none 0 0 rfl (Nat.le_refl _) rfl, q1, q2, q3⟩
            | cons y r =>
              have := append_fresh (xs := []) (ys := y :: r) (a := none) (sCap := 0) ty T hr hx0 (by simp [view]) hy hyv rfl (by simp) (by simpa using hb)
              simpa [nz] using this
    · cases hs
  · rename_i nl sz' l
    split at hs
    · rename_i hcond
      obtain ⟨rfl, hb⟩ := hcond
      cases hx with
      | c _ _ hc =>
        cases hc with
        | cl _ _ _ _ hd hcap =>
          obtain ⟨a, cap, hvx, hle, _⟩ := view_len hr hx0 (sz := sz') (l := l) (by simp [view])
          have hcl : cap = l.length := by rw [hvx] at hcap; exact hcap
          split at hs
          · simp only [Option.some.injEq, Prod.mk.injEq] at hs
            obtain ⟨rfl, rfl⟩ := hs
            exact ⟨_, w, G, ι, nothing a _ cap hvx hle rfl, hr, hx0, Ext.refl _ _ _ _⟩
          · rename_i y r
            simp only [Option.some.injEq, Prod.mk.injEq] at hs
            obtain ⟨rfl, rfl⟩ := hs
            have := append_fresh (xs := l) (ys := y :: r) (a := a) (sCap := cap) ty T hr hx0 (by simp [view]) hy hyv hvx (by simp; omega) (by simpa using hb)
            simpa using this
    · cases hs
  · rename_i l v i n
    split at hs
    · rename_i rl v' sz' es hes
      split at hs
      · rename_i hcond
        obtain ⟨rfl, rfl, hb⟩ := hcond
        simp only [Option.some.injEq, Prod.mk.injEq] at hs
        obtain ⟨rfl, rfl⟩ := hs
        cases rl with
        | true => exact append_own ty T hr hx hes hy hyv hb
        | false => exact append_nil ty T hr hx hes hy hyv hb
      · cases hs
    · cases hs
  · cases hs

end
end Go.Ab
