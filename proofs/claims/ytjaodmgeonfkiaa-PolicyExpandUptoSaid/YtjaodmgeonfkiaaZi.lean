/-
  Merged texts, part i.
-/
import Derived.Test.YtjaodmgeonfkiaaZh
/-
  The engine: regions that make memory, part f: the condition, and that it suffices.
-/
namespace Go.Ab

/-- what has been touched: an operation's number, the blocks that it looked at, the one that it wrote, and whether that one is new -/
structure Ft where
  (i : Nat) (T : List Nat) (w : Option Nat) (al : Bool)

def hasN : List Nat → Nat → Bool
  | [], _ => false
  | x :: r, n => match Nat.beq x n with
    | true => true
    | false => hasN r n

theorem hasN_mem {l : List Nat} {n : Nat} : hasN l n = true ↔ n ∈ l := by
  induction l with
  | nil => simp [hasN]
  | cons x r ih =>
    simp only [hasN, List.mem_cons]
    split
    · rename_i h; have := Nat.eq_of_beq_eq_true h; simp [this]
    · rename_i h
      rw [ih]
      constructor
      · exact .inr
      · rintro (h' | h')
        · subst h'; simp at h
        · exact h'

def okW : Option Nat → List Nat → Bool
  | none, _ => true
  | some l, T => match hasN T l with
    | true => false
    | false => true

theorem okW_spec {w : Option Nat} {T : List Nat} (h : okW w T = true) : ∀ l, w = some l → l ∉ T := by
  intro l hl hm
  subst hl
  simp only [okW] at h
  rw [hasN_mem.2 hm] at h
  cases h

def neW : Option Nat → Option Nat → Bool
  | some a, some b => match Nat.beq a b with
    | true => false
    | false => true
  | _, _ => true

theorem neW_spec {a b : Option Nat} (h : neW a b = true) : ∀ l, a = some l → b ≠ some l := by
  intro l hl hb
  subst hl hb
  simp [neW] at h

def chk1 (pre T : List Nat) (w : Option Nat) (vr : List Nat) (f : Ft) : Bool :=
  match hasN pre f.i with
  | true => true
  | false => match okW f.w T with
    | false => false
    | true => match okW w f.T with
      | false => false
      | true => match neW f.w w with
        | false => false
        | true => match f.al with
          | true => okW f.w vr
          | false => true

def chkF (pre T : List Nat) (w : Option Nat) (vr : List Nat) : List Ft → Bool
  | [] => true
  | f :: r => match chk1 pre T w vr f with
    | true => chkF pre T w vr r
    | false => false

theorem chkF_get {pre T : List Nat} {w : Option Nat} {vr : List Nat} : ∀ {F : List Ft}, chkF pre T w vr F = true → ∀ f ∈ F, chk1 pre T w vr f = true
  | [], _, f, hf => by cases hf
  | g :: r, h, f, hf => by
    simp only [chkF] at h
    split at h
    · rename_i hg
      rcases List.mem_cons.1 hf with rfl | hf
      · exact hg
      · exact chkF_get h f hf
    · cases h

theorem chk1_spec {pre T : List Nat} {w : Option Nat} {vr : List Nat} {f : Ft} (h : chk1 pre T w vr f = true) : f.i ∈ pre ∨ ((∀ l, f.w = some l → l ∉ T ∧ w ≠ some l) ∧ (∀ l, w = some l → l ∉ f.T) ∧ (f.al = true → ∀ l, f.w = some l → l ∉ vr)) := by
  simp only [chk1] at h
  split at h
  · rename_i hp; exact .inl (hasN_mem.1 hp)
  · split at h
    · cases h
    · rename_i h1
      split at h
      · cases h
      · rename_i h2
        split at h
        · cases h
        · rename_i h3
          refine .inr ⟨fun l hl => ⟨okW_spec h1 l hl, neW_spec h3 l hl⟩, okW_spec h2, fun ha l hl => ?_⟩
          rw [ha] at h
          exact okW_spec h l hl

def vcG (P : Program) (Λ : Len) (m : Nat) (pre : List Nat) (i : Nat) (F : List Ft) (o : AO) (L : Lv) (h : Hp) (K : List Ft → Lv → AV → Hp → Prop) : Prop :=
  match wtOf (lkN L) h.length o.op with
  | some (w, al) => vcOp P Λ m true o.op L h fun L' v h' => match chkF pre (tOf (lkN L) h o.op) w (rfA v) F with
    | true => K (F ++ [⟨i, tOf (lkN L) h o.op, w, al⟩]) L' v h'
    | false => False
  | none => False

def getP : List (List Nat) → Nat → List Nat
  | [], _ => []
  | x :: _, 0 => x
  | _ :: r, n + 1 => getP r n

def vcF3 (P : Program) (Λ : Len) (m : Nat) (pre : List (List Nat)) : Nat → List Ft → List AO → Lv → Hp → (Lv → Hp → Prop) → Prop
  | _, _, [], L, h, K => K L h
  | i, F, o :: r, L, h, K => match o.g with
    | none => vcG P Λ m (getP pre i) i F o L h fun F' L' v h' => vcF3 P Λ m pre (i + 1) F' r (putL L' o.dst v) h' K
    | some (s, want) => match lkN L s with
      | .c (.d (.bool b)) => (match b, want with
        | true, true => vcG P Λ m (getP pre i) i F o L h fun F' L' v h' => vcF3 P Λ m pre (i + 1) F' r (putL L' o.dst v) h' K
        | false, false => vcG P Λ m (getP pre i) i F o L h fun F' L' v h' => vcF3 P Λ m pre (i + 1) F' r (putL L' o.dst v) h' K
        | true, false => vcF3 P Λ m pre (i + 1) F r (putL L o.dst (.tup [])) h K
        | false, true => vcF3 P Λ m pre (i + 1) F r (putL L o.dst (.tup [])) h K)
      | .tup [] => vcF3 P Λ m pre (i + 1) F r (putL L o.dst (.tup [])) h K
      | _ => False

theorem vcF3_cons {P : Program} {Λ : Len} {m : Nat} {pre : List (List Nat)} {i : Nat} {F : List Ft} {o : AO} {r : List AO} {L : Lv} {h : Hp} {K : Lv → Hp → Prop} (hv : vcF3 P Λ m pre i F (o :: r) L h K) :
    (gv (lkL L) o.g = some true ∧ vcG P Λ m (getP pre i) i F o L h fun F' L' v h' => vcF3 P Λ m pre (i + 1) F' r (putL L' o.dst v) h' K) ∨ (gv (lkL L) o.g = some false ∧ vcF3 P Λ m pre (i + 1) F r (putL L o.dst (.tup [])) h K) := by
  simp only [vcF3] at hv
  split at hv
  · rename_i hg; exact .inl ⟨by simp [hg, gv], hv⟩
  · rename_i s want hg
    split at hv
    · rename_i b hb
      rw [lkN_eq] at hb
      have hgv : gv (lkL L) o.g = some (b == want) := by simp [hg, gv, lk, hb]
      split at hv
      · exact .inl ⟨hgv, hv⟩
      · exact .inl ⟨hgv, hv⟩
      · exact .inr ⟨hgv, hv⟩
      · exact .inr ⟨hgv, hv⟩
    · rename_i hb
      rw [lkN_eq] at hb
      exact .inr ⟨by simp [hg, gv, lk, hb], hv⟩
    · exact hv.elim

def runF (P : Program) (m : Nat) (pre : List (List Nat)) : Nat → List Ft → List AO → Lv → Hp → (Lv → Hp → Prop) → Prop
  | _, _, [], L, h, K => K L h
  | i, F, o :: r, L, h, K => (gv (lkL L) o.g = some true ∧ ∃ w al, wtOf (lkL L) h.length o.op = some (w, al) ∧ Did P m true o.op L h fun L' v h' => chkF (getP pre i) (tOf (lkL L) h o.op) w (rfA v) F = true ∧
      runF P m pre (i + 1) (F ++ [⟨i, tOf (lkL L) h o.op, w, al⟩]) r (putL L' o.dst v) h' K) ∨ (gv (lkL L) o.g = some false ∧ runF P m pre (i + 1) F r (putL L o.dst (.tup [])) h K)

theorem vcF3_runF {P : Program} {Λ : Len} (hΛ : ∀ l, Λ l = (l.length : Int)) {m : Nat} {pre : List (List Nat)} {K : Lv → Hp → Prop} : ∀ {ops : List AO} {i : Nat} {F : List Ft} {L : Lv} {h : Hp}, vcF3 P Λ m pre i F ops L h K → runF P m pre i F ops L h K := by
  intro ops
  induction ops with
  | nil => intro i F L h hv; exact hv
  | cons o r ih =>
    intro i F L h hv
    have eN : lkN L = lkL L := funext fun n => lkN_eq L n
    rcases vcF3_cons hv with ⟨h1, h2⟩ | ⟨h1, h2⟩
    · left
      refine ⟨h1, ?_⟩
      unfold vcG at h2
      rw [eN] at h2
      split at h2
      · rename_i w al hw
        refine ⟨w, al, hw, (vcOp_sound hΛ h2).mono fun L' v h' hk => ?_⟩
        split at hk
        · rename_i hc; exact ⟨hc, ih hk⟩
        · exact hk.elim
      · exact h2.elim
    · exact .inr ⟨h1, ih h2⟩

theorem runF.mono {P : Program} {m : Nat} {pre : List (List Nat)} {K K' : Lv → Hp → Prop} (hK : ∀ L h, K L h → K' L h) : ∀ {ops : List AO} {i : Nat} {F : List Ft} {L : Lv} {h : Hp}, runF P m pre i F ops L h K → runF P m pre i F ops L h K' := by
  intro ops
  induction ops with
  | nil => intro i F L h hr; exact hK _ _ hr
  | cons o r ih =>
    intro i F L h hr
    rcases hr with ⟨h1, w, al, h2, h3⟩ | ⟨h1, h2⟩
    · exact .inl ⟨h1, w, al, h2, h3.mono fun L' v h' hr => ⟨hr.1, ih hr.2⟩⟩
    · exact .inr ⟨h1, ih h2⟩

/-- the record of an operation's touches, against a later operation -/
def FOk (ops : Array Oper) (f : Ft) (q : Tr) (i : Nat) : Prop :=
  bitM ops i f.i = true ∨ ((∀ l, f.w = some l → l ∉ q.T ∧ q.t.tgt ≠ some l) ∧ (∀ l, q.t.tgt = some l → l ∉ f.T) ∧ (f.al = true → ∀ l, f.w = some l → l ∉ rfA q.v ∧ l ∉ q.t.rf))

theorem RunT.congr {P : Program} {aops : List AO} {tr tr' : Nat → Tr} : ∀ {l : List Nat} {e : Env} {h : Hp} {e' : Env} {h' : Hp}, (∀ i ∈ l, tr i = tr' i) → RunT P aops tr l e h e' h' → RunT P aops tr' l e h e' h'
  | [], _, _, _, _, _, hr => hr
  | i :: r, _, _, _, _, hc, ⟨o, e1, h1, ho, hs, hr⟩ => ⟨o, e1, h1, ho, by rw [← hc i (by simp)]; exact hs, hr.congr fun j hj => hc j (by simp [hj])⟩

section
variable {P : Program} {N : Nat} {G0 : Nat → Prop} {ι0 : Io} {h0 : Hp} {w0 : World}

/-- a step leads to a state that some memory fits, and its value leads to blocks of the new heap -/
theorem step_val {ops : Array Oper} {o : Oper} {ao : AO} {e : Env} {h h' : Hp} {v : AV} {a : Act} {w : World} (hc : compO P ops N o = some ao)
    (hs : astep e h ao.op = some (v, h') ∨ (∃ f xs, ao.op = .call f xs ∧ PureR P h f (evs e xs) v ∧ h' = h)) (hf : Fits N G0 ι0 h0 w0 e h a w) : (∃ a' w', Fits N G0 ι0 h0 w0 (putE e ao.dst v) h' a' w') ∧ ∀ l ∈ rfA v, l < h'.length := by
  obtain ⟨G, ι, st⟩ := hf
  obtain ⟨hd, hdN, hop, hg⟩ := compO_dst hc
  rcases hs with hs | ⟨f, xs, h1, h2, rfl⟩
  · rw [hop] at hs
    obtain ⟨v', w', G', ι', _, k1, k2, k3⟩ := op_sound st.rel hs
    rw [hd]; exact ⟨⟨_, w', G', ι', st.step hdN k1 k2 k3⟩, k2.lt⟩
  · rw [hop] at h1
    obtain ⟨c, hoo⟩ := compOp_call h1
    obtain ⟨_, q2⟩ := call_exec (a := a) (w := w) hoo h1
    obtain ⟨t1, t2⟩ := args_sound st.rel q2
    obtain ⟨en, w', fr, ⟨v', r, G', ι', h', k0, k1, k2, k3, k4⟩, _⟩ := (h2.fn).out G ι w _ st.rel.hr ⟨t1, t2⟩ []
    obtain ⟨rfl, rfl⟩ := k1
    rw [hd]; exact ⟨⟨_, w', G', ι', st.step hdN k2 k3 k4⟩, k3.lt⟩

theorem skip_fits {ops : Array Oper} {o : Oper} {ao : AO} {e : Env} {h : Hp} {a : Act} {w : World} (hc : compO P ops N o = some ao) (hf : Fits N G0 ι0 h0 w0 e h a w) : ∃ a' w', Fits N G0 ι0 h0 w0 (putE e ao.dst (.tup [])) h a' w' := by
  obtain ⟨G, ι, st⟩ := hf
  obtain ⟨hd, hdN, hop, hg⟩ := compO_dst hc
  rw [hd]; exact ⟨_, w, G, ι, st.step (v := undef) hdN st.rel.hr (.tup #[] [] rfl (by simp)) (Ext.refl _ _ _ _)⟩

theorem gv_congr {o : AO} {e e' : Env} (he : ∀ n ∈ slotsOf o, e' n = e n) : gv e' o.g = gv e o.g := by
  cases hgo : o.g with
  | none => rfl
  | some p =>
    obtain ⟨s, q⟩ := p
    have : e' s = e s := he s (by simp [slotsOf, hgo])
    simp only [gv, lk, this]

theorem ev_congr {o : AO} {e e' : Env} (he : ∀ n ∈ slotsOf o, e' n = e n) : ∀ x ∈ xsOf o.op, ev e' x = ev e x :=
  fun x hx => ev_of_slots fun n hn => he n (by simp only [slotsOf, List.mem_append, List.mem_flatMap]; exact .inr ⟨x, hx, hn⟩)

theorem dead_set {h : Hp} {k : Blk} {m : Nat} : (h ++ List.replicate (m + 1) Blk.dead).set h.length k = (h ++ [k]) ++ List.replicate m Blk.dead := by
  rw [List.set_append_right _ _ (Nat.le_refl _), Nat.sub_self, List.replicate_succ]
  simp

def constRf (o : AO) : Bool := (xsOf o.op).all fun
  | .k v => (rfA v).isEmpty
  | .t _ => true

theorem runF_seg {m : Nat} {ops : Array Oper} {aops : List AO} {pre : List (List Nat)} (hcomp : compOs P ops N ops.toList = some aops) (hpre : ∀ i j, j ∈ getP pre i → bitM ops i j = true) (hcon : aops.all constRf = true) :
    ∀ (aos : List AO) (k : Nat) (F : List Ft) (L : Lv) (h : Hp) (K : Lv → Hp → Prop), (∀ i, i < aos.length → aos[i]? = aops[k + i]?) → runF P m pre k F aos L h K → (∃ a w, Fits N G0 ι0 h0 w0 (lkL L) h a w) →
    ∃ mm tr L' h', RunT P aops tr (List.range' k aos.length) (lkL L) (h ++ List.replicate mm .dead) (lkL L') h' ∧ K L' h' ∧ (∀ i ∈ List.range' k aos.length, ∀ f ∈ F, FOk ops f (tr i) i) ∧
      (∀ i ∈ List.range' k aos.length, ∀ l b, (tr i).t = .al l b → h.length ≤ l ∧ l < h.length + mm ∧ ∀ x ∈ rfB b, x < l) ∧ TC ops tr (List.range' k aos.length) := by
  intro aos
  induction aos with
  | nil =>
    intro k F L h K _ hv _
    refine ⟨0, fun _ => ⟨.tup [], .no, []⟩, L, h, ⟨rfl, by simp⟩, hv, by simp, by simp, ⟨by simp, by simp⟩⟩
  | cons o aos ih =>
    intro k F L h K hk hv hfit
    have hok : aops[k]? = some o := by have := hk 0 (by simp); simpa using this.symm
    obtain ⟨oo, hoo⟩ : ∃ oo, ops.toList[k]? = some oo := ⟨_, List.getElem?_eq_getElem (by have := get_lt hok; have := (compOs_get hcomp).1; omega)⟩
    have hao := (compOs_get hcomp).2 k oo o hoo hok
    have hk' : ∀ i, i < aos.length → aos[i]? = aops[k + 1 + i]? := fun i hi => by
      have := hk (i + 1) (by simp; omega); simp only [List.getElem?_cons_succ] at this; rw [this]; congr 1; omega
    obtain ⟨a, w, hf⟩ := hfit
    have hlt : ∀ l ∈ tOf (lkL L) h o.op, l < h.length := by
      intro l hl
      obtain ⟨G, ι, st⟩ := hf
      rcases List.mem_append.1 hl with hl | hl
      · obtain ⟨x, hx, hxl⟩ := List.mem_flatMap.1 hl
        cases x with
        | t n => exact (st.rel.env n).lt l hxl
        | k v =>
          rw [List.all_eq_true] at hcon
          have hc := hcon o (List.mem_of_getElem? hok)
          simp only [constRf, List.all_eq_true] at hc
          have := hc _ hx
          simp only [List.isEmpty_iff] at this
          simp only [ev, this] at hxl
          cases hxl
      · split at hl
        · split at hl
          · split at hl
            · rename_i kb hkb; exact (st.rel.hr.blk _ kb hkb).lt l hl
            · cases hl
          · cases hl
        · cases hl
    -- what is put together
    have fin : ∀ (q : Tr) (h1 : Hp) (F' : List Ft) (mm mm' : Nat) (L1 : Lv), (∀ i, lkL L1 i = putE (lkL L) o.dst q.v i) → S3 P o q (lkL L) (h ++ List.replicate mm .dead) (putE (lkL L) o.dst q.v) (h1 ++ List.replicate mm' .dead) →
        (h1.length + mm' = h.length + mm) → h.length ≤ h1.length → (∀ f ∈ F, FOk ops f q k) → (∀ l b, q.t = .al l b → h.length ≤ l ∧ l < h1.length ∧ (⟨k, q.T, some l, true⟩ : Ft) ∈ F' ∧ ∀ x ∈ rfB b, x < l) → (∀ l ∈ rfA q.v, l < h1.length) → (∀ l ∈ q.t.rf, l < h1.length) → (∀ f ∈ F, f ∈ F') →
        (∃ f ∈ F', f.i = k ∧ f.w = q.t.tgt ∧ f.T = q.T) ∨ (q.t = .no ∧ q.T = []) →
        (∃ tr L' h', RunT P aops tr (List.range' (k + 1) aos.length) (lkL L1) (h1 ++ List.replicate mm' .dead) (lkL L') h' ∧ K L' h' ∧ (∀ i ∈ List.range' (k + 1) aos.length, ∀ f ∈ F', FOk ops f (tr i) i) ∧
          (∀ i ∈ List.range' (k + 1) aos.length, ∀ l b, (tr i).t = .al l b → h1.length ≤ l ∧ l < h1.length + mm' ∧ ∀ x ∈ rfB b, x < l) ∧ TC ops tr (List.range' (k + 1) aos.length)) →
        ∃ mm tr L' h', RunT P aops tr (List.range' k (o :: aos).length) (lkL L) (h ++ List.replicate mm .dead) (lkL L') h' ∧ K L' h' ∧ (∀ i ∈ List.range' k (o :: aos).length, ∀ f ∈ F, FOk ops f (tr i) i) ∧
          (∀ i ∈ List.range' k (o :: aos).length, ∀ l b, (tr i).t = .al l b → h.length ≤ l ∧ l < h.length + mm ∧ ∀ x ∈ rfB b, x < l) ∧ TC ops tr (List.range' k (o :: aos).length) := by
      intro q h1 F' mm mm' L1 hL hS hlen hle hF hal hv1 hrf hsub hrec ⟨tr, L', h', r1, r2, r3, r4, r5⟩
      have hrange : List.range' k (o :: aos).length = k :: List.range' (k + 1) aos.length := by simp [List.range'_succ]
      rw [hrange]
      have hgt : ∀ i ∈ List.range' (k + 1) aos.length, k < i := fun i hi => by have := List.mem_range'_1.1 hi; omega
      have htr : ∀ i ∈ List.range' (k + 1) aos.length, (if i = k then q else tr i) = tr i := fun i hi => by rw [if_neg (by have := hgt i hi; omega)]
      refine ⟨mm, fun i => if i = k then q else tr i, L', h', ?_, r2, ?_, ?_, ?_, ?_⟩
      · refine ⟨o, _, _, hok, by simp only [if_true]; exact hS, ?_⟩
        rw [show putE (lkL L) o.dst q.v = lkL L1 from (funext hL).symm]
        exact r1.congr fun i hi => (htr i hi).symm
      · intro i hi f hf
        rcases List.mem_cons.1 hi with rfl | hi
        · simp only [if_true]; exact hF f hf
        · simp only [htr i hi]; exact r3 i hi f (hsub f hf)
      · intro i hi l b hq
        rcases List.mem_cons.1 hi with rfl | hi
        · simp only [if_true] at hq
          obtain ⟨g1, g2, _, g4⟩ := hal l b hq
          exact ⟨g1, by omega, g4⟩
        · simp only [htr i hi] at hq
          obtain ⟨g1, g2, g3⟩ := r4 i hi l b hq
          exact ⟨by omega, by omega, g3⟩
      · intro i hi j hj hji hb
        rcases List.mem_cons.1 hi with rfl | hi
        · rcases List.mem_cons.1 hj with rfl | hj
          · omega
          · have := hgt j hj; omega
        · simp only [htr i hi]
          rcases List.mem_cons.1 hj with rfl | hj
          · simp only [if_true]
            rcases hrec with ⟨f, hf', f1, f2, f3⟩ | ⟨f1, f2⟩
            · rcases r3 i hi f hf' with h | ⟨h1, h2, _⟩
              · rw [f1, hb] at h; cases h
              · exact ⟨fun l hl => h1 l (by rw [f2]; exact hl), fun l hl => by rw [← f3]; exact h2 l hl⟩
            · exact ⟨(fun l hl => by rw [f1] at hl; cases hl), fun l _ => by rw [f2]; simp⟩
          · simp only [htr j hj]; exact r5.dis i hi j hj hji hb
      · intro i hi j hj hji hb l b hq
        rcases List.mem_cons.1 hj with rfl | hj
        · simp only [if_true] at hq
          rcases List.mem_cons.1 hi with rfl | hi
          · exact absurd rfl hji
          · simp only [htr i hi]
            obtain ⟨_, _, g3, _⟩ := hal l b hq
            rcases r3 i hi _ g3 with h | ⟨_, _, h3⟩
            · simp only at h; rw [hb] at h; cases h
            · exact h3 rfl l rfl
        · simp only [htr j hj] at hq
          rcases List.mem_cons.1 hi with rfl | hi
          · simp only [if_true]
            have := (r4 j hj l b hq).1
            exact ⟨fun h => by have := hv1 l h; omega, fun h => by have := hrf l h; omega⟩
          · simp only [htr i hi]; exact r5.new i hi j hj hji hb l b hq
    rcases hv with ⟨hgv, w, al, hw, hv⟩ | ⟨hgv, hv⟩
    · · have rec1 : ∀ (v : AV) (q : Tr) (h1 : Hp) (L1 : Lv), q.v = v → q.T = tOf (lkL L) h o.op → q.t.tgt = w → (∀ l ∈ q.t.rf, l ∈ q.T) → chkF (getP pre k) (tOf (lkL L) h o.op) w (rfA v) F = true → ∀ f ∈ F, FOk ops f q k := by
          intro v q h1 L1 e1 e2 e3 e4 hchk f hf'
          rcases chk1_spec (chkF_get hchk f hf') with h | ⟨c1, c2, c3⟩
          · exact .inl (hpre k f.i h)
          · refine .inr ⟨fun l hl => ⟨by rw [e2]; exact (c1 l hl).1, by rw [e3]; exact (c1 l hl).2⟩, fun l hl => c2 l (by rw [← e3]; exact hl), fun ha l hl => ⟨by rw [e1]; exact c3 ha l hl, fun hm => (c1 l hl).1 (by rw [← e2]; exact e4 l hm)⟩⟩
        cases hv with
        | wk hd => cases hd
        | step v h1 hs hcl hk1 =>
          · obtain ⟨hchk, hk1⟩ := hk1
            obtain ⟨hfit1, hvl⟩ := step_val hao (.inl hs) hf
            obtain ⟨mm', tr, L', h', r1, r2, r3, r4, r5⟩ := ih (k + 1) _ (putL L o.dst v) h1 K hk' hk1 (by rw [putL_eq]; exact hfit1)
            have hst : ∀ (e' : Env) (hx : ∀ n ∈ slotsOf o, e' n = lkL L n) (h2 : Hp), astep e' h2 o.op = astep (lkL L) h2 o.op := fun e' hx h2 => astep_congr (ev_congr hx)
            cases w with
            | none =>
              obtain ⟨he, hall⟩ := no_alike hw hs
              obtain rfl : h = h1 := he.symm
              refine fin ⟨v, .no, tOf (lkL L) h o.op⟩ h _ mm' mm' (putL L o.dst v) (fun i => by rw [putL_eq]) ⟨fun e' h2 hx hh => .inr ⟨by rw [gv_congr hx]; exact hgv, .inl ?_⟩, rfl, rfl, fun l k hq => by cases hq⟩ rfl (Nat.le_refl _)
                (rec1 v _ h L rfl rfl rfl (fun l hl => by cases hl) hchk) (fun l b hq => by cases hq) hvl (fun l hl => by cases hl) (fun f hf => List.mem_append_left _ hf) (.inl ⟨_, List.mem_append_right _ (List.mem_singleton.2 rfl), rfl, rfl, rfl⟩) ⟨tr, L', h', r1, r2, r3, r4, r5⟩
              rw [hst e' hx h2]
              exact hall h2 fun l hl => by rw [hh l hl, List.getElem?_append_left (hlt l hl)]
            | some l =>
              cases al with
              | false =>
                obtain ⟨b, rfl, hb, hall⟩ := up_alike hw hs
                have hll : l < h.length := by
                  rcases Nat.lt_or_ge l h.length with hx | hx
                  · exact hx
                  · exfalso
                    have hmem : l ∈ tOf (lkL L) h o.op := by
                      cases hop : o.op
                      case app sz bytes z x y =>
                        rw [hop] at hw
                        simp only [wtOf] at hw
                        split at hw
                        · rename_i l0 v0 i0 n0 hxv
                          simp only [Option.some.injEq, Prod.mk.injEq, and_true] at hw
                          subst hw
                          exact List.mem_append_left _ (List.mem_flatMap.2 ⟨x, by simp [xsOf], by rw [hxv]; simp [rfA, rfC]⟩)
                        · simp at hw
                        · cases hw
                      case st x y n =>
                        rw [hop] at hw
                        simp only [wtOf] at hw
                        split at hw
                        · rename_i l0 v0 i0 n0 hxv
                          simp only [Option.some.injEq, Prod.mk.injEq, and_true] at hw
                          subst hw
                          exact List.mem_append_left _ (List.mem_flatMap.2 ⟨x, by simp [xsOf], by rw [hxv]; simp [rfA, rfC]⟩)
                        · cases hw
                      case mo oo xs => rw [hop] at hw; cases oo <;> simp [wtOf, cls] at hw
                      all_goals (rw [hop] at hw; simp [wtOf, cls] at hw)
                    have := hlt l hmem
                    omega
                refine fin ⟨v, .up l b, tOf (lkL L) h o.op⟩ (h.set l b) _ mm' mm' (putL L o.dst v) (fun i => by rw [putL_eq]) ⟨fun e' h2 hx hh => .inr ⟨by rw [gv_congr hx]; exact hgv, ?_⟩, rfl, by simp only [Wt.ap]; rw [List.set_append_left _ _ hll], fun l k hq => by cases hq⟩ (by simp) (by simp)
                  (rec1 v _ h L rfl rfl rfl (fun l hl => hb l hl) hchk) (fun l b hq => by cases hq) hvl (fun l hl => by have := hlt l (hb l hl); simp; omega) (fun f hf => List.mem_append_left _ hf) (.inl ⟨_, List.mem_append_right _ (List.mem_singleton.2 rfl), rfl, rfl, rfl⟩) ⟨tr, L', h', r1, r2, r3, r4, r5⟩
                show astep e' h2 o.op = some (v, h2.set l b)
                rw [hst e' hx h2]
                exact hall h2 fun l hl => by rw [hh l hl, List.getElem?_append_left (hlt l hl)]
              | true =>
                obtain ⟨rfl, f, b, hfo, rfl, rfl, hbr, hall⟩ := al_alike hw hs fun hc => hcl rfl hc
                have hbl : ∀ x ∈ rfB b, x < h.length := fun x hx => hlt x (hbr x hx)
                refine fin ⟨f h.length, .al h.length b, tOf (lkL L) h o.op⟩ (h ++ [b]) _ (mm' + 1) mm' (putL L o.dst (f h.length)) (fun i => by rw [putL_eq]) ⟨fun e' h2 hx hh => .inr ⟨by rw [gv_congr hx]; exact hgv, f, hfo, rfl, ?_⟩, rfl, by simp only [Wt.ap]; rw [dead_set], fun l k hq => by cases hq; rw [List.getElem?_append_right (Nat.le_refl _)]; simp⟩ (by simp; omega) (by simp)
                  (rec1 _ _ h L rfl rfl rfl (fun l hl => hbr l hl) hchk) (fun l c hq => by cases hq; exact ⟨Nat.le_refl _, by simp, List.mem_append_right _ (List.mem_singleton.2 rfl), hbl⟩) hvl (fun l hl => by have := hbl l hl; simp; omega) (fun f hf => List.mem_append_left _ hf) (.inl ⟨_, List.mem_append_right _ (List.mem_singleton.2 rfl), rfl, rfl, rfl⟩) ⟨tr, L', h', r1, r2, r3, r4, r5⟩
                rw [hst e' hx h2]
                exact hall h2 fun l hl => by rw [hh l hl, List.getElem?_append_left (hlt l hl)]
        | call f xs ho hc =>
          cases hc with
          | pure hp hk1 =>
            rename_i r
            rw [evsN_eq] at hp
            · obtain ⟨hchk, hk1⟩ := hk1
              have hw' : w = none := by rw [ho] at hw; simp only [wtOf, cls, Option.some.injEq, Prod.mk.injEq] at hw; exact hw.1.symm
              subst hw'
              obtain ⟨hfit1, hvl⟩ := step_val hao (.inr ⟨f, xs, ho, hp, rfl⟩) hf
              obtain ⟨mm', tr, L', h', r1, r2, r3, r4, r5⟩ := ih (k + 1) _ (putL L o.dst r) h K hk' hk1 (by rw [putL_eq]; exact hfit1)
              refine fin ⟨r, .no, tOf (lkL L) h o.op⟩ h _ mm' mm' (putL L o.dst r) (fun i => by rw [putL_eq]) ⟨fun e' h2 hx hh => .inr ⟨by rw [gv_congr hx]; exact hgv, .inr ⟨f, xs, ho, ?_⟩⟩, rfl, rfl, fun l k hq => by cases hq⟩ rfl (Nat.le_refl _)
                (rec1 r _ h L rfl rfl rfl (fun l hl => by cases hl) hchk) (fun l b hq => by cases hq) hvl (fun l hl => by cases hl) (fun f hf => List.mem_append_left _ hf) (.inl ⟨_, List.mem_append_right _ (List.mem_singleton.2 rfl), rfl, rfl, rfl⟩) ⟨tr, L', h', r1, r2, r3, r4, r5⟩
              have hev := ev_congr hx
              rw [ho] at hev hh
              rw [evs_congr (xs := xs) (e := e') (e' := lkL L) hev]
              refine hp.agree fun y hy => ?_
              obtain ⟨i, hi⟩ := List.mem_iff_getElem?.1 hy
              obtain ⟨x, hx1, rfl⟩ := (evs_get (e := lkL L) (xs := xs)).2 i y hi
              refine tOf_agree (h0 := h) (op := .call f xs) (fun l hl => ?_) x (List.mem_of_getElem? hx1)
              rw [hh l hl, List.getElem?_append_left (hlt l (by rw [ho]; exact hl))]
        | callv x xs f caps ho hd => cases hd
        | nil ne x nl sz l ho hd => cases hd
        | len x sz l ho hd => cases hd
        | lenA x l v i n ho hd => cases hd
    · obtain ⟨mm', tr, L', h', r1, r2, r3, r4, r5⟩ := ih (k + 1) F (putL L o.dst (.tup [])) h K hk' hv (by rw [putL_eq]; exact skip_fits hao hf)
      exact fin ⟨.tup [], .no, []⟩ h F mm' mm' (putL L o.dst (.tup [])) (fun i => by rw [putL_eq]) ⟨fun e' h2 hx _ => .inl ⟨by rw [gv_congr hx]; exact hgv, rfl, rfl⟩, rfl, rfl, fun l k hq => by cases hq⟩ rfl (Nat.le_refl _)
        (fun f _ => .inr ⟨fun l _ => ⟨by simp, by simp [Wt.tgt]⟩, (fun l hl => by cases hl), fun _ l _ => ⟨by simp [rfA, rfA.rfAs], by simp [Wt.rf]⟩⟩) (fun l b hq => by cases hq) (fun l hl => by simp [rfA, rfA.rfAs] at hl) (fun l hl => by cases hl) (fun f hf => hf) (.inr ⟨rfl, rfl⟩) ⟨tr, L', h', r1, r2, r3, r4, r5⟩

theorem Fits.len0 {e : Env} {h : Hp} {a : Act} {w : World} (hf : Fits N G0 ι0 h0 w0 e h a w) : h0.length ≤ h.length := by
  obtain ⟨G, ι, st⟩ := hf
  rcases Nat.lt_or_ge h.length h0.length with hlt | hge
  · obtain ⟨k', h1, _⟩ := st.ext.keep h.length _ (List.getElem?_eq_getElem hlt)
    have := get_lt h1
    omega
  · exact hge

theorem runF_seg3 {m : Nat} {ops : Array Oper} {aops : List AO} {pre : List (List Nat)} (hcomp : compOs P ops N ops.toList = some aops) (hpre : ∀ i j, j ∈ getP pre i → bitM ops i j = true) (hcon : aops.all constRf = true)
    {aos : List AO} {k : Nat} {L : Lv} {h : Hp} {K : Lv → Hp → Prop} (hk : ∀ i, i < aos.length → aos[i]? = aops[k + i]?) (hv : runF P m pre k [] aos L h K) {a : Act} {w : World} (hf : Fits N G0 ι0 h0 w0 (lkL L) h a w) :
    Seg3 P h0.length ops aops (List.range' k aos.length) (lkL L) h fun e h => ∃ L', e = lkL L' ∧ K L' h := by
  obtain ⟨mm, tr, L', h', r1, r2, _, r4, r5⟩ := runF_seg hcomp hpre hcon aos k [] L h K hk hv ⟨a, w, hf⟩
  have hl0 := hf.len0
  obtain ⟨G, ι, st⟩ := hf
  refine ⟨mm, tr, _, h', r1, r5, fun i hi l b hq => ?_, L', rfl, r2⟩
  obtain ⟨g1, g2, g3⟩ := r4 i hi l b hq
  refine ⟨⟨fun n hm => ?_, fun j kb hj hm => ?_⟩, by omega, fun hm => by have := g3 l hm; omega, fun x hx => ?_⟩
  · have := (st.rel.env n).lt l hm; omega
  · rcases Nat.lt_or_ge j h.length with hjl | hjl
    · rw [List.getElem?_append_left hjl] at hj
      have := (st.rel.hr.blk j kb hj).lt l hm
      omega
    · rw [List.getElem?_append_right hjl] at hj
      have := List.mem_of_getElem? hj
      rw [List.mem_replicate] at this
      rw [this.2] at hm
      cases hm
  · have := g3 x hx
    simp only [List.length_append, List.length_replicate]
    omega

end
end Go.Ab

/-
  The engine, part x: the condition of a text, and that it suffices; functions.
-/
namespace Go.Ab

inductive Ex where
  | normal
  | exit (id : Nat)
  | ret
  deriving DecidableEq

abbrev Post := Ex → Lv → Hp → Prop

/-- a loop: what holds at the head of every round, and a number that every round lowers -/
inductive LoopI (m : Nat) (body : Lv → Hp → Post → Prop) (L : Lv) (h : Hp) (Q : Post) : Prop
  | mk (I : Nat → Lv → Hp → Prop) (n : Nat) (L1 : Lv) (h1 : Hp) (wk : Wk m L h L1 h1) (start : I n L1 h1)
      (round : ∀ n L h, I n L h → body L h fun x L' h' => match x with
        | .normal => ∃ n' L1 h1, n' < n ∧ Wk m L' h' L1 h1 ∧ I n' L1 h1
        | .exit i => ∃ L1 h1, Wk m L' h' L1 h1 ∧ Q (.exit i) L1 h1
        | .ret => Q .ret L' h')

def vcC (P : Program) (Λ : Len) (m : Nat) : AC → Lv → Hp → Post → Prop
  | .skip, L, h, Q => Q .normal L h
  | .reg d ops, L, h, Q => vcOps P Λ m d ops L h fun L h => Q .normal L h
  | .rgf pre k ops, L, h, Q => vcF3 P Λ m pre k [] ops L h fun L h => Q .normal L h
  | .seq a b, L, h, Q => vcC P Λ m a L h fun x L h => match x with
    | .normal => vcC P Λ m b L h Q
    | x => Q x L h
  | .cond c a b, L, h, Q => match evN L c with
    | .c (.d (.bool t)) => (match t with
      | true => vcC P Λ m a L h Q
      | false => vcC P Λ m b L h Q)
    | _ => False
  | .block id c, L, h, Q => vcC P Λ m c L h fun x L h => match x with
    | .exit i => (match Nat.beq i id with
      | true => Q .normal L h
      | false => Q (.exit i) L h)
    | x => Q x L h
  | .loop c, L, h, Q => LoopI m (vcC P Λ m c) L h Q
  | .exit id, L, h, Q => Q (.exit id) L h
  | .ret, L, h, Q => Q .ret L h

/-- does an operation come behind all earlier ones and ahead of all later ones, whatever is drawn? -/
def barB (ms : List Nat) (n b : Nat) : Bool := ((List.range b).all fun j => (ms.getD b 0).testBit j) && (List.range n).all fun i => decide (i ≤ b) || (ms.getD i 0).testBit b

def isCall : AOp → Bool
  | .call .. => true
  | .callv .. => true
  | _ => false

/-- a region whose order is drawn, parted at such calls -/
def splitD (ms : List Nat) (n : Nat) : Nat → List AO → List AO × List (AO × List AO)
  | _, [] => ([], [])
  | k, o :: r => match splitD ms n (k + 1) r with
    | (c, bs) => match isCall o.op && barB ms n k with
      | true => ([], (o, c) :: bs)
      | false => (o :: c, bs)

def acSegs : List AO → List (AO × List AO) → AC
  | c, [] => .reg true c
  | c, (o, c') :: r => .seq (.reg true c) (.seq (.reg false [o]) (acSegs c' r))

def acDraw (ops : Array Oper) (aos : List AO) : AC := match splitD (masks ops.toList []) ops.size 0 aos with
  | (c, bs) => acSegs c bs

def acSegs3 (pre : List (List Nat)) : Nat → List AO → List (AO × List AO) → AC
  | k, c, [] => .rgf pre k c
  | k, c, (o, c') :: r => .seq (.rgf pre k c) (.seq (.reg false [o]) (acSegs3 pre (k + c.length + 1) c' r))

def preOf (ms : List Nat) (n : Nat) : List (List Nat) := (List.range n).map fun i => (List.range i).filter fun j => (ms.getD i 0).testBit j

def acDraw3 (ops : Array Oper) (aos : List AO) : AC := match splitD (masks ops.toList []) ops.size 0 aos with
  | (c, bs) => acSegs3 (preOf (masks ops.toList []) ops.size) 0 c bs

def compC (P : Program) (N : Nat) : Code → Option AC
  | .skip => some .skip
  | .label _ => some .skip
  | .region _ ops draw => match compOs P ops N ops.toList with
    | some aos => if aos.all (gOk N) = true ∧ (draw = true → aos.all constOk = true ∧ drawOk ops.toList aos = true) then some (match draw with | true => acDraw ops aos | false => .reg false aos)
      else if draw = true ∧ aos.all (gOk N) = true ∧ aos.all constRf = true ∧ drawOk2 ops.toList aos = true then some (acDraw3 ops aos) else none
    | none => none
  | .seq a b => match compC P N a, compC P N b with
    | some x, some y => some (.seq x y)
    | _, _ => none
  | .cond c a b => match cx P 0 c, compC P N a, compC P N b with
    | some c, some x, some y => some (.cond c x y)
    | _, _, _ => none
  | .block id c => match compC P N c with
    | some x => some (.block id x)
    | none => none
  | .loop c => match compC P N c with
    | some x => some (.loop x)
    | none => none
  | .scope c => compC P N c
  | .exit id => some (.exit id)
  | .ret => some .ret
  | _ => none

section
variable {P : Program} {N : Nat} {G0 : Nat → Prop} {ι0 : Io} {h0 : Hp} {w0 : World}

/-- the model's ways out, as the conditions have them -/
def exq (Q : Post) : Exit → Lv → Hp → Prop
  | .normal => Q .normal
  | .exit i => Q (.exit i)
  | .ret => Q .ret
  | _ => fun _ _ => False

/-- what is said of the model's state at a way out -/
def out (N : Nat) (G0 : Nat → Prop) (ι0 : Io) (h0 : Hp) (w0 : World) (Q : Post) : Exit → Act → World → Prop :=
  fun x a w => ∃ L h, exq Q x L h ∧ Fits N G0 ι0 h0 w0 (lkL L) h a w

theorem least {p : Nat → Prop} : ∀ n, p n → ∃ m, p m ∧ ∀ k, p k → m ≤ k := by
  intro n
  induction n using Nat.strongRecOn with
  | _ n ih =>
    intro hn
    by_cases h : ∃ k, k < n ∧ p k
    · obtain ⟨k, hk, hpk⟩ := h; exact ih k hk hpk
    · exact ⟨n, hn, fun k hk => by
        rcases Nat.lt_or_ge k n with h' | h'
        · exact absurd ⟨k, h', hk⟩ h
        · exact h'⟩

theorem wp_loop_ghost {c : Code} {Q : Exit → Act → World → Prop} (I : Nat → Act → World → Prop)
    (round : ∀ n a w, I n a w → c.wp P (Exit.then (fun a' w' => ∃ n', n' < n ∧ I n' a' w') Q) a w) : ∀ n a w, I n a w → (Code.loop c).wp P Q a w := by
  intro n a w h
  classical
  have hex : ∀ a w, (∃ n, I n a w) → ∃ m, I m a w ∧ ∀ k, I k a w → m ≤ k := fun a w ⟨n, hn⟩ => least n hn
  let μ : Act → World → Nat := fun a w => if h : ∃ n, I n a w then Classical.choose (hex a w h) else 0
  have hμ : ∀ a w, (∃ n, I n a w) → I (μ a w) a w := fun a w h => by simp only [μ, dif_pos h]; exact (Classical.choose_spec (hex a w h)).1
  have hμ' : ∀ a w n, I n a w → μ a w ≤ n := fun a w n h => by
    have h0 : ∃ n, I n a w := ⟨n, h⟩
    simp only [μ, dif_pos h0]; exact (Classical.choose_spec (hex a w h0)).2 n h
  refine wp_loop (fun a w => ∃ n, I n a w) μ ⟨n, h⟩ fun a w hI => ?_
  refine wp_mono (round _ a w (hμ a w hI)) fun x a' w' hx => ?_
  cases x with
  | normal => obtain ⟨n', h1, h2⟩ := hx; exact ⟨⟨n', h2⟩, Nat.lt_of_le_of_lt (hμ' a' w' n' h2) h1⟩
  | _ => exact hx

def BarsOk (ms : List Nat) (n : Nat) : Nat → List (AO × List AO) → Prop
  | _, [] => True
  | k, (_, c) :: r => barB ms n k = true ∧ BarsOk ms n (k + 1 + c.length) r

def flatB : List (AO × List AO) → List AO
  | [] => []
  | (o, c) :: r => o :: (c ++ flatB r)

def idxP : Nat → List (AO × List AO) → List (Nat × List Nat)
  | _, [] => []
  | k, (_, c) :: r => (k, List.range' (k + 1) c.length) :: idxP (k + 1 + c.length) r

theorem splitD_spec {ms : List Nat} {n : Nat} : ∀ (aos : List AO) (k : Nat) (c : List AO) (bs : List (AO × List AO)), splitD ms n k aos = (c, bs) → aos = c ++ flatB bs ∧ BarsOk ms n (k + c.length) bs := by
  intro aos
  induction aos with
  | nil => intro k c bs h; cases h; exact ⟨rfl, trivial⟩
  | cons o r ih =>
    intro k c bs h
    simp only [splitD] at h
    generalize hs : splitD ms n (k + 1) r = p at h
    obtain ⟨c', bs'⟩ := p
    obtain ⟨h1, h2⟩ := ih (k + 1) c' bs' hs
    simp only at h
    split at h
    · rename_i hb
      simp only [Bool.and_eq_true] at hb
      cases h
      exact ⟨by simp [flatB, h1], hb.2, h2⟩
    · cases h
      refine ⟨by simp [h1], ?_⟩
      simp only [List.length_cons]
      rw [show k + (c'.length + 1) = k + 1 + c'.length by omega]; exact h2

theorem flat_idx : ∀ (bs : List (AO × List AO)) (k : Nat), flatP (idxP k bs) = List.range' k (flatB bs).length := by
  intro bs
  induction bs with
  | nil => intro k; rfl
  | cons q r ih =>
    intro k
    obtain ⟨o, c⟩ := q
    simp only [idxP, flatP, flatB, List.length_cons, List.length_append, List.range'_succ, ih]
    congr 1
    rw [List.range'_append_1]

/-- one operation outside any drawn order -/
theorem op_wp {ops : Array Oper} {m b : Nat} (hm : h0.length ≤ m) {Q : Exit → Act → World → Prop} {o : Oper} {ao : AO} {L : Lv} {h : Hp} {K : Lv → Hp → Prop} {K' : Act → World → Prop} {a : Act} {w : World} (hok : ops[b]? = some o) (hao : compO P ops N o = some ao) (hg : gOk N ao = true)
    (hv : runO P m false [ao] L h K) (hf : Fits N G0 ι0 h0 w0 (lkL L) h a w) (hK : ∀ L' h' a' w', K L' h' → Fits N G0 ι0 h0 w0 (lkL L') h' a' w' → K' a' w') : wpOp P ops Q b K' a w := by
  unfold wpOp
  simp only [hok]
  obtain ⟨G, ι, st⟩ := hf
  obtain ⟨hd, hdN, hop, hgs⟩ := compO_dst hao
  have hgN := gOk_spec hg
  rcases hv with ⟨hgv, hv⟩ | ⟨hgv, hv⟩
  · rw [gv_wanted st.rel hgs hgv hgN]
    simp only [if_true]
    left
    refine did_sound hm hao hv ⟨G, ι, st⟩ fun L' v h' a' w' hk' hf' => ?_
    exact hK _ _ _ _ hk' (by rw [putL_eq]; exact hf')
  · rw [gv_wanted st.rel hgs hgv hgN]
    simp only [Bool.false_eq_true, if_false]
    refine hK _ _ _ _ hv ⟨G, ι, ?_⟩
    rw [putL_eq, hd]
    exact st.step hdN st.rel.hr (.tup #[] [] rfl (by simp)) (Ext.refl _ _ _ _)

theorem RunI.of_take {aops : List AO} {n : Nat} : ∀ {l : List Nat} {e : Env} {h : Hp} {e' : Env} {h' : Hp}, RunI P (aops.take n) l e h e' h' → RunI P aops l e h e' h' := by
  intro l
  induction l with
  | nil => intro e h e' h' hr; exact hr
  | cons i r ih =>
    intro e h e' h' ⟨o, e1, h1, ho, hs, hr⟩
    refine ⟨o, e1, h1, ?_, hs, ih hr⟩
    rw [List.getElem?_take] at ho
    split at ho
    · exact ho
    · cases ho

theorem segs_plan {S : AC → Lv → Hp → Post → Prop} {m : Nat} {ops : Array Oper} {aops : List AO} {Q : Post} (hm : h0.length ≤ m)
    (hseq : ∀ a b L h Q, S (.seq a b) L h Q → S a L h fun x L h => match x with | .normal => S b L h Q | x => Q x L h) (hreg : ∀ d ops L h Q, S (.reg d ops) L h Q → runO P m d ops L h fun L h => Q .normal L h)
    (hcomp : compOs P ops N ops.toList = some aops) (hg : aops.all (gOk N) = true) : ∀ (bs : List (AO × List AO)) (c : List AO) (k : Nat) (L : Lv) (h : Hp), (∀ i, (c ++ flatB bs)[i]? = aops[k + i]?) → BarsOk (masks ops.toList []) ops.size (k + c.length) bs → S (acSegs c bs) L h Q →
    ∃ e' h', RunI P aops (List.range' k c.length) (lkL L) h e' h' ∧ PlanK P N G0 ι0 h0 w0 ops aops (out N G0 ι0 h0 w0 Q) (idxP (k + c.length) bs) e' h' := by
  intro bs
  induction bs with
  | nil =>
    intro c k L h hi _ hs
    obtain ⟨L', h', h1, h2⟩ := runO_run (aops := aops) c k L h _ (by simpa [flatB] using hi) (hreg _ _ _ _ _ hs)
    exact ⟨_, _, h1, fun a w hf => ⟨L', h', h2, hf⟩⟩
  | cons q r ih =>
    intro c k L h hi hb hs
    obtain ⟨o, c'⟩ := q
    obtain ⟨hb1, hb2⟩ := hb
    have hci : ∀ i, c[i]? = aops[k + i]? ∨ c.length ≤ i := fun i => by
      rcases Nat.lt_or_ge i c.length with hlt | hge
      · left; rw [← hi i, List.getElem?_append_left hlt]
      · exact .inr hge
    have hrun : runO P m true c L h fun L h => S (.seq (.reg false [o]) (acSegs c' r)) L h Q := hreg _ _ _ _ _ (hseq _ _ _ _ _ hs)
    obtain ⟨L1, h1, q1, q2⟩ : ∃ L' h', RunI P aops (List.range' k c.length) (lkL L) h (lkL L') h' ∧ S (.seq (.reg false [o]) (acSegs c' r)) L' h' Q := by
      have hc2 : ∀ i, c[i]? = ((aops.take (k + c.length)))[k + i]? := fun i => by
        rcases hci i with h | h
        · rcases Nat.lt_or_ge i c.length with hlt | hge
          · rw [List.getElem?_take_of_lt (by omega), h]
          · rw [List.getElem?_eq_none hge, List.getElem?_eq_none (by simp; omega)]
        · rw [List.getElem?_eq_none h, List.getElem?_eq_none (by simp; omega)]
      obtain ⟨L', h', q1, q2⟩ := runO_run (aops := aops.take (k + c.length)) c k L h _ hc2 hrun
      exact ⟨L', h', RunI.of_take q1, q2⟩
    refine ⟨_, _, q1, ?_⟩
    have hob : aops[k + c.length]? = some o := by rw [← hi c.length]; simp [flatB]
    have hlen := (compOs_get hcomp).1
    obtain ⟨oo, hoo⟩ : ∃ oo, ops.toList[k + c.length]? = some oo := ⟨_, List.getElem?_eq_getElem (by have := get_lt hob; omega)⟩
    have hao := (compOs_get hcomp).2 _ oo o hoo hob
    have hgo : gOk N o = true := by rw [List.all_eq_true] at hg; exact hg o (List.mem_of_getElem? hob)
    have hone : runO P m false [o] L1 h1 fun L h => S (acSegs c' r) L h Q := hreg _ _ _ _ _ (hseq _ _ _ _ _ q2)
    refine ⟨?_, fun a w K hf hK => ?_⟩
    · simp only [barB, Bool.and_eq_true, List.all_eq_true, List.mem_range, Bool.or_eq_true, decide_eq_true_eq] at hb1
      exact ⟨hb1.1, fun i h1 h2 => (hb1.2 i h2).resolve_left (by omega)⟩
    · refine op_wp hm (by simpa using hoo) hao hgo hone hf fun L' h' a' w' hk hf' => ?_
      obtain ⟨e3, h3, p1, p2⟩ := ih c' (k + c.length + 1) L' h' (fun i => by
        have := hi (c.length + 1 + i)
        rw [List.getElem?_append_right (by omega)] at this
        rw [show c.length + 1 + i - c.length = i + 1 by omega] at this
        simp only [flatB, List.getElem?_cons_succ] at this
        rw [this]; congr 1; omega) hb2 hk
      exact hK _ _ _ _ _ _ hf' p1 p2

theorem region_segs {S : AC → Lv → Hp → Post → Prop} {m id : Nat} {ops : Array Oper} {aops : List AO} {Q : Post} {L : Lv} {h : Hp} {a : Act} {w : World} (hmo : P.follows .mixedOrders = true) (hm : h0.length ≤ m)
    (hseq : ∀ a b L h Q, S (.seq a b) L h Q → S a L h fun x L h => match x with | .normal => S b L h Q | x => Q x L h) (hreg : ∀ d ops L h Q, S (.reg d ops) L h Q → runO P m d ops L h fun L h => Q .normal L h)
    (hcomp : compOs P ops N ops.toList = some aops) (hg : aops.all (gOk N) = true) (hk : aops.all constOk = true) (hd : drawOk ops.toList aops = true) (hf : Fits N G0 ι0 h0 w0 (lkL L) h a w) (hs : S (acDraw ops aops) L h Q) : (Code.region id ops true).wp P (out N G0 ι0 h0 w0 Q) a w := by
  unfold acDraw at hs
  generalize hsp : splitD (masks ops.toList []) ops.size 0 aops = p at hs
  obtain ⟨c, bs⟩ := p
  obtain ⟨h1, h2⟩ := splitD_spec aops 0 c bs hsp
  obtain ⟨e', h', q1, q2⟩ := segs_plan hm hseq hreg hcomp hg bs c 0 L h (fun i => by rw [← h1]; simp) h2 hs
  refine region_draw hmo hcomp hg hk hd hf ?_ q1 q2
  rw [flat_idx, Nat.zero_add]
  have hlen := (compOs_get hcomp).1
  have : ops.size = c.length + (flatB bs).length := by
    rw [← List.length_append, ← h1, ← hlen]; simp
  rw [this, List.range_eq_range']
  have := List.range'_append_1 (s := 0) (m := c.length) (n := (flatB bs).length)
  simpa using this

theorem getP_get : ∀ {l : List (List Nat)} {i : Nat} {x : List Nat}, l[i]? = some x → getP l i = x
  | [], _, _, h => by simp at h
  | y :: r, 0, x, h => by simpa [getP] using h
  | y :: r, i + 1, x, h => by simp only [List.getElem?_cons_succ] at h; simp only [getP]; exact getP_get h
theorem getP_none : ∀ {l : List (List Nat)} {i : Nat}, l.length ≤ i → getP l i = []
  | [], _, _ => rfl
  | y :: r, 0, h => by simp at h
  | y :: r, i + 1, h => by simp only [getP]; exact getP_none (by simpa using h)

theorem preOf_bit {ops : Array Oper} {i j : Nat} (h : j ∈ getP (preOf (masks ops.toList []) ops.size) i) : bitM ops i j = true := by
  rcases Nat.lt_or_ge i ops.size with hi | hi
  · rw [getP_get (x := (List.range i).filter fun j => ((masks ops.toList []).getD i 0).testBit j) (by simp [preOf, hi])] at h
    exact (List.mem_filter.1 h).2
  · rw [getP_none (by simp [preOf]; exact hi)] at h; cases h

theorem segs_plan3 {S : AC → Lv → Hp → Post → Prop} {m : Nat} {ops : Array Oper} {aops : List AO} {Q : Post} (hm : h0.length ≤ m)
    (hseq : ∀ a b L h Q, S (.seq a b) L h Q → S a L h fun x L h => match x with | .normal => S b L h Q | x => Q x L h) (hreg : ∀ d ops L h Q, S (.reg d ops) L h Q → runO P m d ops L h fun L h => Q .normal L h)
    (hrgf : ∀ pre k ops L h Q, S (.rgf pre k ops) L h Q → runF P m pre k [] ops L h fun L h => Q .normal L h)
    (hcomp : compOs P ops N ops.toList = some aops) (hg : aops.all (gOk N) = true) (hcon : aops.all constRf = true) : ∀ (bs : List (AO × List AO)) (c : List AO) (k : Nat) (L : Lv) (h : Hp) (a : Act) (w : World), (∀ i, (c ++ flatB bs)[i]? = aops[k + i]?) → BarsOk (masks ops.toList []) ops.size (k + c.length) bs →
      S (acSegs3 (preOf (masks ops.toList []) ops.size) k c bs) L h Q → Fits N G0 ι0 h0 w0 (lkL L) h a w →
    Seg3 P h0.length ops aops (List.range' k c.length) (lkL L) h (PlanK3 P N G0 ι0 h0 w0 ops aops (out N G0 ι0 h0 w0 Q) (idxP (k + c.length) bs)) := by
  intro bs
  have hci : ∀ (bs : List (AO × List AO)) (c : List AO) (k : Nat), (∀ i, (c ++ flatB bs)[i]? = aops[k + i]?) → ∀ i, i < c.length → c[i]? = aops[k + i]? := fun bs c k hi i hlt => by rw [← hi i, List.getElem?_append_left hlt]
  induction bs with
  | nil =>
    intro c k L h a w hi _ hs hf
    obtain ⟨mm, tr, e', h', q1, q2, q3, L', rfl, q4⟩ := runF_seg3 hcomp (fun i j => preOf_bit) hcon (hci [] c k hi) (hrgf _ _ _ _ _ _ hs) hf
    exact ⟨mm, tr, _, h', q1, q2, q3, fun a w hf => ⟨L', h', q4, hf⟩⟩
  | cons q r ih =>
    intro c k L h a w hi hb hs hf
    obtain ⟨o, c'⟩ := q
    obtain ⟨hb1, hb2⟩ := hb
    obtain ⟨mm, tr, e', h', q1, q2, q3, L1, rfl, q4⟩ := runF_seg3 hcomp (fun i j => preOf_bit) hcon (hci ((o, c') :: r) c k hi) (hrgf _ _ _ _ _ _ (hseq _ _ _ _ _ hs)) hf
    refine ⟨mm, tr, _, h', q1, q2, q3, ?_⟩
    have hob : aops[k + c.length]? = some o := by rw [← hi c.length]; simp [flatB]
    have hlen := (compOs_get hcomp).1
    obtain ⟨oo, hoo⟩ : ∃ oo, ops.toList[k + c.length]? = some oo := ⟨_, List.getElem?_eq_getElem (by have := get_lt hob; omega)⟩
    have hao := (compOs_get hcomp).2 _ oo o hoo hob
    have hgo : gOk N o = true := by rw [List.all_eq_true] at hg; exact hg o (List.mem_of_getElem? hob)
    have hone : runO P m false [o] L1 h' fun L h => S (acSegs3 (preOf (masks ops.toList []) ops.size) (k + c.length + 1) c' r) L h Q := hreg _ _ _ _ _ (hseq _ _ _ _ _ q4)
    refine ⟨?_, fun a w K hf hK => ?_⟩
    · simp only [barB, Bool.and_eq_true, List.all_eq_true, List.mem_range, Bool.or_eq_true, decide_eq_true_eq] at hb1
      exact ⟨hb1.1, fun i h1 h2 => (hb1.2 i h2).resolve_left (by omega)⟩
    · refine op_wp hm (by simpa using hoo) hao hgo hone hf fun L' h' a' w' hk hf' => ?_
      exact hK _ _ _ _ hf' (ih c' (k + c.length + 1) L' h' a' w' (fun i => by
        have := hi (c.length + 1 + i)
        rw [List.getElem?_append_right (by omega)] at this
        rw [show c.length + 1 + i - c.length = i + 1 by omega] at this
        simp only [flatB, List.getElem?_cons_succ] at this
        rw [this]; congr 1; omega) hb2 hk hf')

theorem region_segs3 {S : AC → Lv → Hp → Post → Prop} {m id : Nat} {ops : Array Oper} {aops : List AO} {Q : Post} {L : Lv} {h : Hp} {a : Act} {w : World} (hmo : P.follows .mixedOrders = true) (hm : h0.length ≤ m)
    (hseq : ∀ a b L h Q, S (.seq a b) L h Q → S a L h fun x L h => match x with | .normal => S b L h Q | x => Q x L h) (hreg : ∀ d ops L h Q, S (.reg d ops) L h Q → runO P m d ops L h fun L h => Q .normal L h)
    (hrgf : ∀ pre k ops L h Q, S (.rgf pre k ops) L h Q → runF P m pre k [] ops L h fun L h => Q .normal L h)
    (hcomp : compOs P ops N ops.toList = some aops) (hg : aops.all (gOk N) = true) (hcon : aops.all constRf = true) (hd : drawOk2 ops.toList aops = true) (hf : Fits N G0 ι0 h0 w0 (lkL L) h a w) (hs : S (acDraw3 ops aops) L h Q) : (Code.region id ops true).wp P (out N G0 ι0 h0 w0 Q) a w := by
  unfold acDraw3 at hs
  generalize hsp : splitD (masks ops.toList []) ops.size 0 aops = p at hs
  obtain ⟨c, bs⟩ := p
  obtain ⟨h1, h2⟩ := splitD_spec aops 0 c bs hsp
  have hseg := segs_plan3 hm hseq hreg hrgf hcomp hg hcon bs c 0 L h a w (fun i => by rw [← h1]; simp) h2 hs hf
  refine region3 hmo hcomp hg hd hf ?_ hseg
  rw [flat_idx, Nat.zero_add]
  have hlen := (compOs_get hcomp).1
  have : ops.size = c.length + (flatB bs).length := by
    rw [← List.length_append, ← h1, ← hlen]; simp
  rw [this, List.range_eq_range']
  have := List.range'_append_1 (s := 0) (m := c.length) (n := (flatB bs).length)
  simpa using this

theorem vcC_sound {Λ : Len} (hΛ : ∀ l, Λ l = (l.length : Int)) {m : Nat} (hm : P.follows .mixedOrders = true) (hm0 : h0.length ≤ m) : ∀ (c : Code) (ac : AC) (L : Lv) (h : Hp) (Q : Post) (a : Act) (w : World), compC P N c = some ac → vcC P Λ m ac L h Q →
    Fits N G0 ι0 h0 w0 (lkL L) h a w → c.wp P (out N G0 ι0 h0 w0 Q) a w := by
  intro c
  induction c with
  | skip =>
    intro ac L h Q a w hc hv hf
    simp only [compC, Option.some.injEq] at hc; subst hc
    exact wp_skip ⟨L, h, hv, hf⟩
  | label l =>
    intro ac L h Q a w hc hv hf
    simp only [compC, Option.some.injEq] at hc; subst hc
    exact wp_label ⟨L, h, hv, hf⟩
  | region id ops draw =>
    intro ac L h Q a w hc hv hf
    simp only [compC] at hc
    split at hc
    · rename_i aos haos
      split at hc
      · rename_i hcond
        cases hc
        cases draw with
        | false =>
          refine wp_region ?_
          rw [List.range_eq_range']
          have := region_seq (ops := ops) (Q := out N G0 ι0 h0 w0 Q) hm0 ops.toList aos 0 L h _ a w (by simp) haos hcond.1 (vcOps_runO hΛ hv) hf (fun L' h' a' w' hk hf' => ⟨L', h', hk, hf'⟩)
          simpa using this
        | true =>
          exact region_segs (S := fun ac L h Q => vcC P Λ m ac L h Q) hm hm0 (fun _ _ _ _ _ h => h) (fun _ _ _ _ _ h => vcOps_runO hΛ h) haos hcond.1 (hcond.2 rfl).1 (hcond.2 rfl).2 hf hv
      · split at hc
        · rename_i hcond
          cases hc
          obtain ⟨rfl, k1, k2, k3⟩ := hcond
          exact region_segs3 (S := fun ac L h Q => vcC P Λ m ac L h Q) hm hm0 (fun _ _ _ _ _ h => h) (fun _ _ _ _ _ h => vcOps_runO hΛ h) (fun _ _ _ _ _ _ h => vcF3_runF hΛ h) haos k1 k2 k3 hf hv
        · cases hc
    · cases hc
  | seq x y ihx ihy =>
    intro ac L h Q a w hc hv hf
    simp only [compC] at hc
    split at hc
    · rename_i cx' cy' hx hy
      cases hc
      refine wp_seq (wp_mono (ihx cx' L h _ a w hx hv hf) fun e a' w' ⟨L', h', hq, hf'⟩ => ?_)
      cases e with
      | normal => exact ihy cy' L' h' Q a' w' hy hq hf'
      | exit i => exact ⟨L', h', hq, hf'⟩
      | ret => exact ⟨L', h', hq, hf'⟩
      | goto => exact hq.elim
      | panic => exact hq.elim
      | outgrown => exact hq.elim
    · cases hc
  | cond c x y ihx ihy =>
    intro ac L h Q a w hc hv hf
    simp only [compC] at hc
    split at hc
    · rename_i c' cx' cy' hcc hx hy
      cases hc
      simp only [vcC] at hv
      split at hv
      · rename_i t ht
        obtain ⟨G, ι, st⟩ := hf
        have hr := cx_sound hcc st.rel
        rw [evN_eq] at ht
        rw [ht] at hr
        have he := inv_bool hr
        cases t with
        | true => exact wp_cond_true he (ihx cx' L h Q a w hx hv ⟨G, ι, st⟩)
        | false => exact wp_cond_false he (ihy cy' L h Q a w hy hv ⟨G, ι, st⟩)
      · exact hv.elim
    · cases hc
  | block id c ih =>
    intro ac L h Q a w hc hv hf
    simp only [compC] at hc
    split at hc
    · rename_i c' hcc
      cases hc
      refine wp_block (wp_mono (ih c' L h _ a w hcc hv hf) fun e a' w' ⟨L', h', hq, hf'⟩ => ?_)
      cases e with
      | normal => exact ⟨L', h', hq, hf'⟩
      | ret => exact ⟨L', h', hq, hf'⟩
      | exit i =>
        simp only [exq] at hq
        simp only [Exit.inBlock]
        split at hq
        · rename_i hb
          have : i = id := Nat.eq_of_beq_eq_true hb
          rw [if_pos this]; exact ⟨L', h', hq, hf'⟩
        · rename_i hb
          have : ¬ i = id := fun e => by subst e; simp at hb
          rw [if_neg this]; exact ⟨L', h', hq, hf'⟩
      | goto => exact hq.elim
      | panic => exact hq.elim
      | outgrown => exact hq.elim
    · cases hc
  | loop c ih =>
    intro ac L h Q a w hc hv hf
    simp only [compC] at hc
    split at hc
    · rename_i c' hcc
      cases hc
      simp only [vcC] at hv
      obtain ⟨I, n, L1, h1, hwk, hstart, hround⟩ := hv
      refine wp_loop_ghost (fun n a w => ∃ L h, I n L h ∧ Fits N G0 ι0 h0 w0 (lkL L) h a w) ?_ n a w ⟨L1, h1, hstart, hwk.fits hm0 hf⟩
      intro n a w ⟨L2, h2, hI, hf2⟩
      refine wp_mono (ih c' L2 h2 _ a w hcc (hround n L2 h2 hI) hf2) fun e a' w' ⟨L', h', hq, hf'⟩ => ?_
      cases e with
      | normal =>
        obtain ⟨n', L3, h3, h4, h5, h6⟩ := hq
        exact ⟨n', h4, L3, h3, h6, h5.fits hm0 hf'⟩
      | exit i =>
        obtain ⟨L3, h3, h4, h5⟩ := hq
        exact ⟨L3, h3, h5, h4.fits hm0 hf'⟩
      | ret => exact ⟨L', h', hq, hf'⟩
      | goto => exact hq.elim
      | panic => exact hq.elim
      | outgrown => exact hq.elim
    · cases hc
  | scope c ih =>
    intro ac L h Q a w hc hv hf
    simp only [compC] at hc
    refine wp_scope_straight (wp_mono (ih ac L h Q a w hc hv hf) fun e a' w' hq => ?_)
    obtain ⟨L', h', hq, hf'⟩ := hq
    cases e with
    | normal => exact ⟨L', h', hq, hf'⟩
    | exit i => exact ⟨L', h', hq, hf'⟩
    | ret => exact ⟨L', h', hq, hf'⟩
    | goto => exact hq.elim
    | panic => exact hq.elim
    | outgrown => exact hq.elim
  | exit id =>
    intro ac L h Q a w hc hv hf
    simp only [compC, Option.some.injEq] at hc; subst hc
    exact wp_exit ⟨L, h, hv, hf⟩
  | ret =>
    intro ac L h Q a w hc hv hf
    simp only [compC, Option.some.injEq] at hc; subst hc
    exact wp_ret ⟨L, h, hv, hf⟩
  | goto l => intro ac L h Q a w hc; simp [compC] at hc
  | rangeFunc => intro ac L h Q a w hc; simp [compC] at hc
  | refuse => intro ac L h Q a w hc; simp [compC] at hc

end
end Go.Ab

/-
  The engine, part y: a function's contract out of its text's condition.
-/
namespace Go.Ab

/-- a function's text: how many slots, where the results lie, the body -/
structure AF where
  nt : Nat
  res : List (Nat × Option (Option Nat))
  body : AC

def resC (P : Program) : List ResultVar → Option (List (Nat × Option (Option Nat)))
  | [] => some []
  | .tmp t :: r => match resC P r with
    | some l => some ((t, none) :: l)
    | none => none
  | .cell t ty :: r => match ldk P ty, resC P r with
    | some k, some l => some ((t, some k) :: l)
    | _, _ => none

def compF (P : Program) (fn : Func) : Option AF :=
  match fn.body with
  | some c => match compC P fn.ntmps c, resC P fn.results.toList with
    | some ac, some r => some ⟨fn.ntmps, r, ac⟩
    | _, _ => none
  | none => none

def resA (e : Env) (h : Hp) : List (Nat × Option (Option Nat)) → Option (List AV)
  | [] => some []
  | (s, k) :: r => match resA e h r with
    | some l => (match k with
      | none => some (e s :: l)
      | some none => match rd h (e s) with
        | some (c :: _) => some (.c c :: l)
        | _ => none
      | some (some n) => match rd h (e s) with
        | some cs => if n ≤ cs.length then some (.agg (cs.take n) :: l) else none
        | none => none)
    | none => none

def pack : List AV → AV
  | [x] => x
  | l => .tup l

/-- a result that leads into no block of the heap any more -/
def frzC (h : Hp) : CV → Option (CV × Hp)
  | .d x => some (.d (fgD x), h)
  | .cl _ sz l => some (.d (.list false sz l), h)
  | .arr l v i n => match h[l]? with
    | some (.da _ v' sz es) => (match Nat.beq v' v with
      | true => some (.d (.list false sz ((es.drop i).take n)), h.set l .dead)
      | false => none)
    | _ => none
  | .u => some (.u, h)
  | .rp cs => some (.rp cs, h)
  | .fn f [] => some (.fn f [], h)
  | _ => none

def frzCs (h : Hp) : List CV → Option (List CV × Hp)
  | [] => some ([], h)
  | x :: r => match frzC h x with
    | some (y, h1) => (match frzCs h1 r with
      | some (l, h2) => some (y :: l, h2)
      | none => none)
    | none => none

def frzA1 (h : Hp) : AV → Option (AV × Hp)
  | .c x => match frzC h x with
    | some (y, h1) => some (.c y, h1)
    | none => none
  | .agg l => match frzCs h l with
    | some (y, h1) => some (.agg y, h1)
    | none => none
  | .tup _ => none

def frzAs (h : Hp) : List AV → Option (List AV × Hp)
  | [] => some ([], h)
  | x :: r => match frzA1 h x with
    | some (y, h1) => (match frzAs h1 r with
      | some (l, h2) => some (y :: l, h2)
      | none => none)
    | none => none

/-- the same, while conditions are computed: what is given up gets a name -/
def vFrzC (h : Hp) (x : CV) (K : CV → Hp → Prop) : Prop :=
  match x with
  | .d x => K (.d (fgD x)) h
  | .arr l v i n => match h[l]? with
    | some (.da _ v' sz es) => (Unit → v' = v) ∧ ∀ ls, ls = (es.drop i).take n → K (.d (.list false sz ls)) (h.set l .dead)
    | _ => False
  | x => match frzC h x with
    | some (y, h1) => K y h1
    | none => False

def vFrzCs (h : Hp) : List CV → (List CV → Hp → Prop) → Prop
  | [], K => K [] h
  | x :: r, K => vFrzC h x fun y h1 => vFrzCs h1 r fun l h2 => K (y :: l) h2

def vFrzA1 (h : Hp) (x : AV) (K : AV → Hp → Prop) : Prop :=
  match x with
  | .c x => vFrzC h x fun y h1 => K (.c y) h1
  | .agg l => vFrzCs h l fun y h1 => K (.agg y) h1
  | .tup _ => False

def vFrzAs (h : Hp) : List AV → (List AV → Hp → Prop) → Prop
  | [], K => K [] h
  | x :: r, K => vFrzA1 h x fun y h1 => vFrzAs h1 r fun l h2 => K (y :: l) h2

theorem vFrzC_sound {h : Hp} {x : CV} {K : CV → Hp → Prop} (hv : vFrzC h x K) : ∃ y h1, frzC h x = some (y, h1) ∧ K y h1 := by
  unfold vFrzC at hv
  split at hv
  · exact ⟨_, _, rfl, hv⟩
  · split at hv
    · rename_i hes
      have hb := hv.1 ()
      subst hb
      exact ⟨_, _, by simp only [frzC, hes, Nat.beq_refl], hv.2 _ rfl⟩
    · exact hv.elim
  · split at hv
    · rename_i y h1 hy; exact ⟨y, h1, hy, hv⟩
    · exact hv.elim

theorem vFrzCs_sound : ∀ {l : List CV} {h : Hp} {K : List CV → Hp → Prop}, vFrzCs h l K → ∃ y h1, frzCs h l = some (y, h1) ∧ K y h1 := by
  intro l
  induction l with
  | nil => intro h K hv; exact ⟨_, _, rfl, hv⟩
  | cons x r ih =>
    intro h K hv
    obtain ⟨y, h1, e1, hv⟩ := vFrzC_sound hv
    obtain ⟨z, h2, e2, hv⟩ := ih hv
    exact ⟨_, _, by simp only [frzCs, e1, e2], hv⟩

theorem vFrzA1_sound {h : Hp} {x : AV} {K : AV → Hp → Prop} (hv : vFrzA1 h x K) : ∃ y h1, frzA1 h x = some (y, h1) ∧ K y h1 := by
  unfold vFrzA1 at hv
  split at hv
  · obtain ⟨y, h1, e1, hv⟩ := vFrzC_sound hv
    exact ⟨_, _, by simp only [frzA1, e1], hv⟩
  · obtain ⟨y, h1, e1, hv⟩ := vFrzCs_sound hv
    exact ⟨_, _, by simp only [frzA1, e1], hv⟩
  · exact hv.elim

theorem vFrzAs_sound : ∀ {l : List AV} {h : Hp} {K : List AV → Hp → Prop}, vFrzAs h l K → ∃ y h1, frzAs h l = some (y, h1) ∧ K y h1 := by
  intro l
  induction l with
  | nil => intro h K hv; exact ⟨_, _, rfl, hv⟩
  | cons x r ih =>
    intro h K hv
    obtain ⟨y, h1, e1, hv⟩ := vFrzA1_sound hv
    obtain ⟨z, h2, e2, hv⟩ := ih hv
    exact ⟨_, _, by simp only [frzAs, e1, e2], hv⟩

def RetP (res : List (Nat × Option (Option Nat))) (L : Lv) (h : Hp) (K : AV → Prop) : Prop :=
  match resA (lkN L) h res with
  | some vs => (match frzAs h vs with
    | some (rs, _) => K (pack rs)
    | none => False)
  | none => False

/-- the same, while conditions are computed -/
def RetQ (res : List (Nat × Option (Option Nat))) (L : Lv) (h : Hp) (K : AV → Prop) : Prop :=
  match resA (lkN L) h res with
  | some vs => vFrzAs h vs fun rs _ => K (pack rs)
  | none => False

theorem RetQ.ret {res : List (Nat × Option (Option Nat))} {L : Lv} {h : Hp} {K : AV → Prop} (hq : RetQ res L h K) : RetP res L h K := by
  unfold RetQ at hq
  unfold RetP
  split at hq
  · rename_i vs hvs
    obtain ⟨y, h1, e1, hk⟩ := vFrzAs_sound hq
    simp only [e1]; exact hk
  · exact hq.elim

def RetH (res : List (Nat × Option (Option Nat))) (L : Lv) (h : Hp) (K : AV → Hp → Prop) : Prop :=
  match resA (lkN L) h res with
  | some vs => K (pack vs) h
  | none => False

def argL : Nat → List AV → Lv
  | _, [] => []
  | n, v :: r => (n, v) :: argL (n + 1) r

/-- the condition of a function that owns nothing at its beginning -/
def vcFE (res : List (Nat × Option (Option Nat))) (K : AV → Prop) : Post := fun x L h => match x with
  | .exit _ => False
  | _ => RetQ res L h K
def vcF (P : Program) (Λ : Len) (af : AF) (args : List AV) (K : AV → Prop) : Prop :=
  match af with
  | ⟨_, res, body⟩ => vcC P Λ 0 body (argL 0 args) [] (vcFE res K)

/-- the condition of a function that works on its caller's blocks -/
def vcH (P : Program) (Λ : Len) (af : AF) (args : List AV) (h : Hp) (K : AV → Hp → Prop) : Prop :=
  match af with
  | ⟨_, res, body⟩ => vcC P Λ h.length body (argL 0 args) h fun x L h => match x with
    | .exit _ => False
    | _ => RetH res L h K

section
variable {P : Program} {G : Nat → Prop} {ι : Io} {h : Hp} {w : World}

theorem argL_get : ∀ (args : List AV) (n i : Nat), lkL (argL n args) i = if n ≤ i then (args[i - n]?).getD (.c .u) else .c .u := by
  intro args
  induction args with
  | nil => intro n i; simp [argL, lkL]
  | cons v r ih =>
    intro n i
    simp only [argL, lkL, upd]
    by_cases h1 : n = i
    · subst h1; simp
    · rw [if_neg h1, ih]
      by_cases h2 : n ≤ i
      · rw [if_pos (by omega), if_pos h2, show i - n = (i - (n + 1)) + 1 by omega]; simp
      · rw [if_neg (by omega), if_neg h2]

theorem frzC_sound {v : Value} {x y : CV} {h' : Hp} (hr : HR G ι h w) (hx : CR G w ι h v x) (hf : frzC h x = some (y, h')) :
    ∃ G', HR G' ι h' w ∧ CR G' w ι h' v y ∧ Ext G ι h w G' ι h' w ∧ pureC y = true := by
  unfold frzC at hf
  split at hf
  · cases hf; exact ⟨G, hr, hx.fg, Ext.refl _ _ _ _, rfl⟩
  · cases hf; exact ⟨G, hr, hx.fg, Ext.refl _ _ _ _, rfl⟩
  · rename_i l ver i n
    split at hf
    · rename_i v' sz es hes
      split at hf
      · rename_i hv
        have hv : v' = ver := Nat.eq_of_beq_eq_true hv
        subst hv
        cases hf
        obtain ⟨G', k1, k2, k3⟩ := frz_sound (h' := h.set l .dead) (d := .list false sz ((es.drop i).take n)) hr hx (by simp [frz, hes])
        exact ⟨G', k1, .d _ _ k2, k3, rfl⟩
      · cases hf
    · cases hf
  · cases hf; exact ⟨G, hr, hx, Ext.refl _ _ _ _, rfl⟩
  · cases hf; exact ⟨G, hr, hx, Ext.refl _ _ _ _, rfl⟩
  · cases hf; exact ⟨G, hr, hx, Ext.refl _ _ _ _, rfl⟩
  · cases hf

theorem frzCs_sound : ∀ {xs ys : List CV} {vs : List Value} {G : Nat → Prop} {h h' : Hp}, HR G ι h w → vs.length = xs.length →
    (∀ (i : Nat) (v : Value) (x : CV), vs[i]? = some v → xs[i]? = some x → CR G w ι h v x) → frzCs h xs = some (ys, h') →
    ∃ G', HR G' ι h' w ∧ Ext G ι h w G' ι h' w ∧ vs.length = ys.length ∧ ys.all pureC = true ∧ ∀ (i : Nat) (v : Value) (y : CV), vs[i]? = some v → ys[i]? = some y → CR G' w ι h' v y := by
  intro xs
  induction xs with
  | nil =>
    intro ys vs G h h' hr hl _ hf
    simp only [frzCs, Option.some.injEq, Prod.mk.injEq] at hf
    obtain ⟨rfl, rfl⟩ := hf
    exact ⟨G, hr, Ext.refl _ _ _ _, hl, rfl, by simp⟩
  | cons x xs ih =>
    intro ys vs G h h' hr hl hc hf
    cases vs with
    | nil => simp at hl
    | cons v vs =>
      simp only [frzCs] at hf
      split at hf
      · rename_i y h1 hy
        split at hf
        · rename_i l h2 hl2
          cases hf
          obtain ⟨G1, k1, k2, k3, k4⟩ := frzC_sound hr (hc 0 v x rfl rfl) hy
          obtain ⟨G2, q1, q2, q3, q4, q5⟩ := ih k1 (by simpa using hl) (fun i v x hv hx => (hc (i + 1) v x (by simpa using hv) (by simpa using hx)).ext k3 hr) hl2
          refine ⟨G2, q1, k3.trans q2, by simp [q3], by simp [k4, q4], fun i v' y' hv hy' => ?_⟩
          cases i with
          | zero => simp at hv hy'; subst hv hy'; exact k2.ext q2 k1
          | succ i => simp at hv hy'; exact q5 i v' y' hv hy'
        · cases hf
      · cases hf

theorem frzA1_sound {v : Value} {x y : AV} {h' : Hp} (hr : HR G ι h w) (hx : VR G w ι h v x) (hf : frzA1 h x = some (y, h')) :
    ∃ G', HR G' ι h' w ∧ VR G' w ι h' v y ∧ Ext G ι h w G' ι h' w ∧ pureA y = true := by
  cases hx with
  | c _ x hc =>
    simp only [frzA1] at hf
    split at hf
    · rename_i z h1 hz
      cases hf
      obtain ⟨G', k1, k2, k3, k4⟩ := frzC_sound hr hc hz
      exact ⟨G', k1, .c _ _ k2, k3, k4⟩
    · cases hf
  | agg cs l hn hc =>
    simp only [frzA1] at hf
    split at hf
    · rename_i z h1 hz
      cases hf
      obtain ⟨G', k1, k2, k3, k4, k5⟩ := frzCs_sound hr (vs := cs.toList) (by simpa using hn) (fun i v x hv hx => hc i v x (by simpa using hv) hx) hz
      exact ⟨G', k1, .agg _ _ (by simpa using k3) (fun i v x hv hx => k5 i v x (by simpa using hv) hx), k2, k4⟩
    · cases hf
  | tup => simp [frzA1] at hf

theorem frzAs_sound : ∀ {xs ys : List AV} {vs : List Value} {G : Nat → Prop} {h h' : Hp}, HR G ι h w → VRs G w ι h vs xs → frzAs h xs = some (ys, h') →
    ∃ G', HR G' ι h' w ∧ Ext G ι h w G' ι h' w ∧ VRs G' w ι h' vs ys ∧ pureA.pureAs ys = true := by
  intro xs
  induction xs with
  | nil =>
    intro ys vs G h h' hr hv hf
    simp only [frzAs, Option.some.injEq, Prod.mk.injEq] at hf
    obtain ⟨rfl, rfl⟩ := hf
    exact ⟨G, hr, Ext.refl _ _ _ _, hv, rfl⟩
  | cons x xs ih =>
    intro ys vs G h h' hr hv hf
    obtain ⟨hl, hc⟩ := hv
    cases vs with
    | nil => simp at hl
    | cons v vs =>
      simp only [frzAs] at hf
      split at hf
      · rename_i y h1 hy
        split at hf
        · rename_i l h2 hl2
          cases hf
          obtain ⟨G1, k1, k2, k3, k4⟩ := frzA1_sound hr (hc 0 v x rfl rfl) hy
          obtain ⟨G2, q1, q2, q3, q4⟩ := ih k1 ⟨by simpa using hl, fun i v x hv hx => (hc (i + 1) v x (by simpa using hv) (by simpa using hx)).ext k3 hr⟩ hl2
          refine ⟨G2, q1, k3.trans q2, ⟨by simp [q3.1], fun i v' y' hv hy' => ?_⟩, by simp [pureA.pureAs, k4, q4]⟩
          cases i with
          | zero => simp at hv hy'; subst hv hy'; exact k2.ext q2 k1
          | succ i => simp at hv hy'; exact q3.2 i v' y' hv hy'
        · cases hf
      · cases hf

theorem asAddr_some {b o : Nat} : (asAddr (.pointer (some ⟨b, o, none⟩))).run P w = .ok ⟨b, o, none⟩ w := rfl

theorem results_run {tmps : Array Value} {e : Env} (hr : HR G ι h w) (he : ∀ i, VR G w ι h (tmps.getD i undef) (e i)) : ∀ (rs : List ResultVar) (res : List (Nat × Option (Option Nat))) (vs : List AV), resC P rs = some res → resA e h res = some vs →
    ∃ us : List Value, (rs.mapM fun (r : ResultVar) => (match r with | .tmp t => (pure (tmps.getD t undef) : Sem Value) | .cell a t => do loadVar t (← asAddr (tmps.getD a undef)))).run P w = .ok us w ∧ VRs G w ι h us vs := by
  intro rs
  induction rs with
  | nil =>
    intro res vs h1 h2
    simp only [resC, Option.some.injEq] at h1; subst h1
    simp only [resA, Option.some.injEq] at h2; subst h2
    exact ⟨[], by simp, rfl, by simp⟩
  | cons r rs ih =>
    intro res vs h1 h2
    have fin : ∀ (l : List (Nat × Option (Option Nat))) (l2 : List AV) (u : Value) (x : AV), resC P rs = some l → resA e h l = some l2 → vs = x :: l2 → VR G w ι h u x →
        ((match r with | .tmp t => (pure (tmps.getD t undef) : Sem Value) | .cell a t => do loadVar t (← asAddr (tmps.getD a undef)))).run P w = .ok u w →
        ∃ us : List Value, ((r :: rs).mapM fun (r : ResultVar) => (match r with | .tmp t => (pure (tmps.getD t undef) : Sem Value) | .cell a t => do loadVar t (← asAddr (tmps.getD a undef)))).run P w = .ok us w ∧ VRs G w ι h us vs := by
      intro l l2 u x a1 a2 a3 a4 a5
      obtain ⟨us, q1, q2, q3⟩ := ih l l2 a1 a2
      subst a3
      refine ⟨u :: us, ?_, by simp [q2], fun i v y hv hy => ?_⟩
      · simp only [List.mapM_cons, Sem.run_bind, a5, Result.andThen_ok, q1, Sem.run_pure]
      · cases i with
        | zero => simp at hv hy; subst hv hy; exact a4
        | succ i => simp at hv hy; exact q3 i v y hv hy
    cases r with
    | tmp t =>
      simp only [resC] at h1
      split at h1
      · rename_i l hl
        cases h1
        simp only [resA] at h2
        split at h2
        · rename_i l2 hl2
          cases h2
          exact fin l l2 _ _ hl hl2 rfl (he t) rfl
        · cases h2
      · cases h1
    | cell t ty =>
      simp only [resC] at h1
      split at h1
      · rename_i k l hk hl
        cases h1
        simp only [resA] at h2
        split at h2
        · rename_i l2 hl2
          cases k with
          | none =>
            simp only at h2
            split at h2
            · rename_i c cs hrd
              cases h2
              obtain ⟨b, o, hv, hc⟩ := rd_sound hr (he t) hrd
              obtain ⟨v, k1, k2⟩ := s_ld1 (P := P) hr (he t) hk hrd
              rw [hv] at k1
              refine fin l l2 v _ hl hl2 rfl k2 ?_
              simp only [hv, Sem.run_bind, asAddr_some, Result.andThen_ok]
              simpa [Instr.loadAt, Instr.sureAddr] using k1
            · cases h2
          | some n =>
            simp only at h2
            split at h2
            · rename_i cs hrd
              split at h2
              · rename_i hn
                cases h2
                obtain ⟨b, o, hv, hc⟩ := rd_sound hr (he t) hrd
                obtain ⟨v, k1, k2⟩ := s_ldn (P := P) hr (he t) hk hrd hn
                rw [hv] at k1
                refine fin l l2 v _ hl hl2 rfl k2 ?_
                simp only [hv, Sem.run_bind, asAddr_some, Result.andThen_ok]
                simpa [Instr.loadAt, Instr.sureAddr] using k1
              · cases h2
            · cases h2
        · cases h2
      · cases h1

/-- several results are one tuple -/
theorem pack_sound {us : List Value} {vs : List AV} (hv : VRs G w ι h us vs) : VR G w ι h (if hs : us.toArray.size = 1 then us.toArray[0] else .tuple us.toArray) (pack vs) := by
  obtain ⟨h1, h2⟩ := hv
  cases us with
  | nil =>
    cases vs with
    | nil => exact .tup _ _ rfl (by simp)
    | cons => simp at h1
  | cons u us =>
    cases vs with
    | nil => simp at h1
    | cons v vs =>
      cases us with
      | nil =>
        cases vs with
        | nil => exact h2 0 u v rfl rfl
        | cons => simp at h1
      | cons u2 us =>
        cases vs with
        | nil => simp at h1
        | cons v2 vs =>
          refine .tup _ _ (by simpa using h1) fun i x y hx hy => h2 i x y (by simpa using hx) hy

theorem results_all {fn : Func} {af : AF} {tmps : Array Value} {e : Env} {vs : List AV} (hc : resC P fn.results.toList = some af.res) (hr : HR G ι h w) (he : ∀ i, VR G w ι h (tmps.getD i undef) (e i)) (hv : resA e h af.res = some vs) :
    ∃ us : List Value, (results fn tmps).run P w = .ok (if hs : us.toArray.size = 1 then us.toArray[0] else .tuple us.toArray) w ∧ VRs G w ι h us vs := by
  obtain ⟨us, q1, q2⟩ := results_run (P := P) hr he fn.results.toList af.res vs hc hv
  refine ⟨us, ?_, q2⟩
  simp only [results, Sem.run_bind]
  rw [Array.mapM_eq_mapM_toList, Sem.run_map]
  erw [q1]
  simp only [Result.andThen_ok, Sem.run_pure]

theorem enter_fits {fn : Func} {af : AF} {args : List AV} {vs : List Value} (_hn : af.nt = fn.ntmps) (hl : args.length ≤ fn.ntmps) (hr : HR G ι h w) (hv : VRs G w ι h vs args) :
    Fits fn.ntmps G ι h w (lkL (argL 0 args)) h { tmps := vs.toArray ++ Array.replicate (fn.ntmps - vs.toArray.size) undef, defers := [] } w := by
  refine ⟨G, ι, ⟨hr, rfl, ?_, fun i => ?_⟩, Ext.refl _ _ _ _⟩
  · have := hv.1; simp; omega
  · simp only [lk]
    rw [argL_get]
    simp only [Nat.zero_le, if_true, Nat.sub_zero]
    cases hi : args[i]? with
    | none => exact .c _ _ (.u _)
    | some x =>
      have hil := get_lt hi
      have hlt : i < vs.length := by rw [hv.1]; exact hil
      have hvi : vs[i]? = some vs[i] := List.getElem?_eq_getElem hlt
      have : (vs.toArray ++ Array.replicate (fn.ntmps - vs.toArray.size) undef).getD i undef = vs[i] := by
        rw [Array.getD_eq_getD_getElem?, Array.getElem?_append_left (by simpa using hlt)]
        simp [hlt]
      rw [this]
      exact hv.2 i _ x hvi hi

/-- the ways out of a function's text -/
def postP (res : List (Nat × Option (Option Nat))) (K : AV → Prop) : Post := fun x L h => match x with
  | .exit _ => False
  | _ => RetP res L h K
def postH (res : List (Nat × Option (Option Nat))) (K : AV → Hp → Prop) : Post := fun x L h => match x with
  | .exit _ => False
  | _ => RetH res L h K

theorem fn_pure_wp {f : Nat} {fn : Func} {c : Code} {res : List (Nat × Option (Option Nat))} {args : List AV} {K : AV → Prop} (hf : P.funcs[f]? = some fn) (hb : fn.body = some c) (hres : resC P fn.results.toList = some res) (hl : args.length ≤ fn.ntmps)
    (hwp : ∀ (G : Nat → Prop) (ι : Io) (w : World) (a : Act), Fits fn.ntmps G ι [] w (lkL (argL 0 args)) [] a w → c.wp P (out fn.ntmps G ι [] w (postP res K)) a w) :
    FnS P f args [] fun r _ => pureA r = true ∧ K r := by
  refine ⟨fun G ι w vs hr hvs => ?_⟩
  refine calls_of_wp hf hb (wp_mono (hwp G ι w _ (enter_fits (af := ⟨fn.ntmps, res, .skip⟩) rfl hl hr hvs)) fun x a w' ⟨L, h', hq, hfit⟩ => ?_)
  have fin : RetP res L h' K → a.defers = [] ∧ ∃ v, (results fn a.tmps).run P w' = .ok v w' ∧ ∃ v' r G' ι' h'', Ending.returned v = .returned v' ∧ (pureA r = true ∧ K r) ∧ HR G' ι' h'' w' ∧ VR G' w' ι' h'' v' r ∧ Ext G ι [] w G' ι' h'' w' := by
    intro hret
    obtain ⟨G1, ι1, st⟩ := hfit
    refine ⟨st.rel.dfr, ?_⟩
    unfold RetP at hret
    split at hret
    · rename_i vs' hvs'
      split at hret
      · rename_i rs h2 hrs
        rw [lkN_fun] at hvs'
        obtain ⟨us, q1, q2⟩ := results_all (P := P) (fn := fn) (af := ⟨fn.ntmps, res, .skip⟩) hres st.rel.hr st.rel.env hvs'
        obtain ⟨G2, k1, k2, k3, k4⟩ := frzAs_sound st.rel.hr q2 hrs
        refine ⟨_, q1, _, pack rs, G2, ι1, h2, rfl, ⟨?_, hret⟩, k1, pack_sound k3, st.ext.trans k2⟩
        cases rs with
        | nil => rfl
        | cons x rs =>
          cases rs with
          | nil => simp only [pureA.pureAs, Bool.and_true] at k4; exact k4
          | cons y rs => exact k4
      · exact hret.elim
    · exact hret.elim
  cases x with
  | normal => exact fin hq
  | ret => exact fin hq
  | exit i => exact hq.elim
  | goto => exact hq.elim
  | panic => exact hq.elim
  | outgrown => exact hq.elim

theorem fn_heap_wp {f : Nat} {fn : Func} {c : Code} {res : List (Nat × Option (Option Nat))} {args : List AV} {h : Hp} {K : AV → Hp → Prop} (hf : P.funcs[f]? = some fn) (hb : fn.body = some c) (hres : resC P fn.results.toList = some res) (hl : args.length ≤ fn.ntmps)
    (hwp : ∀ (G : Nat → Prop) (ι : Io) (w : World) (a : Act), Fits fn.ntmps G ι h w (lkL (argL 0 args)) h a w → c.wp P (out fn.ntmps G ι h w (postH res K)) a w) :
    FnS P f args h K := by
  refine ⟨fun G ι w vs hr hvs => ?_⟩
  refine calls_of_wp hf hb (wp_mono (hwp G ι w _ (enter_fits (af := ⟨fn.ntmps, res, .skip⟩) rfl hl hr hvs)) fun x a w' ⟨L, h', hq, hfit⟩ => ?_)
  have fin : RetH res L h' K → a.defers = [] ∧ ∃ v, (results fn a.tmps).run P w' = .ok v w' ∧ ∃ v' r G' ι' h'', Ending.returned v = .returned v' ∧ K r h'' ∧ HR G' ι' h'' w' ∧ VR G' w' ι' h'' v' r ∧ Ext G ι h w G' ι' h'' w' := by
    intro hret
    obtain ⟨G1, ι1, st⟩ := hfit
    refine ⟨st.rel.dfr, ?_⟩
    unfold RetH at hret
    split at hret
    · rename_i vs' hvs'
      rw [lkN_fun] at hvs'
      obtain ⟨us, q1, q2⟩ := results_all (P := P) (fn := fn) (af := ⟨fn.ntmps, res, .skip⟩) hres st.rel.hr st.rel.env hvs'
      exact ⟨_, q1, _, pack vs', G1, ι1, h', rfl, hret, st.rel.hr, pack_sound q2, st.ext⟩
    · exact hret.elim
  cases x with
  | normal => exact fin hq
  | ret => exact fin hq
  | exit i => exact hq.elim
  | goto => exact hq.elim
  | panic => exact hq.elim
  | outgrown => exact hq.elim

theorem compF_spec {fn : Func} {af : AF} (hc : compF P fn = some af) : ∃ c, fn.body = some c ∧ compC P fn.ntmps c = some af.body ∧ resC P fn.results.toList = some af.res ∧ af.nt = fn.ntmps := by
  unfold compF at hc
  split at hc
  · rename_i c hb
    split at hc
    · rename_i ac res hac hres
      cases hc
      exact ⟨c, hb, hac, hres, rfl⟩
    · cases hc
  · cases hc

/-- A FUNCTION THAT OWNS NOTHING AT ITS BEGINNING. -/
theorem fn_pure {f : Nat} {fn : Func} {af : AF} {args : List AV} {K : AV → Prop} (hm : P.follows .mixedOrders = true) (hf : P.funcs[f]? = some fn) (hc : compF P fn = some af) (hl : args.length ≤ af.nt) (hv : ∀ Λ : Len, (∀ l, Λ l = (l.length : Int)) → vcF P Λ af args K) :
    FnS P f args [] fun r _ => pureA r = true ∧ K r := by
  obtain ⟨c, hb, hac, hres, hn⟩ := compF_spec hc
  refine fn_pure_wp hf hb hres (by omega) fun G ι w a hfit => ?_
  refine wp_mono (vcC_sound (Λ := fun l => l.length) (fun _ => rfl) (m := 0) hm (by simp) c af.body _ _ _ _ _ hac (hv (fun l => l.length) fun _ => rfl) hfit) fun x a' w' ⟨L', h', hq, hf'⟩ => ⟨L', h', ?_, hf'⟩
  cases x <;> first | exact hq.elim | exact RetQ.ret hq

/-- A FUNCTION THAT WORKS ON ITS CALLER'S BLOCKS. -/
theorem fn_heap {f : Nat} {fn : Func} {af : AF} {args : List AV} {h : Hp} {K : AV → Hp → Prop} (hm : P.follows .mixedOrders = true) (hf : P.funcs[f]? = some fn) (hc : compF P fn = some af) (hl : args.length ≤ af.nt) (hv : ∀ Λ : Len, (∀ l, Λ l = (l.length : Int)) → vcH P Λ af args h K) :
    FnS P f args h K := by
  obtain ⟨c, hb, hac, hres, hn⟩ := compF_spec hc
  exact fn_heap_wp hf hb hres (by omega) fun G ι w a hfit => vcC_sound (Λ := fun l => l.length) (fun _ => rfl) (m := h.length) hm (Nat.le_refl _) c af.body _ _ _ _ _ hac (hv (fun l => l.length) fun _ => rfl) hfit

end
end Go.Ab

/-
  The engine, part z: running a closed call.
-/
namespace Go.Ab

/-- an array of the caller's own is given up ahead of a call: it is a list from now on -/
def zC (l v sz : Nat) (es : List (List D)) : CV → CV
  | .arr l' v' i n => match Nat.beq l' l, Nat.beq v' v with
    | true, true => .d (.list false sz es)
    | _, _ => .arr l' v' i n
  | x => x
def zCs (l v sz : Nat) (es : List (List D)) : List CV → List CV
  | [] => []
  | x :: r => zC l v sz es x :: zCs l v sz es r
def zA (l v sz : Nat) (es : List (List D)) : AV → AV
  | .c x => .c (zC l v sz es x)
  | .agg xs => .agg (zCs l v sz es xs)
  | x => x
def zB (l v sz : Nat) (es : List (List D)) : Blk → Blk
  | .bx cs => .bx (zCs l v sz es cs)
  | b => b
def zH (l v sz : Nat) (es : List (List D)) : Nat → Hp → Hp
  | _, [] => []
  | n, b :: r => (match Nat.beq n l with
    | true => .dead
    | false => zB l v sz es b) :: zH l v sz es (n + 1) r
def zL (l v sz : Nat) (es : List (List D)) : Lv → Lv
  | [] => []
  | (i, x) :: r => (i, zA l v sz es x) :: zL l v sz es r
def okC (l v k : Nat) : CV → Prop
  | .arr l' v' i n => match Nat.beq l' l, Nat.beq v' v with
    | true, true => i = 0 ∧ n = k
    | _, _ => True
  | _ => True
def okCs (l v k : Nat) : List CV → Prop
  | [] => True
  | x :: r => okC l v k x ∧ okCs l v k r
def okA (l v k : Nat) : AV → Prop
  | .c x => okC l v k x
  | .agg xs => okCs l v k xs
  | _ => True
def okB (l v k : Nat) : Blk → Prop
  | .bx cs => okCs l v k cs
  | _ => True
def okH (l v k : Nat) : Hp → Prop
  | [] => True
  | b :: r => okB l v k b ∧ okH l v k r
def okL (l v k : Nat) : Lv → Prop
  | [] => True
  | (_, x) :: r => okA l v k x ∧ okL l v k r

theorem zC_ok {l v sz k : Nat} {es : List (List D)} (hk : k = es.length) {x : CV} (h : okC l v k x) : FzC l v sz es x (zC l v sz es x) := by
  cases x with
  | arr l' v' i n =>
    simp only [okC] at h
    simp only [zC]
    split at h
    · rename_i hl hv
      obtain ⟨rfl, rfl⟩ := h
      have hl : l' = l := Nat.eq_of_beq_eq_true hl
      have hv : v' = v := Nat.eq_of_beq_eq_true hv
      subst hl hv
      exact .arr _ hk
    · exact .keep _
  | _ => exact .keep _

theorem zCs_ok {l v sz k : Nat} {es : List (List D)} (hk : k = es.length) : ∀ {xs : List CV}, okCs l v k xs → FzCs l v sz es xs (zCs l v sz es xs) := by
  intro xs
  induction xs with
  | nil => intro _; trivial
  | cons x r ih => intro h; exact ⟨zC_ok hk h.1, ih h.2⟩

theorem zA_ok {l v sz k : Nat} {es : List (List D)} (hk : k = es.length) {x : AV} (h : okA l v k x) : FzA l v sz es x (zA l v sz es x) := by
  cases x with
  | c x => exact .c _ _ (zC_ok hk h)
  | agg xs => exact .agg _ _ (zCs_ok hk h)
  | tup => exact .same _

theorem lkN_z {l v sz : Nat} {es : List (List D)} : ∀ (L : Lv) (i : Nat), lkN (zL l v sz es L) i = zA l v sz es (lkN L i) := by
  intro L
  induction L with
  | nil => intro i; rfl
  | cons p r ih =>
    intro i
    obtain ⟨j, x⟩ := p
    simp only [zL, lkN]
    split <;> simp_all

theorem okL_get {l v k : Nat} : ∀ {L : Lv}, okL l v k L → ∀ i, okA l v k (lkN L i) := by
  intro L
  induction L with
  | nil => intro _ i; trivial
  | cons p r ih =>
    intro h i
    obtain ⟨j, x⟩ := p
    simp only [lkN]
    split
    · exact h.1
    · exact ih h.2 i

theorem zH_ok {l v sz k : Nat} {es : List (List D)} (hk : k = es.length) : ∀ {h : Hp} {n : Nat}, okH l v k h → FzH l v sz es n h (zH l v sz es n h) := by
  intro h
  induction h with
  | nil => intro n _; trivial
  | cons b r ih =>
    intro n ho
    refine ⟨?_, ih ho.2⟩
    cases hb : Nat.beq n l with
    | true => exact .inl ⟨Nat.eq_of_beq_eq_true hb, rfl⟩
    | false =>
      refine .inr ⟨(fun e => by subst e; rw [Nat.beq_refl] at hb; cases hb), ?_⟩
      cases b with
      | bx cs => exact .bx _ _ (zCs_ok hk ho.1)
      | _ => exact .same _

/-- an array that may be given up: every reference leads to all of it -/
def okCb (l v k : Nat) : CV → Bool
  | .arr l' v' i n => match Nat.beq l' l, Nat.beq v' v with
    | true, true => Nat.beq i 0 && Nat.beq n k
    | _, _ => true
  | _ => true
def okCsb (l v k : Nat) : List CV → Bool
  | [] => true
  | x :: r => okCb l v k x && okCsb l v k r
def okAb (l v k : Nat) : AV → Bool
  | .c x => okCb l v k x
  | .agg xs => okCsb l v k xs
  | _ => true
def okHb (l v k : Nat) : Hp → Bool
  | [] => true
  | .bx cs :: r => okCsb l v k cs && okHb l v k r
  | _ :: r => okHb l v k r
def okLb (l v k : Nat) : Lv → Bool
  | [] => true
  | (_, x) :: r => okAb l v k x && okLb l v k r

theorem okCb_ok {l v k : Nat} {x : CV} (h : okCb l v k x = true) : okC l v k x := by
  cases x <;> simp only [okC]
  simp only [okCb] at h
  split at h
  · simp only [Bool.and_eq_true] at h
    exact ⟨Nat.eq_of_beq_eq_true h.1, Nat.eq_of_beq_eq_true h.2⟩
  · trivial

theorem okCsb_ok {l v k : Nat} : ∀ {xs : List CV}, okCsb l v k xs = true → okCs l v k xs := by
  intro xs
  induction xs with
  | nil => intro _; trivial
  | cons x r ih => intro h; simp only [okCsb, Bool.and_eq_true] at h; exact ⟨okCb_ok h.1, ih h.2⟩

theorem okAb_ok {l v k : Nat} {x : AV} (h : okAb l v k x = true) : okA l v k x := by
  cases x with
  | c x => exact okCb_ok h
  | agg xs => exact okCsb_ok h
  | tup => trivial

theorem okHb_ok {l v k : Nat} : ∀ {h : Hp}, okHb l v k h = true → okH l v k h := by
  intro h
  induction h with
  | nil => intro _; trivial
  | cons b r ih =>
    intro ho
    cases b with
    | bx cs => simp only [okHb, Bool.and_eq_true] at ho; exact ⟨okCsb_ok ho.1, ih ho.2⟩
    | _ => simp only [okHb] at ho; exact ⟨trivial, ih ho⟩

theorem okLb_ok {l v k : Nat} : ∀ {L : Lv}, okLb l v k L = true → okL l v k L := by
  intro L
  induction L with
  | nil => intro _; trivial
  | cons p r ih =>
    obtain ⟨i, x⟩ := p
    intro ho
    simp only [okLb, Bool.and_eq_true] at ho
    exact ⟨okAb_ok ho.1, ih ho.2⟩

/-- every array that may be given up is -/
def fzAll : Nat → Lv → Hp → Lv × Hp
  | 0, L, h => (L, h)
  | l + 1, L, h => match h[l]? with
    | some (.da _ v sz es) => (match okLb l v es.length L && okHb l v es.length h with
      | true => fzAll l (zL l v sz es L) (zH l v sz es 0 h)
      | false => fzAll l L h)
    | _ => fzAll l L h

theorem fzAll_wk {m : Nat} : ∀ (n : Nat) (L : Lv) (h : Hp), Wk m L h (fzAll n L h).1 (fzAll n L h).2 := by
  intro n
  induction n with
  | zero => intro L h; exact .same rfl fun _ => .inr rfl
  | succ l ih =>
    intro L h
    simp only [fzAll]
    split
    · rename_i r v sz es hl
      split
      · rename_i hok
        simp only [Bool.and_eq_true] at hok
        refine .trans (.fz l v sz r es hl (fun i => .inr ?_) (zH_ok rfl (okHb_ok hok.2))) (ih _ _)
        rw [← lkN_eq, ← lkN_eq, lkN_z]; exact zA_ok rfl (okL_get (okLb_ok hok.1) i)
      · exact ih L h
    · exact ih L h

def xFz (fq : Nat → Bool) (d : Bool) (op : AOp) (L : Lv) (h : Hp) : Lv × Hp :=
  match d with
  | true => (L, h)
  | false => match (match op with
      | .call f _ => fq f
      | .callv x _ => (match evN L x with
        | .c (.fn f _) => fq f
        | _ => false)
      | _ => false) with
    | true => fzAll h.length L h
    | false => (L, h)

theorem xFz_wk {fq : Nat → Bool} {d : Bool} {op : AOp} {L : Lv} {h : Hp} {m : Nat} : (d = true ∧ xFz fq d op L h = (L, h)) ∨ (d = false ∧ Wk m L h (xFz fq d op L h).1 (xFz fq d op L h).2) := by
  cases d with
  | true => exact .inl ⟨rfl, rfl⟩
  | false =>
    refine .inr ⟨rfl, ?_⟩
    unfold xFz
    simp only
    generalize (match op with
      | .call f _ => fq f
      | .callv x _ => (match evN L x with
        | .c (.fn f _) => fq f
        | _ => false)
      | _ => false) = b
    cases b with
    | true => exact fzAll_wk _ _ _
    | false => exact .same rfl fun _ => .inr rfl

def isD : CV → Bool
  | .d _ => true
  | _ => false

def plainEl (L : Lv) : List (Nat × X) → Bool
  | [] => true
  | (_, x) :: r => match cells (evN L x) with
    | some cs => match cs.all isD with
      | true => plainEl L r
      | false => false
    | none => false

/-- how a call is run: in a drawn region or not, which function, on what, over which heap -/
abbrev CF := Bool → Nat → List AV → Hp → Option (AV × Hp)

def xOp (cf : CF) (d : Bool) (op : AOp) (L : Lv) (h : Hp) : Option (AV × Hp) :=
  match op with
  | .call f xs => cf d f (evsN L xs) h
  | .callv x xs => match d, evN L x with
    | false, .c (.fn f caps) => cf false f (evsN L xs ++ caps.map .c) h
    | _, _ => none
  | .bsl sz z n ps => match d with
    | true => match plainEl L ps with
      | true => astep (lkN L) h (.bsl sz z n ps)
      | false => none
    | false => astep (lkN L) h (.bsl sz z n ps)
  | op => astep (lkN L) h op

def xOps (cf : CF) (fq : Nat → Bool) (d : Bool) : List AO → Lv → Hp → Option (Lv × Hp)
  | [], L, h => some (L, h)
  | o :: r, L, h => match o.g with
    | none => (match xFz fq d o.op L h with
      | (L1, h1) => match xOp cf d o.op L1 h1 with
        | some (v, h') => xOps cf fq d r (putL L1 o.dst v) h'
        | none => none)
    | some (s, want) => match lkN L s with
      | .c (.d (.bool b)) => (match b, want with
        | true, true => (match xFz fq d o.op L h with
          | (L1, h1) => match xOp cf d o.op L1 h1 with
            | some (v, h') => xOps cf fq d r (putL L1 o.dst v) h'
            | none => none)
        | false, false => (match xFz fq d o.op L h with
          | (L1, h1) => match xOp cf d o.op L1 h1 with
            | some (v, h') => xOps cf fq d r (putL L1 o.dst v) h'
            | none => none)
        | true, false => xOps cf fq d r (putL L o.dst (.tup [])) h
        | false, true => xOps cf fq d r (putL L o.dst (.tup [])) h)
      | .tup [] => xOps cf fq d r (putL L o.dst (.tup [])) h
      | _ => none

def xG (cf : CF) (pre : List Nat) (i : Nat) (F : List Ft) (o : AO) (L : Lv) (h : Hp) : Option (List Ft × AV × Hp) :=
  match wtOf (lkN L) h.length o.op with
  | some (w, al) => (match xOp cf true o.op L h with
    | some (v, h') => (match chkF pre (tOf (lkN L) h o.op) w (rfA v) F with
      | true => some (F ++ [⟨i, tOf (lkN L) h o.op, w, al⟩], v, h')
      | false => none)
    | none => none)
  | none => none

def xOpsF (cf : CF) (pre : List (List Nat)) : Nat → List Ft → List AO → Lv → Hp → Option (Lv × Hp)
  | _, _, [], L, h => some (L, h)
  | i, F, o :: r, L, h => match o.g with
    | none => (match xG cf (getP pre i) i F o L h with
      | some (F', v, h') => xOpsF cf pre (i + 1) F' r (putL L o.dst v) h'
      | none => none)
    | some (s, want) => match lkN L s with
      | .c (.d (.bool b)) => (match b, want with
        | true, true => (match xG cf (getP pre i) i F o L h with
          | some (F', v, h') => xOpsF cf pre (i + 1) F' r (putL L o.dst v) h'
          | none => none)
        | false, false => (match xG cf (getP pre i) i F o L h with
          | some (F', v, h') => xOpsF cf pre (i + 1) F' r (putL L o.dst v) h'
          | none => none)
        | true, false => xOpsF cf pre (i + 1) F r (putL L o.dst (.tup [])) h
        | false, true => xOpsF cf pre (i + 1) F r (putL L o.dst (.tup [])) h)
      | .tup [] => xOpsF cf pre (i + 1) F r (putL L o.dst (.tup [])) h
      | _ => none

def dropL (n : Nat) : Lv → Lv
  | [] => []
  | (i, v) :: r => match Nat.beq i n with
    | true => dropL n r
    | false => (i, v) :: dropL n r

def normL : Lv → Lv
  | [] => []
  | (i, v) :: r => (i, v) :: dropL i (normL r)

abbrev RF := AC → Lv → Hp → Option (Ex × Lv × Hp)

def runP (run : RF) (af : AF) (args : List AV) : Option AV :=
  match run af.body (argL 0 args) [] with
  | some (.exit _, _, _) => none
  | some (_, L, h') => (match resA (lkN L) h' af.res with
    | some vs => (match frzAs h' vs with
      | some (rs, _) => some (pack rs)
      | none => none)
    | none => none)
  | none => none

def runH (run : RF) (af : AF) (args : List AV) (h : Hp) : Option (AV × Hp) :=
  match run af.body (argL 0 args) h with
  | some (.exit _, _, _) => none
  | some (_, L, h') => (match resA (lkN L) h' af.res with
    | some vs => some (pack vs, h')
    | none => none)
  | none => none

/-- a function that is run: by its text (with it, whether its result is plain), or by a plain function that is known to answer as it does -/
inductive Ent where
  | txt (sc fz : Bool) (af : AF)
  | nat (g : List AV → Option AV)
  | nlk (g : List AV → Option AV)
abbrev Tb := Nat → Option Ent
def fqT (T : Tb) (f : Nat) : Bool := match T f with
  | some (.txt _ fz _) => fz
  | some (.nat _) => true
  | some (.nlk _) => false
  | none => false
def xNat (g : List AV → Option AV) (args : List AV) (h : Hp) : Option AV :=
  match (args.map fgA).all pureA with
  | true => match g (args.map fgA) with
    | some r => (match pureA r with
      | true => some r
      | false => none)
    | none => none
  | false => match viewAs h args with
    | some vargs => (match g vargs with
      | some r => (match scalA r with
        | true => some r
        | false => none)
      | none => none)
    | none => none

def xCall (T : Tb) (run : RF) : CF := fun d f args h =>
  match T f with
  | none => none
  | some (.nat g) => match xNat g args h with
    | some r => some (r, h)
    | none => none
  | some (.nlk g) => match viewAs h args with
    | some vargs => (match g vargs with
      | some r => some (r, h)
      | none => none)
    | none => none
  | some (.txt sc _ af) => match Nat.ble args.length af.nt with
    | false => none
    | true => match args.all pureA with
      | true => (match runP run af args with
        | some r => some (r, h)
        | none => (match d with
          | true => none
          | false => runH run af args h))
      | false => match sc with
        | true => (match viewAs h args with
          | some vargs => (match runP run af vargs with
            | some r => (match scalA r with
              | true => some (r, h)
              | false => none)
            | none => none)
          | none => (match d with
            | true => none
            | false => runH run af args h))
        | false => (match d with
          | true => none
          | false => runH run af args h)

def xC (T : Tb) : Nat → AC → Lv → Hp → Option (Ex × Lv × Hp)
  | 0, _, _, _ => none
  | n + 1, c, L, h => match c with
    | .skip => some (.normal, L, h)
    | .reg d ops => (match xOps (xCall T (xC T n)) (fqT T) d ops L h with
      | some (L', h') => some (.normal, L', h')
      | none => none)
    | .rgf pre k ops => (match xOpsF (xCall T (xC T n)) pre k [] ops L h with
      | some (L', h') => some (.normal, L', h')
      | none => none)
    | .seq a b => (match xC T n a L h with
      | some (.normal, L', h') => xC T n b L' h'
      | r => r)
    | .cond c a b => (match evN L c with
      | .c (.d (.bool t)) => (match t with
        | true => xC T n a L h
        | false => xC T n b L h)
      | _ => none)
    | .block id c => (match xC T n c L h with
      | some (.exit i, L', h') => (match Nat.beq i id with
        | true => some (.normal, L', h')
        | false => some (.exit i, L', h'))
      | r => r)
    | .loop c => (match xC T n c L h with
      | some (.normal, L', h') => xC T n (.loop c) (normL L') h'
      | r => r)
    | .exit id => some (.exit id, L, h)
    | .ret => some (.ret, L, h)

theorem dropL_get (n : Nat) : ∀ (L : Lv) (i : Nat), i ≠ n → lkL (dropL n L) i = lkL L i := by
  intro L
  induction L with
  | nil => intro i _; rfl
  | cons p r ih =>
    intro i hi
    obtain ⟨j, v⟩ := p
    simp only [dropL]
    split
    · rename_i hj
      have hj : j = n := Nat.eq_of_beq_eq_true hj
      subst hj
      simp only [lkL, upd, Ne.symm hi, if_false]
      exact ih i hi
    · simp only [lkL, upd]
      by_cases h : j = i
      · simp [h]
      · simp only [h, if_false]; exact ih i hi

theorem normL_get : ∀ (L : Lv) (i : Nat), lkL (normL L) i = lkL L i := by
  intro L
  induction L with
  | nil => intro i; rfl
  | cons p r ih =>
    intro i
    obtain ⟨j, v⟩ := p
    simp only [normL, lkL, upd]
    by_cases h : j = i
    · simp [h]
    · simp only [h, if_false]; rw [dropL_get j _ i (Ne.symm h), ih]

theorem frzs_plain {h h' : Hp} : ∀ {cs : List CV} {ds : List D}, cs.all isD = true → frzs h cs = some (ds, h') → h' = h := by
  intro cs
  induction cs generalizing h h' with
  | nil => intro ds _ hf; simp only [frzs, Option.some.injEq, Prod.mk.injEq] at hf; exact hf.2.symm
  | cons c cs ih =>
    intro ds ha hf
    simp only [List.all_cons, Bool.and_eq_true] at ha
    cases c with
    | d x =>
      simp only [frzs] at hf
      revert hf
      simp only [frz]
      split
      · rename_i l h2 hl
        intro hf
        cases hf
        exact ih ha.2 hl
      · intro hf; cases hf
    | _ => simp [isD] at ha

theorem elemsOf_plain {h : Hp} {L : Lv} : ∀ {ps : List (Nat × X)} {as : List (Nat × List D)} {h' : Hp}, plainEl L ps = true → elemsOf h (lkN L) ps = some (as, h') → h' = h := by
  intro ps
  induction ps with
  | nil => intro as h' _ hf; simp only [elemsOf, Option.some.injEq, Prod.mk.injEq] at hf; exact hf.2.symm
  | cons p ps ih =>
    intro as h' ha hf
    obtain ⟨i, x⟩ := p
    simp only [plainEl] at ha
    simp only [elemsOf] at hf
    rw [evN_eq, ← lkN_fun] at ha
    split at ha
    · rename_i cs hcs
      rw [hcs] at hf
      simp only at hf
      split at ha
      · rename_i hall
        split at hf
        · rename_i ds h1 hds
          have := frzs_plain hall hds
          subst this
          split at hf
          · rename_i l h2 hl
            cases hf
            exact ih ha hl
          · cases hf
        · cases hf
      · cases ha
    · cases ha

inductive CallR (P : Program) : Bool → Hp → Nat → List AV → (AV → Hp → Prop) → Prop
  | pure {d : Bool} {h : Hp} {f : Nat} {args : List AV} {K : AV → Hp → Prop} {r : AV} (hp : PureR P h f args r) (k : K r h) : CallR P d h f args K
  | fn {h : Hp} {f : Nat} {args : List AV} {K : AV → Hp → Prop} (hf : FnS P f args h K) : CallR P false h f args K

/-- what has to be known of the way that calls are run -/
def CfOk (P : Program) (cf : CF) : Prop := ∀ d f args h r h', cf d f args h = some (r, h') → FnOk P f ∧ CallR P d h f args fun v h1 => v = r ∧ h1 = h'

theorem xOp_sound {P : Program} {cf : CF} {d : Bool} {op : AOp} {L : Lv} {h h' : Hp} {v : AV} (hcf : CfOk P cf) {m : Nat} (hx : xOp cf d op L h = some (v, h')) : Did P m d op L h fun L1 v1 h1 => L1 = L ∧ v1 = v ∧ h1 = h' := by
  cases op
  case call f xs =>
    simp only [xOp] at hx
    refine .call f xs rfl ?_
    cases (hcf _ _ _ _ _ _ hx).2 with
    | pure hp k => exact .pure hp ⟨rfl, k⟩
    | fn hf => exact .fn (hf.mono fun _ _ k => ⟨rfl, k⟩)
  case callv x xs =>
    simp only [xOp] at hx
    split at hx
    · rename_i f caps hf
      obtain ⟨h1, h2⟩ := hcf _ _ _ _ _ _ hx
      refine .callv x xs f caps rfl rfl (by rw [← evN_eq]; exact hf) h1 ?_
      cases h2 with
      | pure hp k => exact .pure hp ⟨rfl, k⟩
      | fn hf => exact .fn (hf.mono fun _ _ k => ⟨rfl, k⟩)
    · cases hx
  case bsl sz z n ps =>
    cases d with
    | false =>
      simp only [xOp, lkN_fun] at hx
      exact .step v h' hx (by simp) ⟨rfl, rfl, rfl⟩
    | true =>
      simp only [xOp] at hx
      split at hx
      · rename_i hp
        have hx0 := hx
        rw [lkN_fun] at hx0
        refine .step v h' hx0 (fun _ _ => ?_) ⟨rfl, rfl, rfl⟩
        simp only [astep] at hx
        split at hx
        · rename_i as h1 has
          have := elemsOf_plain hp has
          subst this
          split at hx
          · split at hx
            · cases hx; exact ⟨_, rfl⟩
            · cases hx
          · cases hx
        · cases hx
      · cases hx
  case box x =>
    simp only [xOp, lkN_fun] at hx
    refine .step v h' hx (fun _ _ => ?_) ⟨rfl, rfl, rfl⟩
    simp only [astep] at hx
    split at hx
    · split at hx
      · cases hx; exact ⟨_, rfl⟩
      · cases hx
    · cases hx
  case mks sz bytes z l c =>
    simp only [xOp, lkN_fun] at hx
    refine .step v h' hx (fun _ _ => ?_) ⟨rfl, rfl, rfl⟩
    simp only [astep] at hx
    split at hx
    · split at hx
      · cases hx; exact ⟨_, rfl⟩
      · cases hx
    · cases hx
  all_goals
    simp only [xOp, lkN_fun] at hx
    exact .step v h' hx (by first | (simp [cls]; done) | (rename_i o _; cases o <;> simp [cls])) ⟨rfl, rfl, rfl⟩

theorem xOps_sound {P : Program} {cf : CF} {fq : Nat → Bool} {m : Nat} {d : Bool} (hcf : CfOk P cf) : ∀ {ops : List AO} {L L' : Lv} {h h' : Hp}, xOps cf fq d ops L h = some (L', h') → runO P m d ops L h fun L1 h1 => L1 = L' ∧ h1 = h' := by
  intro ops
  induction ops with
  | nil =>
    intro L L' h h' hx
    simp only [xOps, Option.some.injEq, Prod.mk.injEq] at hx
    exact ⟨hx.1, hx.2⟩
  | cons o r ih =>
    intro L L' h h' hx
    have go : (match xFz fq d o.op L h with
        | (L1, h1) => match xOp cf d o.op L1 h1 with
          | some (v, h') => xOps cf fq d r (putL L1 o.dst v) h'
          | none => none) = some (L', h') → Did P m d o.op L h fun L2 v h1 => runO P m d r (putL L2 o.dst v) h1 fun L1 h1 => L1 = L' ∧ h1 = h' := by
      intro hx
      generalize hq : xFz fq d o.op L h = q at hx
      obtain ⟨L1, h1⟩ := q
      simp only at hx
      split at hx
      · rename_i v h2 hv
        have hd : Did P m d o.op L1 h1 fun L2 v h1 => runO P m d r (putL L2 o.dst v) h1 fun L1 h1 => L1 = L' ∧ h1 = h' :=
          (xOp_sound hcf hv).mono fun L2 v2 h2 ⟨e1, e2, e3⟩ => by subst e1 e2 e3; exact ih hx
        rcases xFz_wk (fq := fq) (d := d) (op := o.op) (L := L) (h := h) (m := m) with ⟨_, e⟩ | ⟨e1, e2⟩
        · rw [hq] at e; cases e; exact hd
        · rw [hq] at e2; exact .wk e1 e2 hd
      · cases hx
    simp only [runO]
    simp only [xOps] at hx
    split at hx
    · rename_i hg; exact .inl ⟨by simp [hg, gv], go hx⟩
    · rename_i s want hg
      split at hx
      · rename_i b hb
        rw [lkN_eq] at hb
        have hgv : gv (lkL L) o.g = some (b == want) := by simp [hg, gv, lk, hb]
        split at hx
        · left; exact ⟨hgv, go hx⟩
        · left; exact ⟨hgv, go hx⟩
        · right; exact ⟨hgv, ih hx⟩
        · right; exact ⟨hgv, ih hx⟩
      · rename_i hb
        rw [lkN_eq] at hb
        right; exact ⟨by simp [hg, gv, lk, hb], ih hx⟩
      · cases hx

theorem xOpsF_sound {P : Program} {cf : CF} {m : Nat} {pre : List (List Nat)} (hcf : CfOk P cf) : ∀ {ops : List AO} {i : Nat} {F : List Ft} {L L' : Lv} {h h' : Hp}, xOpsF cf pre i F ops L h = some (L', h') → runF P m pre i F ops L h fun L1 h1 => L1 = L' ∧ h1 = h' := by
  intro ops
  induction ops with
  | nil =>
    intro i F L L' h h' hx
    simp only [xOpsF, Option.some.injEq, Prod.mk.injEq] at hx
    exact ⟨hx.1, hx.2⟩
  | cons o r ih =>
    intro i F L L' h h' hx
    have go : (match xG cf (getP pre i) i F o L h with
        | some (F', v, h') => xOpsF cf pre (i + 1) F' r (putL L o.dst v) h'
        | none => none) = some (L', h') → ∃ w al, wtOf (lkL L) h.length o.op = some (w, al) ∧ Did P m true o.op L h fun L2 v h1 => chkF (getP pre i) (tOf (lkL L) h o.op) w (rfA v) F = true ∧
          runF P m pre (i + 1) (F ++ [⟨i, tOf (lkL L) h o.op, w, al⟩]) r (putL L2 o.dst v) h1 fun L1 h1 => L1 = L' ∧ h1 = h' := by
      intro hx
      split at hx
      · rename_i F' v h1 hg
        unfold xG at hg
        rw [lkN_fun] at hg
        split at hg
        · rename_i w al hw
          split at hg
          · rename_i v' h2 hv
            split at hg
            · rename_i hc
              cases hg
              refine ⟨w, al, hw, (xOp_sound hcf hv).mono fun L2 v2 h2 ⟨e1, e2, e3⟩ => ?_⟩
              subst e1 e2 e3
              exact ⟨hc, ih hx⟩
            · cases hg
          · cases hg
        · cases hg
      · cases hx
    simp only [runF]
    simp only [xOpsF] at hx
    split at hx
    · rename_i hg; exact .inl ⟨by simp [hg, gv], go hx⟩
    · rename_i s want hg
      split at hx
      · rename_i b hb
        rw [lkN_eq] at hb
        have hgv : gv (lkL L) o.g = some (b == want) := by simp [hg, gv, lk, hb]
        split at hx
        · left; exact ⟨hgv, go hx⟩
        · left; exact ⟨hgv, go hx⟩
        · right; exact ⟨hgv, ih hx⟩
        · right; exact ⟨hgv, ih hx⟩
      · rename_i hb
        rw [lkN_eq] at hb
        right; exact ⟨by simp [hg, gv, lk, hb], ih hx⟩
      · cases hx

theorem runO.mono {P : Program} {m : Nat} {d : Bool} {K K' : Lv → Hp → Prop} (hK : ∀ L h, K L h → K' L h) : ∀ {ops : List AO} {L : Lv} {h : Hp}, runO P m d ops L h K → runO P m d ops L h K' := by
  intro ops
  induction ops with
  | nil => intro L h hr; exact hK _ _ hr
  | cons o r ih =>
    intro L h hr
    rcases hr with ⟨h1, h2⟩ | ⟨h1, h2⟩
    · exact .inl ⟨h1, h2.mono fun L' v h' hr => ih hr⟩
    · exact .inr ⟨h1, ih h2⟩

structure TabOk (P : Program) (T : Tb) : Prop where
  ok : ∀ f sc fz af, T f = some (.txt sc fz af) → ∃ fn, P.funcs[f]? = some fn ∧ fn.name ≠ "runtime.NumGoroutine" ∧ compF P fn = some af
  nat : ∀ f g, T f = some (.nat g) → FnOk P f ∧ ∀ args r, g args = some r → FnS P f args [] fun r' _ => r' = r
  nlk : ∀ f g, T f = some (.nlk g) → FnOk P f ∧ ∀ args r, g args = some r → FrS P f args r

/-- a run of a text is one of the model's -/
def RunOk (P : Program) (run : RF) : Prop := ∀ (N : Nat) (G0 : Nat → Prop) (ι0 : Io) (h0 : Hp) (w0 : World) (c : Code) (ac : AC) (L L' : Lv) (h h' : Hp) (x : Ex) (Q : Post) (a : Act) (w : World),
  compC P N c = some ac → run ac L h = some (x, L', h') → Q x L' h' → Fits N G0 ι0 h0 w0 (lkL L) h a w → c.wp P (out N G0 ι0 h0 w0 Q) a w

theorem runP_sound {P : Program} {run : RF} {f : Nat} {fn : Func} {af : AF} {args : List AV} {r : AV} (hr : RunOk P run) (hf : P.funcs[f]? = some fn) (hc : compF P fn = some af) (hl : args.length ≤ af.nt) (hx : runP run af args = some r) :
    FnS P f args [] fun r' _ => pureA r' = true ∧ r' = r := by
  obtain ⟨c, hb, hac, hres, hn⟩ := compF_spec hc
  refine fn_pure_wp (K := fun r' => r' = r) hf hb hres (by omega) fun G ι w a hfit => ?_
  unfold runP at hx
  split at hx
  · cases hx
  · rename_i x L h' hne hrun
    split at hx
    · rename_i vs hvs
      split at hx
      · rename_i rs h2 hrs
        cases hx
        refine hr _ _ _ _ _ _ _ _ _ _ _ _ _ _ _ hac hrun ?_ hfit
        cases x with
        | exit i => exact absurd rfl (hne i)
        | normal => simp only [postP, RetP, hvs, hrs]
        | ret => simp only [postP, RetP, hvs, hrs]
      · cases hx
    · cases hx
  · cases hx

theorem runH_sound {P : Program} {run : RF} {f : Nat} {fn : Func} {af : AF} {args : List AV} {h h' : Hp} {r : AV} (hr : RunOk P run) (hf : P.funcs[f]? = some fn) (hc : compF P fn = some af) (hl : args.length ≤ af.nt) (hx : runH run af args h = some (r, h')) :
    FnS P f args h fun r1 h1 => r1 = r ∧ h1 = h' := by
  obtain ⟨c, hb, hac, hres, hn⟩ := compF_spec hc
  refine fn_heap_wp (K := fun r1 h1 => r1 = r ∧ h1 = h') hf hb hres (by omega) fun G ι w a hfit => ?_
  unfold runH at hx
  split at hx
  · cases hx
  · rename_i x L h2 hne hrun
    split at hx
    · rename_i vs hvs
      cases hx
      refine hr _ _ _ _ _ _ _ _ _ _ _ _ _ _ _ hac hrun ?_ hfit
      cases x with
      | exit i => exact absurd rfl (hne i)
      | normal => simp only [postH, RetH, hvs, and_self]
      | ret => simp only [postH, RetH, hvs, and_self]
    · cases hx
  · cases hx

theorem xCall_sound {P : Program} {T : Tb} {run : RF} (hT : TabOk P T) (hr : RunOk P run) : CfOk P (xCall T run) := by
  intro d f args h r h' hx
  unfold xCall at hx
  split at hx
  · cases hx
  · rename_i g hTg
    obtain ⟨hfok, hg⟩ := hT.nat f g hTg
    refine ⟨hfok, ?_⟩
    split at hx
    · rename_i r' hr'
      cases hx
      refine .pure ?_ ⟨rfl, rfl⟩
      unfold xNat at hr'
      split at hr'
      · rename_i hp
        split at hr'
        · rename_i r0 hr0
          split at hr'
          · rename_i hpr
            cases hr'
            exact .inl ⟨_, .inl rfl, hp, (hg _ _ hr0).mono fun q _ e => ⟨by rw [e]; exact hpr, e⟩⟩
          · cases hr'
        · cases hr'
      · split at hr'
        · rename_i vargs hv
          split at hr'
          · rename_i r0 hr0
            split at hr'
            · rename_i hs
              cases hr'
              exact .inr ⟨vargs, hv, .inl ((hg _ _ hr0).mono fun q _ e => ⟨by rw [e]; exact hs, e⟩)⟩
            · cases hr'
          · cases hr'
        · cases hr'
    · cases hx
  · rename_i g hTg
    obtain ⟨hfok, hg⟩ := hT.nlk f g hTg
    refine ⟨hfok, ?_⟩
    split at hx
    · rename_i vargs hv
      split at hx
      · rename_i r0 hr0
        cases hx
        exact .pure (.inr ⟨vargs, hv, .inr (hg _ _ hr0)⟩) ⟨rfl, rfl⟩
      · cases hx
    · cases hx
  · rename_i sc fz af hTf
    obtain ⟨fn, hf, hnm, hc⟩ := hT.ok f sc fz af hTf
    have hfok : FnOk P f := ⟨fn, hf, by obtain ⟨c, hb, _⟩ := compF_spec hc; simp [hb], hnm⟩
    refine ⟨hfok, ?_⟩
    split at hx
    · cases hx
    · rename_i hle
      have hle : args.length ≤ af.nt := Nat.le_of_ble_eq_true hle
      have hh : ∀ d : Bool, (match d with | true => none | false => runH run af args h) = some (r, h') → CallR P d h f args fun v h1 => v = r ∧ h1 = h' := by
        intro d hd
        cases d with
        | true => cases hd
        | false => exact .fn (runH_sound hr hf hc hle hd)
      split at hx
      · rename_i hp
        split at hx
        · rename_i r' hr'
          cases hx
          exact .pure (.inl ⟨_, .inr rfl, hp, runP_sound hr hf hc hle hr'⟩) ⟨rfl, rfl⟩
        · exact hh d hx
      · split at hx
        · split at hx
          · rename_i vargs hv
            split at hx
            · rename_i r' hr'
              split at hx
              · rename_i hs
                cases hx
                refine .pure (.inr ⟨vargs, hv, ?_⟩) ⟨rfl, rfl⟩
                have hlen := (viewAs_get hv).1
                exact .inl ((runP_sound hr hf hc (by omega) hr').mono fun q _ ⟨_, e⟩ => ⟨by rw [e]; exact hs, e⟩)
              · cases hx
            · cases hx
          · exact hh d hx
        · exact hh d hx

theorem xC_sound {P : Program} {T : Tb} (hm : P.follows .mixedOrders = true) (hT : TabOk P T) : ∀ n, RunOk P (xC T n) := by
  intro n
  induction n using Nat.strongRecOn with
  | _ n ihs =>
  cases n with
  | zero => intro N G0 ι0 h0 w0 c ac L L' h h' x Q a w _ hx; simp [xC] at hx
  | succ n =>
    have ih := ihs n (Nat.lt_succ_self n)
    intro N G0 ι0 h0 w0 c
    induction c with
    | skip =>
      intro ac L L' h h' x Q a w hc hx hq hf
      simp only [compC, Option.some.injEq] at hc; subst hc
      simp only [xC, Option.some.injEq, Prod.mk.injEq] at hx
      obtain ⟨rfl, rfl, rfl⟩ := hx
      exact wp_skip ⟨L, h, hq, hf⟩
    | label l =>
      intro ac L L' h h' x Q a w hc hx hq hf
      simp only [compC, Option.some.injEq] at hc; subst hc
      simp only [xC, Option.some.injEq, Prod.mk.injEq] at hx
      obtain ⟨rfl, rfl, rfl⟩ := hx
      exact wp_label ⟨L, h, hq, hf⟩
    | region id ops draw =>
      intro ac L L' h h' x Q a w hc hx hq hf
      simp only [compC] at hc
      split at hc
      · rename_i aos haos
        split at hc
        · rename_i hcond
          cases hc
          cases draw with
          | false =>
            simp only [xC] at hx
            split at hx
            · rename_i L1 h1 hops
              cases hx
              have hrun := xOps_sound (m := h0.length) (xCall_sound hT ih) hops
              refine wp_region ?_
              rw [List.range_eq_range']
              have := region_seq (ops := ops) (Q := out N G0 ι0 h0 w0 Q) (Nat.le_refl _) ops.toList aos 0 L h _ a w (by simp) haos hcond.1 hrun hf (fun L2 h2 a' w' hk hf' => by obtain ⟨rfl, rfl⟩ := hk; exact ⟨_, _, hq, hf'⟩)
              simpa using this
            · cases hx
          | true =>
            refine region_segs (S := fun ac L h Q => ∃ k x L' h', k ≤ n + 1 ∧ xC T k ac L h = some (x, L', h') ∧ Q x L' h') hm (Nat.le_refl _) ?_ ?_ haos hcond.1 (hcond.2 rfl).1 (hcond.2 rfl).2 hf ⟨n + 1, x, L', h', Nat.le_refl _, hx, hq⟩
            · rintro a b L h Q ⟨k, x, L', h', hk, hx, hq⟩
              cases k with
              | zero => simp [xC] at hx
              | succ k =>
                simp only [xC] at hx
                split at hx
                · rename_i L1 h1 hr1
                  exact ⟨k, .normal, L1, h1, by omega, hr1, k, x, L', h', by omega, hx, hq⟩
                · rename_i hne
                  refine ⟨k, x, L', h', by omega, hx, ?_⟩
                  cases x with
                  | normal => exact absurd hx (hne _ _)
                  | exit i => exact hq
                  | ret => exact hq
            · rintro d os L h Q ⟨k, x, L', h', hk, hx, hq⟩
              cases k with
              | zero => simp [xC] at hx
              | succ k =>
                simp only [xC] at hx
                split at hx
                · rename_i L1 h1 hops
                  cases hx
                  exact runO.mono (fun L2 h2 ⟨e1, e2⟩ => by subst e1 e2; exact hq) (xOps_sound (m := h0.length) (xCall_sound hT (ihs k (by omega))) hops)
                · cases hx
        · split at hc
          · rename_i hcond
            cases hc
            obtain ⟨rfl, k1, k2, k3⟩ := hcond
            refine region_segs3 (S := fun ac L h Q => ∃ k x L' h', k ≤ n + 1 ∧ xC T k ac L h = some (x, L', h') ∧ Q x L' h') hm (Nat.le_refl _) ?_ ?_ ?_ haos k1 k2 k3 hf ⟨n + 1, x, L', h', Nat.le_refl _, hx, hq⟩
            · rintro a b L h Q ⟨k, x, L', h', hk, hx, hq⟩
              cases k with
              | zero => simp [xC] at hx
              | succ k =>
                simp only [xC] at hx
                split at hx
                · rename_i L1 h1 hr1
                  exact ⟨k, .normal, L1, h1, by omega, hr1, k, x, L', h', by omega, hx, hq⟩
                · rename_i hne
                  refine ⟨k, x, L', h', by omega, hx, ?_⟩
                  cases x with
                  | normal => exact absurd hx (hne _ _)
                  | exit i => exact hq
                  | ret => exact hq
            · rintro d os L h Q ⟨k, x, L', h', hk, hx, hq⟩
              cases k with
              | zero => simp [xC] at hx
              | succ k =>
                simp only [xC] at hx
                split at hx
                · rename_i L1 h1 hops
                  cases hx
                  exact runO.mono (fun L2 h2 ⟨e1, e2⟩ => by subst e1 e2; exact hq) (xOps_sound (m := h0.length) (xCall_sound hT (ihs k (by omega))) hops)
                · cases hx
            · rintro pre k0 os L h Q ⟨k, x, L', h', hk, hx, hq⟩
              cases k with
              | zero => simp [xC] at hx
              | succ k =>
                simp only [xC] at hx
                split at hx
                · rename_i L1 h1 hops
                  cases hx
                  exact runF.mono (fun L2 h2 ⟨e1, e2⟩ => by subst e1 e2; exact hq) (xOpsF_sound (m := h0.length) (xCall_sound hT (ihs k (by omega))) hops)
                · cases hx
          · cases hc
      · cases hc
    | seq p q _ _ =>
      intro ac L L' h h' x Q a w hc hx hq hf
      simp only [compC] at hc
      split at hc
      · rename_i cp cq hp hcq
        cases hc
        simp only [xC] at hx
        split at hx
        · rename_i L1 h1 hrun
          refine wp_seq (wp_mono (ih N G0 ι0 h0 w0 p cp L L1 h h1 .normal (fun x L h => x = .normal ∧ L = L1 ∧ h = h1) a w hp hrun ⟨rfl, rfl, rfl⟩ hf) fun e a' w' ⟨L2, h2, hq2, hf2⟩ => ?_)
          cases e with
          | normal => obtain ⟨_, rfl, rfl⟩ := hq2; exact ih N G0 ι0 h0 w0 q cq _ L' _ h' x Q a' w' hcq hx hq hf2
          | exit i => cases hq2.1
          | ret => cases hq2.1
          | goto => exact hq2.elim
          | panic => exact hq2.elim
          | outgrown => exact hq2.elim
        · rename_i hne
          refine wp_seq (wp_mono (ih N G0 ι0 h0 w0 p cp L L' h h' x (fun x1 L1 h1 => x1 = x ∧ L1 = L' ∧ h1 = h') a w hp hx ⟨rfl, rfl, rfl⟩ hf) fun e a' w' ⟨L2, h2, hq2, hf2⟩ => ?_)
          cases e with
          | normal => obtain ⟨rfl, rfl, rfl⟩ := hq2; exact absurd hx (hne _ _)
          | exit i => obtain ⟨rfl, rfl, rfl⟩ := hq2; exact ⟨_, _, hq, hf2⟩
          | ret => obtain ⟨rfl, rfl, rfl⟩ := hq2; exact ⟨_, _, hq, hf2⟩
          | goto => exact hq2.elim
          | panic => exact hq2.elim
          | outgrown => exact hq2.elim
      · cases hc
    | cond b p q _ _ =>
      intro ac L L' h h' x Q a w hc hx hq hf
      simp only [compC] at hc
      split at hc
      · rename_i c' cp cq hcc hp hcq
        cases hc
        simp only [xC] at hx
        split at hx
        · rename_i t ht
          obtain ⟨G, ι, st⟩ := hf
          have hr := cx_sound hcc st.rel
          rw [evN_eq] at ht
          rw [ht] at hr
          have he := inv_bool hr
          cases t with
          | true => exact wp_cond_true he (ih _ _ _ _ _ p cp L L' h h' x Q a w hp hx hq ⟨G, ι, st⟩)
          | false => exact wp_cond_false he (ih _ _ _ _ _ q cq L L' h h' x Q a w hcq hx hq ⟨G, ι, st⟩)
        · cases hx
      · cases hc
    | block id c _ =>
      intro ac L L' h h' x Q a w hc hx hq hf
      simp only [compC] at hc
      split at hc
      · rename_i c' hcc
        cases hc
        simp only [xC] at hx
        refine wp_block ?_
        split at hx
        · rename_i i L1 h1 hrun
          refine wp_mono (ih N G0 ι0 h0 w0 c c' L L1 h h1 (.exit i) (fun x L h => x = .exit i ∧ L = L1 ∧ h = h1) a w hcc hrun ⟨rfl, rfl, rfl⟩ hf) fun e a' w' ⟨L2, h2, hq2, hf2⟩ => ?_
          cases e with
          | normal => cases hq2.1
          | ret => cases hq2.1
          | exit k =>
            obtain ⟨e1, rfl, rfl⟩ := hq2
            cases e1
            simp only [Exit.inBlock]
            split at hx
            · rename_i hb
              cases hx
              have : i = id := Nat.eq_of_beq_eq_true hb
              rw [if_pos this]; exact ⟨_, _, hq, hf2⟩
            · rename_i hb
              cases hx
              have : ¬ i = id := fun e => by subst e; simp at hb
              rw [if_neg this]; exact ⟨_, _, hq, hf2⟩
          | goto => exact hq2.elim
          | panic => exact hq2.elim
          | outgrown => exact hq2.elim
        · rename_i hne
          refine wp_mono (ih N G0 ι0 h0 w0 c c' L L' h h' x (fun x1 L1 h1 => x1 = x ∧ L1 = L' ∧ h1 = h') a w hcc hx ⟨rfl, rfl, rfl⟩ hf) fun e a' w' ⟨L2, h2, hq2, hf2⟩ => ?_
          cases e with
          | normal => obtain ⟨rfl, rfl, rfl⟩ := hq2; exact ⟨_, _, hq, hf2⟩
          | ret => obtain ⟨rfl, rfl, rfl⟩ := hq2; exact ⟨_, _, hq, hf2⟩
          | exit k => obtain ⟨rfl, rfl, rfl⟩ := hq2; exact absurd hx (hne _ _ _)
          | goto => exact hq2.elim
          | panic => exact hq2.elim
          | outgrown => exact hq2.elim
      · cases hc
    | loop c _ =>
      intro ac L L' h h' x Q a w hc hx hq hf
      simp only [compC] at hc
      split at hc
      · rename_i c' hcc
        cases hc
        refine wp_loop_ghost (fun k a w => ∃ j L h, k = j ∧ j ≤ n + 1 ∧ xC T j (.loop c') L h = some (x, L', h') ∧ Fits N G0 ι0 h0 w0 (lkL L) h a w) ?_ (n + 1) a w ⟨n + 1, L, h, rfl, Nat.le_refl _, hx, hf⟩
        intro k a w ⟨j, L, h, hk, hj, hx, hf⟩
        subst hk
        cases k with
        | zero => simp [xC] at hx
        | succ j =>
          have ihj := ihs j (by omega)
          simp only [xC] at hx
          split at hx
          · rename_i L1 h1 hrun
            refine wp_mono (ihj N G0 ι0 h0 w0 c c' L L1 h h1 .normal (fun x L h => x = .normal ∧ L = L1 ∧ h = h1) a w hcc hrun ⟨rfl, rfl, rfl⟩ hf) fun e a' w' ⟨L2, h2, hq2, hf2⟩ => ?_
            cases e with
            | normal =>
              obtain ⟨_, rfl, rfl⟩ := hq2
              exact ⟨j, Nat.lt_succ_self j, j, _, _, rfl, by omega, hx, by rw [show lkL (normL L2) = lkL L2 from funext (normL_get L2)]; exact hf2⟩
            | ret => cases hq2.1
            | exit k => cases hq2.1
            | goto => exact hq2.elim
            | panic => exact hq2.elim
            | outgrown => exact hq2.elim
          · rename_i hne
            refine wp_mono (ihj N G0 ι0 h0 w0 c c' L L' h h' x (fun x1 L1 h1 => x1 = x ∧ L1 = L' ∧ h1 = h') a w hcc hx ⟨rfl, rfl, rfl⟩ hf) fun e a' w' ⟨L2, h2, hq2, hf2⟩ => ?_
            cases e with
            | normal => obtain ⟨rfl, rfl, rfl⟩ := hq2; exact absurd hx (hne _ _)
            | ret => obtain ⟨rfl, rfl, rfl⟩ := hq2; exact ⟨_, _, hq, hf2⟩
            | exit k => obtain ⟨rfl, rfl, rfl⟩ := hq2; exact ⟨_, _, hq, hf2⟩
            | goto => exact hq2.elim
            | panic => exact hq2.elim
            | outgrown => exact hq2.elim
      · cases hc
    | scope c ihs =>
      intro ac L L' h h' x Q a w hc hx hq hf
      simp only [compC] at hc
      refine wp_scope_straight (wp_mono (ihs ac L L' h h' x Q a w hc hx hq hf) fun e a' w' hq => ?_)
      obtain ⟨L', h', hq, hf'⟩ := hq
      cases e with
      | normal => exact ⟨L', h', hq, hf'⟩
      | exit i => exact ⟨L', h', hq, hf'⟩
      | ret => exact ⟨L', h', hq, hf'⟩
      | goto => exact hq.elim
      | panic => exact hq.elim
      | outgrown => exact hq.elim
    | exit id =>
      intro ac L L' h h' x Q a w hc hx hq hf
      simp only [compC, Option.some.injEq] at hc; subst hc
      simp only [xC, Option.some.injEq, Prod.mk.injEq] at hx
      obtain ⟨rfl, rfl, rfl⟩ := hx
      exact wp_exit ⟨L, h, hq, hf⟩
    | ret =>
      intro ac L L' h h' x Q a w hc hx hq hf
      simp only [compC, Option.some.injEq] at hc; subst hc
      simp only [xC, Option.some.injEq, Prod.mk.injEq] at hx
      obtain ⟨rfl, rfl, rfl⟩ := hx
      exact wp_ret ⟨L, h, hq, hf⟩
    | goto l => intro ac L L' h h' x Q a w hc; simp [compC] at hc
    | rangeFunc => intro ac L L' h h' x Q a w hc; simp [compC] at hc
    | refuse => intro ac L L' h h' x Q a w hc; simp [compC] at hc

end Go.Ab

