/-
  Merged texts, part k.
-/
import Derived.Test.YtollegfnkaomeaaZj
/-
  The engine, part z: running a closed call.
-/
namespace Go.Ab
def zC (l v sz : Nat) (es : List (List D)) : CV → CV
 | .arr l' v' i n => match Nat.beq l' l, Nat.beq v' v with
  | true, true => .d (.list false sz es)
  | _, _ => .arr l' v' i n
 | x => x
def zCs (l v sz : Nat) (es : List (List D)) : List CV → List CV
 | [] => []
 | x :: r => zC l v sz es x :: zCs l v sz es r
def zA (l v sz : Nat) (es : List (List D)) : AV → AV
 | .c x => .c (zC l v sz es x)
 | .agg xs => .agg (zCs l v sz es xs)
 | x => x
def zB (l v sz : Nat) (es : List (List D)) : Blk → Blk
 | .bx cs => .bx (zCs l v sz es cs)
 | b => b
def zH (l v sz : Nat) (es : List (List D)) : Nat → Hp → Hp
 | _, [] => []
 | n, b :: r => (match Nat.beq n l with
  | true => .dead
  | false => zB l v sz es b) :: zH l v sz es (n + 1) r
def zL (l v sz : Nat) (es : List (List D)) : Lv → Lv
 | [] => []
 | (i, x) :: r => (i, zA l v sz es x) :: zL l v sz es r
def okC (l v k : Nat) : CV → Prop
 | .arr l' v' i n => match Nat.beq l' l, Nat.beq v' v with
  | true, true => i = 0 ∧ n = k
  | _, _ => True
 | _ => True
def okCs (l v k : Nat) : List CV → Prop
 | [] => True
 | x :: r => okC l v k x ∧ okCs l v k r
def okA (l v k : Nat) : AV → Prop
 | .c x => okC l v k x
 | .agg xs => okCs l v k xs
 | _ => True
def okB (l v k : Nat) : Blk → Prop
 | .bx cs => okCs l v k cs
 | _ => True
def okH (l v k : Nat) : Hp → Prop
 | [] => True
 | b :: r => okB l v k b ∧ okH l v k r
def okL (l v k : Nat) : Lv → Prop
 | [] => True
 | (_, x) :: r => okA l v k x ∧ okL l v k r
theorem zC_ok {l v sz k : Nat} {es : List (List D)} (hk : k = es.length) {x : CV} (h : okC l v k x) : FzC l v sz es x (zC l v sz es x) := by
 cases x with
 | arr l' v' i n =>
  simp only [okC] at h
  simp only [zC]
  split at h
  ·rename_i hl hv
   obtain ⟨rfl, rfl⟩ := h
   have hl : l' = l := Nat.eq_of_beq_eq_true hl
   have hv : v' = v := Nat.eq_of_beq_eq_true hv
   subst hl hv
   exact .arr _ hk
  ·exact .keep _
 | _ => exact .keep _
theorem zCs_ok {l v sz k : Nat} {es : List (List D)} (hk : k = es.length) : ∀ {xs : List CV}, okCs l v k xs → FzCs l v sz es xs (zCs l v sz es xs) := by
 intro xs
 induction xs with
 | nil => intro _; trivial
 | cons x r ih => intro h; exact ⟨zC_ok hk h.1, ih h.2⟩
theorem zA_ok {l v sz k : Nat} {es : List (List D)} (hk : k = es.length) {x : AV} (h : okA l v k x) : FzA l v sz es x (zA l v sz es x) := by
 cases x with
 | c x => exact .c _ _ (zC_ok hk h)
 | agg xs => exact .agg _ _ (zCs_ok hk h)
 | tup => exact .same _
theorem lkN_z {l v sz : Nat} {es : List (List D)} : ∀ (L : Lv) (i : Nat), lkN (zL l v sz es L) i = zA l v sz es (lkN L i) := by
 intro L
 induction L with
 | nil => intro i; rfl
 | cons p r ih =>
  intro i
  obtain ⟨j, x⟩ := p
  simp only [zL, lkN]
  split <;> simp_all
theorem okL_get {l v k : Nat} : ∀ {L : Lv}, okL l v k L → ∀ i, okA l v k (lkN L i) := by
 intro L
 induction L with
 | nil => intro _ i; trivial
 | cons p r ih =>
  intro h i
  obtain ⟨j, x⟩ := p
  simp only [lkN]
  split
  ·exact h.1
  ·exact ih h.2 i
theorem zH_ok {l v sz k : Nat} {es : List (List D)} (hk : k = es.length) : ∀ {h : Hp} {n : Nat}, okH l v k h → FzH l v sz es n h (zH l v sz es n h) := by
 intro h
 induction h with
 | nil => intro n _; trivial
 | cons b r ih =>
  intro n ho
  refine ⟨?_, ih ho.2⟩
  cases hb : Nat.beq n l with
  | true => exact .inl ⟨Nat.eq_of_beq_eq_true hb, rfl⟩
  | false =>
   refine .inr ⟨(fun e => by subst e; rw [Nat.beq_refl] at hb; cases hb), ?_⟩
   cases b with
   | bx cs => exact .bx _ _ (zCs_ok hk ho.1)
   | _ => exact .same _
theorem runO.mono {P : Program} {m : Nat} {d : Bool} {K K' : Lv → Hp → Prop} (hK : ∀ L h, K L h → K' L h) : ∀ {ops : List AO} {L : Lv} {h : Hp}, runO P m d ops L h K → runO P m d ops L h K' := by
 intro ops
 induction ops with
 | nil => intro L h hr; exact hK _ _ hr
 | cons o r ih =>
  intro L h hr
  rcases hr with ⟨h1, h2⟩ | ⟨h1, h2⟩
  ·exact .inl ⟨h1, h2.mono fun L' v h' hr => ih hr⟩
  ·exact .inr ⟨h1, ih h2⟩
end Go.Ab

