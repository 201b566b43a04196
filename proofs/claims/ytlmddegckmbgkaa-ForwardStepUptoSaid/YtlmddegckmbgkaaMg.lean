/-
  Functions that runs do not go through: read off the machine's values.
-/
import Derived.Test.YtlmddegckmbgkaaMf
namespace Go.Ab
open Go.Proofs

def decL {α : Type} (f : List D → Option α) : List (List D) → Option (List α)
  | [] => some []
  | x :: r => match f x, decL f r with
    | some a, some l => some (a :: l)
    | _, _ => none

theorem decL_ok {α : Type} {f : List D → Option α} {g : α → List D} (hf : ∀ x a, f x = some a → x = g a) : ∀ {l : List (List D)} {r : List α}, decL f l = some r → l = r.map g := by
  intro l
  induction l with
  | nil => intro r h; simp only [decL, Option.some.injEq] at h; subst h; rfl
  | cons x l ih =>
    intro r h
    simp only [decL] at h
    split at h
    · rename_i a q h1 h2
      cases h
      rw [hf x a h1, ih h2]; rfl
    · cases h

def decI : List D → Option Int
  | [.int .i64 n] => some n
  | _ => none
theorem decI_ok (x : List D) (a : Int) (h : decI x = some a) : x = encI a := by
  unfold decI at h
  split at h
  · cases h; rfl
  · cases h
def decB : List D → Option Bool
  | [.bool b] => some b
  | _ => none
theorem decB_ok (x : List D) (a : Bool) (h : decB x = some a) : x = encB a := by
  unfold decB at h
  split at h
  · cases h; rfl
  · cases h
def decSeg : List D → Option Seg
  | [.int .i64 k, .int .i64 n] => some ⟨k, n⟩
  | _ => none
theorem decSeg_ok (x : List D) (a : Seg) (h : decSeg x = some a) : x = encSeg a := by
  unfold decSeg at h
  split at h
  · cases h; rfl
  · cases h
def decLk : List D → Option Lk
  | [.int .i64 a, .int .i64 b, .int .i64 c, .int .i64 d, .int .i64 e, .int .i64 f, .int .i64 g] => some ⟨a, b, c, d, e, f, g⟩
  | _ => none
theorem decLk_ok (x : List D) (a : Lk) (h : decLk x = some a) : x = encLk a := by
  unfold decLk at h
  split at h
  · cases h; rfl
  · cases h
def decEnt : List D → Option Ety
  | [.list false 1 a, .bool r, .list false 2 p] => match decL decI a, decL decSeg p with
    | some a, some p => some ⟨a, r, p⟩
    | _, _ => none
  | _ => none
theorem decEnt_ok (x : List D) (a : Ety) (h : decEnt x = some a) : x = encEnt a := by
  unfold decEnt at h
  split at h
  · split at h
    · rename_i a r p a' p' h1 h2
      cases h
      rw [decL_ok decI_ok h1, decL_ok decSeg_ok h2]; rfl
    · cases h
  · cases h

def decTop : AV → Option Top
  | .agg [.d (.int .i64 n), .d (.list false 1 ol), .d (.list false 7 ll)] => match decL decB ol, decL decLk ll with
    | some o, some l => some ⟨n, o, l⟩
    | _, _ => none
  | _ => none
theorem decTop_ok {x : AV} {t : Top} (h : decTop x = some t) : x = topA t := by
  unfold decTop at h
  split at h
  · split at h
    · rename_i n ol ll o l h1 h2
      cases h
      rw [decL_ok decB_ok h1, decL_ok decLk_ok h2]; rfl
    · cases h
  · cases h
def decTab : AV → Option Tab
  | .agg [.d (.int .i64 n), .d (.list false 3 tl), .d (.list false 1 dl)] => match decL decEnt tl, decL decI dl with
    | some o, some l => some ⟨n, o, l⟩
    | _, _ => none
  | _ => none
theorem decTab_ok {x : AV} {t : Tab} (h : decTab x = some t) : x = tabA t := by
  unfold decTab at h
  split at h
  · split at h
    · rename_i n ol ll o l h1 h2
      cases h
      rw [decL_ok decEnt_ok h1, decL_ok decI_ok h2]; rfl
    · cases h
  · cases h

def natTable : List AV → Option AV
  | [a, b] => match decTop a, decTab b with
    | some t, some x => some (bA (tabB t x))
    | _, _ => none
  | _ => none
theorem natTable_ok (args : List AV) (r : AV) (h : natTable args = some r) : FnS Try.prog n_table_Valid args [] fun r' _ => r' = r := by
  unfold natTable at h
  split at h
  · split at h
    · rename_i a b t x h1 h2
      cases h
      rw [decTop_ok h1, decTab_ok h2]
      exact (tableValid_ok Try.prog rfl t x).mono fun _ _ h => h.2
    · cases h
  · cases h

deriving instance DecidableEq for Lk
def isRing (t : Top) : Bool := decide (t.nodes = 4) && decide (t.ov = []) && decide (t.links = ringT.links)
theorem isRing_ok {t : Top} (h : isRing t = true) : t = ringT := by
  obtain ⟨a, b, c⟩ := t
  simp only [isRing, Bool.and_eq_true, decide_eq_true_eq] at h
  obtain ⟨⟨rfl, rfl⟩, rfl⟩ := h
  rfl
def natRing : List AV → Option AV
  | [a, .c (.d (.list false 1 [])), .c (.d (.int .i64 0))] => match decTop a with
    | some t => (match isRing t with
      | true => some (.tup [tabA ringX, iA 0])
      | false => none)
    | none => none
  | _ => none
theorem natRing_ok (args : List AV) (r : AV) (h : natRing args = some r) : FnS Try.prog n_ref22_Routes args [] fun r' _ => r' = r := by
  unfold natRing at h
  split at h
  · split at h
    · rename_i t h1
      split at h
      · rename_i h2
        cases h
        rw [decTop_ok h1, isRing_ok h2]
        exact (ring_run Try.prog rfl).mono fun _ _ h => h.2
      · cases h
    · cases h
  · cases h

end Go.Ab
