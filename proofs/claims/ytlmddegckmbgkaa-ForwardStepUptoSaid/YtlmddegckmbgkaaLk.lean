/-
  Contracts, part k: functions that runs do not go through.
-/
import Derived.Test.YtlmddegckmbgkaaLj
namespace Go.Ab
open Go.Proofs

def natClone2 : List AV → Option AV
  | [.c (.d (.list false 2 l))] => if l.length ≤ 1000000 then some (.c (.d (.list false 2 l))) else none
  | _ => none
theorem natClone2_ok (args : List AV) (r : AV) (h : natClone2 args = some r) : FnS Try.prog n_slices_Clone_api_Segment_api_Segment args [] fun r' _ => r' = r := by
  unfold natClone2 at h
  split at h
  · split at h
    · rename_i l hl
      cases h
      exact (cloneSegs_raw Try.prog rfl l hl).mono fun _ _ h => h.2
    · cases h
  · cases h
def natClone1 : List AV → Option AV
  | [.c (.d (.list false 1 l))] => if l.length ≤ 1000000 then some (.c (.d (.list false 1 l))) else none
  | _ => none
theorem natClone1_ok (args : List AV) (r : AV) (h : natClone1 args = some r) : FnS Try.prog n_slices_Clone_int_int args [] fun r' _ => r' = r := by
  unfold natClone1 at h
  split at h
  · split at h
    · rename_i l hl
      cases h
      exact (cloneInts_raw Try.prog rfl l hl).mono fun _ _ h => h.2
    · cases h
  · cases h

end Go.Ab
