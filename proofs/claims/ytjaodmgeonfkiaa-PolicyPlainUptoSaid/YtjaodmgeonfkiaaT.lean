/-
  Runs of closed calls (printed by mktab.py).
-/
import Derived.Test.YtjaodmgeonfkiaaVe
namespace Go.Ab
open Go.Proofs

inductive TabsOk (P : Program) : List (Nat × Ent) → Prop
  | nil : TabsOk P []
  | txt {f : Nat} {sc fz : Bool} {af : AF} {fn : Func} {r : List (Nat × Ent)} (h1 : P.funcs[f]? = some fn) (h2 : compF P fn = some af) (h3 : fn.name ≠ "runtime.NumGoroutine") (h4 : TabsOk P r) : TabsOk P ((f, .txt sc fz af) :: r)
  | nat {f : Nat} {g : List AV → Option AV} {r : List (Nat × Ent)} (h1 : FnOk P f) (h2 : ∀ args r, g args = some r → FnS P f args [] fun r' _ => r' = r) (h4 : TabsOk P r) : TabsOk P ((f, .nat g) :: r)
  | nlk {f : Nat} {g : List AV → Option AV} {r : List (Nat × Ent)} (h1 : FnOk P f) (h2 : ∀ args r, g args = some r → FrS P f args r) (h4 : TabsOk P r) : TabsOk P ((f, .nlk g) :: r)

def lkT : List (Nat × Ent) → Tb
  | [], _ => none
  | (i, e) :: r, f => match Nat.beq i f with
    | true => some e
    | false => lkT r f

theorem TabsOk.tab {P : Program} {l : List (Nat × Ent)} (h : TabsOk P l) : TabOk P (lkT l) := by
  induction h with
  | nil => exact ⟨fun f sc fz af h => (by cases h), fun f g h => (by cases h), fun f g h => (by cases h)⟩
  | txt h1 h2 h3 _ ih =>
    refine ⟨fun f sc fz af h => ?_, fun f g h => ?_, fun f g h => ?_⟩
    · simp only [lkT] at h
      split at h
      · rename_i hb
        cases h
        have := Nat.eq_of_beq_eq_true hb
        subst this
        exact ⟨_, h1, h3, h2⟩
      · exact ih.ok f sc fz af h
    · simp only [lkT] at h
      split at h
      · cases h
      · exact ih.nat f g h
    · simp only [lkT] at h
      split at h
      · cases h
      · exact ih.nlk f g h
  | nat h1 h2 _ ih =>
    refine ⟨fun f sc fz af h => ?_, fun f g h => ?_, fun f g h => ?_⟩
    · simp only [lkT] at h
      split at h
      · cases h
      · exact ih.ok f sc fz af h
    · simp only [lkT] at h
      split at h
      · rename_i hb
        cases h
        have := Nat.eq_of_beq_eq_true hb
        subst this
        exact ⟨h1, h2⟩
      · exact ih.nat f g h
    · simp only [lkT] at h
      split at h
      · cases h
      · exact ih.nlk f g h
  | nlk h1 h2 _ ih =>
    refine ⟨fun f sc fz af h => ?_, fun f g h => ?_, fun f g h => ?_⟩
    · simp only [lkT] at h
      split at h
      · cases h
      · exact ih.ok f sc fz af h
    · simp only [lkT] at h
      split at h
      · cases h
      · exact ih.nat f g h
    · simp only [lkT] at h
      split at h
      · rename_i hb
        cases h
        have := Nat.eq_of_beq_eq_true hb
        subst this
        exact ⟨h1, h2⟩
      · exact ih.nlk f g h

def tabL : List (Nat × Ent) := [
  (n_law21_PolicyExpand, .txt false false af_law21_PolicyExpand),
  (n_law21_PolicyAgain, .txt false false af_law21_PolicyAgain),
  (n_law21_PolicyParts, .txt false false af_law21_PolicyParts),
  (n_law21_PolicyPlain, .txt false false af_law21_PolicyPlain),
  (n_law21_PolicyValid, .txt false false af_law21_PolicyValid),
  (n_law21_awake, .txt true false af_law21_awake),
  (n_law21_large, .txt true false af_law21_large),
  (n_law21_heavy, .txt true false af_law21_heavy),
  (n_policy_Expand, .txt false false af_policy_Expand),
  (n_ref21_Expand, .txt false false af_ref21_Expand),
  (n_ref18_Same, .txt true false af_ref18_Same),
  (n_ref21_Valid, .txt true false af_ref21_Valid),
  (n_policy_Find, .txt false false af_policy_Find),
  (n_ref21_Find, .txt false false af_ref21_Find),
  (n_policy_Valid, .txt true false af_policy_Valid),
  (n_ref21_SamePolicy, .txt true false af_ref21_SamePolicy),
  (n_law21_list, .txt false false af_law21_list),
  (n_law21_line, .txt false false af_law21_line),
  (n_ref18_TextList, .txt true false af_ref18_TextList),
  (n_policy_segments, .txt true false af_policy_segments),
  (n_graph_Node, .txt true false af_graph_Node),
  (n_policy_expander_step, .txt false false af_policy_expander_step),
  (n_ref21_proper, .txt true false af_ref21_proper),
  (n_ref21_all, .txt false false af_ref21_all),
  (n_ref09_Valid, .txt true false af_ref09_Valid),
  (n_slices_Clone_api_Segment_api_Segment, .nlk natCloneL),
  (n_ref21_index, .txt true false af_ref21_index),
  (n_topology_Valid, .txt true false af_topology_Valid),
  (n_ref18_ParseList, .txt false false af_ref18_ParseList),
  (n_ref18_Text, .txt true false af_ref18_Text),
  (n_graph_Segment, .txt true false af_graph_Segment),
  (n_policy_expander_binding, .txt false false af_policy_expander_binding),
  (n_graph_Tail, .txt true false af_graph_Tail),
  (n_graph_Head, .txt true false af_graph_Head),
  (n_policy_expander_keep, .txt false false af_policy_expander_keep),
  (n_ref18_Valid, .txt true false af_ref18_Valid),
  (n_ref09_within, .txt true false af_ref09_within),
  (n_topology_within, .txt true false af_topology_within),
  (n_ref09_Split, .txt false false af_ref09_Split),
  (n_ref18_Parse, .txt false false af_ref18_Parse),
  (n_ref09_Number, .txt false false af_ref09_Number),
  (n_graph_Arc, .txt true false af_graph_Arc),
  (n_ref09_Arcs, .txt true false af_ref09_Arcs),
  (n_ref09_Tail, .txt true false af_ref09_Tail),
  (n_ref09_Head, .txt true false af_ref09_Head),
  (n_ref09_Has, .txt true false af_ref09_Has),
  (n_ref09_Value, .txt true false af_ref09_Value),
  (n_ref09_digits, .txt false false af_ref09_digits),
  (n_graph_Arcs, .txt true false af_graph_Arcs)]

theorem tabL_ok : TabsOk Try.prog tabL :=
  .txt fn_law21_PolicyExpand c_law21_PolicyExpand (by decide) <|
  .txt fn_law21_PolicyAgain c_law21_PolicyAgain (by decide) <|
  .txt fn_law21_PolicyParts c_law21_PolicyParts (by decide) <|
  .txt fn_law21_PolicyPlain c_law21_PolicyPlain (by decide) <|
  .txt fn_law21_PolicyValid c_law21_PolicyValid (by decide) <|
  .txt fn_law21_awake c_law21_awake (by decide) <|
  .txt fn_law21_large c_law21_large (by decide) <|
  .txt fn_law21_heavy c_law21_heavy (by decide) <|
  .txt fn_policy_Expand c_policy_Expand (by decide) <|
  .txt fn_ref21_Expand c_ref21_Expand (by decide) <|
  .txt fn_ref18_Same c_ref18_Same (by decide) <|
  .txt fn_ref21_Valid c_ref21_Valid (by decide) <|
  .txt fn_policy_Find c_policy_Find (by decide) <|
  .txt fn_ref21_Find c_ref21_Find (by decide) <|
  .txt fn_policy_Valid c_policy_Valid (by decide) <|
  .txt fn_ref21_SamePolicy c_ref21_SamePolicy (by decide) <|
  .txt fn_law21_list c_law21_list (by decide) <|
  .txt fn_law21_line c_law21_line (by decide) <|
  .txt fn_ref18_TextList c_ref18_TextList (by decide) <|
  .txt fn_policy_segments c_policy_segments (by decide) <|
  .txt fn_graph_Node c_graph_Node (by decide) <|
  .txt fn_policy_expander_step c_policy_expander_step (by decide) <|
  .txt fn_ref21_proper c_ref21_proper (by decide) <|
  .txt fn_ref21_all c_ref21_all (by decide) <|
  .txt fn_ref09_Valid c_ref09_Valid (by decide) <|
  .nlk ⟨_, fn_slices_Clone_api_Segment_api_Segment, by decide, by decide⟩ natCloneL_ok <|
  .txt fn_ref21_index c_ref21_index (by decide) <|
  .txt fn_topology_Valid c_topology_Valid (by decide) <|
  .txt fn_ref18_ParseList c_ref18_ParseList (by decide) <|
  .txt fn_ref18_Text c_ref18_Text (by decide) <|
  .txt fn_graph_Segment c_graph_Segment (by decide) <|
  .txt fn_policy_expander_binding c_policy_expander_binding (by decide) <|
  .txt fn_graph_Tail c_graph_Tail (by decide) <|
  .txt fn_graph_Head c_graph_Head (by decide) <|
  .txt fn_policy_expander_keep c_policy_expander_keep (by decide) <|
  .txt fn_ref18_Valid c_ref18_Valid (by decide) <|
  .txt fn_ref09_within c_ref09_within (by decide) <|
  .txt fn_topology_within c_topology_within (by decide) <|
  .txt fn_ref09_Split c_ref09_Split (by decide) <|
  .txt fn_ref18_Parse c_ref18_Parse (by decide) <|
  .txt fn_ref09_Number c_ref09_Number (by decide) <|
  .txt fn_graph_Arc c_graph_Arc (by decide) <|
  .txt fn_ref09_Arcs c_ref09_Arcs (by decide) <|
  .txt fn_ref09_Tail c_ref09_Tail (by decide) <|
  .txt fn_ref09_Head c_ref09_Head (by decide) <|
  .txt fn_ref09_Has c_ref09_Has (by decide) <|
  .txt fn_ref09_Value c_ref09_Value (by decide) <|
  .txt fn_ref09_digits c_ref09_digits (by decide) <|
  .txt fn_graph_Arcs c_graph_Arcs (by decide) <|
  .nil

theorem run_ok {f : Nat} {fn : Func} {af : AF} {args : List AV} {r : AV} (n : Nat) (hf : Try.prog.funcs[f]? = some fn) (hc : compF Try.prog fn = some af) (hl : args.length ≤ af.nt) (hx : runP (xC (lkT tabL) n) af args = some r) : Ret Try.prog f args r :=
  (runP_sound (xC_sound mixed tabL_ok.tab n) hf hc hl hx).mono fun _ _ h => h

theorem awake_ok : Ret Try.prog n_law21_awake [] (bA true) := run_ok 400 fn_law21_awake c_law21_awake (Nat.le_of_ble_eq_true rfl) (by kernel_rfl)
end Go.Ab
