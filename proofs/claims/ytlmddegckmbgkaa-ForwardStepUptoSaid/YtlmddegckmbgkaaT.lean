/-
  Runs of closed calls (printed by mktab.py).
-/
import Derived.Test.YtlmddegckmbgkaaMg
namespace Go.Ab
open Go.Proofs

inductive TabsOk (P : Program) : List (Nat × Ent) → Prop
  | nil : TabsOk P []
  | txt {f : Nat} {sc fz : Bool} {af : AF} {fn : Func} {r : List (Nat × Ent)} (h1 : P.funcs[f]? = some fn) (h2 : compF P fn = some af) (h3 : fn.name ≠ "runtime.NumGoroutine") (h4 : TabsOk P r) : TabsOk P ((f, .txt sc fz af) :: r)
  | nat {f : Nat} {g : List AV → Option AV} {r : List (Nat × Ent)} (h1 : FnOk P f) (h2 : ∀ args r, g args = some r → FnS P f args [] fun r' _ => r' = r) (h4 : TabsOk P r) : TabsOk P ((f, .nat g) :: r)

def lkT : List (Nat × Ent) → Tb
  | [], _ => none
  | (i, e) :: r, f => match Nat.beq i f with
    | true => some e
    | false => lkT r f

theorem TabsOk.tab {P : Program} {l : List (Nat × Ent)} (h : TabsOk P l) : TabOk P (lkT l) := by
  induction h with
  | nil => exact ⟨fun f sc fz af h => (by cases h), fun f g h => (by cases h)⟩
  | txt h1 h2 h3 _ ih =>
    refine ⟨fun f sc fz af h => ?_, fun f g h => ?_⟩
    · simp only [lkT] at h
      split at h
      · rename_i hb
        cases h
        have := Nat.eq_of_beq_eq_true hb
        subst this
        exact ⟨_, h1, h3, h2⟩
      · exact ih.ok f sc fz af h
    · simp only [lkT] at h
      split at h
      · cases h
      · exact ih.nat f g h
  | nat h1 h2 _ ih =>
    refine ⟨fun f sc fz af h => ?_, fun f g h => ?_⟩
    · simp only [lkT] at h
      split at h
      · cases h
      · exact ih.ok f sc fz af h
    · simp only [lkT] at h
      split at h
      · rename_i hb
        cases h
        have := Nat.eq_of_beq_eq_true hb
        subst this
        exact ⟨h1, h2⟩
      · exact ih.nat f g h

def tabL : List (Nat × Ent) := [
  (n_law23_ForwardStep, .txt false false af_law23_ForwardStep),
  (n_law23_ForwardApart, .txt false false af_law23_ForwardApart),
  (n_law23_ForwardPlain, .txt false false af_law23_ForwardPlain),
  (n_law23_ForwardReached, .txt false false af_law23_ForwardReached),
  (n_law23_ForwardBypass, .txt false false af_law23_ForwardBypass),
  (n_law23_ForwardBounds, .txt false false af_law23_ForwardBounds),
  (n_law23_awake, .txt true false af_law23_awake),
  (n_law23_large, .txt true false af_law23_large),
  (n_forward_Step, .txt false false af_forward_Step),
  (n_ref23_Step, .txt false false af_ref23_Step),
  (n_ref09_SameInts, .txt true false af_ref09_SameInts),
  (n_ref23_Same, .txt true false af_ref23_Same),
  (n_ref22_Valid, .txt true false af_ref22_Valid),
  (n_ref18_Same, .txt true false af_ref18_Same),
  (n_ref09_Has, .txt true false af_ref09_Has),
  (n_ref09_Tail, .txt true false af_ref09_Tail),
  (n_ref22_Routes, .nat natRing),
  (n_law23_awake_1, .txt true true af_law23_awake_1),
  (n_law23_list, .txt false false af_law23_list),
  (n_ref18_TextList, .txt true false af_ref18_TextList),
  (n_table_Valid, .nat natTable),
  (n_graph_Node, .txt true false af_graph_Node),
  (n_forward_drop, .txt false false af_forward_drop),
  (n_forward_with, .txt false false af_forward_with),
  (n_graph_Arc, .txt true false af_graph_Arc),
  (n_graph_Tail, .txt true false af_graph_Tail),
  (n_slices_Contains_int_int, .txt true false af_slices_Contains_int_int),
  (n_forward_leave, .txt false true af_forward_leave),
  (n_forward_enter, .txt false false af_forward_enter),
  (n_ref23_Route, .txt false false af_ref23_Route),
  (n_ref09_Valid, .txt true false af_ref09_Valid),
  (n_ref22_outgoing, .txt true false af_ref22_outgoing),
  (n_ref18_Valid, .txt true false af_ref18_Valid),
  (n_ref09_Arcs, .txt true false af_ref09_Arcs),
  (n_ref11_Fits, .txt true false af_ref11_Fits),
  (n_ref12_Next, .txt false false af_ref12_Next),
  (n_ref09_Out, .txt false false af_ref09_Out),
  (n_ref11_Up, .txt true false af_ref11_Up),
  (n_ref18_ParseList, .txt false false af_ref18_ParseList),
  (n_ref18_Text, .txt true false af_ref18_Text),
  (n_topology_Valid, .txt true false af_topology_Valid),
  (n_table_leaving, .txt true false af_table_leaving),
  (n_table_proper, .txt true false af_table_proper),
  (n_slices_Clone_api_Segment_api_Segment, .nat natClone2),
  (n_graph_Arcs, .txt true false af_graph_Arcs),
  (n_slices_Index_int_int, .txt true false af_slices_Index_int_int),
  (n_slices_Clone_int_int, .nat natClone1),
  (n_slices_Concat_api_Segment_api_Segment, .txt false true af_slices_Concat_api_Segment_api_Segment),
  (n_ref09_within, .txt true false af_ref09_within),
  (n_ref11_Dist, .txt false false af_ref11_Dist),
  (n_ref12_next, .txt false false af_ref12_next),
  (n_ref09_Split, .txt false false af_ref09_Split),
  (n_ref18_Parse, .txt false false af_ref18_Parse),
  (n_ref09_Number, .txt false false af_ref09_Number),
  (n_topology_within, .txt true false af_topology_within),
  (n_graph_Segment, .txt true false af_graph_Segment),
  (n_slices_Grow_api_Segment_api_Segment, .txt false false af_slices_Grow_api_Segment_api_Segment),
  (n_ref11_search, .txt false false af_ref11_search),
  (n_ref11_On, .txt true false af_ref11_On),
  (n_ref09_Value, .txt false false af_ref09_Value),
  (n_ref09_digits, .txt false false af_ref09_digits),
  (n_ref09_Head, .txt true false af_ref09_Head),
  (n_ref11_transit, .txt true false af_ref11_transit),
  (n_ref09_Cost, .txt true false af_ref09_Cost),
  (n_ref09_Overloaded, .txt true false af_ref09_Overloaded)]

theorem tabL_ok : TabsOk Try.prog tabL :=
  .txt fn_law23_ForwardStep c_law23_ForwardStep (by decide) <|
  .txt fn_law23_ForwardApart c_law23_ForwardApart (by decide) <|
  .txt fn_law23_ForwardPlain c_law23_ForwardPlain (by decide) <|
  .txt fn_law23_ForwardReached c_law23_ForwardReached (by decide) <|
  .txt fn_law23_ForwardBypass c_law23_ForwardBypass (by decide) <|
  .txt fn_law23_ForwardBounds c_law23_ForwardBounds (by decide) <|
  .txt fn_law23_awake c_law23_awake (by decide) <|
  .txt fn_law23_large c_law23_large (by decide) <|
  .txt fn_forward_Step c_forward_Step (by decide) <|
  .txt fn_ref23_Step c_ref23_Step (by decide) <|
  .txt fn_ref09_SameInts c_ref09_SameInts (by decide) <|
  .txt fn_ref23_Same c_ref23_Same (by decide) <|
  .txt fn_ref22_Valid c_ref22_Valid (by decide) <|
  .txt fn_ref18_Same c_ref18_Same (by decide) <|
  .txt fn_ref09_Has c_ref09_Has (by decide) <|
  .txt fn_ref09_Tail c_ref09_Tail (by decide) <|
  .nat ⟨_, fn_ref22_Routes, by decide, by decide⟩ natRing_ok <|
  .txt fn_law23_awake_1 c_law23_awake_1 (by decide) <|
  .txt fn_law23_list c_law23_list (by decide) <|
  .txt fn_ref18_TextList c_ref18_TextList (by decide) <|
  .nat ⟨_, fn_table_Valid, by decide, by decide⟩ natTable_ok <|
  .txt fn_graph_Node c_graph_Node (by decide) <|
  .txt fn_forward_drop c_forward_drop (by decide) <|
  .txt fn_forward_with c_forward_with (by decide) <|
  .txt fn_graph_Arc c_graph_Arc (by decide) <|
  .txt fn_graph_Tail c_graph_Tail (by decide) <|
  .txt fn_slices_Contains_int_int c_slices_Contains_int_int (by decide) <|
  .txt fn_forward_leave c_forward_leave (by decide) <|
  .txt fn_forward_enter c_forward_enter (by decide) <|
  .txt fn_ref23_Route c_ref23_Route (by decide) <|
  .txt fn_ref09_Valid c_ref09_Valid (by decide) <|
  .txt fn_ref22_outgoing c_ref22_outgoing (by decide) <|
  .txt fn_ref18_Valid c_ref18_Valid (by decide) <|
  .txt fn_ref09_Arcs c_ref09_Arcs (by decide) <|
  .txt fn_ref11_Fits c_ref11_Fits (by decide) <|
  .txt fn_ref12_Next c_ref12_Next (by decide) <|
  .txt fn_ref09_Out c_ref09_Out (by decide) <|
  .txt fn_ref11_Up c_ref11_Up (by decide) <|
  .txt fn_ref18_ParseList c_ref18_ParseList (by decide) <|
  .txt fn_ref18_Text c_ref18_Text (by decide) <|
  .txt fn_topology_Valid c_topology_Valid (by decide) <|
  .txt fn_table_leaving c_table_leaving (by decide) <|
  .txt fn_table_proper c_table_proper (by decide) <|
  .nat ⟨_, fn_slices_Clone_api_Segment_api_Segment, by decide, by decide⟩ natClone2_ok <|
  .txt fn_graph_Arcs c_graph_Arcs (by decide) <|
  .txt fn_slices_Index_int_int c_slices_Index_int_int (by decide) <|
  .nat ⟨_, fn_slices_Clone_int_int, by decide, by decide⟩ natClone1_ok <|
  .txt fn_slices_Concat_api_Segment_api_Segment c_slices_Concat_api_Segment_api_Segment (by decide) <|
  .txt fn_ref09_within c_ref09_within (by decide) <|
  .txt fn_ref11_Dist c_ref11_Dist (by decide) <|
  .txt fn_ref12_next c_ref12_next (by decide) <|
  .txt fn_ref09_Split c_ref09_Split (by decide) <|
  .txt fn_ref18_Parse c_ref18_Parse (by decide) <|
  .txt fn_ref09_Number c_ref09_Number (by decide) <|
  .txt fn_topology_within c_topology_within (by decide) <|
  .txt fn_graph_Segment c_graph_Segment (by decide) <|
  .txt fn_slices_Grow_api_Segment_api_Segment c_slices_Grow_api_Segment_api_Segment (by decide) <|
  .txt fn_ref11_search c_ref11_search (by decide) <|
  .txt fn_ref11_On c_ref11_On (by decide) <|
  .txt fn_ref09_Value c_ref09_Value (by decide) <|
  .txt fn_ref09_digits c_ref09_digits (by decide) <|
  .txt fn_ref09_Head c_ref09_Head (by decide) <|
  .txt fn_ref11_transit c_ref11_transit (by decide) <|
  .txt fn_ref09_Cost c_ref09_Cost (by decide) <|
  .txt fn_ref09_Overloaded c_ref09_Overloaded (by decide) <|
  .nil

theorem run_ok {f : Nat} {fn : Func} {af : AF} {args : List AV} {r : AV} (n : Nat) (hf : Try.prog.funcs[f]? = some fn) (hc : compF Try.prog fn = some af) (hl : args.length ≤ af.nt) (hx : runP (xC (lkT tabL) n) af args = some r) : Ret Try.prog f args r :=
  (runP_sound (xC_sound mixed tabL_ok.tab n) hf hc hl hx).mono fun _ _ h => h

theorem awake_ok : Ret Try.prog n_law23_awake [] (bA true) := run_ok 400 fn_law23_awake c_law23_awake (Nat.le_of_ble_eq_true rfl) (by kernel_rfl)
end Go.Ab
