/-
  The engine: results that are new memory.
-/
import Derived.Test.YtjaodmgeonfkiaaFr
namespace Go.Ab

def scalD : D → Bool
  | .bool _ => true
  | .int _ _ => true
  | .str _ => true
  | _ => false

theorem scalD_move {G G' : Nat → Prop} {w w' : World} {v : Value} {d : D} (hs : scalD d = true) (hd : DR G w v d) : DR G' w' v d := by
  cases hd <;> first | (simp [scalD] at hs; done) | exact .bool _ | exact .int _ _ | exact .str _

/-- an array of the call's own, of plain elements, as new memory -/
theorem new_arr {G : Nat → Prop} {ι : Io} {h : Hp} {w w' : World} {v : Value} {l ver sz n : Nat} {r : Bool} {es : List (List D)} (hr : HR G ι h w') (hv : CR G w' ι h v (.arr l ver 0 n)) (hl : h[l]? = some (.da r ver sz es)) (hn : n = es.length)
    (hnew : ∀ b, owned ι h b → w.heap.size ≤ b) (hsc : ∀ e ∈ es, ∀ d ∈ e, scalD d = true) : DR (fun b => w.heap.size ≤ b ∧ b < w'.heap.size) w' v (.list false sz es) := by
  have hf : frz h (.arr l ver 0 n) = some (.list false sz es, h.set l .dead) := by simp [frz, hl, hn]
  obtain ⟨G', _, hd, _⟩ := frz_sound hr hv hf
  cases hv with
  | arr _ _ _ _ _ blk hb ha hk hk0 =>
    rw [hl] at hb
    cases hb
    cases r with
    | false =>
      obtain ⟨_, _, rfl⟩ := hk0 sz es rfl
      have : es = [] := hr.blk l _ hl
      subst this
      exact .nils false sz
    | true =>
      obtain ⟨b, o, cap, g1, g2, g3, g4, g5⟩ := hk sz es rfl
      have ho : owned ι h b := ⟨l, o, _, g1, hl, rfl⟩
      have hb2 := owned_lt hr ho
      have hb1 := hnew b ho
      generalize hx : D.list false sz es = x at hd
      cases hd with
      | bool => cases hx
      | int => cases hx
      | str => cases hx
      | nilp => cases hx
      | nilm => cases hx
      | nilf => cases hx
      | nili => cases hx
      | nils nl sz' => cases hx; exact .nils _ _
      | emp a sz' => cases hx; exact .emp _ _
      | sl b' off cap' sz' l' g hG hcap hmax hsz hc hr' =>
        cases hx
        refine .sl b' off cap' sz es g (fun hne => ?_) hcap hmax hsz hc fun i e j x he hx => scalD_move (hsc e (List.mem_of_getElem? he) x (List.mem_of_getElem? hx)) (hr' i e j x he hx)
        have hbb : b' = b := by
          rcases g5 with g5 | ⟨g5, _⟩
          · cases g5; rfl
          · exact absurd (List.eq_nil_of_length_eq_zero (hn ▸ g5)) hne
        rw [hbb]; exact ⟨hb1, hb2⟩

theorem FrS.of_arr {P : Program} {f : Nat} {vargs : List AV} {sz : Nat} {es : List (List D)} (hf : FnS P f vargs [] fun r h' => (∃ l v n rl, r = .c (.arr l v 0 n) ∧ h'[l]? = some (.da rl v sz es) ∧ n = es.length) ∨ (es = [] ∧ ∃ nl, r = .c (.d (.list nl sz []))))
    (hsc : ∀ e ∈ es, ∀ d ∈ e, scalD d = true) : FrS P f vargs (.c (.d (.list false sz es))) where
  pure := rfl
  out w vs hv := by
    refine (hf.out (below w) [] w vs (HR_nil fun b hb => hb) hv).mono fun e w' ⟨v, r, G', ι', h', he, hR, hr, hvr, hx⟩ => ?_
    have hsame : ∀ b, b < w.heap.size → w'.heap[b]? = w.heap[b]? := fun b hb => hx.frame b hb fun ⟨l, o, blk, h1, _⟩ => by simp at h1
    have hnew : ∀ b, owned ι' h' b → w.heap.size ≤ b := fun b ho => by
      rcases hx.onew b ho with ⟨l, o, blk, h1, _⟩ | h1
      · simp at h1
      · exact h1
    refine ⟨v, he, hx.quiet, hx.size, hsame, ?_⟩
    rcases hR with ⟨l, ver, n, rl, rfl, h1, h2⟩ | ⟨rfl, nl, rfl⟩
    · exact .c _ _ (.d _ _ (new_arr hr (inv_c hvr) h1 h2 hnew hsc))
    · have hd := inv_d hvr
      generalize hx : D.list nl sz [] = x at hd
      cases hd with
      | nils nl' sz' => cases hx; exact .c _ _ (.d _ _ (.nils _ _))
      | emp a sz' => cases hx; exact .c _ _ (.d _ _ (.emp _ _))
      | sl b' off cap' sz' l' g hG hcap hmax hsz hc hr' =>
        cases hx
        exact .c _ _ (.d _ _ (.sl b' off cap' sz [] g (fun h => absurd rfl h) hcap hmax (by simp) (by simp) (by simp)))
      | _ => cases hx

end Go.Ab
