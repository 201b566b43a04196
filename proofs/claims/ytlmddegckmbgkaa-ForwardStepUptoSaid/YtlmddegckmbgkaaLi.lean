/-
  Contracts, part i: a step of a packet.
-/
import Derived.Test.YtlmddegckmbgkaaLh
namespace Go.Ab
open Go.Proofs

theorem with_ok (P : Program) (hP : P = Try.prog) (p : Pkt) (l : List Seg) (hl : l.length ≤ 1000000) : Ret P n_forward_with [pktA p, segsA l] (pktA {p with stack := l}) := by
  have hq := cloneSegs_ok P hP l hl
  refine ret_start (hP ▸ mixed) (hP ▸ fn_forward_with) (hP ▸ c_forward_with) (Nat.le_of_ble_eq_true rfl) fun Λ Λo K hK => ?_
  clear hP
  obtain ⟨id, src, dst, flow, stack, hops⟩ := p
  simp only [segsA, segsD, pktA] at *
  generalize llh : List.map encSeg l = ll at *
  generalize slh : List.map encSeg stack = sl at *
  conv => cbv
  repeat' first | (refine call_r hq rfl rfl ?_; conv => cbv) | (intro (_ : Unit); first | omega | rfl | exact ⟨rfl, by omega⟩ | (simp only [nI_eq]; omega) | ((repeat' first | rfl | omega | refine And.intro ?_ ?_ | (simp only [nI_eq]; omega) | exact Nat.le_of_ble_eq_true rfl); done)) | exact trivial | refine And.intro ?_ ?_ | (intro hc; exact absurd hc (by decide)) | (intro hc; exfalso; omega) | (intro hc; (first | rw [wrap_small (by omega) (by omega)] at hc | rw [nI_eq] at hc | skip); try (conv => cbv))
  exact hK

def tupA (arcs : List Int) (p : Pkt) (r : Int) : AV := .tup [intsA arcs, pktA p, iA r]

theorem drop_ok (P : Program) (hP : P = Try.prog) (p : Pkt) (r : Int) (hl : p.stack.length ≤ 1000000) : Ret P n_forward_drop [pktA p, iA r] (tupA [] p r) := by
  have hq := with_ok P hP p p.stack hl
  refine ret_start (hP ▸ mixed) (hP ▸ fn_forward_drop) (hP ▸ c_forward_drop) (Nat.le_of_ble_eq_true rfl) fun Λ Λo K hK => ?_
  clear hP
  obtain ⟨id, src, dst, flow, stack, hops⟩ := p
  simp only [segsA, segsD, pktA, tupA, intsA, intsD, List.map_nil] at *
  generalize slh : List.map encSeg stack = sl at *
  conv => cbv
  repeat' first | (refine call_r hq rfl rfl ?_; conv => cbv) | (intro (_ : Unit); first | omega | rfl | exact ⟨rfl, by omega⟩ | (simp only [nI_eq]; omega) | ((repeat' first | rfl | omega | refine And.intro ?_ ?_ | (simp only [nI_eq]; omega) | exact Nat.le_of_ble_eq_true rfl); done)) | exact trivial | refine And.intro ?_ ?_ | (intro hc; exact absurd hc (by decide)) | (intro hc; exfalso; omega) | (intro hc; (first | rw [wrap_small (by omega) (by omega)] at hc | rw [nI_eq] at hc | skip); try (conv => cbv))
  exact hK

theorem leave_ok (P : Program) (hP : P = Try.prog) (p : Pkt) (l : List Seg) (arcs : List Int) (hl : l.length ≤ 1000000) (ha : arcs.length ≤ 1000000) (h0 : -1000 ≤ p.hops) (h1 : p.hops ≤ 1000) : Ret P n_forward_leave [pktA p, segsA l, intsA arcs] (tupA arcs {p with stack := l, hops := p.hops + 1} 0) := by
  have hq := with_ok P hP p l hl
  have hr := cloneInts_ok P hP arcs ha
  refine ret_start (hP ▸ mixed) (hP ▸ fn_forward_leave) (hP ▸ c_forward_leave) (Nat.le_of_ble_eq_true rfl) fun Λ Λo K hK => ?_
  clear hP
  obtain ⟨id, src, dst, flow, stack, hops⟩ := p
  simp only [segsA, segsD, pktA, tupA, intsA, intsD] at *
  generalize slh : List.map encSeg stack = sl at *
  generalize llh : List.map encSeg l = ll at *
  generalize alh : List.map encI arcs = al at *
  conv => cbv
  repeat' first | (refine call_r hq rfl rfl ?_; conv => cbv) | (refine call_r hr rfl rfl ?_; conv => cbv) | (intro (_ : Unit); first | omega | rfl | exact ⟨rfl, by omega⟩ | (simp only [nI_eq]; omega) | ((repeat' first | rfl | omega | refine And.intro ?_ ?_ | (simp only [nI_eq]; omega) | exact Nat.le_of_ble_eq_true rfl); done)) | exact trivial | refine And.intro ?_ ?_ | (intro hc; exact absurd hc (by decide)) | (intro hc; exfalso; omega) | (intro hc; (first | rw [wrap_small (by omega) (by omega)] at hc | rw [nI_eq] at hc | skip); try (conv => cbv))
  all_goals (subst hc; exact hK)

def leaveS (p : Pkt) (l : List Seg) (arcs : List Int) : List Int × Pkt × Int := (arcs, {p with stack := l, hops := p.hops + 1}, 0)
def enterS (p : Pkt) (l : List Seg) (e : Ety) : List Int × Pkt × Int :=
  if e.rep = true then (if (e.push ++ l.drop 1).length > 32 then ([], p, 5) else leaveS p (e.push ++ l.drop 1) e.arcs) else leaveS p l e.arcs
abbrev ansA (x : List Int × Pkt × Int) : AV := tupA x.1 x.2.1 x.2.2

theorem enter_ok (P : Program) (hP : P = Try.prog) (p : Pkt) (l : List Seg) (e : Ety) (hl : l.length ≤ 100000) (hs : p.stack.length ≤ 1000000) (ha : e.arcs.length ≤ 1000000) (hp : e.push.length ≤ 100000) (h0 : -1000 ≤ p.hops) (h1 : p.hops ≤ 1000) :
    Ret P n_forward_enter [pktA p, segsA l, entA e] (ansA (enterS p l e)) := by
  obtain ⟨arcs, rep, push⟩ := e
  have hdrop := drop_ok P hP p 5 hs
  have hleave := leave_ok P hP p l arcs (by omega) ha h0 h1
  have hcat := concatSegs_ok P hP [push, l.drop 1] (by simp [sumLen]; simp only at hp; omega)
  have hleave2 := leave_ok P hP p (push ++ l.drop 1) arcs (by simp; simp only at hp; omega) ha h0 h1
  refine ret_start (hP ▸ mixed) (hP ▸ fn_forward_enter) (hP ▸ c_forward_enter) (Nat.le_of_ble_eq_true rfl) fun Λ Λo K hK => ?_
  clear hP
  have k0 : rep = false → K (ansA (leaveS p l arcs)) := by intro h; subst h; simpa [enterS] using hK
  have k1 : rep = true → (push ++ l.drop 1).length > 32 → K (ansA ([], p, 5)) := by
    intro h h'; subst h
    simp only [enterS, if_true] at hK
    rw [if_pos h'] at hK; exact hK
  have k2 : rep = true → ¬ (push ++ l.drop 1).length > 32 → K (ansA (leaveS p (push ++ l.drop 1) arcs)) := by
    intro h h'; subst h
    simp only [enterS, if_true] at hK
    rw [if_neg h'] at hK; exact hK
  clear hK
  simp only at ha hp
  obtain ⟨id, src, dst, flow, stack, hops⟩ := p
  simp only [segsA, segsD, pktA, tupA, intsA, intsD, entA, ansA, leaveS, List.map_nil, List.map_cons, encSegs, List.flatten_cons, List.flatten_nil, List.append_nil] at *
  have hcl : Λ (List.map encSeg (push ++ l.drop 1)) = (push ++ l.drop 1).length := by rw [Λo]; simp
  generalize clh : push ++ l.drop 1 = c at *
  generalize cmh : List.map encSeg c = cm at *
  generalize slh : List.map encSeg stack = sl at *
  generalize plh : List.map encSeg push = pl at *
  simp only [List.map_drop] at *
  generalize llh : List.map encSeg l = ll at *
  have lln : Λ ll = l.length := by rw [Λo, ← llh]; simp
  generalize tlh : List.drop 1 ll = tl at *
  generalize alh : List.map encI arcs = al at *
  cases rep
  all_goals (conv => cbv)
  all_goals (repeat' first | (refine call_r hleave rfl rfl ?_; conv => cbv) | (refine call_r hdrop rfl rfl ?_; conv => cbv) | (refine call_r hleave2 rfl rfl ?_; conv => cbv) | (intro (_ : Unit); first | omega | rfl | exact ⟨rfl, by omega⟩ | (simp only [nI_eq]; omega) | ((repeat' first | rfl | omega | refine And.intro ?_ ?_ | (simp only [nI_eq]; omega) | exact Nat.le_of_ble_eq_true rfl); done)) | exact trivial | refine And.intro ?_ ?_ | (intro hc; exact absurd hc (by decide)) | (intro hc; exfalso; omega) | (intro hc; (first | rw [wrap_small (by omega) (by omega)] at hc | rw [nI_eq] at hc | skip); try (conv => cbv)))
  all_goals (try exact k0 rfl)
  · rename_i tl'
    have e : tl' = tl := hc.trans tlh
    subst e
    (refine call_z 3 0 1 2 rfl rfl (by repeat' first | exact trivial | refine And.intro ?_ ?_ | rfl) (by repeat' first | exact trivial | refine And.intro ?_ ?_ | rfl) ?_; conv => cbv)
    (refine call_r hcat rfl rfl ?_; conv => cbv)
    repeat' first | (refine call_r hleave2 rfl rfl ?_; conv => cbv) | (refine call_r hdrop rfl rfl ?_; conv => cbv) | (intro (_ : Unit); first | omega | rfl | exact ⟨rfl, by omega⟩ | (simp only [nI_eq]; omega) | ((repeat' first | rfl | omega | refine And.intro ?_ ?_ | (simp only [nI_eq]; omega) | exact Nat.le_of_ble_eq_true rfl); done)) | exact trivial | refine And.intro ?_ ?_ | (intro hc; exact absurd hc (by decide)) | (intro hc; exfalso; omega) | (intro hc; (first | rw [wrap_small (by omega) (by omega)] at hc | rw [nI_eq] at hc | skip); try (conv => cbv))
    · exact k1 rfl (by omega)
    · exact k2 rfl (by omega)
  · have e : tl = ll := by
      rw [← tlh]
      have h0 : ll.length = 0 := by rw [Λo] at hc; omega
      rw [List.eq_nil_of_length_eq_zero h0]; rfl
    subst e
    (refine call_z 3 0 1 2 rfl rfl (by repeat' first | exact trivial | refine And.intro ?_ ?_ | rfl) (by repeat' first | exact trivial | refine And.intro ?_ ?_ | rfl) ?_; conv => cbv)
    (refine call_r hcat rfl rfl ?_; conv => cbv)
    repeat' first | (refine call_r hleave2 rfl rfl ?_; conv => cbv) | (refine call_r hdrop rfl rfl ?_; conv => cbv) | (intro (_ : Unit); first | omega | rfl | exact ⟨rfl, by omega⟩ | (simp only [nI_eq]; omega) | ((repeat' first | rfl | omega | refine And.intro ?_ ?_ | (simp only [nI_eq]; omega) | exact Nat.le_of_ble_eq_true rfl); done)) | exact trivial | refine And.intro ?_ ?_ | (intro hc; exact absurd hc (by decide)) | (intro hc; exfalso; omega) | (intro hc; (first | rw [wrap_small (by omega) (by omega)] at hc | rw [nI_eq] at hc | skip); try (conv => cbv))
    · exact k1 rfl (by omega)
    · exact k2 rfl (by omega)

end Go.Ab
