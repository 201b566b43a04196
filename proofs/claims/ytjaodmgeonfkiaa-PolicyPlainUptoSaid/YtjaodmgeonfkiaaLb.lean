/-
  Contracts, part b: topologies.
-/
import Derived.Test.YtjaodmgeonfkiaaLa
namespace Go.Ab
open Go.Proofs

def okLk (n : Int) (l : Lk) : Bool :=
  decide (0 ≤ l.a ∧ l.a ≤ n - 1) && decide (0 ≤ l.b ∧ l.b ≤ n - 1) && !decide (l.a = l.b) && decide (1 ≤ l.c0 ∧ l.c0 ≤ 65535) && decide (1 ≤ l.c1 ∧ l.c1 ≤ 65535) &&
  decide (0 ≤ l.cap ∧ l.cap ≤ 1048576) && decide (1 ≤ l.dl ∧ l.dl ≤ 65536) && decide (0 ≤ l.gr ∧ l.gr ≤ 64)

def validT (t : Top) : Bool :=
  decide (1 ≤ t.nodes ∧ t.nodes ≤ 64) && (decide (t.ov.length = 0) || decide ((t.ov.length : Int) = t.nodes)) && decide (t.links.length ≤ 256) && t.links.all (okLk t.nodes)

theorem okLk_spec {n : Int} {l : Lk} : okLk n l = true ↔ (0 ≤ l.a ∧ l.a ≤ n - 1) ∧ (0 ≤ l.b ∧ l.b ≤ n - 1) ∧ l.a ≠ l.b ∧ (1 ≤ l.c0 ∧ l.c0 ≤ 65535) ∧ (1 ≤ l.c1 ∧ l.c1 ≤ 65535) ∧
    (0 ≤ l.cap ∧ l.cap ≤ 1048576) ∧ (1 ≤ l.dl ∧ l.dl ≤ 65536) ∧ (0 ≤ l.gr ∧ l.gr ≤ 64) := by
  simp only [okLk, Bool.and_eq_true, decide_eq_true_eq, Bool.not_eq_true', decide_eq_false_iff_not, and_assoc, ne_eq]

theorem validT_spec {t : Top} : validT t = true ↔ (1 ≤ t.nodes ∧ t.nodes ≤ 64) ∧ ((t.ov.length : Int) = 0 ∨ (t.ov.length : Int) = t.nodes) ∧ (t.links.length : Int) ≤ 256 ∧ ∀ l ∈ t.links, okLk t.nodes l = true := by
  simp only [validT, Bool.and_eq_true, Bool.or_eq_true, decide_eq_true_eq, List.all_eq_true, and_assoc]
  constructor
  · rintro ⟨h1, h2, h3, h4, h5⟩; exact ⟨h1, h2, by omega, by omega, h5⟩
  · rintro ⟨h1, h2, h3, h4, h5⟩; exact ⟨h1, h2, by omega, by omega, h5⟩

theorem valid_ok (P : Program) (hP : P = Try.prog) (t : Top) : Ret P n_ref09_Valid [topA t] (bA (validT t)) := by
  refine ret_start (hP ▸ mixed) (hP ▸ fn_ref09_Valid) (hP ▸ c_ref09_Valid) (Nat.le_of_ble_eq_true rfl) fun Λ Λo K hK => ?_
  have hw := within_ok P hP
  clear hP
  obtain ⟨nodes, ov, links⟩ := t
  simp only [topA, boolsD, linksD] at *
  generalize hol : ov.map encB = ol at *
  generalize hll : links.map encLk = ll at *
  have hlo : Λ ol = ov.length := by rw [Λo, ← hol]; simp
  have hls : Λ ll = links.length := by rw [Λo, ← hll]; simp
  have leaf : ∀ b, validT ⟨nodes, ov, links⟩ = b → K (bA b) := fun b hb => by rw [← hb]; exact hK
  have no : (validT ⟨nodes, ov, links⟩ = true → False) → K (bA false) := fun h => leaf _ (Bool.eq_false_iff.2 h)
  conv => cbv
  repeat' first | refine call_b (hw _ _ _) rfl rfl ?_ ?_ | (intro (_ : Unit); first | omega | rfl | exact ⟨rfl, by omega⟩ | (simp only [nI_eq]; omega) | ((repeat' first | rfl | omega | refine And.intro ?_ ?_ | (simp only [nI_eq]; omega) | exact Nat.le_of_ble_eq_true rfl); done)) | exact trivial | refine And.intro ?_ ?_ | (intro hc; exact absurd hc (by decide)) | (intro hc; exfalso; omega) | (intro hc; (first | rw [wrap_small (by omega) (by omega)] at hc | rw [nI_eq] at hc | skip); try (conv => cbv))
  all_goals try simp only [decide_eq_true_eq, decide_eq_false_iff_not] at *
  all_goals try (refine no fun h => ?_; obtain ⟨h1, h2, h3, h4⟩ := validT_spec.1 h; simp only at h1 h2 h3; omega)
  all_goals
    refine loop_up links.length (fun (i : Int) => [(1, .c (.ptr 0 0 0 0)), (3, iA i)]) (fun _ => [.bx [.d (.int .i64 nodes), .d (.list false 1 ol), .d (.list false 7 ll)]]) (fun k i => i = k ∧ k ≤ links.length ∧ ∀ l ∈ links.take k, okLk nodes l = true) 0 (Wk.cut ⟨_, rfl⟩ (Nat.zero_le _) rfl (by repeat' first | exact trivial | refine And.intro ?_ ?_ | rfl)) ⟨rfl, by omega, by simp⟩ (fun k s h => h.2.1) ?_
    rintro k i Q' ⟨hi, hk, hok⟩ norm ex rt
    conv => cbv
    repeat' first | (refine ex _ _ _ ?_; (conv => cbv)) | (refine rt _ _ ?_; (conv => cbv)) | refine call_b (hw _ _ _) rfl rfl ?_ ?_ | (intro e he; obtain ⟨⟨xa, xb, xc, xd, xe, xf, xg⟩, hx, rfl⟩ := map_get' hll he; (conv => cbv)) | (intro (_ : Unit); first | omega | rfl | exact ⟨rfl, by omega⟩ | (simp only [nI_eq]; omega) | ((repeat' first | rfl | omega | refine And.intro ?_ ?_ | (simp only [nI_eq]; omega) | exact Nat.le_of_ble_eq_true rfl); done)) | exact trivial | refine And.intro ?_ ?_ | (intro hc; exact absurd hc (by decide)) | (intro hc; exfalso; omega) | (intro hc; (first | rw [wrap_small (by omega) (by omega)] at hc | rw [nI_eq] at hc | skip); try (conv => cbv))
  all_goals try simp only [decide_eq_true_eq, decide_eq_false_iff_not] at *
  all_goals try (refine no fun h => ?_; obtain ⟨h1, h2, h3, h4⟩ := validT_spec.1 h; have h5 := okLk_spec.1 (h4 _ (List.mem_of_getElem? hx)); simp only at h5; omega)
  all_goals try (refine leaf _ (validT_spec.2 ⟨by assumption, by simp only; omega, by simp only; omega, fun l hl => hok l ?_⟩); rw [List.take_of_length_le (by omega)]; exact hl)
  all_goals
    refine norm _ _ _ ?_ (Wk.cut ⟨_, rfl⟩ (Nat.zero_le _) rfl (by repeat' first | exact trivial | refine And.intro ?_ ?_ | rfl))
    refine ⟨by omega, by omega, ?_⟩
    rw [show i.toNat = k by omega] at hx
    rw [take_succ_get hx]
    intro l hl
    rcases List.mem_append.1 hl with hl | hl
    · exact hok l hl
    · simp only [List.mem_singleton] at hl
      subst hl
      exact okLk_spec.2 ⟨by simp only; omega, by simp only; omega, by simp only; omega, by simp only; omega, by simp only; omega, by simp only; omega, by simp only; omega, by simp only; omega⟩
def arcsT (t : Top) : Int := if validT t then 2 * t.links.length else 0
def lkAt (t : Top) (a : Int) : Lk := (t.links[(a / 2).toNat]?).getD default
def tailT (t : Top) (a : Int) : Int := if 0 ≤ a ∧ a < arcsT t then (if a % 2 = 0 then (lkAt t a).a else (lkAt t a).b) else -1
def headT (t : Top) (a : Int) : Int := if 0 ≤ a ∧ a < arcsT t then (if a % 2 = 0 then (lkAt t a).b else (lkAt t a).a) else -1
def costT (t : Top) (a : Int) : Int := if 0 ≤ a ∧ a < arcsT t then (if a % 2 = 0 then (lkAt t a).c0 else (lkAt t a).c1) else -1

theorem arcsT_le (t : Top) : arcsT t ≤ 2 * t.links.length ∧ arcsT t ≤ 512 ∧ 0 ≤ arcsT t := by
  rw [arcsT]; split
  · rename_i h; have := (validT_spec.1 h).2.2.1; omega
  · omega

theorem tdiv2 {x : Int} (h1 : 0 ≤ x) (h2 : x < 9223372036854775808) : IntKind.i64.wrap (x.tdiv 2) = x / 2 := by
  rw [Int.tdiv_eq_ediv_of_nonneg h1, wrap64]; omega
theorem tmod2 {x : Int} (h1 : 0 ≤ x) : x.tmod 2 = x % 2 := Int.tmod_eq_emod_of_nonneg h1

theorem arcs_ok (P : Program) (hP : P = Try.prog) (t : Top) : Ret P n_ref09_Arcs [topA t] (iA (arcsT t)) := by
  refine ret_start (hP ▸ mixed) (hP ▸ fn_ref09_Arcs) (hP ▸ c_ref09_Arcs) (Nat.le_of_ble_eq_true rfl) fun Λ Λo K hK => ?_
  have hw := valid_ok P hP t
  clear hP
  have leaf : ∀ b, arcsT t = b → K (iA b) := fun b hb => by rw [← hb]; exact hK
  have h256 : validT t = true → (t.links.length : Int) ≤ 256 := fun h => (validT_spec.1 h).2.2.1
  have ha : arcsT t = if validT t then 2 * (t.links.length : Int) else 0 := rfl
  generalize arcsT t = r at *
  generalize validT t = v at *
  cases v
  all_goals
    obtain ⟨nodes, ov, links⟩ := t
    simp only [topA, boolsD, linksD] at *
    generalize hol : ov.map encB = ol at *
    generalize hll : links.map encLk = ll at *
    have hlo : Λ ol = ov.length := by rw [Λo, ← hol]; simp
    have hls : Λ ll = links.length := by rw [Λo, ← hll]; simp
    simp only [Bool.false_eq_true, if_true, if_false, forall_const] at ha h256
    conv => cbv
    repeat' first | refine call_b hw rfl rfl ?_ ?_ | (intro hc; cases hc; done) | (intro (_ : Unit); first | omega | rfl | exact ⟨rfl, by omega⟩ | (simp only [nI_eq]; omega) | ((repeat' first | rfl | omega | refine And.intro ?_ ?_ | (simp only [nI_eq]; omega) | exact Nat.le_of_ble_eq_true rfl); done)) | exact trivial | refine And.intro ?_ ?_ | (intro hc; exact absurd hc (by decide)) | (intro hc; exfalso; omega) | (intro hc; (first | rw [wrap_small (by omega) (by omega)] at hc | rw [nI_eq] at hc | skip); try (conv => cbv))
  · exact leaf _ ha
  · exact leaf _ (by omega)

theorem tail_ok (P : Program) (hP : P = Try.prog) (t : Top) (a : Int) : Ret P n_ref09_Tail [topA t, iA a] (iA (tailT t a)) := by
  refine ret_start (hP ▸ mixed) (hP ▸ fn_ref09_Tail) (hP ▸ c_ref09_Tail) (Nat.le_of_ble_eq_true rfl) fun Λ Λo K hK => ?_
  have hw := arcs_ok P hP t
  clear hP
  have leaf : ∀ b, tailT t a = b → K (iA b) := fun b hb => by rw [← hb]; exact hK
  have hv2 := arcsT_le t
  have hta : tailT t a = if 0 ≤ a ∧ a < arcsT t then (if a % 2 = 0 then (lkAt t a).a else (lkAt t a).b) else -1 := rfl
  have hat : ∀ x, t.links[(a / 2).toNat]? = some x → lkAt t a = x := fun x hx => by simp [lkAt, hx]
  generalize arcsT t = v at *
  obtain ⟨nodes, ov, links⟩ := t
  simp only [topA, boolsD, linksD] at *
  generalize hol : ov.map encB = ol at *
  generalize hll : links.map encLk = ll at *
  have hlo : Λ ol = ov.length := by rw [Λo, ← hol]; simp
  have hls : Λ ll = links.length := by rw [Λo, ← hll]; simp
  conv => cbv
  repeat' first | refine call_i hw rfl rfl ?_ | (intro hc; rw [tdiv2 (by omega) (by omega)] at hc; conv => cbv) | (intro hc; rw [tmod2 (by omega)] at hc; conv => cbv) | (intro (_ : Unit); decide) | (intro e he; obtain ⟨⟨xa, xb, xc, xd, xe, xf, xg⟩, hx, rfl⟩ := map_get' hll he; (conv => cbv)) | (intro (_ : Unit); first | omega | rfl | exact ⟨rfl, by omega⟩ | (simp only [nI_eq]; omega) | ((repeat' first | rfl | omega | refine And.intro ?_ ?_ | (simp only [nI_eq]; omega) | exact Nat.le_of_ble_eq_true rfl); done)) | exact trivial | refine And.intro ?_ ?_ | (intro hc; exact absurd hc (by decide)) | (intro hc; exfalso; omega) | (intro hc; (first | rw [wrap_small (by omega) (by omega)] at hc | rw [nI_eq] at hc | skip); try (conv => cbv))
  · exact leaf _ (by rw [hta, if_neg (by omega)])
  · exact leaf _ (by rw [hta, if_neg (by omega)])
  all_goals
    refine leaf _ ?_
    rw [hta, if_pos (by omega), hat _ (get_at hx (by omega))]
  · rw [if_pos (by omega)]
  · rw [if_neg (by omega)]

theorem head_ok (P : Program) (hP : P = Try.prog) (t : Top) (a : Int) : Ret P n_ref09_Head [topA t, iA a] (iA (headT t a)) := by
  refine ret_start (hP ▸ mixed) (hP ▸ fn_ref09_Head) (hP ▸ c_ref09_Head) (Nat.le_of_ble_eq_true rfl) fun Λ Λo K hK => ?_
  have hw := arcs_ok P hP t
  have ht := tail_ok P hP t
  clear hP
  have leaf : ∀ b, headT t a = b → K (iA b) := fun b hb => by rw [← hb]; exact hK
  have hv2 := arcsT_le t
  have hta : headT t a = if 0 ≤ a ∧ a < arcsT t then (if a % 2 = 0 then (lkAt t a).b else (lkAt t a).a) else -1 := rfl
  have htt : ∀ c, tailT t c = if 0 ≤ c ∧ c < arcsT t then (if c % 2 = 0 then (lkAt t c).a else (lkAt t c).b) else -1 := fun _ => rfl
  have hlk : ∀ c, c / 2 = a / 2 → lkAt t c = lkAt t a := fun c hc => by rw [lkAt, lkAt, hc]
  have hev : arcsT t % 2 = 0 := by rw [arcsT]; split <;> omega
  generalize headT t a = r at *
  generalize hf : tailT t = f at *
  generalize arcsT t = v at *
  generalize lkAt t = lk at *
  obtain ⟨nodes, ov, links⟩ := t
  simp only [topA, boolsD, linksD] at *
  generalize hol : ov.map encB = ol at *
  generalize hll : links.map encLk = ll at *
  have hlo : Λ ol = ov.length := by rw [Λo, ← hol]; simp
  have hls : Λ ll = links.length := by rw [Λo, ← hll]; simp
  conv => cbv
  repeat' first | refine call_i hw rfl rfl ?_ | refine call_i (ht _) rfl rfl ?_ | (intro hc; rw [tdiv2 (by omega) (by omega)] at hc; conv => cbv) | (intro hc; rw [tmod2 (by omega)] at hc; conv => cbv) | (intro (_ : Unit); decide) | (intro (_ : Unit); first | omega | rfl | exact ⟨rfl, by omega⟩ | (simp only [nI_eq]; omega) | ((repeat' first | rfl | omega | refine And.intro ?_ ?_ | (simp only [nI_eq]; omega) | exact Nat.le_of_ble_eq_true rfl); done)) | exact trivial | refine And.intro ?_ ?_ | (intro hc; exact absurd hc (by decide)) | (intro hc; exfalso; omega) | (intro hc; (first | rw [wrap_small (by omega) (by omega)] at hc | rw [nI_eq] at hc | skip); try (conv => cbv))
  · exact leaf _ (by rw [hta, if_neg (by omega)])
  · exact leaf _ (by rw [hta, if_neg (by omega)])
  · refine leaf _ ?_
    subst hc
    rename_i c
    rw [hta.trans (if_pos (by omega)), (htt c).trans (if_pos (by omega)), hlk c (by omega)]
    by_cases h0 : a % 2 = 0
    · rw [if_pos h0, if_neg (by omega)]
    · rw [if_neg h0, if_pos (by omega)]

end Go.Ab
