/-
  Merged texts, part l.
-/
import Derived.Test.YtpmananoicnhlaaZk
/-
  Contracts, part a: what a contract says; the data of the program and how they are laid.
-/
namespace Go.Ab
open Go.Proofs
abbrev iA (n : Int) : AV := .c (.d (.int .i64 n))
abbrev bA (b : Bool) : AV := .c (.d (.bool b))
def Ret (P : Program) (f : Nat) (args : List AV) (r : AV) : Prop := FnS P f args [] fun r' _ => pureA r' = true ∧ r' = r
theorem ret_start {P : Program} {f : Nat} {fn : Func} {af : AF} {args : List AV} {r : AV} (hm : P.follows .mixedOrders = true) (hf : P.funcs[f]? = some fn) (hc : compF P fn = some af) (hl : args.length ≤ af.nt)
  (hv : ∀ (Λ : Len), (∀ l, Λ l = (l.length : Int)) → ∀ (K : AV → Prop), K r → vcF P Λ af args K) : Ret P f args r :=
 fn_pure (K := fun r' => r' = r) hm hf hc hl fun Λ h => hv Λ h _ rfl
theorem wrap64 (x : Int) : IntKind.i64.wrap x = (x + 9223372036854775808) % 18446744073709551616 - 9223372036854775808 := by
 simp only [IntKind.wrap, IntKind.bits, IntKind.signed, Bool.true_and, decide_eq_true_eq, Nat.reduceSub, ge_iff_le]
 have e1 : (2 : Int) ^ 64 = 18446744073709551616 := by decide
 have e2 : (2 : Int) ^ 63 = 9223372036854775808 := by decide
 rw [e1, e2]
 split <;> omega
theorem wrap_small {x : Int} (h : -9223372036854775808 ≤ x) (h' : x < 9223372036854775808) : IntKind.i64.wrap x = x := by
 rw [wrap64]; omega
theorem call_b {P : Program} {m : Nat} {d : Bool} {L : Lv} {h : Hp} {f : Nat} {xs : List X} {args' : List AV} {K : Lv → AV → Hp → Prop} {b : Bool} (hf : Ret P f args' (bA b)) (ha : (evsN L xs).map fgA = args') (hp : args'.all pureA = true)
  (k1 : b = true → K L (bA true) h) (k2 : b = false → K L (bA false) h) : CallS P m d L h f xs K := by
 refine CallS.pure (r := bA b) (Or.inl ⟨args', .inl ha.symm, hp, hf⟩) ?_
 cases b
 ·exact k2 rfl
 ·exact k1 rfl
theorem call_i {P : Program} {m : Nat} {d : Bool} {L : Lv} {h : Hp} {f : Nat} {xs : List X} {args' : List AV} {K : Lv → AV → Hp → Prop} {n : Int} (hf : Ret P f args' (iA n)) (ha : (evsN L xs).map fgA = args') (hp : args'.all pureA = true)
  (k : ∀ c, c = n → K L (iA c) h) : CallS P m d L h f xs K :=
 CallS.pure (r := iA n) (Or.inl ⟨args', .inl ha.symm, hp, hf⟩) (k n rfl)
theorem call_r {P : Program} {m : Nat} {d : Bool} {L : Lv} {h : Hp} {f : Nat} {xs : List X} {args' : List AV} {K : Lv → AV → Hp → Prop} {r : AV} (hf : Ret P f args' r) (ha : (evsN L xs).map fgA = args') (hp : args'.all pureA = true)
  (k : K L r h) : CallS P m d L h f xs K :=
 CallS.pure (r := r) (Or.inl ⟨args', .inl ha.symm, hp, hf⟩) k
theorem call_z {P : Program} {m : Nat} {L : Lv} {h : Hp} {f : Nat} {xs : List X} {K : Lv → AV → Hp → Prop} (l v sz k : Nat) {r : Bool} {es : List (List D)} (hl : h[l]? = some (.da r v sz es)) (hk : k = es.length) (h1 : okL l v k L) (h2 : okH l v k h)
  (hc : CallS P m false (zL l v sz es L) (zH l v sz es 0 h) f xs K) : CallS P m false L h f xs K :=
 .wk (.fz l v sz r es hl (fun i => .inr (by rw [← lkN_eq, ← lkN_eq, lkN_z]; exact zA_ok hk (okL_get h1 i))) (zH_ok hk h2)) hc
theorem gu {p : Prop} (h : Unit → p := by
  intro (_ : Unit)
  first
   | omega
   | rfl
   | exact ⟨rfl, by omega⟩
   | (simp only [nI_eq]; omega)
   | ((repeat' first | rfl | omega | refine And.intro ?_ ?_ | (simp only [nI_eq]; omega) | (simp only [List.length_cons, List.length_nil]; omega) | exact Nat.le_of_ble_eq_true rfl); fail_if_success intros)) : Unit → p := h
theorem Wk.cw {m : Nat} {L : Lv} {h : Hp} {L' : Lv} {h' : Hp} (heap : ∃ t, h = h' ++ t := by exact ⟨_, rfl⟩) (least : m ≤ h'.length := by exact Nat.zero_le _) (refs : refsH h'.length h' = true := by rfl)
  (env : KeepL h'.length L L' := by repeat' first | exact trivial | refine And.intro ?_ ?_ | rfl) : Wk m L h L' h' := .cut heap least refs env
theorem Wk.ca {m : Nat} {L : Lv} {h : Hp} {L' : Lv} {h' : Hp} (heap : ∃ t, h = h' ++ t := by exact ⟨_, rfl⟩) (least : m ≤ h'.length := by exact Nat.le_of_ble_eq_true rfl) (refs : refsH h'.length h' = true := by rfl)
  (env : KeepL h'.length L L' := by repeat' first | exact trivial | refine And.intro ?_ ?_ | rfl) : Wk m L h L' h' := .cut heap least refs env
theorem Wk.ch {m : Nat} {L : Lv} {h : Hp} {L' : Lv} (least : m ≤ h.length := by exact Nat.le_of_ble_eq_true rfl) (refs : refsH h.length h = true := by rfl)
  (env : KeepL h.length L L' := by repeat' first | exact trivial | refine And.intro ?_ ?_ | rfl) : Wk m L h L' h := .cut ⟨[], (List.append_nil h).symm⟩ least refs env
structure Lk where
 (a b c0 c1 cap dl gr : Int)
structure Top where
 (nodes : Int) (ov : List Bool) (links : List Lk)
structure Seg where
 (kind num : Int)
 deriving DecidableEq
structure Ety where
 (arcs : List Int) (rep : Bool) (push : List Seg)
instance : Inhabited Lk := ⟨⟨0, 0, 0, 0, 0, 0, 0⟩⟩
instance : Inhabited Seg := ⟨⟨0, 0⟩⟩
instance : Inhabited Ety := ⟨⟨[], false, []⟩⟩
abbrev iD (n : Int) : D := .int .i64 n
def encB (b : Bool) : List D := [.bool b]
def encI (n : Int) : List D := [.int .i64 n]
def encLk (l : Lk) : List D := [iD l.a, iD l.b, iD l.c0, iD l.c1, iD l.cap, iD l.dl, iD l.gr]
abbrev intsD (l : List Int) : D := .list false 1 (l.map encI)
abbrev boolsD (l : List Bool) : D := .list false 1 (l.map encB)
abbrev linksD (l : List Lk) : D := .list false 7 (l.map encLk)
def topA (t : Top) : AV := .agg [.d (iD t.nodes), .d (boolsD t.ov), .d (linksD t.links)]
abbrev intsA (l : List Int) : AV := .c (.d (intsD l))
theorem map_get {α β : Type} {f : α → β} {l : List α} {i : Nat} {y : β} (h : (l.map f)[i]? = some y) : ∃ x, l[i]? = some x ∧ y = f x := by
 simp only [List.getElem?_map, Option.map_eq_some_iff] at h
 obtain ⟨x, h1, h2⟩ := h
 exact ⟨x, h1, h2.symm⟩
theorem map_get' {α β : Type} {f : α → β} {l : List α} {ll : List β} {i : Nat} {y : β} (hl : l.map f = ll) (h : ll[i]? = some y) : ∃ x, l[i]? = some x ∧ y = f x := by
 subst hl; exact map_get h
theorem get_at {α : Type} {l : List α} {i j : Nat} {x : α} (h : l[i]? = some x) (e : i = j) : l[j]? = some x := e ▸ h
theorem take_succ_get {α : Type} {l : List α} {k : Nat} {x : α} (h : l[k]? = some x) : l.take (k + 1) = l.take k ++ [x] := by
 rw [List.take_add_one, h]; rfl
theorem loop_up {m : Nat} {body : Lv → Hp → Post → Prop} {L : Lv} {h : Hp} {Q : Post} {σ : Type} (N : Nat) (S : σ → Lv) (H : σ → Hp) (Inv : Nat → σ → Prop) (s0 : σ) (wk : Wk m L h (S s0) (H s0)) (h0 : Inv 0 s0)
  (hle : ∀ k s, Inv k s → k ≤ N)
  (round : ∀ k s (Q' : Post), Inv k s → (∀ L' h' s', Inv (k + 1) s' → Wk m L' h' (S s') (H s') → Q' .normal L' h') → (∀ i L' h', Q (.exit i) L' h' → Q' (.exit i) L' h') → (∀ L' h', Q .ret L' h' → Q' .ret L' h') → body (S s) (H s) Q') :
  LoopI m body L h Q := by
 refine LoopI.mk (fun n L h => ∃ k s, Inv k s ∧ n = N - k ∧ L = S s ∧ h = H s) N (S s0) (H s0) wk ⟨0, s0, h0, rfl, rfl, rfl⟩ ?_
 rintro n L h ⟨k, s, hi, rfl, rfl, rfl⟩
 refine round k s _ hi (fun L' h' s' hi' hw => ?_) (fun i L' h' hq => ⟨L', h', .same rfl fun _ => .inr rfl, hq⟩) fun L' h' hq => hq
 have h1 := hle _ _ hi
 have h2 := hle _ _ hi'
 exact ⟨N - (k + 1), _, _, by omega, hw, k + 1, s', hi', rfl, rfl, rfl⟩
theorem loop_upx {m : Nat} {body : Lv → Hp → Post → Prop} {L : Lv} {h : Hp} {Q : Post} {σ τ : Type} (N : Nat) (S : σ → Lv) (H : σ → Hp) (Inv : Nat → σ → Prop) (s0 : σ) (i0 : Nat) (S' : τ → Lv) (H' : τ → Hp) (E : τ → Prop) (wk : Wk m L h (S s0) (H s0)) (h0 : Inv 0 s0)
  (hle : ∀ k s, Inv k s → k ≤ N)
  (round : ∀ k s (Q' : Post), Inv k s → (∀ L' h' s', Inv (k + 1) s' → Wk m L' h' (S s') (H s') → Q' .normal L' h') → (∀ L' h' s', E s' → Wk m L' h' (S' s') (H' s') → Q' (.exit i0) L' h') → (∀ i L' h', Q (.exit i) L' h' → Q' (.exit i) L' h') → (∀ L' h', Q .ret L' h' → Q' .ret L' h') → body (S s) (H s) Q')
  (rest : ∀ s, E s → Q (.exit i0) (S' s) (H' s)) :
  LoopI m body L h Q := by
 refine LoopI.mk (fun n L h => ∃ k s, Inv k s ∧ n = N - k ∧ L = S s ∧ h = H s) N (S s0) (H s0) wk ⟨0, s0, h0, rfl, rfl, rfl⟩ ?_
 rintro n L h ⟨k, s, hi, rfl, rfl, rfl⟩
 refine round k s _ hi (fun L' h' s' hi' hw => ?_) (fun L' h' s' he hw => ⟨_, _, hw, rest s' he⟩) (fun i L' h' hq => ⟨L', h', .same rfl fun _ => .inr rfl, hq⟩) fun L' h' hq => hq
 have h1 := hle _ _ hi
 have h2 := hle _ _ hi'
 exact ⟨N - (k + 1), _, _, by omega, hw, k + 1, s', hi', rfl, rfl, rfl⟩
theorem within_ok (P : Program) (hP : P = Try.prog) (n lo hi : Int) : Ret P n_ref09_within [iA n, iA lo, iA hi] (bA (decide (lo ≤ n ∧ n ≤ hi))) := by
 refine ret_start (hP ▸ mixed) (hP ▸ fn_ref09_within) (hP ▸ c_ref09_within) (Nat.le_of_ble_eq_true rfl) fun Λ Λo K hK => ?_
 clear hP
 conv => cbv
 repeat' first | exact gu | exact trivial | refine And.intro ?_ ?_ | (intro hc; exact absurd hc (by decide)) | (intro hc; exfalso; omega) | (intro hc; (first | rw [wrap_small (by omega) (by omega)] at hc | rw [nI_eq] at hc | skip); try (conv => cbv))
 all_goals (refine cast (congrArg (fun b => K (bA b)) ?_) hK; simp; omega)
end Go.Ab

/-
  Contracts, part b: topologies.
-/
namespace Go.Ab
open Go.Proofs
def okLk (n : Int) (l : Lk) : Bool :=
 decide (0 ≤ l.a ∧ l.a ≤ n - 1) && decide (0 ≤ l.b ∧ l.b ≤ n - 1) && !decide (l.a = l.b) && decide (1 ≤ l.c0 ∧ l.c0 ≤ 65535) && decide (1 ≤ l.c1 ∧ l.c1 ≤ 65535) &&
 decide (0 ≤ l.cap ∧ l.cap ≤ 1048576) && decide (1 ≤ l.dl ∧ l.dl ≤ 65536) && decide (0 ≤ l.gr ∧ l.gr ≤ 64)
def validT (t : Top) : Bool :=
 decide (1 ≤ t.nodes ∧ t.nodes ≤ 64) && (decide (t.ov.length = 0) || decide ((t.ov.length : Int) = t.nodes)) && decide (t.links.length ≤ 256) && t.links.all (okLk t.nodes)
theorem okLk_spec {n : Int} {l : Lk} : okLk n l = true ↔ (0 ≤ l.a ∧ l.a ≤ n - 1) ∧ (0 ≤ l.b ∧ l.b ≤ n - 1) ∧ l.a ≠ l.b ∧ (1 ≤ l.c0 ∧ l.c0 ≤ 65535) ∧ (1 ≤ l.c1 ∧ l.c1 ≤ 65535) ∧
  (0 ≤ l.cap ∧ l.cap ≤ 1048576) ∧ (1 ≤ l.dl ∧ l.dl ≤ 65536) ∧ (0 ≤ l.gr ∧ l.gr ≤ 64) := by
 simp only [okLk, Bool.and_eq_true, decide_eq_true_eq, Bool.not_eq_true', decide_eq_false_iff_not, and_assoc, ne_eq]
theorem validT_spec {t : Top} : validT t = true ↔ (1 ≤ t.nodes ∧ t.nodes ≤ 64) ∧ ((t.ov.length : Int) = 0 ∨ (t.ov.length : Int) = t.nodes) ∧ (t.links.length : Int) ≤ 256 ∧ ∀ l ∈ t.links, okLk t.nodes l = true := by
 simp only [validT, Bool.and_eq_true, Bool.or_eq_true, decide_eq_true_eq, List.all_eq_true, and_assoc]
 constructor
 ·rintro ⟨h1, h2, h3, h4, h5⟩; exact ⟨h1, h2, by omega, by omega, h5⟩
 ·rintro ⟨h1, h2, h3, h4, h5⟩; exact ⟨h1, h2, by omega, by omega, h5⟩
theorem valid_ok (P : Program) (hP : P = Try.prog) (t : Top) : Ret P n_ref09_Valid [topA t] (bA (validT t)) := by
 refine ret_start (hP ▸ mixed) (hP ▸ fn_ref09_Valid) (hP ▸ c_ref09_Valid) (Nat.le_of_ble_eq_true rfl) fun Λ Λo K hK => ?_
 have hw := within_ok P hP
 clear hP
 obtain ⟨nodes, ov, links⟩ := t
 simp only [topA, boolsD, linksD] at *
 generalize hol : ov.map encB = ol at *
 generalize hll : links.map encLk = ll at *
 have hlo : Λ ol = ov.length := by rw [Λo, ← hol]; simp
 have hls : Λ ll = links.length := by rw [Λo, ← hll]; simp
 have leaf : ∀ b, validT ⟨nodes, ov, links⟩ = b → K (bA b) := fun b hb => by rw [← hb]; exact hK
 have no : (validT ⟨nodes, ov, links⟩ = true → False) → K (bA false) := fun h => leaf _ (Bool.eq_false_iff.2 h)
 conv => cbv
 repeat' first | refine call_b (hw _ _ _) rfl rfl ?_ ?_ | exact gu | exact trivial | refine And.intro ?_ ?_ | (intro hc; exact absurd hc (by decide)) | (intro hc; exfalso; omega) | (intro hc; (first | rw [wrap_small (by omega) (by omega)] at hc | rw [nI_eq] at hc | skip); try (conv => cbv))
 all_goals try simp only [decide_eq_true_eq, decide_eq_false_iff_not] at *
 all_goals try (refine no fun h => ?_; obtain ⟨h1, h2, h3, h4⟩ := validT_spec.1 h; simp only at h1 h2 h3; omega)
 all_goals
  refine loop_up links.length (fun (i : Int) => [(1, .c (.ptr 0 0 0 0)), (3, iA i)]) (fun _ => [.bx [.d (.int .i64 nodes), .d (.list false 1 ol), .d (.list false 7 ll)]]) (fun k i => i = k ∧ k ≤ links.length ∧ ∀ l ∈ links.take k, okLk nodes l = true) 0 (Wk.cw) ⟨rfl, by omega, by simp⟩ (fun k s h => h.2.1) ?_
  rintro k i Q' ⟨hi, hk, hok⟩ norm ex rt
  conv => cbv
  repeat' first | (refine ex _ _ _ ?_; (conv => cbv)) | (refine rt _ _ ?_; (conv => cbv)) | refine call_b (hw _ _ _) rfl rfl ?_ ?_ | (intro e he; obtain ⟨⟨xa, xb, xc, xd, xe, xf, xg⟩, hx, rfl⟩ := map_get' hll he; (conv => cbv)) | exact gu | exact trivial | refine And.intro ?_ ?_ | (intro hc; exact absurd hc (by decide)) | (intro hc; exfalso; omega) | (intro hc; (first | rw [wrap_small (by omega) (by omega)] at hc | rw [nI_eq] at hc | skip); try (conv => cbv))
 all_goals try simp only [decide_eq_true_eq, decide_eq_false_iff_not] at *
 all_goals try (refine no fun h => ?_; obtain ⟨h1, h2, h3, h4⟩ := validT_spec.1 h; have h5 := okLk_spec.1 (h4 _ (List.mem_of_getElem? hx)); simp only at h5; omega)
 all_goals try (refine leaf _ (validT_spec.2 ⟨by assumption, by simp only; omega, by simp only; omega, fun l hl => hok l ?_⟩); rw [List.take_of_length_le (by omega)]; exact hl)
 all_goals
  refine norm _ _ _ ?_ (Wk.cw)
  refine ⟨by omega, by omega, ?_⟩
  rw [show i.toNat = k by omega] at hx
  rw [take_succ_get hx]
  intro l hl
  rcases List.mem_append.1 hl with hl | hl
  ·exact hok l hl
  ·simp only [List.mem_singleton] at hl
   subst hl
   exact okLk_spec.2 ⟨by simp only; omega, by simp only; omega, by simp only; omega, by simp only; omega, by simp only; omega, by simp only; omega, by simp only; omega, by simp only; omega⟩
def arcsT (t : Top) : Int := if validT t then 2 * t.links.length else 0
def lkAt (t : Top) (a : Int) : Lk := (t.links[(a / 2).toNat]?).getD default
def tailT (t : Top) (a : Int) : Int := if 0 ≤ a ∧ a < arcsT t then (if a % 2 = 0 then (lkAt t a).a else (lkAt t a).b) else -1
def headT (t : Top) (a : Int) : Int := if 0 ≤ a ∧ a < arcsT t then (if a % 2 = 0 then (lkAt t a).b else (lkAt t a).a) else -1
def costT (t : Top) (a : Int) : Int := if 0 ≤ a ∧ a < arcsT t then (if a % 2 = 0 then (lkAt t a).c0 else (lkAt t a).c1) else -1
theorem arcsT_le (t : Top) : arcsT t ≤ 2 * t.links.length ∧ arcsT t ≤ 512 ∧ 0 ≤ arcsT t := by
 rw [arcsT]; split
 ·rename_i h; have := (validT_spec.1 h).2.2.1; omega
 ·omega
theorem tdiv2 {x : Int} (h1 : 0 ≤ x) (h2 : x < 9223372036854775808) : IntKind.i64.wrap (x.tdiv 2) = x / 2 := by
 rw [Int.tdiv_eq_ediv_of_nonneg h1, wrap64]; omega
theorem tmod2 {x : Int} (h1 : 0 ≤ x) : x.tmod 2 = x % 2 := Int.tmod_eq_emod_of_nonneg h1
theorem arcs_ok (P : Program) (hP : P = Try.prog) (t : Top) : Ret P n_ref09_Arcs [topA t] (iA (arcsT t)) := by
 refine ret_start (hP ▸ mixed) (hP ▸ fn_ref09_Arcs) (hP ▸ c_ref09_Arcs) (Nat.le_of_ble_eq_true rfl) fun Λ Λo K hK => ?_
 have hw := valid_ok P hP t
 clear hP
 have leaf : ∀ b, arcsT t = b → K (iA b) := fun b hb => by rw [← hb]; exact hK
 have h256 : validT t = true → (t.links.length : Int) ≤ 256 := fun h => (validT_spec.1 h).2.2.1
 have ha : arcsT t = if validT t then 2 * (t.links.length : Int) else 0 := rfl
 generalize arcsT t = r at *
 generalize validT t = v at *
 cases v
 all_goals
  obtain ⟨nodes, ov, links⟩ := t
  simp only [topA, boolsD, linksD] at *
  generalize hol : ov.map encB = ol at *
  generalize hll : links.map encLk = ll at *
  have hlo : Λ ol = ov.length := by rw [Λo, ← hol]; simp
  have hls : Λ ll = links.length := by rw [Λo, ← hll]; simp
  simp only [Bool.false_eq_true, if_true, if_false, forall_const] at ha h256
  conv => cbv
  repeat' first | refine call_b hw rfl rfl ?_ ?_ | (intro hc; cases hc; done) | exact gu | exact trivial | refine And.intro ?_ ?_ | (intro hc; exact absurd hc (by decide)) | (intro hc; exfalso; omega) | (intro hc; (first | rw [wrap_small (by omega) (by omega)] at hc | rw [nI_eq] at hc | skip); try (conv => cbv))
 ·exact leaf _ ha
 ·exact leaf _ (by omega)
theorem tail_ok (P : Program) (hP : P = Try.prog) (t : Top) (a : Int) : Ret P n_ref09_Tail [topA t, iA a] (iA (tailT t a)) := by
 refine ret_start (hP ▸ mixed) (hP ▸ fn_ref09_Tail) (hP ▸ c_ref09_Tail) (Nat.le_of_ble_eq_true rfl) fun Λ Λo K hK => ?_
 have hw := arcs_ok P hP t
 clear hP
 have leaf : ∀ b, tailT t a = b → K (iA b) := fun b hb => by rw [← hb]; exact hK
 have hv2 := arcsT_le t
 have hta : tailT t a = if 0 ≤ a ∧ a < arcsT t then (if a % 2 = 0 then (lkAt t a).a else (lkAt t a).b) else -1 := rfl
 have hat : ∀ x, t.links[(a / 2).toNat]? = some x → lkAt t a = x := fun x hx => by simp [lkAt, hx]
 generalize arcsT t = v at *
 obtain ⟨nodes, ov, links⟩ := t
 simp only [topA, boolsD, linksD] at *
 generalize hol : ov.map encB = ol at *
 generalize hll : links.map encLk = ll at *
 have hlo : Λ ol = ov.length := by rw [Λo, ← hol]; simp
 have hls : Λ ll = links.length := by rw [Λo, ← hll]; simp
 conv => cbv
 repeat' first | refine call_i hw rfl rfl ?_ | (intro hc; rw [tdiv2 (by omega) (by omega)] at hc; conv => cbv) | (intro hc; rw [tmod2 (by omega)] at hc; conv => cbv) | (intro (_ : Unit); decide) | (intro e he; obtain ⟨⟨xa, xb, xc, xd, xe, xf, xg⟩, hx, rfl⟩ := map_get' hll he; (conv => cbv)) | exact gu | exact trivial | refine And.intro ?_ ?_ | (intro hc; exact absurd hc (by decide)) | (intro hc; exfalso; omega) | (intro hc; (first | rw [wrap_small (by omega) (by omega)] at hc | rw [nI_eq] at hc | skip); try (conv => cbv))
 ·exact leaf _ (by rw [hta, if_neg (by omega)])
 ·exact leaf _ (by rw [hta, if_neg (by omega)])
 all_goals
  refine leaf _ ?_
  rw [hta, if_pos (by omega), hat _ (get_at hx (by omega))]
 ·rw [if_pos (by omega)]
 ·rw [if_neg (by omega)]
theorem head_ok (P : Program) (hP : P = Try.prog) (t : Top) (a : Int) : Ret P n_ref09_Head [topA t, iA a] (iA (headT t a)) := by
 refine ret_start (hP ▸ mixed) (hP ▸ fn_ref09_Head) (hP ▸ c_ref09_Head) (Nat.le_of_ble_eq_true rfl) fun Λ Λo K hK => ?_
 have hw := arcs_ok P hP t
 have ht := tail_ok P hP t
 clear hP
 have leaf : ∀ b, headT t a = b → K (iA b) := fun b hb => by rw [← hb]; exact hK
 have hv2 := arcsT_le t
 have hta : headT t a = if 0 ≤ a ∧ a < arcsT t then (if a % 2 = 0 then (lkAt t a).b else (lkAt t a).a) else -1 := rfl
 have htt : ∀ c, tailT t c = if 0 ≤ c ∧ c < arcsT t then (if c % 2 = 0 then (lkAt t c).a else (lkAt t c).b) else -1 := fun _ => rfl
 have hlk : ∀ c, c / 2 = a / 2 → lkAt t c = lkAt t a := fun c hc => by rw [lkAt, lkAt, hc]
 have hev : arcsT t % 2 = 0 := by rw [arcsT]; split <;> omega
 generalize headT t a = r at *
 generalize hf : tailT t = f at *
 generalize arcsT t = v at *
 generalize lkAt t = lk at *
 obtain ⟨nodes, ov, links⟩ := t
 simp only [topA, boolsD, linksD] at *
 generalize hol : ov.map encB = ol at *
 generalize hll : links.map encLk = ll at *
 have hlo : Λ ol = ov.length := by rw [Λo, ← hol]; simp
 have hls : Λ ll = links.length := by rw [Λo, ← hll]; simp
 conv => cbv
 repeat' first | refine call_i hw rfl rfl ?_ | refine call_i (ht _) rfl rfl ?_ | (intro hc; rw [tdiv2 (by omega) (by omega)] at hc; conv => cbv) | (intro hc; rw [tmod2 (by omega)] at hc; conv => cbv) | (intro (_ : Unit); decide) | exact gu | exact trivial | refine And.intro ?_ ?_ | (intro hc; exact absurd hc (by decide)) | (intro hc; exfalso; omega) | (intro hc; (first | rw [wrap_small (by omega) (by omega)] at hc | rw [nI_eq] at hc | skip); try (conv => cbv))
 ·exact leaf _ (by rw [hta, if_neg (by omega)])
 ·exact leaf _ (by rw [hta, if_neg (by omega)])
 ·refine leaf _ ?_
  subst hc
  rename_i c
  rw [hta.trans (if_pos (by omega)), (htt c).trans (if_pos (by omega)), hlk c (by omega)]
  by_cases h0 : a % 2 = 0
  ·rw [if_pos h0, if_neg (by omega)]
  ·rw [if_neg h0, if_pos (by omega)]
end Go.Ab

/-
  Contracts, part c: lists.
-/
namespace Go.Ab
open Go.Proofs
theorem yes_of {K : AV → Prop} {p : Prop} [Decidable p] (hK : K (bA (decide p))) : p → K (bA true) := fun h => by rw [decide_eq_true h] at hK; exact hK
theorem no_of {K : AV → Prop} {p : Prop} [Decidable p] (hK : K (bA (decide p))) : ¬ p → K (bA false) := fun h => by rw [decide_eq_false h] at hK; exact hK
theorem mem_take_succ {α : Type} {l : List α} {k : Nat} {x y : α} (h : l[k]? = some x) : y ∈ l.take (k + 1) ↔ y ∈ l.take k ∨ y = x := by
 rw [take_succ_get h]; simp
theorem sameInts_ok (P : Program) (hP : P = Try.prog) (l m : List Int) : Ret P n_ref09_SameInts [intsA l, intsA m] (bA (decide (l = m))) := by
 refine ret_start (hP ▸ mixed) (hP ▸ fn_ref09_SameInts) (hP ▸ c_ref09_SameInts) (Nat.le_of_ble_eq_true rfl) fun Λ Λo K hK => ?_
 clear hP
 have yes := yes_of hK
 have no := no_of hK
 simp only [intsA, intsD] at *
 generalize llh : List.map encI l = ll at *
 have lln : Λ ll = l.length := by rw [Λo, ← llh]; simp
 generalize mlh : List.map encI m = ml at *
 have mln : Λ ml = m.length := by rw [Λo, ← mlh]; simp
 conv => cbv
 repeat' first | exact gu | exact trivial | refine And.intro ?_ ?_ | (intro hc; exact absurd hc (by decide)) | (intro hc; exfalso; omega) | (intro hc; (first | rw [wrap_small (by omega) (by omega)] at hc | rw [nI_eq] at hc | skip); try (conv => cbv))
 ·exact no fun h => by subst h; omega
 refine loop_up l.length (fun i : Int => [(0, .c (.d (.list false 1 ll))), (1, .c (.d (.list false 1 ml))), (5, iA i)]) (fun _ => []) (fun k i => i = k ∧ k ≤ l.length ∧ l.take k = m.take k) 0 (Wk.cw) ⟨rfl, by omega, by simp⟩ (fun k s h => h.2.1) ?_
 rintro k i Q' ⟨hi, hk, hno⟩ norm ex rt
 conv => cbv
 repeat' first | (refine ex _ _ _ ?_; (conv => cbv)) | (refine rt _ _ ?_; (conv => cbv)) | (intro e he; obtain ⟨x, hx, rfl⟩ := map_get' llh he; (conv => cbv)) | (intro e he; obtain ⟨y, hy, rfl⟩ := map_get' mlh he; (conv => cbv)) | exact gu | exact trivial | refine And.intro ?_ ?_ | (intro hc; exact absurd hc (by decide)) | (intro hc; exfalso; omega) | (intro hc; (first | rw [wrap_small (by omega) (by omega)] at hc | rw [nI_eq] at hc | skip); try (conv => cbv))
 ·refine no fun h => ?_
  subst h; rw [hx] at hy; cases hy; exact hc rfl
 ·refine norm _ _ _ ?_ (Wk.cw)
  exact ⟨by omega, by omega, by rw [take_succ_get (get_at hx (by omega)), take_succ_get (get_at hy (by omega)), hno, show x = y by omega]⟩
 ·exact yes (by rw [List.take_of_length_le (by omega), List.take_of_length_le (by omega)] at hno; exact hno)
theorem index_ok (P : Program) (hP : P = Try.prog) (l : List Int) (n : Int) : Ret P n_slices_Index_int_int [intsA l, iA n] (iA (if n ∈ l then (l.idxOf n : Int) else -1)) := by
 refine ret_start (hP ▸ mixed) (hP ▸ fn_slices_Index_int_int) (hP ▸ c_slices_Index_int_int) (Nat.le_of_ble_eq_true rfl) fun Λ Λo K hK => ?_
 clear hP
 have leaf : ∀ b : Int, (if n ∈ l then (l.idxOf n : Int) else -1) = b → K (iA b) := fun b hb => by rw [← hb]; exact hK
 simp only [intsA, intsD] at *
 generalize llh : List.map encI l = ll at *
 have lln : Λ ll = l.length := by rw [Λo, ← llh]; simp
 conv => cbv
 intro hmax
 conv => cbv
 refine loop_up l.length (fun i : Int => [(0, .c (.d (.list false 1 ll))), (1, iA n), (7, iA (Λ ll)), (8, iA i)]) (fun _ => []) (fun k i => i = k ∧ k ≤ l.length ∧ n ∉ l.take k) 0 (Wk.cw) ⟨rfl, by omega, by simp⟩ (fun k s h => h.2.1) ?_
 rintro k i Q' ⟨hi, hk, hno⟩ norm ex rt
 conv => cbv
 repeat' first | (refine ex _ _ _ ?_; (conv => cbv)) | (refine rt _ _ ?_; (conv => cbv)) | (intro e he; obtain ⟨x, hx, rfl⟩ := map_get' llh he; (conv => cbv)) | exact gu | exact trivial | refine And.intro ?_ ?_ | (intro hc; exact absurd hc (by decide)) | (intro hc; exfalso; omega) | (intro hc; (first | rw [wrap_small (by omega) (by omega)] at hc | rw [nI_eq] at hc | skip); try (conv => cbv))
 ·refine leaf _ ?_
  subst hc
  have hx := get_at hx (show i.toNat = k by omega)
  rw [if_pos (List.mem_of_getElem? hx), hi]
  congr 1
  have e : l = l.take k ++ n :: l.drop (k + 1) := by
   conv => lhs; rw [← List.take_append_drop k l]
   congr 1
   rw [List.drop_eq_getElem_cons (by have := get_lt hx; exact this)]
   congr 1
   rw [List.getElem?_eq_getElem (get_lt hx)] at hx
   exact Option.some.inj hx
  rw [e, List.idxOf_append, if_neg hno, List.idxOf_cons_self]
  simp; omega
 ·refine norm _ _ _ ?_ (Wk.cw)
  exact ⟨by omega, by omega, by rw [mem_take_succ (get_at hx (by omega))]; intro h; rcases h with h | h; exact hno h; omega⟩
 ·exact leaf _ (if_neg (by rw [List.take_of_length_le (by omega)] at hno; exact hno))
theorem contains_ok (P : Program) (hP : P = Try.prog) (l : List Int) (n : Int) : Ret P n_slices_Contains_int_int [intsA l, iA n] (bA (decide (n ∈ l))) := by
 refine ret_start (hP ▸ mixed) (hP ▸ fn_slices_Contains_int_int) (hP ▸ c_slices_Contains_int_int) (Nat.le_of_ble_eq_true rfl) fun Λ Λo K hK => ?_
 have hw := index_ok P hP l n
 clear hP
 have yes := yes_of hK
 have no := no_of hK
 have hi : (0 : Int) ≤ (if n ∈ l then (l.idxOf n : Int) else -1) ↔ n ∈ l := by split <;> simp_all <;> omega
 generalize (if n ∈ l then (l.idxOf n : Int) else -1) = r at *
 simp only [intsA, intsD] at *
 generalize llh : List.map encI l = ll at *
 have lln : Λ ll = l.length := by rw [Λo, ← llh]; simp
 conv => cbv
 repeat' first | refine call_i hw rfl rfl ?_ | exact gu | exact trivial | refine And.intro ?_ ?_ | (intro hc; exact absurd hc (by decide)) | (intro hc; exfalso; omega) | (intro hc; (first | rw [wrap_small (by omega) (by omega)] at hc | rw [nI_eq] at hc | skip); try (conv => cbv))
 ·exact yes (hi.1 (by omega))
 ·exact no fun h => by have := hi.2 h; omega
end Go.Ab

/-
  Contracts, part d: arcs, segments, the program's validity of topologies.
-/
namespace Go.Ab
open Go.Proofs
theorem twithin_ok (P : Program) (hP : P = Try.prog) (n lo hi : Int) : Ret P n_topology_within [iA n, iA lo, iA hi] (bA (decide (lo ≤ n ∧ n ≤ hi))) := by
 refine ret_start (hP ▸ mixed) (hP ▸ fn_topology_within) (hP ▸ c_topology_within) (Nat.le_of_ble_eq_true rfl) fun Λ Λo K hK => ?_
 clear hP
 have yes := yes_of hK
 have no := no_of hK
 conv => cbv
 repeat' first | exact gu | exact trivial | refine And.intro ?_ ?_ | (intro hc; exact absurd hc (by decide)) | (intro hc; exfalso; omega) | (intro hc; (first | rw [wrap_small (by omega) (by omega)] at hc | rw [nI_eq] at hc | skip); try (conv => cbv))
 ·exact yes (by omega)
 ·exact no (by omega)
 ·exact no (by omega)
theorem gnode_ok (P : Program) (hP : P = Try.prog) (t : Top) (n : Int) : Ret P n_graph_Node [topA t, iA n] (bA (decide (0 ≤ n ∧ n < t.nodes))) := by
 refine ret_start (hP ▸ mixed) (hP ▸ fn_graph_Node) (hP ▸ c_graph_Node) (Nat.le_of_ble_eq_true rfl) fun Λ Λo K hK => ?_
 clear hP
 have yes := yes_of hK
 have no := no_of hK
 obtain ⟨nodes, ov, links⟩ := t
 simp only [topA, boolsD, linksD] at *
 generalize hol : ov.map encB = ol at *
 generalize hll : links.map encLk = ll at *
 have hlo : Λ ol = ov.length := by rw [Λo, ← hol]; simp
 have hls : Λ ll = links.length := by rw [Λo, ← hll]; simp
 conv => cbv
 repeat' first | exact gu | exact trivial | refine And.intro ?_ ?_ | (intro hc; exact absurd hc (by decide)) | (intro hc; exfalso; omega) | (intro hc; (first | rw [wrap_small (by omega) (by omega)] at hc | rw [nI_eq] at hc | skip); try (conv => cbv))
 ·exact yes (by omega)
 ·exact no (by omega)
 ·exact no (by omega)
theorem tvalid_ok (P : Program) (hP : P = Try.prog) (t : Top) : Ret P n_topology_Valid [topA t] (bA (validT t)) := by
 refine ret_start (hP ▸ mixed) (hP ▸ fn_topology_Valid) (hP ▸ c_topology_Valid) (Nat.le_of_ble_eq_true rfl) fun Λ Λo K hK => ?_
 have hw := twithin_ok P hP
 have hn := gnode_ok P hP t
 clear hP
 have leaf : ∀ b, validT t = b → K (bA b) := fun b hb => by rw [← hb]; exact hK
 have no : (validT t = true → False) → K (bA false) := fun h => leaf _ (Bool.eq_false_iff.2 h)
 obtain ⟨nodes, ov, links⟩ := t
 simp only [topA, boolsD, linksD] at *
 generalize hol : ov.map encB = ol at *
 generalize hll : links.map encLk = ll at *
 have hlo : Λ ol = ov.length := by rw [Λo, ← hol]; simp
 have hls : Λ ll = links.length := by rw [Λo, ← hll]; simp
 conv => cbv
 repeat' first | refine call_b (hw _ _ _) rfl rfl ?_ ?_ | exact gu | exact trivial | refine And.intro ?_ ?_ | (intro hc; exact absurd hc (by decide)) | (intro hc; exfalso; omega) | (intro hc; (first | rw [wrap_small (by omega) (by omega)] at hc | rw [nI_eq] at hc | skip); try (conv => cbv))
 all_goals try simp only [decide_eq_true_eq, decide_eq_false_iff_not] at *
 all_goals try (refine no fun h => ?_; obtain ⟨h1, h2, h3, h4⟩ := validT_spec.1 h; simp only at h1 h2 h3; omega)
 all_goals
  refine loop_up links.length (fun (i : Int) => [(1, .c (.ptr 0 0 0 0)), (29, iA (Λ ll)), (30, iA i)]) (fun _ => [.bx [.d (.int .i64 nodes), .d (.list false 1 ol), .d (.list false 7 ll)]]) (fun k i => i = k ∧ k ≤ links.length ∧ ∀ l ∈ links.take k, okLk nodes l = true) 0 (Wk.cw) ⟨rfl, by omega, by simp⟩ (fun k s h => h.2.1) ?_
  rintro k i Q' ⟨hi, hk, hok⟩ norm ex rt
  conv => cbv
  repeat' first | (refine ex _ _ _ ?_; (conv => cbv)) | (refine rt _ _ ?_; (conv => cbv)) | refine call_b (hw _ _ _) rfl rfl ?_ ?_ | refine call_b (hn _) rfl rfl ?_ ?_ | (intro e he; obtain ⟨⟨xa, xb, xc, xd, xe, xf, xg⟩, hx, rfl⟩ := map_get' hll he; (conv => cbv)) | exact gu | exact trivial | refine And.intro ?_ ?_ | (intro hc; exact absurd hc (by decide)) | (intro hc; exfalso; omega) | (intro hc; (first | rw [wrap_small (by omega) (by omega)] at hc | rw [nI_eq] at hc | skip); try (conv => cbv))
 all_goals try simp only [decide_eq_true_eq, decide_eq_false_iff_not] at *
 all_goals try (refine no fun h => ?_; obtain ⟨h1, h2, h3, h4⟩ := validT_spec.1 h; have h5 := okLk_spec.1 (h4 _ (List.mem_of_getElem? hx)); simp only at h5; omega)
 all_goals try (refine leaf _ (validT_spec.2 ⟨by simp only; omega, by simp only; omega, by simp only; omega, fun l hl => hok l ?_⟩); rw [List.take_of_length_le (by omega)]; exact hl)
 all_goals
  refine norm _ _ _ ?_ (Wk.cw)
  refine ⟨by omega, by omega, ?_⟩
  rw [show i.toNat = k by omega] at hx
  rw [take_succ_get hx]
  intro l hl
  rcases List.mem_append.1 hl with hl | hl
  ·exact hok l hl
  ·simp only [List.mem_singleton] at hl
   subst hl
   exact okLk_spec.2 ⟨by simp only; omega, by simp only; omega, by simp only; omega, by simp only; omega, by simp only; omega, by simp only; omega, by simp only; omega, by simp only; omega⟩
theorem garcs_ok (P : Program) (hP : P = Try.prog) (t : Top) (h : (t.links.length : Int) ≤ 256) : Ret P n_graph_Arcs [topA t] (iA (2 * t.links.length)) := by
 refine ret_start (hP ▸ mixed) (hP ▸ fn_graph_Arcs) (hP ▸ c_graph_Arcs) (Nat.le_of_ble_eq_true rfl) fun Λ Λo K hK => ?_
 clear hP
 obtain ⟨nodes, ov, links⟩ := t
 simp only [topA, boolsD, linksD] at *
 generalize hol : ov.map encB = ol at *
 generalize hll : links.map encLk = ll at *
 have hlo : Λ ol = ov.length := by rw [Λo, ← hol]; simp
 have hls : Λ ll = links.length := by rw [Λo, ← hll]; simp
 conv => cbv
 repeat' first | exact gu | exact trivial | refine And.intro ?_ ?_ | (intro hc; exact absurd hc (by decide)) | (intro hc; exfalso; omega) | (intro hc; (first | rw [wrap_small (by omega) (by omega)] at hc | rw [nI_eq] at hc | skip); try (conv => cbv))
 rename_i c
 rw [show c = 2 * (links.length : Int) by omega]
 exact hK
def tailG (t : Top) (a : Int) : Int := if a % 2 = 0 then (lkAt t a).a else (lkAt t a).b
def headG (t : Top) (a : Int) : Int := if a % 2 = 0 then (lkAt t a).b else (lkAt t a).a
theorem gtail_ok (P : Program) (hP : P = Try.prog) (t : Top) (a : Int) (h0 : 0 ≤ a) (h1 : a < 2 * t.links.length) (h2 : (t.links.length : Int) ≤ 256) : Ret P n_graph_Tail [topA t, iA a] (iA (tailG t a)) := by
 refine ret_start (hP ▸ mixed) (hP ▸ fn_graph_Tail) (hP ▸ c_graph_Tail) (Nat.le_of_ble_eq_true rfl) fun Λ Λo K hK => ?_
 clear hP
 have leaf : ∀ b, tailG t a = b → K (iA b) := fun b hb => by rw [← hb]; exact hK
 have hta : tailG t a = if a % 2 = 0 then (lkAt t a).a else (lkAt t a).b := rfl
 have hat : ∀ x, t.links[(a / 2).toNat]? = some x → lkAt t a = x := fun x hx => by simp [lkAt, hx]
 obtain ⟨nodes, ov, links⟩ := t
 simp only [topA, boolsD, linksD] at *
 generalize hol : ov.map encB = ol at *
 generalize hll : links.map encLk = ll at *
 have hlo : Λ ol = ov.length := by rw [Λo, ← hol]; simp
 have hls : Λ ll = links.length := by rw [Λo, ← hll]; simp
 conv => cbv
 repeat' first | (intro hc; rw [tdiv2 (by omega) (by omega)] at hc; conv => cbv) | (intro hc; rw [tmod2 (by omega)] at hc; conv => cbv) | (intro (_ : Unit); decide) | (intro e he; obtain ⟨⟨xa, xb, xc, xd, xe, xf, xg⟩, hx, rfl⟩ := map_get' hll he; (conv => cbv)) | exact gu | exact trivial | refine And.intro ?_ ?_ | (intro hc; exact absurd hc (by decide)) | (intro hc; exfalso; omega) | (intro hc; (first | rw [wrap_small (by omega) (by omega)] at hc | rw [nI_eq] at hc | skip); try (conv => cbv))
 ·exact leaf _ (by rw [hta, if_pos (by omega), hat _ (get_at hx (by omega))])
 ·exact leaf _ (by rw [hta, if_neg (by omega), hat _ (get_at hx (by omega))])
end Go.Ab

/-
  Areas: which lists are valid.
-/
namespace Go.Ab
open Go.Proofs
def validK (t : Top) (A : List Int) : Bool := decide (validT t = true ∧ A.length = t.links.length ∧ ∀ a ∈ A, 0 ≤ a ∧ a ≤ 64)
theorem encI_get {A : List Int} {k : Nat} {a : Int} (h : A[k]? = some a) : (A.map encI)[k]? = some [iD a] := by
 rw [List.getElem?_map, h]; rfl
theorem kvalid_ok (P : Program) (hP : P = Try.prog) (t : Top) (A : List Int) : Ret P n_area_Valid [topA t, intsA A] (bA (validK t A)) := by
 refine ret_start (hP ▸ mixed) (hP ▸ fn_area_Valid) (hP ▸ c_area_Valid) (Nat.le_of_ble_eq_true rfl) fun Λ Λo K hK => ?_
 have hval := tvalid_ok P hP t
 clear hP
 have k1 : ¬ (validT t = true ∧ A.length = t.links.length ∧ ∀ a ∈ A, 0 ≤ a ∧ a ≤ 64) → K (bA false) := fun h => by rw [validK, decide_eq_false h] at hK; exact hK
 have k2 : (validT t = true ∧ A.length = t.links.length ∧ ∀ a ∈ A, 0 ≤ a ∧ a ≤ 64) → K (bA true) := fun h => by rw [validK, decide_eq_true h] at hK; exact hK
 clear hK
 obtain ⟨vt, hvt⟩ : ∃ b, b = validT t := ⟨_, rfl⟩
 rw [← hvt] at hval k1 k2
 have hat := fun k a h => encI_get (A := A) (k := k) (a := a) h
 obtain ⟨al, hal⟩ : ∃ x, x = A.map encI := ⟨_, rfl⟩
 have lal : Λ al = A.length := by rw [Λo, hal]; simp
 simp only [intsA, intsD, ← hal] at hat ⊢
 clear hal hvt
 obtain ⟨nodes, ov, links⟩ := t
 simp only [topA, boolsD, linksD] at *
 generalize hol : ov.map encB = ol at *
 generalize hll : links.map encLk = ll at *
 have hlo : Λ ol = ov.length := by rw [Λo, ← hol]; simp
 have hls : Λ ll = links.length := by rw [Λo, ← hll]; simp
 conv => cbv
 repeat' first | refine call_b hval rfl rfl ?_ ?_ | exact gu | exact trivial | refine And.intro ?_ ?_ | (intro hc; exact absurd hc (by decide)) | (intro hc; exfalso; omega) | (intro hc; (first | rw [wrap_small (by omega) (by omega)] at hc | rw [nI_eq] at hc | skip); try (conv => cbv))
 all_goals first | exact k1 (by rintro ⟨h1, h2, _⟩; first | omega | simp_all) | skip
 refine loop_up A.length (fun (i : Int) => [(1, .c (.d (.list false 1 al))), (2, .c (.ptr 0 0 0 0)), (18, .c (.d (.list false 1 al))), (19, iA (Λ al)), (20, iA i)]) (fun _ => [.bx [.d (iD nodes), .d (.list false 1 ol), .d (.list false 7 ll)]])
  (fun k i => i = k ∧ k ≤ A.length ∧ ∀ a ∈ A.take k, 0 ≤ a ∧ a ≤ 64) 0 (Wk.ch) ⟨rfl, by omega, fun a h => by simp at h⟩ (fun k s h => h.2.1) ?_
 rintro k i Q' ⟨hi, hk, hd⟩ norm ex rt
 by_cases hlt : k < A.length
 ·obtain ⟨a, ha⟩ : ∃ a, A[k]? = some a := ⟨_, List.getElem?_eq_getElem hlt⟩
  have hx : al[i.toNat]? = some [iD a] := by rw [hi, Int.toNat_natCast]; exact hat k a ha
  have k1' : ¬ (0 ≤ a ∧ a ≤ 64) → K (bA false) := fun h => k1 fun ⟨_, _, h'⟩ => h (h' a (List.mem_of_getElem? ha))
  have hd' : (0 ≤ a ∧ a ≤ 64) → ∀ x ∈ A.take (k + 1), 0 ≤ x ∧ x ≤ 64 := fun h x hx => by
   rcases (mem_take_succ ha).1 hx with h1 | h1
   ·exact hd x h1
   ·rw [h1]; exact h
  clear k1 k2 hd hat
  conv => cbv
  repeat' first | (refine ex _ _ _ ?_; (conv => cbv)) | (refine rt _ _ ?_; (conv => cbv)) | (intro (e : List D) he; cases Option.some.inj (he.symm.trans hx); (conv => cbv)) | exact gu | exact trivial | refine And.intro ?_ ?_ | (intro hc; exact absurd hc (by decide)) | (intro hc; exfalso; omega) | (intro hc; (first | rw [wrap_small (by omega) (by omega)] at hc | rw [nI_eq] at hc | skip); try (conv => cbv))
  all_goals first
   | exact k1' (by omega)
   | (rename_i i'; exact norm _ _ i' ⟨by omega, by omega, hd' (by omega)⟩ (Wk.ch))
 conv => cbv
 repeat' first | (refine ex _ _ _ ?_; (conv => cbv)) | (refine rt _ _ ?_; (conv => cbv)) | exact gu | exact trivial | refine And.intro ?_ ?_ | (intro hc; exact absurd hc (by decide)) | (intro hc; exfalso; omega) | (intro hc; (first | rw [wrap_small (by omega) (by omega)] at hc | rw [nI_eq] at hc | skip); try (conv => cbv))
 exact k2 ⟨by assumption, by omega, by rw [List.take_of_length_le (by omega)] at hd; exact hd⟩
theorem rkvalid_ok (P : Program) (hP : P = Try.prog) (t : Top) (A : List Int) : Ret P n_ref17_Valid [topA t, intsA A] (bA (validK t A)) := by
 refine ret_start (hP ▸ mixed) (hP ▸ fn_ref17_Valid) (hP ▸ c_ref17_Valid) (Nat.le_of_ble_eq_true rfl) fun Λ Λo K hK => ?_
 have hval := valid_ok P hP t
 clear hP
 have k1 : ¬ (validT t = true ∧ A.length = t.links.length ∧ ∀ a ∈ A, 0 ≤ a ∧ a ≤ 64) → K (bA false) := fun h => by rw [validK, decide_eq_false h] at hK; exact hK
 have k2 : (validT t = true ∧ A.length = t.links.length ∧ ∀ a ∈ A, 0 ≤ a ∧ a ≤ 64) → K (bA true) := fun h => by rw [validK, decide_eq_true h] at hK; exact hK
 clear hK
 obtain ⟨vt, hvt⟩ : ∃ b, b = validT t := ⟨_, rfl⟩
 rw [← hvt] at hval k1 k2
 have hat := fun k a h => encI_get (A := A) (k := k) (a := a) h
 obtain ⟨al, hal⟩ : ∃ x, x = A.map encI := ⟨_, rfl⟩
 have lal : Λ al = A.length := by rw [Λo, hal]; simp
 simp only [intsA, intsD, ← hal] at hat ⊢
 clear hal hvt
 obtain ⟨nodes, ov, links⟩ := t
 simp only [topA, boolsD, linksD] at *
 generalize hol : ov.map encB = ol at *
 generalize hll : links.map encLk = ll at *
 have hlo : Λ ol = ov.length := by rw [Λo, ← hol]; simp
 have hls : Λ ll = links.length := by rw [Λo, ← hll]; simp
 conv => cbv
 repeat' first | refine call_b hval rfl rfl ?_ ?_ | exact gu | exact trivial | refine And.intro ?_ ?_ | (intro hc; exact absurd hc (by decide)) | (intro hc; exfalso; omega) | (intro hc; (first | rw [wrap_small (by omega) (by omega)] at hc | rw [nI_eq] at hc | skip); try (conv => cbv))
 all_goals first | exact k1 (by rintro ⟨h1, h2, _⟩; first | omega | simp_all) | skip
 refine loop_up A.length (fun (i : Int) => [(1, .c (.d (.list false 1 al))), (2, .c (.ptr 0 0 0 0)), (5, iA i)]) (fun _ => [.bx [.d (iD nodes), .d (.list false 1 ol), .d (.list false 7 ll)]])
  (fun k i => i = k ∧ k ≤ A.length ∧ ∀ a ∈ A.take k, 0 ≤ a ∧ a ≤ 64) 0 (Wk.ch) ⟨rfl, by omega, fun a h => by simp at h⟩ (fun k s h => h.2.1) ?_
 rintro k i Q' ⟨hi, hk, hd⟩ norm ex rt
 by_cases hlt : k < A.length
 ·obtain ⟨a, ha⟩ : ∃ a, A[k]? = some a := ⟨_, List.getElem?_eq_getElem hlt⟩
  have hx : al[i.toNat]? = some [iD a] := by rw [hi, Int.toNat_natCast]; exact hat k a ha
  have k1' : ¬ (0 ≤ a ∧ a ≤ 64) → K (bA false) := fun h => k1 fun ⟨_, _, h'⟩ => h (h' a (List.mem_of_getElem? ha))
  have hd' : (0 ≤ a ∧ a ≤ 64) → ∀ x ∈ A.take (k + 1), 0 ≤ x ∧ x ≤ 64 := fun h x hx => by
   rcases (mem_take_succ ha).1 hx with h1 | h1
   ·exact hd x h1
   ·rw [h1]; exact h
  clear k1 k2 hd hat
  conv => cbv
  repeat' first | (refine ex _ _ _ ?_; (conv => cbv)) | (refine rt _ _ ?_; (conv => cbv)) | (intro (e : List D) he; cases Option.some.inj (he.symm.trans hx); (conv => cbv)) | exact gu | exact trivial | refine And.intro ?_ ?_ | (intro hc; exact absurd hc (by decide)) | (intro hc; exfalso; omega) | (intro hc; (first | rw [wrap_small (by omega) (by omega)] at hc | rw [nI_eq] at hc | skip); try (conv => cbv))
  all_goals first
   | exact k1' (by omega)
   | (rename_i i'; exact norm _ _ i' ⟨by omega, by omega, hd' (by omega)⟩ (Wk.ch))
 conv => cbv
 repeat' first | (refine ex _ _ _ ?_; (conv => cbv)) | (refine rt _ _ ?_; (conv => cbv)) | exact gu | exact trivial | refine And.intro ?_ ?_ | (intro hc; exact absurd hc (by decide)) | (intro hc; exfalso; omega) | (intro hc; (first | rw [wrap_small (by omega) (by omega)] at hc | rw [nI_eq] at hc | skip); try (conv => cbv))
 exact k2 ⟨by assumption, by omega, by rw [List.take_of_length_le (by omega)] at hd; exact hd⟩
def touch (l : Lk) (n : Int) : Bool := decide (l.a = n) || decide (l.b = n)
def isK (t : Top) (A : List Int) (n k : Int) : Bool := (A.zip t.links).any fun p => decide (p.1 = k) && touch p.2 n
theorem isK_spec {t : Top} {A : List Int} {n k : Int} : isK t A n k = true ↔ ∃ (i : Nat) (l : Lk), A[i]? = some k ∧ t.links[i]? = some l ∧ touch l n = true := by
 rw [isK, List.any_eq_true]
 constructor
 ·rintro ⟨⟨a, l⟩, hp, h⟩
  obtain ⟨i, hi⟩ := List.mem_iff_getElem?.1 hp
  rw [List.getElem?_zip_eq_some] at hi
  simp only [Bool.and_eq_true, decide_eq_true_eq] at h
  exact ⟨i, l, by rw [hi.1, h.1], hi.2, h.2⟩
 ·rintro ⟨i, l, h1, h2, h3⟩
  exact ⟨(k, l), List.mem_iff_getElem?.2 ⟨i, List.getElem?_zip_eq_some.2 ⟨h1, h2⟩⟩, by simp [h3]⟩
theorem zip_take_succ {t : Top} {A : List Int} {i : Nat} {a n k : Int} {l : Lk} (ha : A[i]? = some a) (hl : t.links[i]? = some l) :
  (((A.zip t.links).take (i + 1)).any fun p => decide (p.1 = k) && touch p.2 n) = ((((A.zip t.links).take i).any fun p => decide (p.1 = k) && touch p.2 n) || (decide (a = k) && touch l n)) := by
 rw [take_succ_get (x := (a, l)) (List.getElem?_zip_eq_some.2 ⟨ha, hl⟩), List.any_append]
 simp
set_option maxHeartbeats 1000000 in
theorem is_ok (P : Program) (hP : P = Try.prog) (t : Top) (A : List Int) (n k : Int) (hl : A.length = t.links.length) : Ret P n_ref17_is [topA t, intsA A, iA n, iA k] (bA (isK t A n k)) := by
 refine ret_start (hP ▸ mixed) (hP ▸ fn_ref17_is) (hP ▸ c_ref17_is) (Nat.le_of_ble_eq_true rfl) fun Λ Λo K hK => ?_
 clear hP
 have hz : isK t A n k = (((A.zip t.links).take A.length).any fun p => decide (p.1 = k) && touch p.2 n) := by
  rw [List.take_of_length_le (by rw [List.length_zip]; omega)]; rfl
 have yes : isK t A n k = true → K (bA true) := fun h => by rw [h] at hK; exact hK
 have no : isK t A n k = false → K (bA false) := fun h => by rw [h] at hK; exact hK
 have hmem : ∀ i l, A[i]? = some k → t.links[i]? = some l → touch l n = true → isK t A n k = true := fun i l h1 h2 h3 => isK_spec.2 ⟨i, l, h1, h2, h3⟩
 have hstep := fun i a l (ha : A[i]? = some a) (hl : t.links[i]? = some l) => zip_take_succ (n := n) (k := k) ha hl
 generalize isK t A n k = r at *
 obtain ⟨f, hf⟩ : ∃ f : Nat → Bool, ∀ i, (((A.zip t.links).take i).any fun p => decide (p.1 = k) && touch p.2 n) = f i := ⟨_, fun _ => rfl⟩
 have f0 : f 0 = false := by rw [← hf]; rfl
 simp only [hf] at hz hstep
 clear hf hK
 have hat := fun k a h => encI_get (A := A) (k := k) (a := a) h
 have hlk := fun i l (h : t.links[i]? = some l) => (by rw [List.getElem?_map, h]; rfl : (t.links.map encLk)[i]? = some (encLk l))
 obtain ⟨al, hal⟩ : ∃ x, x = A.map encI := ⟨_, rfl⟩
 have lal : Λ al = A.length := by rw [Λo, hal]; simp
 simp only [intsA, intsD, ← hal] at hat ⊢
 clear hal
 obtain ⟨nodes, ov, links⟩ := t
 simp only [topA, boolsD, linksD] at *
 generalize hol : ov.map encB = ol at *
 generalize hll : links.map encLk = ll at *
 have hlo : Λ ol = ov.length := by rw [Λo, ← hol]; simp
 have hls : Λ ll = links.length := by rw [Λo, ← hll]; simp
 conv => cbv
 repeat' first | exact gu | exact trivial | refine And.intro ?_ ?_ | (intro hc; exact absurd hc (by decide)) | (intro hc; exfalso; omega) | (intro hc; (first | rw [wrap_small (by omega) (by omega)] at hc | rw [nI_eq] at hc | skip); try (conv => cbv))
 refine loop_up A.length (fun (i : Int) => [(1, .c (.d (.list false 1 al))), (2, iA n), (3, iA k), (4, .c (.ptr 0 0 0 0)), (9, iA i)]) (fun _ => [.bx [.d (iD nodes), .d (.list false 1 ol), .d (.list false 7 ll)]])
  (fun j i => i = j ∧ j ≤ A.length ∧ f j = false) 0 (Wk.ch) ⟨rfl, by omega, f0⟩ (fun k s h => h.2.1) ?_
 rintro j i Q' ⟨hi, hj, hd⟩ norm ex rt
 by_cases hlt : j < A.length
 ·obtain ⟨a, ha⟩ : ∃ a, A[j]? = some a := ⟨_, List.getElem?_eq_getElem hlt⟩
  obtain ⟨l, hl2⟩ : ∃ l, links[j]? = some l := ⟨_, List.getElem?_eq_getElem (by omega)⟩
  have hx : al[i.toNat]? = some [iD a] := by rw [hi, Int.toNat_natCast]; exact hat j a ha
  have hy : ll[i.toNat]? = some (encLk l) := by rw [hi, Int.toNat_natCast]; exact hlk j l hl2
  have hs := hstep j a l ha hl2
  rw [hd, Bool.false_or] at hs
  have hm := fun (e : a = k) (h : touch l n = true) => yes (hmem j l (by rw [ha, e]) hl2 h)
  obtain ⟨la, lb, _, _, _, _, _⟩ := l
  simp only [touch, Bool.or_eq_true, decide_eq_true_eq] at hm
  have hs' : ¬ (a = k ∧ (la = n ∨ lb = n)) → f (j + 1) = false := fun h => by
   rw [hs]
   simp only [touch]
   rw [← Bool.not_eq_true]
   simpa [Bool.and_eq_true, Bool.or_eq_true] using h
  clear hs hd hstep hmem hat hlk hl2 ha yes no
  simp only [encLk] at hy
  conv => cbv
  repeat' first | (refine ex _ _ _ ?_; (conv => cbv)) | (refine rt _ _ ?_; (conv => cbv)) | (intro (e : List D) he; cases Option.some.inj (he.symm.trans hx); (conv => cbv)) | (intro (e : List D) he; cases Option.some.inj (he.symm.trans hy); (conv => cbv)) | exact gu | exact trivial | refine And.intro ?_ ?_ | (intro hc; exact absurd hc (by decide)) | (intro hc; exfalso; omega) | (intro hc; (first | rw [wrap_small (by omega) (by omega)] at hc | rw [nI_eq] at hc | skip); try (conv => cbv))
  all_goals first
   | exact hm (by omega) (by omega)
   | (rename_i i'; exact norm _ _ i' ⟨by omega, by omega, hs' (by omega)⟩ (Wk.ch))
 conv => cbv
 repeat' first | (refine ex _ _ _ ?_; (conv => cbv)) | (refine rt _ _ ?_; (conv => cbv)) | exact gu | exact trivial | refine And.intro ?_ ?_ | (intro hc; exact absurd hc (by decide)) | (intro hc; exfalso; omega) | (intro hc; (first | rw [wrap_small (by omega) (by omega)] at hc | rw [nI_eq] at hc | skip); try (conv => cbv))
 exact no (by rw [hz, show A.length = j by omega]; exact hd)
end Go.Ab

/-
  The engine: a contract over a few blocks, used where these blocks are some of many.
-/
namespace Go.Ab
section
variable {G : Nat → Prop} {w : World} {ιc ι : Io} {hc h : Hp} {ρ : Nat → Nat}
theorem Kept.rn {ι' ιc' : Io} {w' : World} {i l : Nat} {k k' : Blk} (hk : Kept ιc ιc' w w' i k k') (h1 : ι[l]? = ιc[i]?) (h2 : ι'[l]? = ιc'[i]?) : Kept ι ι' w w' l (rnB ρ k) (rnB ρ k') := by
 cases k' with
 | dead => cases k <;> trivial
 | am m' =>
  cases k with
  | am m => trivial
  | _ => simp [Kept] at hk
 | bx cs' =>
  cases k with
  | bx cs => exact ⟨by rw [rnCs_len, rnCs_len]; exact hk.1, by rw [h1, h2]; exact hk.2⟩
  | _ => simp [Kept] at hk
 | da r' v' sz' es' =>
  cases k with
  | da r v sz es =>
   rcases hk with hk | ⟨a1, a2, a3, a4, a5, a6⟩
   ·exact .inl hk
   ·exact .inr ⟨a1, a2, a3, a4, by rw [h1, h2]; exact a5, fun hr b o hb => a6 hr b o (by rw [← h1]; exact hb)⟩
  | _ => simp [Kept] at hk
 | mp v' es' =>
  cases k with
  | mp v es =>
   obtain ⟨a1, a2⟩ := hk
   refine ⟨by rw [h1, h2]; exact a1, ?_⟩
   rcases a2 with a2 | ⟨a2, a3, a4⟩
   ·exact .inl a2
   ·exact .inr ⟨a2, a3, fun b o hb => a4 b o (by rw [← h1]; exact hb)⟩
  | _ => simp [Kept] at hk
 | mi m' v' es' =>
  cases k with
  | mi m v es =>
   obtain ⟨a1, a2, a3⟩ := hk
   exact ⟨by rw [a1], a2, by rw [h1, h2]; exact a3⟩
  | _ => simp [Kept] at hk
end
def setAll {α : Type} : List α → List Nat → List α → List α
 | h, [], _ => h
 | h, _ :: _, [] => h
 | h, l :: σ, b :: bs => setAll (h.set l b) σ bs
theorem setAll_len {α : Type} : ∀ (σ : List Nat) (h bs : List α), (setAll h σ bs).length = h.length
 | [], _, _ => by simp only [setAll]
 | _ :: _, _, [] => by simp only [setAll]
 | l :: σ, h, b :: bs => by simp only [setAll]; rw [setAll_len σ]; simp
theorem setAll_other {α : Type} : ∀ (σ : List Nat) (h bs : List α) (l : Nat), l ∉ σ → (setAll h σ bs)[l]? = h[l]?
 | [], _, _, _, _ => by simp only [setAll]
 | _ :: _, _, [], _, _ => by simp only [setAll]
 | l :: σ, h, b :: bs, l', hn => by
  simp only [setAll]
  rw [setAll_other σ _ bs l' (fun hm => hn (List.mem_cons_of_mem _ hm)), List.getElem?_set_ne (fun (e : l = l') => hn (by rw [e]; exact List.mem_cons_self ..))]
theorem setAll_at {α : Type} : ∀ (σ : List Nat) (h bs : List α) (i l : Nat) (b : α), σ.Nodup → (∀ l ∈ σ, l < h.length) → σ[i]? = some l → bs[i]? = some b → (setAll h σ bs)[l]? = some b
 | [], _, _, _, _, _, _, _, h1, _ => by simp at h1
 | _ :: _, _, [], _, _, _, _, _, _, h2 => by simp at h2
 | l0 :: σ, h, b0 :: bs, i, l, b, hn, hl, h1, h2 => by
  simp only [setAll]
  cases i with
  | zero =>
   simp at h1 h2
   subst h1 h2
   rw [setAll_other σ _ bs l0 (List.nodup_cons.1 hn).1, List.getElem?_set_self (hl l0 (List.mem_cons_self ..))]
  | succ i =>
   exact setAll_at σ _ bs i l b (List.nodup_cons.1 hn).2 (fun x hx => by simpa using hl x (List.mem_cons_of_mem _ hx)) (by simpa using h1) (by simpa using h2)
def rho : List Nat → Nat → Nat → Nat
 | [], n, i => n + i
 | l :: _, _, 0 => l
 | _ :: σ, n, i + 1 => rho σ n i
theorem rho_old : ∀ (σ : List Nat) (n i : Nat), i < σ.length → σ[i]? = some (rho σ n i)
 | [], _, _, h => by simp at h
 | l :: σ, n, 0, _ => rfl
 | l :: σ, n, i + 1, h => by simpa [rho] using rho_old σ n i (by simpa using h)
theorem rho_new : ∀ (σ : List Nat) (n i : Nat), σ.length ≤ i → rho σ n i = n + (i - σ.length)
 | [], _, _, _ => rfl
 | l :: σ, n, 0, h => by simp at h
 | l :: σ, n, i + 1, h => by simp only [rho, List.length_cons]; rw [rho_new σ n i (by simpa using h)]; omega
def backH (h : Hp) (σ : List Nat) (hc : Hp) : Hp := setAll h σ (rnH (rho σ h.length) hc) ++ rnH (rho σ h.length) (hc.drop σ.length)
def backI (ι : Io) (σ : List Nat) (ιc : Io) : Io := setAll ι σ ιc ++ ιc.drop σ.length
theorem FnS.frame {P : Program} {f : Nat} {args : List AV} {hc : Hp} {R : AV → Hp → Prop} (hf : FnS P f args hc R) (σ : List Nat) (h : Hp) (hlen : σ.length = hc.length) (hnd : σ.Nodup)
    (hh : ∀ i k, hc[i]? = some k → h[rho σ h.length i]? = some (rnB (rho σ h.length) k)) (hcl : refsH hc.length hc = true) (hca : ∀ x ∈ args, refsA hc.length x = true) :
    FnS P f (rnAs (rho σ h.length) args) h fun r' h' => ∃ r hc', R r hc' ∧ r' = rnA (rho σ h.length) r ∧ h' = backH h σ hc' := by
  refine ⟨fun G ι w vs hr hv => ?_⟩
  have hlt : ∀ l ∈ σ, l < h.length := by
    intro l hl
    obtain ⟨i, hi, rfl⟩ := List.getElem_of_mem hl
    have h1 := rho_old σ h.length i hi
    rw [List.getElem?_eq_getElem hi] at h1
    have h2 := hh i _ (List.getElem?_eq_getElem (by omega))
    rw [← Option.some.inj h1] at h2
    exact get_lt h2
  have hιl : ∀ l ∈ σ, l < ι.length := fun l hl => by rw [hr.len]; exact hlt l hl
  generalize hρ : rho σ h.length = ρ at *
  have rold : ∀ i, i < σ.length → σ[i]? = some (ρ i) := fun i hi => by rw [← hρ]; exact rho_old σ _ i hi
  have rnew : ∀ i, σ.length ≤ i → ρ i = h.length + (i - σ.length) := fun i hi => by rw [← hρ]; exact rho_new σ _ i hi
  have rmem : ∀ i, i < σ.length → ρ i ∈ σ := fun i hi => List.mem_of_getElem? (rold i hi)
  have rinj : ∀ i j, ρ i = ρ j → i = j := by
    intro i j e
    rcases Nat.lt_or_ge i σ.length with hi | hi <;> rcases Nat.lt_or_ge j σ.length with hj | hj
    · have h1 := rold i hi
      have h2 := rold j hj
      rw [e, ← h2] at h1
      exact (List.getElem?_inj hi hnd).1 h1
    · have := hlt _ (rmem i hi); have := rnew j hj; omega
    · have := hlt _ (rmem j hj); have := rnew i hi; omega
    · have := rnew i hi; have := rnew j hj; omega
  let ιc : Io := σ.map fun l => (ι[l]?).getD (0, 0)
  have hιc : ∀ i, i < σ.length → ιc[i]? = ι[ρ i]? := by
    intro i hi
    simp only [ιc, List.getElem?_map, rold i hi, Option.map_some]
    rw [List.getElem?_eq_getElem (hιl _ (rmem i hi))]; rfl
  have am : Among ρ ιc hc ι h := ⟨hh, fun i k hk => (hιc i (by rw [hlen]; exact get_lt hk)).symm⟩
  have hrc : HR G ιc hc w := HR.down am hr (by simp [ιc, hlen]) (fun i j _ _ e => rinj i j e) hcl
  have hvc : VRs G w ιc hc vs args := by
    refine ⟨by rw [hv.1, rnAs_len], fun i v x h1 h2 => ?_⟩
    exact (hv.2 i v (rnA ρ x) h1 (by rw [rnAs_get, h2]; rfl)).unrn am (hca x (List.mem_of_getElem? h2))
  refine (hf.out G ιc w vs hrc hvc).mono fun e w2 ⟨v, r, G2, ι2, hc2, he, hR, hr2, hvr, hx⟩ => ?_
  have hl2 : hc.length ≤ hc2.length := by
    rcases Nat.lt_or_ge hc2.length hc.length with hb | hb
    · obtain ⟨k', h1, _⟩ := hx.keep hc2.length _ (List.getElem?_eq_getElem hb)
      have := get_lt h1; omega
    · exact hb
  have hl2' : ι2.length = hc2.length := hr2.len
  have hset : (setAll h σ (rnH ρ hc2)).length = h.length := setAll_len σ h _
  have hseti : (setAll ι σ ι2).length = h.length := by rw [setAll_len, hr.len]
  have hbh : backH h σ hc2 = setAll h σ (rnH ρ hc2) ++ rnH ρ (hc2.drop σ.length) := by simp only [backH, hρ]
  -- the callee's blocks, at the caller
  have am2 : Among ρ ι2 hc2 (backI ι σ ι2) (backH h σ hc2) := by
    rw [hbh]
    constructor
    · intro i k hk
      rcases Nat.lt_or_ge i σ.length with hi | hi
      · rw [List.getElem?_append_left (by rw [hset]; exact hlt _ (rmem i hi))]
        exact setAll_at σ h _ i _ _ hnd hlt (rold i hi) (by rw [rnH_get, hk]; rfl)
      · rw [rnew i hi, List.getElem?_append_right (by omega), hset, rnH_get, List.getElem?_drop]
        rw [show σ.length + (h.length + (i - σ.length) - h.length) = i by omega, hk]; rfl
    · intro i k hk
      unfold backI
      have hi2 : ι2[i]? = some (ι2[i]'(by rw [hl2']; exact get_lt hk)) := List.getElem?_eq_getElem _
      rcases Nat.lt_or_ge i σ.length with hi | hi
      · rw [List.getElem?_append_left (by rw [hseti]; exact hlt _ (rmem i hi)), hi2]
        exact setAll_at σ ι _ i _ _ hnd hιl (rold i hi) hi2
      · rw [rnew i hi, List.getElem?_append_right (by omega), hseti, List.getElem?_drop]
        rw [show σ.length + (h.length + (i - σ.length) - h.length) = i by omega]
  -- each of the caller's blocks is one of the callee's, or as it was
  have part : ∀ l k', (backH h σ hc2)[l]? = some k' → (∃ i k, hc2[i]? = some k ∧ l = ρ i ∧ k' = rnB ρ k) ∨ (h[l]? = some k' ∧ l ∉ σ ∧ (backI ι σ ι2)[l]? = ι[l]?) := by
    intro l k' hk'
    by_cases hm : l ∈ σ
    · obtain ⟨i, hi, rfl⟩ := List.getElem_of_mem hm
      have e : σ[i] = ρ i := by have := rold i hi; rw [List.getElem?_eq_getElem hi] at this; exact Option.some.inj this
      have hki : hc2[i]? = some (hc2[i]'(by omega)) := List.getElem?_eq_getElem _
      have := am2.blk i _ hki
      rw [e, this] at hk'
      exact .inl ⟨i, _, hki, e, (Option.some.inj hk').symm⟩
    · rcases Nat.lt_or_ge l h.length with hl | hl
      · rw [hbh, List.getElem?_append_left (by omega), setAll_other σ h _ l hm] at hk'
        exact .inr ⟨hk', hm, by unfold backI; rw [List.getElem?_append_left (by omega), setAll_other σ ι _ l hm]⟩
      · rw [hbh, List.getElem?_append_right (by omega), hset, rnH_get, List.getElem?_drop, Option.map_eq_some_iff] at hk'
        obtain ⟨k, h1, rfl⟩ := hk'
        exact .inl ⟨_, k, h1, by rw [rnew _ (by omega)]; omega, rfl⟩
  have other : ∀ l b k, h[l]? = some k → l ∉ σ → own1 ι l k b → b < w.heap.size ∧ ¬ owned ιc hc b := by
    intro l b k h1 h2 h3
    refine ⟨owned_lt hr ⟨l, k, h1, h3⟩, fun ho => ?_⟩
    obtain ⟨i, kc, g1, g2, g3, g4⟩ := owned_rn am ho
    have := hr.own l (ρ i) b k _ h1 g4 h3 g3
    exact h2 (this ▸ rmem i (by rw [hlen]; exact get_lt g1))
  have same : ∀ l b k, h[l]? = some k → l ∉ σ → own1 ι l k b → w2.heap[b]? = w.heap[b]? := by
    intro l b k h1 h2 h3
    have := other l b k h1 h2 h3
    exact hx.frame b this.1 this.2
  have hext : Ext G ι h w G2 (backI ι σ ι2) (backH h σ hc2) w2 :=
    { size := hx.size
      quiet := hx.quiet
      frame := fun b hb ho => hx.frame b hb fun ho' => ho (owned_up am ho')
      gmono := hx.gmono
      gnew := fun b hb => by
        rcases hx.gnew b hb with h1 | h1 | h1
        · exact .inl h1
        · exact .inr (.inl h1)
        · exact .inr (.inr (owned_up am h1))
      onew := fun b ⟨l, k, h2, h3⟩ => by
        rcases part l k h2 with ⟨i, kc, g1, rfl, rfl⟩ | ⟨g1, g2, g3⟩
        · rcases hx.onew b ⟨i, kc, g1, (own1_rn (am2.at' i kc g1)).1 h3⟩ with h4 | h4
          · exact .inl (owned_up am h4)
          · exact .inr h4
        · exact .inl ⟨l, k, g1, own1_io h3 fun _ => g3.symm⟩
      keep := fun l k hk => by
        by_cases hm : l ∈ σ
        · obtain ⟨i, hi, rfl⟩ := List.getElem_of_mem hm
          have e : σ[i] = ρ i := by have := rold i hi; rw [List.getElem?_eq_getElem hi] at this; exact Option.some.inj this
          have hki : hc[i]? = some (hc[i]'(by omega)) := List.getElem?_eq_getElem _
          rw [e, hh i _ hki] at hk
          cases hk
          obtain ⟨k', g1, g2⟩ := hx.keep i _ hki
          exact ⟨rnB ρ k', by rw [e]; exact am2.blk i k' g1, by rw [e]; exact g2.rn (am.at' i _ hki) (am2.at' i k' g1)⟩
        · have hl : l < h.length := get_lt hk
          have e1 : (backH h σ hc2)[l]? = some k := by rw [hbh, List.getElem?_append_left (by omega), setAll_other σ h _ l hm]; exact hk
          have e2 : (backI ι σ ι2)[l]? = ι[l]? := by unfold backI; rw [List.getElem?_append_left (by omega), setAll_other σ ι _ l hm]
          exact ⟨k, e1, Kept.frame e2 fun b hb => same l b k hk hm hb⟩ }
  refine ⟨v, rnA ρ r, G2, backI ι σ ι2, backH h σ hc2, he, ⟨r, hc2, hR, rfl, rfl⟩, ?_, hvr.rn am2, hext⟩
  exact
    { len := by
        rw [hbh]; unfold backI
        simp only [List.length_append, hset, hseti, rnH_len, List.length_drop, hl2']
      own := by
        intro l l' b k k' h3 h4 h5 h6
        rcases part l k h3 with ⟨i, kc, g1, rfl, rfl⟩ | ⟨g1, g2, g3⟩ <;> rcases part l' k' h4 with ⟨i', kc', q1, rfl, rfl⟩ | ⟨q1, q2, q3⟩
        · rw [hr2.own i i' b kc kc' g1 q1 ((own1_rn (am2.at' i kc g1)).1 h5) ((own1_rn (am2.at' i' kc' q1)).1 h6)]
        · exfalso
          have ot := other l' b k' q1 q2 (own1_io h6 fun _ => q3.symm)
          rcases hx.onew b ⟨i, kc, g1, (own1_rn (am2.at' i kc g1)).1 h5⟩ with h7 | h7
          · exact ot.2 h7
          · omega
        · exfalso
          have ot := other l b k g1 g2 (own1_io h5 fun _ => g3.symm)
          rcases hx.onew b ⟨i', kc', q1, (own1_rn (am2.at' i' kc' q1)).1 h6⟩ with h7 | h7
          · exact ot.2 h7
          · omega
        · exact hr.own l l' b k k' g1 q1 (own1_io h5 fun _ => g3.symm) (own1_io h6 fun _ => q3.symm)
      g := by
        intro b hb
        refine ⟨(hr2.g b hb).1, fun ⟨l, k, h2, h3⟩ => ?_⟩
        rcases part l k h2 with ⟨i, kc, g1, rfl, rfl⟩ | ⟨g1, g2, g3⟩
        · exact (hr2.g b hb).2 ⟨i, kc, g1, (own1_rn (am2.at' i kc g1)).1 h3⟩
        · have h3' : own1 ι l k b := own1_io h3 fun _ => g3.symm
          have ot := other l b k g1 g2 h3'
          rcases hx.gnew b hb with h4 | h4 | h4
          · exact (hr.g b h4).2 ⟨l, k, g1, h3'⟩
          · omega
          · exact ot.2 h4
      blk := by
        intro l k hk
        rcases part l k hk with ⟨i, kc, g1, rfl, rfl⟩ | ⟨g1, g2, g3⟩
        · exact BR.rn am2 g1 (hr2.blk i kc g1)
        · exact BR.ext hext hr g1 g3 fun b hb => same l b k g1 g2 hb }
end Go.Ab

/-
  The engine: functions that work in an arena of their own; at their end it is given up, and what leads into it is plain data.
-/
namespace Go.Ab
inductive ThD (m : Ar) : D → D → Prop
 | same (x : D) : ThD m x x
 | fg (x : D) : ThD m x (fgD x)
 | row (b o sz n cap N : Nat) (xs : List D) (rows : List (List D)) (g : Nat → Nat → D) (hm : m b = some (.cs N xs)) (hn : rows.length = n) (hcap : n ≤ cap) (hmx : n ≤ 9223372036854775807)
   (hs : ∀ (i : Nat) (e : List D), rows[i]? = some e → e.length = sz) (hx : ∀ (i : Nat) (e : List D) (j : Nat) (x : D), rows[i]? = some e → e[j]? = some x → xs[o + i * sz + j]? = some (g i j))
   (hr : ∀ (i : Nat) (e : List D) (j : Nat) (x : D), rows[i]? = some e → e[j]? = some x → ThD m (g i j) x) : ThD m (.sl b o sz n cap) (.list false sz rows)
 | list (nl : Bool) (sz : Nat) (l l' : List (List D)) (hlen : l.length = l'.length) (hs : ∀ (i : Nat) (e : List D), l'[i]? = some e → e.length = sz)
   (hr : ∀ (i : Nat) (e e' : List D) (j : Nat) (x x' : D), l[i]? = some e → l'[i]? = some e' → e[j]? = some x → e'[j]? = some x' → ThD m x x') : ThD m (.list nl sz l) (.list nl sz l')
section
variable {G : Nat → Prop} {ι : Io} {h : Hp} {w : World} {m : Ar}
theorem thD_sound {G' : Nat → Prop} (hG : ∀ b x, m b = some x → G' b ∧ ABR G' w b x) {x x' : D} (ht : ThD m x x') : ∀ {v : Value}, DR G' w v x → DR G' w v x' := by
 induction ht with
 | same x => exact fun h => h
 | fg x => exact fun h => h.fg
 | row b o sz n cap N xs rows g hm hn hcap hmx hs hx hr ih =>
  intro v hd
  cases hd
  obtain ⟨hg, c, t, fr, a1, a2, a3, a4, a5⟩ := hG b _ hm
  subst hn
  refine .sl b o cap sz rows (fun i j => (c[o + i * sz + j]?).getD undef) (fun _ => hg) hcap hmx hs (fun i e j x he hx' => ?_) fun i e j x he hx' => ?_
  ·obtain ⟨v, hv, _⟩ := a5 _ _ (hx i e j x he hx')
   rw [cell_of a1, hv]; rfl
  ·obtain ⟨v, hv, hd⟩ := a5 _ _ (hx i e j x he hx')
   simp only [hv, Option.getD_some]
   exact ih i e j x he hx' hd
 | list nl sz l l' hlen hs hr ih =>
  intro v hd
  cases hd with
  | nils =>
   have : l' = [] := List.eq_nil_of_length_eq_zero (by simpa using hlen.symm)
   subst this; exact .nils nl sz
  | emp a =>
   have : l' = [] := List.eq_nil_of_length_eq_zero (by simpa using hlen.symm)
   subst this; exact .emp a sz
  | sl b off cap _ _ g hg hcap hmax hsz hc hr' =>
   have both : ∀ (i : Nat) (e' : List D) (j : Nat) (x' : D), l'[i]? = some e' → e'[j]? = some x' → ∃ e x, l[i]? = some e ∧ e[j]? = some x := by
    intro i e' j x' he hx
    have hi := get_lt he
    have hj := get_lt hx
    have h1 : l[i]? = some (l[i]'(by omega)) := List.getElem?_eq_getElem _
    have h2 := hsz i _ h1
    have h3 := hs i e' he
    exact ⟨_, _, h1, List.getElem?_eq_getElem (by omega)⟩
   rw [hlen]
   refine .sl b off cap sz l' g (fun hne => hg fun h0 => hne ?_) (by omega) (by omega) hs (fun i e j x he hx => ?_) fun i e j x he hx => ?_
   ·subst h0; exact List.eq_nil_of_length_eq_zero (by simpa using hlen.symm)
   ·obtain ⟨e0, x0, h1, h2⟩ := both i e j x he hx
    exact hc i e0 j x0 h1 h2
   ·obtain ⟨e0, x0, h1, h2⟩ := both i e j x he hx
    exact ih i e0 e j x0 x h1 he h2 hx (hr' i e0 j x0 h1 h2)
theorem HR.thaw (r : HR G ι h w) (h0 : h[0]? = some (.am m)) : HR (fun b => G b ∨ ∃ x, m b = some x) ι (h.set 0 .dead) w ∧ Ext G ι h w (fun b => G b ∨ ∃ x, m b = some x) ι (h.set 0 .dead) w ∧
    ∀ b x, m b = some x → (G b ∨ ∃ x, m b = some x) ∧ ABR (fun b => G b ∨ ∃ x, m b = some x) w b x := by
  have hgm : ∀ b, G b → (G b ∨ ∃ x, m b = some x) ∧ w.heap[b]? = w.heap[b]? := fun b hb => ⟨.inl hb, rfl⟩
  have hext : Ext G ι h w (fun b => G b ∨ ∃ x, m b = some x) ι (h.set 0 .dead) w :=
    { size := Nat.le_refl _
      quiet := ⟨rfl, rfl⟩
      frame := fun _ _ _ => rfl
      gmono := fun _ h => .inl h
      gnew := fun b hb => by
        rcases hb with h | ⟨x, hx⟩
        · exact .inl h
        · exact .inr (.inr (am_owned h0 hx))
      onew := fun b ho => .inl (owned_set h0 own1_dead ho)
      keep := fun l k hk => by
        by_cases e : 0 = l
        · subst e
          exact ⟨.dead, by rw [List.getElem?_set_self (get_lt h0)], by cases k <;> trivial⟩
        · exact ⟨k, by rw [List.getElem?_set_ne e]; exact hk, Kept.refl ι w l k⟩ }
  refine ⟨?_, hext, fun b x hx => ⟨.inr ⟨x, hx⟩, (r.blk 0 _ h0 b x hx).mono hgm rfl⟩⟩
  exact
    { len := by simp [r.len]
      own := own_kill r
      g := fun b hb => by
        rcases hb with hb | ⟨x, hx⟩
        · exact ⟨(r.g b hb).1, fun ho => (r.g b hb).2 (owned_set h0 own1_dead ho)⟩
        · refine ⟨owned_lt r (am_owned h0 hx), fun ⟨l, k, g1, g2⟩ => ?_⟩
          rcases get_set g1 with ⟨_, e2, _⟩ | ⟨e0, e1⟩
          · subst e2; exact own1_dead g2
          · exact e0 (r.own 0 l b _ k h0 e1 ⟨x, hx⟩ g2).symm
      blk := fun l k hk => by
        rcases get_set hk with ⟨_, d2, _⟩ | ⟨_, d1⟩
        · subst d2; trivial
        · exact BR.ext hext r d1 rfl fun _ _ => rfl }
end
inductive ThC (m : Ar) : CV → CV → Prop
 | same (x : CV) (hx : pureC x = true) : ThC m x x
 | d (x x' : D) (h : ThD m x x') : ThC m (.d x) (.d x')
def ThCs (m : Ar) : List CV → List CV → Prop
 | [], [] => True
 | x :: r, y :: s => ThC m x y ∧ ThCs m r s
 | _, _ => False
inductive ThA (m : Ar) : AV → AV → Prop
 | c (x y : CV) (h : ThC m x y) : ThA m (.c x) (.c y)
 | agg (l l' : List CV) (h : ThCs m l l') : ThA m (.agg l) (.agg l')
def ThAs (m : Ar) : List AV → List AV → Prop
 | [], [] => True
 | x :: r, y :: s => ThA m x y ∧ ThAs m r s
 | _, _ => False
theorem thC_pure {m : Ar} {x y : CV} (h : ThC m x y) : pureC y = true := by
 cases h with
 | same _ hx => exact hx
 | d => rfl
theorem thCs_pure {m : Ar} : ∀ {l l' : List CV}, ThCs m l l' → l.length = l'.length ∧ l'.all pureC = true ∧ ∀ (i : Nat) (x y : CV), l[i]? = some x → l'[i]? = some y → ThC m x y := by
 intro l
 induction l with
 | nil => intro l' h; cases l' with | nil => simp | cons => exact h.elim
 | cons x r ih =>
  intro l' h
  cases l' with
  | nil => exact h.elim
  | cons y s =>
   obtain ⟨h1, h2⟩ := h
   obtain ⟨i1, i2, i3⟩ := ih h2
   refine ⟨by simp [i1], by simp [thC_pure h1, i2], fun i a b ha hb => ?_⟩
   cases i with
   | zero => simp at ha hb; subst ha hb; exact h1
   | succ i => simp at ha hb; exact i3 i a b ha hb
theorem thA_pure {m : Ar} {x y : AV} (h : ThA m x y) : pureA y = true := by
 cases h with
 | c _ _ h => exact thC_pure h
 | agg _ _ h => exact (thCs_pure h).2.1
theorem thAs_get {m : Ar} : ∀ {l l' : List AV}, ThAs m l l' → l.length = l'.length ∧ pureA.pureAs l' = true ∧ ∀ (i : Nat) (x y : AV), l[i]? = some x → l'[i]? = some y → ThA m x y := by
 intro l
 induction l with
 | nil => intro l' h; cases l' with | nil => simp [pureA.pureAs] | cons => exact h.elim
 | cons x r ih =>
  intro l' h
  cases l' with
  | nil => exact h.elim
  | cons y s =>
   obtain ⟨h1, h2⟩ := h
   obtain ⟨i1, i2, i3⟩ := ih h2
   refine ⟨by simp [i1], by simp [pureA.pureAs, thA_pure h1, i2], fun i a b ha hb => ?_⟩
   cases i with
   | zero => simp at ha hb; subst ha hb; exact h1
   | succ i => simp at ha hb; exact i3 i a b ha hb
def RetA (res : List (Nat × Option (Option Nat))) (L : Lv) (h : Hp) (K : AV → Prop) : Prop :=
 match resA (lkN L) h res with
 | some vs => vFrzAs h vs fun rs h2 => match h2 with
  | .am m :: _ => ∃ rs', ThAs m rs rs' ∧ K (pack rs')
  | _ => False
 | none => False
def am0 : Ar := fun _ => none
def vcFAE (res : List (Nat × Option (Option Nat))) (K : AV → Prop) : Post := fun x L h => match x with
 | .exit _ => False
 | _ => RetA res L h K
def vcFA (P : Program) (Λ : Len) (af : AF) (args : List AV) (K : AV → Prop) : Prop :=
 match af with
 | ⟨_, res, body⟩ => vcC P Λ 1 body (argL 0 args) [.am am0] (vcFAE res K)
theorem HR.am0 {G : Nat → Prop} {w : World} {ι : Io} (r : HR G ι [] w) : HR G [(0, 0)] [.am am0] w :=
  { len := rfl
    own := fun l l' b k k' h1 h2 _ _ => by
      have := get_lt h1; have := get_lt h2; simp at *; omega
    g := fun b hb => ⟨(r.g b hb).1, fun ⟨l, k, h1, h2⟩ => by
      have hl : l = 0 := by have := get_lt h1; simpa using this
      subst hl; cases h1
      obtain ⟨x, hx⟩ := h2; cases hx⟩
    blk := fun l k h1 => by
      have hl : l = 0 := by have := get_lt h1; simpa using this
      subst hl; cases h1
      intro b x hx; cases hx }
theorem fn_arena {P : Program} {f : Nat} {fn : Func} {af : AF} {args : List AV} {K : AV → Prop} (hmo : P.follows .mixedOrders = true) (hf : P.funcs[f]? = some fn) (hc : compF P fn = some af) (hl : args.length ≤ af.nt) (hv : ∀ Λ : Len, (∀ l, Λ l = (l.length : Int)) → vcFA P Λ af args K) :
    FnS P f args [] fun r _ => pureA r = true ∧ K r := by
  obtain ⟨c, hb, hcc, hres, hnt⟩ := compF_spec hc
  have hv1 := hv (fun l => (l.length : Int)) fun _ => rfl
  refine ⟨fun G ι w vs hr hvs => ?_⟩
  have hr1 := hr.am0
  have hι : ι = [] := by have := hr.len; exact List.eq_nil_of_length_eq_zero this
  subst hι
  have hvs1 : VRs G w [(0, 0)] [.am am0] vs args := ⟨hvs.1, fun i v x h1 h2 => (hvs.2 i v x h1 h2).mono (fun b hb => ⟨hb, rfl⟩) (fun l k hk => by simp at hk)⟩
  have none1 : ∀ b, ¬ owned [(0, 0)] [.am am0] b := fun b ⟨l, k, h1, h2⟩ => by
    have hl : l = 0 := by have := get_lt h1; simpa using this
    subst hl; cases h1
    obtain ⟨x, hx⟩ := h2; cases hx
  have henter := enter_fits (af := af) hnt (by omega) hr1 hvs1
  have hwp := vcC_sound (h0 := [.am am0]) (Λ := fun l => (l.length : Int)) (fun _ => rfl) (m := 1) hmo (by simp) c af.body _ _ (vcFAE af.res K) _ w hcc (by cases af; exact hv1) henter
  refine calls_of_wp hf hb (wp_mono hwp fun x a w' ⟨L, h', hq, hfit⟩ => ?_)
  have fin : RetA af.res L h' K → a.defers = [] ∧ ∃ v, (results fn a.tmps).run P w' = .ok v w' ∧ ∃ v' r G' ι' h'', Ending.returned v = .returned v' ∧ (pureA r = true ∧ K r) ∧ HR G' ι' h'' w' ∧ VR G' w' ι' h'' v' r ∧ Ext G [] [] w G' ι' h'' w' := by
    intro hret
    obtain ⟨G1, ι1, st⟩ := hfit
    refine ⟨st.rel.dfr, ?_⟩
    unfold RetA at hret
    split at hret
    · rename_i vs' hvs'
      obtain ⟨rs, h2, hrs, hret⟩ := vFrzAs_sound hret
      split at hret
      · rename_i m rest
        obtain ⟨rs', ht, hK⟩ := hret
        rw [lkN_fun] at hvs'
        obtain ⟨us, q1, q2⟩ := results_all (P := P) (fn := fn) (af := af) hres st.rel.hr st.rel.env hvs'
        obtain ⟨G2, k1, k2, k3, k4⟩ := frzAs_sound st.rel.hr q2 hrs
        obtain ⟨j1, j2, j3⟩ := HR.thaw k1 (m := m) rfl
        have e := (st.ext.trans k2).trans j2
        obtain ⟨t1, t2, t3⟩ := thAs_get ht
        have hvr : VRs (fun b => G2 b ∨ ∃ x, m b = some x) w' ι1 (List.set (.am m :: rest) 0 .dead) us rs' := by
          refine ⟨by rw [k3.1, t1], fun i v y h1 h2 => ?_⟩
          have hi := get_lt h2
          have hx : rs[i]? = some (rs[i]'(by omega)) := List.getElem?_eq_getElem _
          have hvx := (k3.2 i v _ h1 hx).ext j2 k1
          have hth := t3 i _ y hx h2
          revert hvx hth
          generalize rs[i]'(by omega) = z
          intro hvx hth
          have cc : ∀ {v : Value} {p q : CV}, CR (fun b => G2 b ∨ ∃ x, m b = some x) w' ι1 (List.set (.am m :: rest) 0 .dead) v p → ThC m p q → CR (fun b => G2 b ∨ ∃ x, m b = some x) w' ι1 (List.set (.am m :: rest) 0 .dead) v q := by
            intro v p q hp hq
            cases hq with
            | same => exact hp
            | d x x' h => cases hp with | d _ _ hd => exact .d _ _ (thD_sound j3 h hd)
          cases hth with
          | c _ _ h => cases hvx with | c _ _ hc => exact .c _ _ (cc hc h)
          | agg l l' h =>
            obtain ⟨u1, u2, u3⟩ := thCs_pure h
            cases hvx with
            | agg cs _ hn hc =>
              refine .agg _ _ (by omega) fun j v y hv hy => ?_
              have hj := get_lt hy
              exact cc (hc j v _ hv (List.getElem?_eq_getElem (by omega))) (u3 j _ y (List.getElem?_eq_getElem (by omega)) hy)
        refine ⟨_, q1, _, pack rs', _, ι1, _, rfl, ⟨?_, hK⟩, j1, pack_sound hvr, ?_⟩
        · cases rs' with
          | nil => rfl
          | cons x rs' =>
            cases rs' with
            | nil => simp only [pureA.pureAs, Bool.and_true] at t2; exact t2
            | cons y rs' => exact t2
        · exact
            { size := e.size
              quiet := e.quiet
              frame := fun b hb _ => e.frame b hb (none1 b)
              gmono := e.gmono
              gnew := fun b hb => by
                rcases e.gnew b hb with h | h | h
                · exact .inl h
                · exact .inr (.inl h)
                · exact absurd h (none1 b)
              onew := fun b hb => by
                rcases e.onew b hb with h | h
                · exact absurd h (none1 b)
                · exact .inr h
              keep := fun l k hk => by simp at hk }
      · exact hret.elim
    · exact hret.elim
  cases x with
  | normal => exact fin hq
  | ret => exact fin hq
  | exit i => exact hq.elim
  | goto => exact hq.elim
  | panic => exact hq.elim
  | outgrown => exact hq.elim
end Go.Ab

/-
  Arenas, part a: rows that grow.
-/
namespace Go.Ab
open Go.Proofs
theorem arena_start {P : Program} {f : Nat} {fn : Func} {af : AF} {args : List AV} {r : AV} (hm : P.follows .mixedOrders = true) (hf : P.funcs[f]? = some fn) (hc : compF P fn = some af) (hl : args.length ≤ af.nt)
  (hv : ∀ (Λ : Len), (∀ l, Λ l = (l.length : Int)) → ∀ (K : AV → Prop), K r → vcFA P Λ af args K) : Ret P f args r :=
 fn_arena (K := fun r' => r' = r) hm hf hc hl fun Λ h => hv Λ h _ rfl
def RowR (sz : Nat) (m : Ar) (d : D) (l : List (List D)) : Prop :=
 (d = .list true sz [] ∧ l = []) ∨ ∃ b N cap, d = .sl b 0 sz l.length cap ∧ m b = some (.cs N l.flatten) ∧ (∀ e ∈ l, e.length = sz) ∧ l.length ≤ cap ∧ cap * sz ≤ N
structure RowsR (sz : Nat) (m : Ar) (es : List (List D)) (rows : List (List (List D))) : Prop where
 len : es.length = rows.length
 one : ∀ (j : Nat) (e : List D), es[j]? = some e → ∃ d, e = [d]
 row : ∀ (j : Nat) (d : D) (l : List (List D)), es[j]? = some [d] → rows[j]? = some l → RowR sz m d l
 dis : ∀ (i j b o n c o' n' c' : Nat), es[i]? = some [.sl b o sz n c] → es[j]? = some [.sl b o' sz n' c'] → i = j
theorem RowsR.nils (sz k : Nat) (m : Ar) : RowsR sz m (List.replicate k [.list true sz []]) (List.replicate k []) where
 len := by simp
 one j e h := by
  rw [List.getElem?_replicate] at h; split at h <;> cases h; exact ⟨_, rfl⟩
 row j d l h1 h2 := by
  rw [List.getElem?_replicate] at h1 h2; split at h1 <;> simp_all
  exact .inl ⟨h1.symm, rfl⟩
 dis i j b o n c o' n' c' h1 h2 := by
  rw [List.getElem?_replicate] at h1; split at h1 <;> simp at h1
theorem set_self {α : Type} {l : List α} {i : Nat} {a x : α} (h : (l.set i a)[i]? = some x) : x = a := by
 rcases get_set h with ⟨_, h, _⟩ | ⟨h, _⟩
 ·exact h
 ·exact absurd rfl h
theorem RowsR.put {sz : Nat} {m m' : Ar} {es : List (List D)} {rows : List (List (List D))} (h : RowsR sz m es rows) {j b' N' cap' : Nat} {l' : List (List D)} (hm' : m' b' = some (.cs N' l'.flatten))
  (hs : ∀ e ∈ l', e.length = sz) (hcap : l'.length ≤ cap') (hN : cap' * sz ≤ N') (hfree : ∀ (i o n c : Nat), i ≠ j → es[i]? = some [.sl b' o sz n c] → False) (hsame : ∀ (i b o n c : Nat), i ≠ j → es[i]? = some [.sl b o sz n c] → m' b = m b) :
  RowsR sz m' (es.set j [.sl b' 0 sz l'.length cap']) (rows.set j l') where
 len := by simp [h.len]
 one i e he := by
  rcases get_set he with ⟨_, he, _⟩ | ⟨_, he⟩
  ·exact ⟨_, he⟩
  ·exact h.one i e he
 row i d l h1 h2 := by
  rcases get_set h1 with ⟨e1, e2, _⟩ | ⟨e1, e2⟩
  ·subst e1
   have := set_self h2
   subst this
   cases e2
   exact .inr ⟨b', N', cap', rfl, hm', hs, hcap, hN⟩
  ·rw [List.getElem?_set_ne (fun e => e1 e.symm)] at h2
   rcases h.row i d l e2 h2 with hr | ⟨b, N, cap, rfl, r2, r3⟩
   ·exact .inl hr
   ·exact .inr ⟨b, N, cap, rfl, by rw [hsame i b _ _ _ e1 e2]; exact r2, r3⟩
 dis i k b o n c o' n' c' h1 h2 := by
  rcases get_set h1 with ⟨e1, e2, _⟩ | ⟨e1, e2⟩ <;> rcases get_set h2 with ⟨f1, f2, _⟩ | ⟨f1, f2⟩
  ·omega
  ·cases e2; exact (hfree k _ _ _ f1 f2).elim
  ·cases f2; exact (hfree i _ _ _ e1 e2).elim
  ·exact h.dis i k b o n c o' n' c' e2 f2
theorem RowsR.key {sz : Nat} {m : Ar} {es : List (List D)} {rows : List (List (List D))} (h : RowsR sz m es rows) {i b o n c : Nat} (he : es[i]? = some [.sl b o sz n c]) : ∃ x, m b = some x := by
 have hi := get_lt he
 rcases h.row i _ _ he (List.getElem?_eq_getElem (by rw [← h.len]; exact hi)) with ⟨h1, _⟩ | ⟨b', N, cap, h1, h2, _⟩
 ·cases h1
 ·cases h1; exact ⟨_, h2⟩
theorem RowsR.first {sz : Nat} {m : Ar} {es : List (List D)} {rows : List (List (List D))} (h : RowsR sz m es rows) {j b' N' cap' : Nat} {l' : List (List D)} (hm : m b' = none)
  (hs : ∀ e ∈ l', e.length = sz) (hcap : l'.length ≤ cap') (hN : cap' * sz ≤ N') : RowsR sz (mup m b' (.cs N' l'.flatten)) (es.set j [.sl b' 0 sz l'.length cap']) (rows.set j l') :=
 h.put (mup_at _ _ _) hs hcap hN (fun i o n c _ he => by obtain ⟨x, hx⟩ := h.key he; rw [hm] at hx; cases hx)
  fun i b o n c _ he => by
   obtain ⟨x, hx⟩ := h.key he
   exact mup_ne fun e => by rw [e, hm] at hx; cases hx
theorem RowsR.more {sz : Nat} {m : Ar} {es : List (List D)} {rows : List (List (List D))} (h : RowsR sz m es rows) {j b n c b' N' cap' : Nat} (hj : es[j]? = some [.sl b 0 sz n c]) {l' : List (List D)} (hm : mdel m b b' = none)
  (hs : ∀ e ∈ l', e.length = sz) (hcap : l'.length ≤ cap') (hN : cap' * sz ≤ N') : RowsR sz (mup (mdel m b) b' (.cs N' l'.flatten)) (es.set j [.sl b' 0 sz l'.length cap']) (rows.set j l') := by
 have other : ∀ (i b2 o n2 c2 : Nat), i ≠ j → es[i]? = some [.sl b2 o sz n2 c2] → b2 ≠ b ∧ b2 ≠ b' := by
  intro i b2 o n2 c2 hi he
  have h1 : b2 ≠ b := fun e => by subst e; exact hi (h.dis i j _ _ _ _ _ _ _ he hj)
  refine ⟨h1, fun e => ?_⟩
  obtain ⟨x, hx⟩ := h.key he
  rw [← e, mdel_ne h1, hx] at hm; cases hm
 refine h.put (mup_at _ _ _) hs hcap hN (fun i o n2 c2 hi he => (other i _ _ _ _ hi he).2 rfl) fun i b2 o n2 c2 hi he => ?_
 obtain ⟨h1, h2⟩ := other i _ _ _ _ hi he
 rw [mup_ne h2, mdel_ne h1]
theorem RowsR.thaw {sz : Nat} {m : Ar} {es : List (List D)} {rows : List (List (List D))} (h : RowsR sz m es rows) (hb : ∀ l ∈ rows, l.length ≤ 9223372036854775807) : ThD m (.list false 1 es) (.list false 1 (rows.map fun l => [.list false sz l])) := by
 refine .list _ _ _ _ (by simp [h.len]) (fun i e he => ?_) fun i e e' j x x' he he' hx hx' => ?_
 ·simp only [List.getElem?_map, Option.map_eq_some_iff] at he
  obtain ⟨_, _, rfl⟩ := he; rfl
 ·simp only [List.getElem?_map, Option.map_eq_some_iff] at he'
  obtain ⟨l, hl, rfl⟩ := he'
  obtain ⟨d, rfl⟩ := h.one i e he
  have hj : j = 0 := by have := get_lt hx; simpa using this
  subst hj
  simp only [List.getElem?_cons_zero, Option.some.injEq] at hx hx'
  subst hx hx'
  rcases h.row i d l he hl with ⟨rfl, rfl⟩ | ⟨b, N, cap, rfl, hm, hs, hc, hN⟩
  ·exact .fg _
  ·have hl2 := hb l (List.mem_of_getElem? hl)
   refine .row b 0 sz l.length cap N l.flatten l (fun i j => l.flatten.getD (i * sz + j) default) hm rfl hc hl2 (fun i e he => hs e (List.mem_of_getElem? he)) (fun i e j x he hx => ?_) fun i e j x he hx => ?_
   ·rw [Nat.zero_add, List.getD_eq_getElem?_getD, arget_flat hs he hx]; rfl
   ·simp only [List.getD_eq_getElem?_getD, arget_flat hs he hx, Option.getD_some]; exact .same _
end Go.Ab

/-
  Where an arc leads.
-/
namespace Go.Ab
open Go.Proofs
theorem xor_one : ∀ a : Fin 512, IntKind.i64.wrap ((BitVec.ofInt 64 (a.val : Int) ^^^ BitVec.ofInt 64 1).toNat : Int) = if a.val % 2 = 0 then (a.val : Int) + 1 else (a.val : Int) - 1 := by
 decide +kernel
theorem ghead_ok (P : Program) (hP : P = Try.prog) (t : Top) (a : Int) (h0 : 0 ≤ a) (h1 : a < 2 * t.links.length) (h2 : (t.links.length : Int) ≤ 256) : Ret P n_graph_Head [topA t, iA a] (iA (headG t a)) := by
 have hx : IntKind.i64.wrap ((BitVec.ofInt 64 a ^^^ BitVec.ofInt 64 1).toNat : Int) = if a % 2 = 0 then a + 1 else a - 1 := by
  have := xor_one ⟨a.toNat, by omega⟩
  simp only at this
  rw [show ((a.toNat : Nat) : Int) = a by omega] at this
  rw [this]
  by_cases hm : a % 2 = 0
  ·rw [if_pos (by omega), if_pos hm]
  ·rw [if_neg (by omega), if_neg hm]
 generalize hb : (if a % 2 = 0 then a + 1 else a - 1 : Int) = b at hx
 have ht := gtail_ok P hP t b (by rw [← hb]; split <;> omega) (by rw [← hb]; split <;> omega) h2
 have he : tailG t b = headG t a := by
  rw [← hb]
  unfold tailG headG lkAt
  by_cases hm : a % 2 = 0
  ·rw [if_pos hm, if_pos hm, if_neg (by omega), show (a + 1) / 2 = a / 2 by omega]
  ·rw [if_neg hm, if_neg hm, if_pos (by omega), show (a - 1) / 2 = a / 2 by omega]
 rw [he] at ht
 refine ret_start (hP ▸ mixed) (hP ▸ fn_graph_Head) (hP ▸ c_graph_Head) (Nat.le_of_ble_eq_true rfl) fun Λ Λo K hK => ?_
 clear hP he
 generalize headG t a = hd at *
 obtain ⟨nodes, ov, links⟩ := t
 simp only [topA, boolsD, linksD] at *
 generalize hol : ov.map encB = ol at *
 generalize hll : links.map encLk = ll at *
 have hlo : Λ ol = ov.length := by rw [Λo, ← hol]; simp
 have hls : Λ ll = links.length := by rw [Λo, ← hll]; simp
 conv => cbv
 repeat' first | exact gu | exact trivial | refine And.intro ?_ ?_ | (intro hc; exact absurd hc (by decide)) | (intro hc; exfalso; omega) | (intro hc; (first | rw [wrap_small (by omega) (by omega)] at hc | rw [nI_eq] at hc | skip); try (conv => cbv))
 refine ⟨.int .i64 b, ?_, ?_⟩
 ·rw [← hx]; rfl
 rintro _ rfl
 conv => cbv
 repeat' first | refine call_i ht rfl rfl ?_ | exact gu | exact trivial | refine And.intro ?_ ?_ | (intro hc; exact absurd hc (by decide)) | (intro hc; exfalso; omega) | (intro hc; (first | rw [wrap_small (by omega) (by omega)] at hc | rw [nI_eq] at hc | skip); try (conv => cbv))
 all_goals (subst hc; exact hK)
end Go.Ab

/-
  Contracts of the shortest paths (the document's), part a: costs, masks.
-/
namespace Go.Ab
open Go.Proofs
theorem cost_ok (P : Program) (hP : P = Try.prog) (t : Top) (a : Int) : Ret P n_ref09_Cost [topA t, iA a] (iA (costT t a)) := by
 refine ret_start (hP ▸ mixed) (hP ▸ fn_ref09_Cost) (hP ▸ c_ref09_Cost) (Nat.le_of_ble_eq_true rfl) fun Λ Λo K hK => ?_
 have hw := arcs_ok P hP t
 clear hP
 have leaf : ∀ b, costT t a = b → K (iA b) := fun b hb => by rw [← hb]; exact hK
 have hv2 := arcsT_le t
 have hta : costT t a = if 0 ≤ a ∧ a < arcsT t then (if a % 2 = 0 then (lkAt t a).c0 else (lkAt t a).c1) else -1 := rfl
 have hat : ∀ x, t.links[(a / 2).toNat]? = some x → lkAt t a = x := fun x hx => by simp [lkAt, hx]
 generalize arcsT t = v at *
 obtain ⟨nodes, ov, links⟩ := t
 simp only [topA, boolsD, linksD] at *
 generalize hol : ov.map encB = ol at *
 generalize hll : links.map encLk = ll at *
 have hlo : Λ ol = ov.length := by rw [Λo, ← hol]; simp
 have hls : Λ ll = links.length := by rw [Λo, ← hll]; simp
 conv => cbv
 repeat' first | refine call_i hw rfl rfl ?_ | (intro hc; rw [tdiv2 (by omega) (by omega)] at hc; conv => cbv) | (intro hc; rw [tmod2 (by omega)] at hc; conv => cbv) | (intro (_ : Unit); decide) | (intro e he; obtain ⟨⟨xa, xb, xc, xd, xe, xf, xg⟩, hx, rfl⟩ := map_get' hll he; (conv => cbv)) | exact gu | exact trivial | refine And.intro ?_ ?_ | (intro hc; exact absurd hc (by decide)) | (intro hc; exfalso; omega) | (intro hc; (first | rw [wrap_small (by omega) (by omega)] at hc | rw [nI_eq] at hc | skip); try (conv => cbv))
 ·exact leaf _ (by rw [hta, if_neg (by omega)])
 ·exact leaf _ (by rw [hta, if_neg (by omega)])
 all_goals
  refine leaf _ ?_
  rw [hta, if_pos (by omega), hat _ (get_at hx (by omega))]
 ·rw [if_pos (by omega)]
 ·rw [if_neg (by omega)]
abbrev boolsA (l : List Bool) : AV := .c (.d (boolsD l))
def ovT (t : Top) (n : Int) : Bool := validT t && decide (0 ≤ n ∧ n < t.ov.length) && t.ov.getD n.toNat false
theorem overloaded_ok (P : Program) (hP : P = Try.prog) (t : Top) (n : Int) : Ret P n_ref09_Overloaded [topA t, iA n] (bA (ovT t n)) := by
 refine ret_start (hP ▸ mixed) (hP ▸ fn_ref09_Overloaded) (hP ▸ c_ref09_Overloaded) (Nat.le_of_ble_eq_true rfl) fun Λ Λo K hK => ?_
 have hw := valid_ok P hP t
 clear hP
 have leaf : ∀ b, ovT t n = b → K (bA b) := fun b hb => by rw [← hb]; exact hK
 have hta : ovT t n = (validT t && decide (0 ≤ n ∧ n < t.ov.length) && t.ov.getD n.toNat false) := rfl
 generalize ovT t n = r at *
 generalize validT t = v at *
 obtain ⟨nodes, ov, links⟩ := t
 simp only [topA, boolsD, linksD] at *
 generalize hol : ov.map encB = ol at *
 generalize hll : links.map encLk = ll at *
 have hlo : Λ ol = ov.length := by rw [Λo, ← hol]; simp
 have hls : Λ ll = links.length := by rw [Λo, ← hll]; simp
 conv => cbv
 repeat' first | refine call_b hw rfl rfl ?_ ?_ | (intro e he; obtain ⟨x, hx, rfl⟩ := map_get' hol he; (conv => cbv)) | exact gu | exact trivial | refine And.intro ?_ ?_ | (intro hc; exact absurd hc (by decide)) | (intro hc; exfalso; omega) | (intro hc; (first | rw [wrap_small (by omega) (by omega)] at hc | rw [nI_eq] at hc | skip); try (conv => cbv))
 ·refine leaf _ (hta.trans ?_)
  rw [‹v = true›, decide_eq_true (by omega)]; simp [hx]
 ·refine leaf _ (hta.trans ?_)
  rw [decide_eq_false (by omega)]; simp
 ·refine leaf _ (hta.trans ?_)
  rw [decide_eq_false (by omega)]; simp
 ·refine leaf _ (hta.trans ?_)
  rw [hc]; simp
def upB (down : List Bool) (a : Int) : Bool := decide (down.length = 0) || !down.getD a.toNat false
theorem up_ok (P : Program) (hP : P = Try.prog) (down : List Bool) (a : Int) (h : down.length = 0 ∨ (0 ≤ a ∧ a < down.length)) : Ret P n_ref11_Up [boolsA down, iA a] (bA (upB down a)) := by
 refine ret_start (hP ▸ mixed) (hP ▸ fn_ref11_Up) (hP ▸ c_ref11_Up) (Nat.le_of_ble_eq_true rfl) fun Λ Λo K hK => ?_
 clear hP
 have leaf : ∀ b, upB down a = b → K (bA b) := fun b hb => by rw [← hb]; exact hK
 have hta : upB down a = (decide (down.length = 0) || !down.getD a.toNat false) := rfl
 generalize upB down a = r at *
 simp only [boolsA, boolsD] at *
 generalize hdl : down.map encB = dl at *
 have hdn : Λ dl = down.length := by rw [Λo, ← hdl]; simp
 conv => cbv
 repeat' first | (intro e he; obtain ⟨x, hx, rfl⟩ := map_get' hdl he; (conv => cbv)) | exact gu | exact trivial | refine And.intro ?_ ?_ | (intro hc; exact absurd hc (by decide)) | (intro hc; exfalso; omega) | (intro hc; (first | rw [wrap_small (by omega) (by omega)] at hc | rw [nI_eq] at hc | skip); try (conv => cbv))
 ·refine leaf _ (hta.trans ?_)
  rw [decide_eq_true (by omega)]; simp
 ·have e : r = !x := by
   rw [hta, decide_eq_false (by omega)]; simp [hx]
  cases x
  ·conv => cbv
   exact leaf _ e
  ·conv => cbv
   exact leaf _ e
def fitsB (t : Top) (down : List Bool) : Bool := validT t && (decide (down.length = 0) || decide (down.length = 2 * t.links.length))
theorem fits_ok (P : Program) (hP : P = Try.prog) (t : Top) (down : List Bool) : Ret P n_ref11_Fits [topA t, boolsA down] (bA (fitsB t down)) := by
 refine ret_start (hP ▸ mixed) (hP ▸ fn_ref11_Fits) (hP ▸ c_ref11_Fits) (Nat.le_of_ble_eq_true rfl) fun Λ Λo K hK => ?_
 have hw := valid_ok P hP t
 clear hP
 have h256 : validT t = true → (t.links.length : Int) ≤ 256 := fun h => (validT_spec.1 h).2.2.1
 have leaf : ∀ b, fitsB t down = b → K (bA b) := fun b hb => by rw [← hb]; exact hK
 have hta : fitsB t down = (validT t && (decide (down.length = 0) || decide (down.length = 2 * t.links.length))) := rfl
 generalize fitsB t down = r at *
 generalize validT t = v at *
 simp only [boolsA, boolsD] at *
 generalize hdl : down.map encB = dl at *
 have hdn : Λ dl = down.length := by rw [Λo, ← hdl]; simp
 obtain ⟨nodes, ov, links⟩ := t
 simp only [topA, boolsD, linksD] at *
 generalize hol : ov.map encB = ol at *
 generalize hll : links.map encLk = ll at *
 have hlo : Λ ol = ov.length := by rw [Λo, ← hol]; simp
 have hls : Λ ll = links.length := by rw [Λo, ← hll]; simp
 cases v
 all_goals (try simp only [forall_const] at h256)
 all_goals (conv => cbv)
 all_goals (repeat' first | refine call_b hw rfl rfl ?_ ?_ | (intro hc; cases hc; done) | exact gu | exact trivial | refine And.intro ?_ ?_ | (intro hc; exact absurd hc (by decide)) | (intro hc; exfalso; omega) | (intro hc; (first | rw [wrap_small (by omega) (by omega)] at hc | rw [nI_eq] at hc | skip); try (conv => cbv)))
 ·exact leaf _ (hta.trans (by simp))
 all_goals (refine leaf _ (hta.trans ?_); first | (rw [decide_eq_true (p := down.length = 0) (by omega)]; simp; done) | (rw [decide_eq_true (p := down.length = 2 * links.length) (by omega)]; simp; done) | (rw [decide_eq_false (p := down.length = 0) (by omega), decide_eq_false (p := down.length = 2 * links.length) (by omega)]; simp; done))
def transitB (t : Top) (n e : Int) : Bool := decide (n = e) || !ovT t n
theorem transit_ok (P : Program) (hP : P = Try.prog) (t : Top) (n e : Int) : Ret P n_ref11_transit [topA t, iA n, iA e] (bA (transitB t n e)) := by
 refine ret_start (hP ▸ mixed) (hP ▸ fn_ref11_transit) (hP ▸ c_ref11_transit) (Nat.le_of_ble_eq_true rfl) fun Λ Λo K hK => ?_
 have hw := overloaded_ok P hP t n
 clear hP
 have leaf : ∀ b, transitB t n e = b → K (bA b) := fun b hb => by rw [← hb]; exact hK
 have hta : transitB t n e = (decide (n = e) || !ovT t n) := rfl
 generalize transitB t n e = r at *
 generalize ovT t n = v at *
 obtain ⟨nodes, ov, links⟩ := t
 simp only [topA, boolsD, linksD] at *
 generalize hol : ov.map encB = ol at *
 generalize hll : links.map encLk = ll at *
 have hlo : Λ ol = ov.length := by rw [Λo, ← hol]; simp
 have hls : Λ ll = links.length := by rw [Λo, ← hll]; simp
 conv => cbv
 repeat' first | refine call_b hw rfl rfl ?_ ?_ | exact gu | exact trivial | refine And.intro ?_ ?_ | (intro hc; exact absurd hc (by decide)) | (intro hc; exfalso; omega) | (intro hc; (first | rw [wrap_small (by omega) (by omega)] at hc | rw [nI_eq] at hc | skip); try (conv => cbv))
 all_goals (refine leaf _ ?_; simp_all)
def arcsTo (k : Nat) : List Int := (List.range k).map fun (k : Nat) => (k : Int)
theorem arcsTo_succ (k : Nat) : arcsTo (k + 1) = arcsTo k ++ [(k : Int)] := by simp [arcsTo, List.range_succ]
end Go.Ab

/-
  Arenas, part b: the arcs of each node.
-/
namespace Go.Ab
open Go.Proofs
def endG (t : Top) (fr : Bool) (a : Int) : Int := if fr then headG t a else tailG t a
def rowG (t : Top) (fr : Bool) (n : Int) (k : Nat) : List Int := (arcsTo k).filter fun a => decide (endG t fr a = n)
def rowsG (t : Top) (fr : Bool) (k : Nat) : List (List (List D)) := (List.range t.nodes.toNat).map fun (n : Nat) => (rowG t fr (n : Int) k).map encI
def encRow (l : List Int) : List D := [intsD l]
abbrev rowsA (l : List (List Int)) : AV := .c (.d (.list false 1 (l.map encRow)))
theorem rowG_len (t : Top) (fr : Bool) (n : Int) (k : Nat) : (rowG t fr n k).length ≤ k := by
 refine Nat.le_trans (List.length_filter_le _ _) (by simp [arcsTo])
theorem rowsG_len (t : Top) (fr : Bool) (k : Nat) : (rowsG t fr k).length = t.nodes.toNat := by simp [rowsG]
theorem rowsG_at {t : Top} {fr : Bool} {k n : Nat} (h : n < t.nodes.toNat) : (rowsG t fr k)[n]? = some ((rowG t fr n k).map encI) := by
 simp [rowsG, h]
theorem rowsG_zero (t : Top) (fr : Bool) : rowsG t fr 0 = List.replicate t.nodes.toNat [] := by
 refine List.ext_getElem? fun i => ?_
 rw [List.getElem?_replicate]
 rcases Nat.lt_or_ge i t.nodes.toNat with h | h
 ·rw [rowsG_at h, if_pos h]; simp [rowG, arcsTo]
 ·rw [List.getElem?_eq_none (by rw [rowsG_len]; exact h), if_neg (by omega)]
theorem rowsG_succ {t : Top} {fr : Bool} {k j : Nat} (hj : endG t fr k = j) (_hlt : j < t.nodes.toNat) : rowsG t fr (k + 1) = (rowsG t fr k).set j ((rowG t fr j k).map encI ++ [encI k]) := by
 refine List.ext_getElem? fun i => ?_
 rcases Nat.lt_or_ge i t.nodes.toNat with h | h
 ·rw [rowsG_at h]
  by_cases e : j = i
  ·subst e
   rw [List.getElem?_set_self (by rw [rowsG_len]; exact h)]
   simp [rowG, arcsTo_succ, hj]
  ·rw [List.getElem?_set_ne e, rowsG_at h]
   simp only [rowG, arcsTo_succ, List.filter_append]
   have : decide (endG t fr k = (i : Int)) = false := by rw [hj]; simp; omega
   simp [this]
 ·rw [List.getElem?_eq_none (by rw [rowsG_len]; exact h), List.getElem?_eq_none (by rw [List.length_set, rowsG_len]; exact h)]
theorem endG_range {t : Top} (hv : validT t = true) (fr : Bool) {a : Int} (h0 : 0 ≤ a) (h1 : a < 2 * t.links.length) : 0 ≤ endG t fr a ∧ endG t fr a < t.nodes := by
 have hk := okLk_spec.1 ((validT_spec.1 hv).2.2.2 _ (List.getElem_mem (l := t.links) (n := (a / 2).toNat) (by omega)))
 have hl : lkAt t a = t.links[(a / 2).toNat]'(by omega) := by rw [lkAt, List.getElem?_eq_getElem (by omega)]; rfl
 rw [← hl] at hk
 unfold endG headG tailG
 split <;> split <;> omega
theorem rowsA_eq (t : Top) (fr : Bool) (k : Nat) : ((rowsG t fr k).map fun l => [D.list false 1 l]) = ((List.range t.nodes.toNat).map fun (n : Nat) => rowG t fr (n : Int) k).map encRow := by
 simp [rowsG, encRow, Function.comp_def]
theorem entering_ok (P : Program) (hP : P = Try.prog) (t : Top) (hv : validT t = true) : Ret P n_graph_Entering [topA t] (rowsA ((List.range t.nodes.toNat).map fun (n : Nat) => rowG t true (n : Int) (2 * t.links.length))) := by
 refine arena_start (hP ▸ mixed) (hP ▸ fn_graph_Entering) (hP ▸ c_graph_Entering) (Nat.le_of_ble_eq_true rfl) fun Λ Λo K hK => ?_
 have v1 := validT_spec.1 hv
 have ha := garcs_ok P hP t v1.2.2.1
 have hh : ∀ a : Int, 0 ≤ a → a < 2 * t.links.length → Ret P n_graph_Head [topA t, iA a] (iA (endG t true a)) := fun a h0 h1 => by
  have := ghead_ok P hP t a h0 h1 v1.2.2.1
  exact this
 have hr := fun a => endG_range hv true (a := a)
 have hn : ∃ nn : Nat, (nn : Int) = t.nodes := ⟨t.nodes.toNat, by omega⟩
 obtain ⟨nn, hnn⟩ := hn
 have rows0 := rowsG_zero t true
 have rstep := fun k j => @rowsG_succ t true k j
 have rat := fun k n => @rowsG_at t true k n
 have rfin := rowsA_eq t true (2 * t.links.length)
 have rlen := fun n k => rowG_len t true n k
 have rrl := rowsG_len t true
 rw [show t.nodes.toNat = nn by omega] at *
 generalize hrr : rowsG t true = rr at *
 rw [rowsA, ← rfin] at hK
 have rb : ∀ l ∈ rr (2 * t.links.length), l.length ≤ 9223372036854775807 := by
  intro l hl
  obtain ⟨i, hi⟩ := List.mem_iff_getElem?.1 hl
  have hlt : i < nn := by
   have := get_lt hi
   rw [← hrr, rowsG_len] at this; omega
  rw [rat _ _ hlt] at hi
  cases hi
  have := rlen i (2 * t.links.length)
  rw [List.length_map]; omega
 clear hP hv hrr rfin
 generalize endG t true = eg at *
 generalize rowG t true = rg at *
 obtain ⟨nodes, ov, links⟩ := t
 simp only [topA, boolsD, linksD] at *
 generalize hol : ov.map encB = ol at *
 generalize hll : links.map encLk = ll at *
 have hlo : Λ ol = ov.length := by rw [Λo, ← hol]; simp
 have hls : Λ ll = links.length := by rw [Λo, ← hll]; simp
 conv => cbv
 repeat' first | (left; intro (_ : Unit); (conv => cbv)) | refine call_i ha rfl rfl ?_ | exact gu | exact trivial | refine And.intro ?_ ?_ | (intro hc; exact absurd hc (by decide)) | (intro hc; exfalso; omega) | (intro hc; (first | rw [wrap_small (by omega) (by omega)] at hc | rw [nI_eq] at hc | skip); try (conv => cbv))
 rename_i k0 es0 hk0 hes0 n0
 have hk1 : k0 = nn := by omega
 subst hk1
 rw [show nodes.toNat = k0 by omega] at hes0
 refine loop_up (2 * links.length) (fun (s : Int × List (List D) × Ar) => [(1, .c (.ptr 1 0 0 0)), (3, .c (.arr 2 0 0 k0)), (10, iA n0), (11, iA s.1)]) (fun s => [.am s.2.2, .bx [.d (.int .i64 nodes), .d (.list false 1 ol), .d (.list false 7 ll)], .da true 0 1 s.2.1]) (fun k s => s.1 = k ∧ k ≤ 2 * links.length ∧ RowsR 1 s.2.2 s.2.1 (rr k)) (0, es0, am0) (Wk.ca) ⟨rfl, by omega, by simp only; rw [rows0, hes0]; exact .nils 1 _ _⟩ (fun k s h => h.2.1) ?_
 rintro k ⟨i, es, m⟩ Q' ⟨hi, hk, hrow⟩ norm ex rt
 simp only at hi hrow
 have lel : es.length = k0 := by rw [hrow.len, rrl]
 by_cases hlt : k < 2 * links.length
 ·obtain ⟨r1, r2⟩ := hr i (by omega) (by omega)
  obtain ⟨j, hj⟩ : ∃ j : Nat, (j : Int) = eg i := ⟨(eg i).toNat, by omega⟩
  have hjn : j < k0 := by omega
  have hej : es[j]? = some (es[j]'(by omega)) := List.getElem?_eq_getElem _
  obtain ⟨d, hd⟩ := hrow.one j _ hej
  rw [hd] at hej
  have hrj := rat k j hjn
  have hst := rstep k j (by rw [← hi]; exact hj.symm) hjn
  rw [← hi] at hst
  have hrl : ((rg j k).map encI).length ≤ k := by rw [List.length_map]; exact rlen _ _
  have hra : ∀ e ∈ (rg j k).map encI ++ [encI i], e.length = 1 := by
   intro e he
   rcases List.mem_append.1 he with he | he
   ·obtain ⟨x, _, rfl⟩ := List.mem_map.1 he; rfl
   ·rw [List.mem_singleton.1 he]; rfl
  generalize (rg j k).map encI = row at *
  obtain ⟨nr, hnr⟩ : ∃ n : Nat, n = row.length := ⟨_, rfl⟩
  have hrr := hrow.row j d _ hej hrj
  unfold RowR at hrr
  rw [← hnr] at hrr
  rcases hrr with ⟨rfl, rfl⟩ | ⟨b, N, cap, rfl, hm, hs, hc1, hc2⟩
  ·conv => cbv
   repeat' first | (refine ex _ _ _ ?_; (conv => cbv)) | (refine rt _ _ ?_; (conv => cbv)) | (intro (_ : Unit); refine ⟨(fun hq => by cases hq), ?_⟩; simp only [List.length_cons, List.length_nil]; omega) | refine call_i (hh i (by omega) (by omega)) rfl rfl ?_ | (intro (k : Nat) hk; refine (fun (hz : j = k) => ?_) ?_; rotate_left; omega; subst hz; (conv => cbv)) | (intro (e : List D) he; cases Option.some.inj (he.symm.trans hej); (conv => cbv)) | (right; intro (_ : Unit); (conv => cbv)) | (intro (b' : Nat) N' cap' k' m' hb' hk' hkc hcN hm'; (conv => cbv)) | exact gu | exact trivial | refine And.intro ?_ ?_ | (intro hc; exact absurd hc (by decide)) | (intro hc; exfalso; omega) | (intro hc; (first | rw [wrap_small (by omega) (by omega)] at hc | rw [nI_eq] at hc | skip); try (conv => cbv))
   rename_i es' hes' n1
   have hk1 : k' = 1 := by rw [hk']; rfl
   refine norm _ _ (n1, es', m') ⟨by simp only; omega, by omega, ?_⟩ (Wk.ca)
   simp only
   rw [hst, hes', hm', hk1]
   exact hrow.first (l' := [encI i]) hb' hra (by simp only [List.length_cons, List.length_nil]; omega) hcN
  ·conv => cbv
   repeat' first | (refine ex _ _ _ ?_; (conv => cbv)) | (refine rt _ _ ?_; (conv => cbv)) | (intro (_ : Unit); refine ⟨(fun hq => by cases hq), ?_⟩; simp only [List.length_cons, List.length_nil]; omega) | refine call_i (hh i (by omega) (by omega)) rfl rfl ?_ | (intro (k : Nat) hk; refine (fun (hz : j = k) => ?_) ?_; rotate_left; omega; subst hz; (conv => cbv)) | (intro (e : List D) he; cases Option.some.inj (he.symm.trans hej); (conv => cbv)) | (refine ⟨N, row, hm, rfl, hnr.symm, hs, hc1, hc2, ?_, ?_⟩) | (intro (b' : Nat) N' cap' k' m' hb' hk' hkc hcN hm'; (conv => cbv)) | exact gu | exact trivial | refine And.intro ?_ ?_ | (intro hc; exact absurd hc (by decide)) | (intro hc; exfalso; omega) | (intro hc; (first | rw [wrap_small (by omega) (by omega)] at hc | rw [nI_eq] at hc | skip); try (conv => cbv))
   rename_i es' hes' n1
   have hk1 : k' = (row ++ [encI i]).length := by rw [hk', List.length_append, hnr]; rfl
   refine norm _ _ (n1, es', m') ⟨by simp only; omega, by omega, ?_⟩ (Wk.ca)
   simp only
   rw [hst, hes', hm', hk1]
   exact hrow.more hej hb' hra (hk1 ▸ hkc) hcN
 ·conv => cbv
  repeat' first | (refine ex _ _ _ ?_; (conv => cbv)) | (refine rt _ _ ?_; (conv => cbv)) | exact gu | exact trivial | refine And.intro ?_ ?_ | (intro hc; exact absurd hc (by decide)) | (intro hc; exfalso; omega) | (intro hc; (first | rw [wrap_small (by omega) (by omega)] at hc | rw [nI_eq] at hc | skip); try (conv => cbv))
  rename_i ls
  have : ls = es := by rw [hc, List.drop_zero, List.take_of_length_le (by omega)]
  subst this
  have e : k = 2 * links.length := by omega
  subst e
  exact ⟨[.c (.d _)], ⟨.c _ _ (.d _ _ (hrow.thaw rb)), trivial⟩, hK⟩
end Go.Ab

/-
  The priority queue, part a: heaps, plainly (no program in sight).
-/
namespace Go.Ab
open Go.Proofs
def ltK (K : List Int) (a b : Int) : Prop := K.getD a.toNat 0 < K.getD b.toNat 0 ∨ (K.getD a.toNat 0 = K.getD b.toNat 0 ∧ a < b)
instance (K : List Int) (a b : Int) : Decidable (ltK K a b) := by unfold ltK; infer_instance
def leK (K : List Int) (a b : Int) : Prop := ¬ ltK K b a
theorem leK_refl (K : List Int) (a : Int) : leK K a a := by unfold leK ltK; omega
theorem leK_trans {K : List Int} {a b c : Int} (h1 : leK K a b) (h2 : leK K b c) : leK K a c := by unfold leK ltK at *; omega
theorem ltK_le {K : List Int} {a b : Int} (h : ltK K a b) : leK K a b := by unfold leK ltK at *; omega
theorem leK_key {K : List Int} {a b : Int} (h : leK K a b) : K.getD a.toNat 0 ≤ K.getD b.toNat 0 := by unfold leK ltK at *; omega
abbrev at' (O : List Int) (p : Nat) : Int := O.getD p 0
structure Pre (K O : List Int) (p : Nat) : Prop where
 e1 : ∀ c, 0 < c → c < O.length → c ≠ p → (c - 1) / 2 ≠ p → leK K (at' O ((c - 1) / 2)) (at' O c)
 e2 : ∀ c, 0 < p → 0 < c → c < O.length → (c - 1) / 2 = p → leK K (at' O ((p - 1) / 2)) (at' O c)
def HO (K O : List Int) : Prop := ∀ c, 0 < c → c < O.length → leK K (at' O ((c - 1) / 2)) (at' O c)
def swp (O : List Int) (p q : Nat) : List Int := (O.set p (at' O q)).set q (at' O p)
theorem swp_len (O : List Int) (p q : Nat) : (swp O p q).length = O.length := by simp [swp]
theorem swp_at {O : List Int} {p q : Nat} (hp : p < O.length) (hq : q < O.length) (c : Nat) : at' (swp O p q) c = if c = q then at' O p else if c = p then at' O q else at' O c := by
 simp only [at', swp, List.getD_eq_getElem?_getD, List.getElem?_set, List.length_set]
 by_cases h1 : c = q
 ·subst h1; simp [hq]
 ·have h1' : ¬ q = c := fun h => h1 h.symm
  simp only [if_neg h1, if_neg h1']
  by_cases h2 : c = p
  ·subst h2; simp [hp]
  ·have h2' : ¬ p = c := fun h => h2 h.symm
   simp only [if_neg h2, if_neg h2']
theorem HO.root {K O : List Int} (h : HO K O) : ∀ c, c < O.length → leK K (at' O 0) (at' O c) := by
 intro c
 induction c using Nat.strongRecOn with
 | _ c ih =>
  intro hc
  by_cases h0 : c = 0
  ·subst h0; exact leK_refl _ _
  ·exact leK_trans (ih ((c - 1) / 2) (by omega) (by omega)) (h c (by omega) hc)
theorem Pre.up {K O : List Int} {p : Nat} (h : Pre K O p) (hp0 : 0 < p) (hp : p < O.length) (_hlt : ltK K (at' O p) (at' O ((p - 1) / 2))) : Pre K (swp O p ((p - 1) / 2)) ((p - 1) / 2) := by
 have hq : (p - 1) / 2 < O.length := by omega
 have hsw := swp_at hp hq
 have hqp : (p - 1) / 2 ≠ p := by omega
 refine ⟨fun c c0 cl cq cpq => ?_, fun c q0 c0 cl cpq => ?_⟩
 ·rw [swp_len] at cl
  rw [hsw, hsw, if_neg cpq, if_neg cq]
  by_cases h1 : c = p
  ·exact absurd (by rw [h1]) cpq
  ·rw [if_neg h1]
   by_cases h2 : (c - 1) / 2 = p
   ·rw [if_pos h2]; exact h.e2 c hp0 c0 cl h2
   ·rw [if_neg h2]; exact h.e1 c c0 cl h1 h2
 ·rw [swp_len] at cl
  have hg : ((p - 1) / 2 - 1) / 2 ≠ (p - 1) / 2 := by omega
  have hg2 : ((p - 1) / 2 - 1) / 2 ≠ p := by omega
  have e0 : leK K (at' O (((p - 1) / 2 - 1) / 2)) (at' O ((p - 1) / 2)) := h.e1 ((p - 1) / 2) q0 hq hqp (by omega)
  rw [hsw, hsw, if_neg hg, if_neg hg2]
  by_cases h1 : c = (p - 1) / 2
  ·omega
  ·rw [if_neg h1]
   by_cases h2 : c = p
   ·rw [if_pos h2]; exact e0
   ·rw [if_neg h2]
    have := h.e1 c c0 cl h2 (by omega)
    rw [cpq] at this
    exact leK_trans e0 this
structure PreD (K O : List Int) (p : Nat) : Prop where
 pre : Pre K O p
 top : 0 < p → leK K (at' O ((p - 1) / 2)) (at' O p)
theorem PreD.done {K O : List Int} {p : Nat} (h : PreD K O p) (hk : ∀ c, 0 < c → c < O.length → (c - 1) / 2 = p → leK K (at' O p) (at' O c)) : HO K O := by
 intro c c0 cl
 by_cases h1 : c = p
 ·subst h1; exact h.top c0
 ·by_cases h2 : (c - 1) / 2 = p
  ·rw [h2]; exact hk c c0 cl h2
  ·exact h.pre.e1 c c0 cl h1 h2
theorem PreD.down {K O : List Int} {p q : Nat} (h : PreD K O p) (hp : p < O.length) (hq : q < O.length) (q0 : 0 < q) (hqp : (q - 1) / 2 = p) (hlt : ltK K (at' O q) (at' O p)) (hle : ∀ c, 0 < c → c < O.length → (c - 1) / 2 = p → leK K (at' O q) (at' O c)) : PreD K (swp O p q) q := by
 have hsw := swp_at hp hq
 have hne : p ≠ q := by omega
 refine ⟨⟨fun c c0 cl cq cpq => ?_, fun c _ c0 cl cpq => ?_⟩, fun _ => ?_⟩
 ·rw [swp_len] at cl
  rw [hsw, hsw, if_neg cpq, if_neg cq]
  by_cases h1 : c = p
  ·subst h1
   rw [if_neg (by omega), if_pos rfl]
   exact h.pre.e2 q c0 q0 hq hqp
  ·rw [if_neg h1]
   by_cases h2 : (c - 1) / 2 = p
   ·rw [if_pos h2]; exact hle c c0 cl h2
   ·rw [if_neg h2]; exact h.pre.e1 c c0 cl h1 h2
 ·rw [swp_len] at cl
  rw [hsw, hsw, hqp, if_neg hne, if_pos rfl, if_neg (by omega), if_neg (by omega)]
  have := h.pre.e1 c c0 cl (by omega) (by omega)
  rw [cpq] at this
  exact this
 ·rw [hsw, hsw, hqp, if_neg hne, if_pos rfl, if_pos rfl]
  exact ltK_le hlt
end Go.Ab

/-
  The priority queue, part b: the contracts of before and swap.
-/
namespace Go.Ab
open Go.Proofs
theorem heap_start {P : Program} {f : Nat} {fn : Func} {af : AF} {args : List AV} {h : Hp} {R : AV → Hp → Prop} (hm : P.follows .mixedOrders = true) (hf : P.funcs[f]? = some fn) (hc : compF P fn = some af) (hl : args.length ≤ af.nt)
  (hv : ∀ Λ : Len, (∀ l, Λ l = (l.length : Int)) → ∀ K : AV → Hp → Prop, (∀ r h', R r h' → K r h') → vcH P Λ af args h K) : FnS P f args h R := fn_heap hm hf hc hl fun Λ h => hv Λ h _ fun _ _ h => h
abbrev hpH (vo n m : Nat) (ro : Bool) (ks ps es : List (List D)) : Hp := [.bx [.arr 1 0 0 n, .arr 2 0 0 n, .arr 3 vo 0 m], .da true 0 1 ks, .da true 0 1 ps, .da ro vo 1 es]
set_option maxHeartbeats 1000000 in
theorem before_ok (P : Program) (hP : P = Try.prog) (vo n m : Nat) (ro : Bool) (ks ps es : List (List D)) (p q i j ki kj : Int) (hp : 0 ≤ p ∧ p < m) (hq : 0 ≤ q ∧ q < m) (hei : es[p.toNat]? = some [iD i]) (hej : es[q.toNat]? = some [iD j])
  (hi : 0 ≤ i ∧ i < n) (hj : 0 ≤ j ∧ j < n) (hki : ks[i.toNat]? = some [iD ki]) (hkj : ks[j.toNat]? = some [iD kj]) :
  FnS P n_heap_Heap_before [.c (.ptr 0 0 0 0), iA p, iA q] (hpH vo n m ro ks ps es) fun r h' => r = bA (decide (ki < kj ∨ (ki = kj ∧ i < j))) ∧ h' = hpH vo n m ro ks ps es := by
 refine heap_start (hP ▸ mixed) (hP ▸ fn_heap_Heap_before) (hP ▸ c_heap_Heap_before) (Nat.le_of_ble_eq_true rfl) fun Λ Λo K hK => ?_
 clear hP
 have leaf : ∀ b : Bool, (b = true ↔ (ki < kj ∨ (ki = kj ∧ i < j))) → K (bA b) (hpH vo n m ro ks ps es) := fun b hb => hK _ _ ⟨by
  congr 3
  rw [Bool.eq_iff_iff, hb, decide_eq_true_eq], rfl⟩
 clear hK
 generalize hpn : p.toNat = pn at *
 generalize hqn : q.toNat = qn at *
 generalize hin : i.toNat = inn at *
 generalize hjn : j.toNat = jn at *
 have l1 := get_lt hei
 have l2 := get_lt hej
 have l3 := get_lt hki
 have l4 := get_lt hkj
 conv => cbv
 repeat' first | (intro (k : Nat) hk; refine (fun (hz : pn = k) => ?_) ?_; rotate_left; omega; subst hz; (conv => cbv)) | (intro (k : Nat) hk; refine (fun (hz : qn = k) => ?_) ?_; rotate_left; omega; subst hz; (conv => cbv)) | (intro (k : Nat) hk; refine (fun (hz : inn = k) => ?_) ?_; rotate_left; omega; subst hz; (conv => cbv)) | (intro (k : Nat) hk; refine (fun (hz : jn = k) => ?_) ?_; rotate_left; omega; subst hz; (conv => cbv)) | (intro (e : List D) he; cases Option.some.inj (he.symm.trans hei); (conv => cbv)) | (intro (e : List D) he; cases Option.some.inj (he.symm.trans hej); (conv => cbv)) | (intro (e : List D) he; cases Option.some.inj (he.symm.trans hki); (conv => cbv)) | (intro (e : List D) he; cases Option.some.inj (he.symm.trans hkj); (conv => cbv)) | exact gu | exact trivial | refine And.intro ?_ ?_ | (intro hc; exact absurd hc (by decide)) | (intro hc; exfalso; omega) | (intro hc; (first | rw [wrap_small (by omega) (by omega)] at hc | rw [nI_eq] at hc | skip); try (conv => cbv))
 all_goals (refine leaf _ ?_; simp; omega)
set_option maxHeartbeats 1000000 in
theorem swap_ok (P : Program) (hP : P = Try.prog) (vo n m : Nat) (ro : Bool) (ks ps es : List (List D)) (p q i j : Int) (hp : 0 ≤ p ∧ p < m) (hq : 0 ≤ q ∧ q < m) (hm : (m : Int) ≤ 1000000) (hei : es[p.toNat]? = some [iD i]) (hej : es[q.toNat]? = some [iD j])
  (hi : 0 ≤ i ∧ i < n) (hj : 0 ≤ j ∧ j < n) (hpl : ps.length = n) (hp1 : ∀ e ∈ ps, e.length = 1) :
  FnS P n_heap_Heap_swap [.c (.ptr 0 0 0 0), iA p, iA q] (hpH vo n m ro ks ps es) fun r h' => r = .tup [] ∧
   h' = hpH vo n m ro ks ((ps.set j.toNat [iD (p + 1)]).set i.toNat [iD (q + 1)]) ((es.set p.toNat [iD j]).set q.toNat [iD i]) := by
 refine heap_start (hP ▸ mixed) (hP ▸ fn_heap_Heap_swap) (hP ▸ c_heap_Heap_swap) (Nat.le_of_ble_eq_true rfl) fun Λ Λo K hK => ?_
 clear hP
 have hKx := hK _ _ ⟨rfl, rfl⟩
 clear hK
 generalize hpn : p.toNat = pn at *
 generalize hqn : q.toNat = qn at *
 generalize hin : i.toNat = inn at *
 generalize hjn : j.toNat = jn at *
 have l1 := get_lt hei
 have l2 := get_lt hej
 obtain ⟨p1, hp1v⟩ : ∃ x, x = p + 1 := ⟨_, rfl⟩
 obtain ⟨q1, hq1v⟩ : ∃ x, x = q + 1 := ⟨_, rfl⟩
 rw [← hp1v, ← hq1v] at hKx
 obtain ⟨es1, hes1⟩ : ∃ x, x = es.set pn [iD j] := ⟨_, rfl⟩
 obtain ⟨es2, hes2⟩ : ∃ x, x = es1.set qn [iD i] := ⟨_, rfl⟩
 obtain ⟨ps1, hps1⟩ : ∃ x, x = ps.set jn [iD p1] := ⟨_, rfl⟩
 obtain ⟨ps2, hps2⟩ : ∃ x, x = ps1.set inn [iD q1] := ⟨_, rfl⟩
 rw [← hps1, ← hps2, ← hes1, ← hes2] at hKx
 have hij : pn = qn → i = j := fun h => by
  subst h
  rw [hei] at hej
  simpa using hej
 have f1 : es1[qn]? = some [iD j] := by
  rw [hes1, List.getElem?_set]
  by_cases h : pn = qn
  ·rw [if_pos h, if_pos (by omega)]
  ·rw [if_neg h]; exact hej
 have f2 : es2[pn]? = some [iD j] := by
  rw [hes2, hes1, List.getElem?_set]
  by_cases h : qn = pn
  ·rw [if_pos h, List.length_set, if_pos (by omega), hij h.symm]
  ·rw [if_neg h]; simp [l1]
 have f3 : es2[qn]? = some [iD i] := by rw [hes2, hes1]; simp [l2]
 have hone : ∀ (l : List (List D)) (k : Nat), (∀ e ∈ l, e.length = 1) → k < l.length → ∃ d, l[k]? = some [d] := fun l k hl hk => by
  have h1 : l[k]? = some l[k] := List.getElem?_eq_getElem hk
  have h2 := hl _ (List.getElem_mem hk)
  obtain ⟨d, hd⟩ := List.length_eq_one_iff.1 h2
  exact ⟨d, by rw [h1, hd]⟩
 obtain ⟨d1, f4⟩ := hone ps jn hp1 (by omega)
 obtain ⟨d2, f5⟩ := hone ps1 inn (fun e he => by
  rw [hps1] at he
  rcases List.mem_or_eq_of_mem_set he with h | h
  ·exact hp1 e h
  ·rw [h]; rfl) (by rw [hps1, List.length_set]; omega)
 have l3 := get_lt f4
 have l4 := get_lt f5
 have l5 : es1.length = es.length := by rw [hes1, List.length_set]
 have l6 : es2.length = es.length := by rw [hes2, List.length_set, l5]
 clear hone hij hp1
 conv => cbv
 repeat' first | (intro (k : Nat) hk; refine (fun (hz : pn = k) => ?_) ?_; rotate_left; omega; subst hz; (conv => cbv)) | (intro (k : Nat) hk; refine (fun (hz : qn = k) => ?_) ?_; rotate_left; omega; subst hz; (conv => cbv)) | (intro (k : Nat) hk; refine (fun (hz : inn = k) => ?_) ?_; rotate_left; omega; subst hz; (conv => cbv)) | (intro (k : Nat) hk; refine (fun (hz : jn = k) => ?_) ?_; rotate_left; omega; subst hz; (conv => cbv)) | (intro (k : Int) hk; rw [wrap_small (by omega) (by omega)] at hk; refine (fun (hz : p1 = k) => ?_) ?_; rotate_left; omega; subst hz; (conv => cbv)) | (intro (k : Int) hk; rw [wrap_small (by omega) (by omega)] at hk; refine (fun (hz : q1 = k) => ?_) ?_; rotate_left; omega; subst hz; (conv => cbv)) | (intro (e : List D) he; cases Option.some.inj (he.symm.trans hei); (conv => cbv)) | (intro (e : List D) he; cases Option.some.inj (he.symm.trans hej); (conv => cbv)) | (intro (e : List D) he; cases Option.some.inj (he.symm.trans f1); (conv => cbv)) | (intro (e : List D) he; cases Option.some.inj (he.symm.trans f2); (conv => cbv)) | (intro (e : List D) he; cases Option.some.inj (he.symm.trans f3); (conv => cbv)) | (intro (e : List D) he; cases Option.some.inj (he.symm.trans f4); (conv => cbv)) | (intro (e : List D) he; cases Option.some.inj (he.symm.trans f5); (conv => cbv)) | (intro (x : List (List D)) (hx : x = es.set pn [iD j]); refine (fun (hz : es1 = x) => ?_) (hes1.trans hx.symm); subst hz; (conv => cbv)) | (intro (x : List (List D)) (hx : x = es1.set qn [iD i]); refine (fun (hz : es2 = x) => ?_) (hes2.trans hx.symm); subst hz; (conv => cbv)) | (intro (x : List (List D)) (hx : x = ps.set jn [iD p1]); refine (fun (hz : ps1 = x) => ?_) (hps1.trans hx.symm); subst hz; (conv => cbv)) | (intro (x : List (List D)) (hx : x = ps1.set inn [iD q1]); refine (fun (hz : ps2 = x) => ?_) (hps2.trans hx.symm); subst hz; (conv => cbv)) | exact gu | exact trivial | refine And.intro ?_ ?_ | (intro hc; exact absurd hc (by decide)) | (intro hc; exfalso; omega) | (intro hc; (first | rw [wrap_small (by omega) (by omega)] at hc | rw [nI_eq] at hc | skip); try (conv => cbv))
 all_goals exact hKx
end Go.Ab

/-
  The priority queue, part c: keys, places and order fit together; contracts on lists of integers.
-/
namespace Go.Ab
open Go.Proofs
theorem at_set (l : List Int) (a : Nat) (v : Int) (c : Nat) : at' (l.set a v) c = if a = c ∧ a < l.length then v else at' l c := by
 simp only [at', List.getD_eq_getElem?_getD, List.getElem?_set]
 by_cases h1 : a = c
 ·subst h1
  by_cases h2 : a < l.length
  ·simp [h2]
  ·simp [h2]
 ·simp [h1]
theorem at_some {l : List Int} {p : Nat} (h : p < l.length) : l[p]? = some (at' l p) := by
 rw [at', List.getD_eq_getElem?_getD, List.getElem?_eq_getElem h]; rfl
structure HW (n : Nat) (K L O : List Int) : Prop where
 kl : K.length = n
 ll : L.length = n
 rg : ∀ p, p < O.length → 0 ≤ at' O p ∧ at' O p < n ∧ at' L (at' O p).toNat = p + 1
 un : ∀ i : Nat, i < n → at' L i = 0 ∨ ∃ p, p < O.length ∧ at' O p = i
theorem HW.inj {n : Nat} {K L O : List Int} (h : HW n K L O) {p q : Nat} (hp : p < O.length) (hq : q < O.length) (he : at' O p = at' O q) : p = q := by
 have h1 := (h.rg p hp).2.2
 have h2 := (h.rg q hq).2.2
 rw [he] at h1
 omega
theorem HW.nodup {n : Nat} {K L O : List Int} (h : HW n K L O) : O.Nodup := by
 refine List.pairwise_iff_getElem.2 fun p q hp hq hpq he => ?_
 have := h.inj hp hq (by
  have h1 := at_some hp
  have h2 := at_some hq
  rw [List.getElem?_eq_getElem hp] at h1
  rw [List.getElem?_eq_getElem hq] at h2
  exact ((Option.some.inj h1).symm.trans he).trans (Option.some.inj h2))
 omega
theorem HW.swap {n : Nat} {K L O : List Int} (h : HW n K L O) {p q : Nat} (hp : p < O.length) (hq : q < O.length) :
  HW n K ((L.set (at' O q).toNat (p + 1)).set (at' O p).toNat (q + 1)) (swp O p q) := by
 have hi := h.rg p hp
 have hj := h.rg q hq
 have hl := h.ll
 refine ⟨h.kl, by simp [h.ll], fun c hc => ?_, fun i hi' => ?_⟩
 ·rw [swp_len] at hc
  have hx := h.rg c hc
  rw [swp_at hp hq]
  by_cases h1 : c = q
  ·rw [if_pos h1, at_set, if_pos ⟨rfl, by simp only [List.length_set]; omega⟩]
   exact ⟨hi.1, hi.2.1, by omega⟩
  ·rw [if_neg h1]
   by_cases h2 : c = p
   ·have hne : at' O p ≠ at' O q := fun e => h1 (h2.trans (h.inj hp hq e))
    rw [if_pos h2, at_set, if_neg (by omega), at_set, if_pos ⟨rfl, by omega⟩]
    exact ⟨hj.1, hj.2.1, by omega⟩
   ·have n1 : at' O c ≠ at' O q := fun e => h1 (h.inj hc hq e)
    have n2 : at' O c ≠ at' O p := fun e => h2 (h.inj hc hp e)
    rw [if_neg h2, at_set, if_neg (by omega), at_set, if_neg (by omega)]
    exact hx
 ·by_cases h1 : at' O p = i
  ·exact .inr ⟨q, by rw [swp_len]; exact hq, by rw [swp_at hp hq, if_pos rfl]; exact h1⟩
  ·by_cases h2 : at' O q = i
   ·by_cases h3 : p = q
    ·subst h3; exact absurd h2 h1
    ·exact .inr ⟨p, by rw [swp_len]; exact hp, by rw [swp_at hp hq, if_neg h3, if_pos rfl]; exact h2⟩
   ·rcases h.un i hi' with h3 | ⟨c, hc, h3⟩
    ·left
     rw [at_set, if_neg (by omega), at_set, if_neg (by omega)]
     exact h3
    ·right
     refine ⟨c, by rw [swp_len]; exact hc, ?_⟩
     rw [swp_at hp hq, if_neg (fun e => h2 (by rw [← e]; exact h3)), if_neg (fun e => h1 (by rw [← e]; exact h3))]
     exact h3
abbrev hqH (vo n : Nat) (ro : Bool) (K L O : List Int) (tl : List (List D)) : Hp := hpH vo n O.length ro (K.map encI) (L.map encI) (O.map encI ++ tl)
theorem enc_at {l : List Int} {p : Nat} (h : p < l.length) : (l.map encI)[p]? = some [iD (at' l p)] := by
 rw [List.getElem?_map, at_some h]; rfl
theorem enc_at2 {l : List Int} {p : Nat} (tl : List (List D)) (h : p < l.length) : (l.map encI ++ tl)[p]? = some [iD (at' l p)] := by
 rw [List.getElem?_append_left (by simpa using h), enc_at h]
theorem beforeW (P : Program) (hP : P = Try.prog) {vo n : Nat} {ro : Bool} {K L O : List Int} {tl : List (List D)} (h : HW n K L O) {p q : Nat} (hp : p < O.length) (hq : q < O.length) :
  FnS P n_heap_Heap_before [.c (.ptr 0 0 0 0), iA p, iA q] (hqH vo n ro K L O tl) fun r h' => r = bA (decide (ltK K (at' O p) (at' O q))) ∧ h' = hqH vo n ro K L O tl := by
 have hi := h.rg p hp
 have hj := h.rg q hq
 have hk := h.kl
 exact before_ok P hP vo n O.length ro _ _ _ p q (at' O p) (at' O q) (at' K (at' O p).toNat) (at' K (at' O q).toNat) (by omega) (by omega) (enc_at2 tl hp) (enc_at2 tl hq)
  (by omega) (by omega) (enc_at (by omega)) (enc_at (by omega))
theorem swapW (P : Program) (hP : P = Try.prog) {vo n : Nat} {ro : Bool} {K L O : List Int} {tl : List (List D)} (h : HW n K L O) {p q : Nat} (hp : p < O.length) (hq : q < O.length) (hm : (O.length : Int) ≤ 1000000) :
  FnS P n_heap_Heap_swap [.c (.ptr 0 0 0 0), iA p, iA q] (hqH vo n ro K L O tl) fun r h' => r = .tup [] ∧ ∃ L', h' = hqH vo n ro K L' (swp O p q) tl ∧ HW n K L' (swp O p q) := by
 have hi := h.rg p hp
 have hj := h.rg q hq
 have hk := h.kl
 have hl := h.ll
 have := swap_ok P hP vo n O.length ro (K.map encI) (L.map encI) (O.map encI ++ tl) p q (at' O p) (at' O q) (by omega) (by omega) hm (enc_at2 tl hp) (enc_at2 tl hq)
  (by omega) (by omega) (by simpa using hl) (fun e he => by
   obtain ⟨x, _, rfl⟩ := List.mem_map.1 he; rfl)
 refine this.mono fun r h' hr => ?_
 refine ⟨hr.1, _, ?_, h.swap hp hq⟩
 rw [hr.2]
 have e1 : (p : Int).toNat = p := rfl
 have e2 : (q : Int).toNat = q := rfl
 simp only [hqH, swp, List.map_set, List.length_set, e1, e2]
 rw [List.set_append_left (h := by simpa using hp), List.set_append_left (h := by simpa using hq)]
 rfl
end Go.Ab

/-
  The priority queue, part d: the contract of settle.
-/
namespace Go.Ab
open Go.Proofs
structure HQ (n m : Nat) (tl : List (List D)) (K : List Int) (ps es : List (List D)) (O : List Int) : Prop where
 pl : ∃ L : List Int, ps = L.map encI ∧ HW n K L O
 oe : es = O.map encI ++ tl
 len : O.length = m
theorem beforeQ (P : Program) (hP : P = Try.prog) {vo n m : Nat} {ro : Bool} {K O : List Int} {ks tl ps es : List (List D)} (hks : ks = K.map encI) (h : HQ n m tl K ps es O) {p q : Nat} {x y : Int} (hx : x = p) (hy : y = q) (hp : p < m) (hq : q < m) :
  FnS P n_heap_Heap_before [.c (.ptr 0 0 0 0), iA x, iA y] (hpH vo n m ro ks ps es) fun r h' => r = bA (decide (ltK K (at' O p) (at' O q))) ∧ h' = hpH vo n m ro ks ps es := by
 obtain ⟨⟨L, rfl, hw⟩, rfl, rfl⟩ := h
 subst hx hy hks
 exact beforeW P hP hw hp hq
theorem swapQ (P : Program) (hP : P = Try.prog) {vo n m : Nat} {ro : Bool} {K O : List Int} {ks tl ps es : List (List D)} (hks : ks = K.map encI) (h : HQ n m tl K ps es O) (hm : (m : Int) ≤ 1000000) {p q : Nat} {x y : Int} (hx : x = p) (hy : y = q) (hp : p < m) (hq : q < m) :
  FnS P n_heap_Heap_swap [.c (.ptr 0 0 0 0), iA x, iA y] (hpH vo n m ro ks ps es) fun r h' => r = .tup [] ∧ ∃ ps' es', h' = hpH vo n m ro ks ps' es' ∧ HQ n m tl K ps' es' (swp O p q) := by
 obtain ⟨⟨L, rfl, hw⟩, rfl, rfl⟩ := h
 subst hx hy hks
 refine (swapW P hP hw hp hq hm).mono fun r h' hr => ?_
 obtain ⟨rfl, L', rfl, hw'⟩ := hr
 exact ⟨rfl, _, _, by simp only [hqH, swp_len], ⟨L', rfl, hw'⟩, rfl, swp_len _ _ _⟩
theorem swp_mem {O : List Int} {p q : Nat} (hp : p < O.length) (hq : q < O.length) (x : Int) : x ∈ swp O p q ↔ x ∈ O := by
 have key : ∀ (A B : List Int), A.length = B.length → (∀ c, c < A.length → ∃ d, d < B.length ∧ at' A c = at' B d) → x ∈ A → x ∈ B := fun A B _ h hx => by
  obtain ⟨c, hc, rfl⟩ := List.mem_iff_getElem.1 hx
  obtain ⟨d, hd, he⟩ := h c hc
  have h1 := at_some hc
  have h2 := at_some hd
  rw [List.getElem?_eq_getElem hc] at h1
  rw [List.getElem?_eq_getElem hd] at h2
  rw [Option.some.inj h1, he, ← Option.some.inj h2]
  exact List.getElem_mem hd
 have hsw := swp_at hp hq
 constructor
 ·refine key _ _ (swp_len _ _ _) fun c hc => ?_
  rw [swp_len] at hc
  rw [hsw]
  split
  ·exact ⟨p, hp, rfl⟩
  ·split
   ·exact ⟨q, hq, rfl⟩
   ·exact ⟨c, hc, rfl⟩
 ·refine key _ _ (swp_len _ _ _).symm fun c hc => ?_
  rw [swp_len]
  by_cases h1 : c = p
  ·exact ⟨q, hq, by rw [hsw, if_pos rfl, h1]⟩
  ·by_cases h2 : c = q
   ·subst h2
    exact ⟨p, hp, by rw [hsw, if_neg (fun e => h1 e.symm), if_pos rfl]⟩
   ·exact ⟨c, hc, by rw [hsw, if_neg h2, if_neg h1]⟩
theorem ltK_trans {K : List Int} {a b c : Int} (h1 : ltK K a b) (h2 : ltK K b c) : ltK K a c := by unfold ltK at *; omega
theorem half_eq {x a b : Int} {p : Nat} (hx : x = p) (h0 : 0 < x) (hs : x ≤ 1000000) (ha : a = x - 1) (hb : b = IntKind.i64.wrap (a.tdiv 2)) : b = ((p - 1) / 2 : Nat) := by
 have : a.tdiv 2 = a / 2 := Int.tdiv_eq_ediv_of_nonneg (by omega)
 rw [this, wrap_small (by omega) (by omega)] at hb
 omega
set_option maxHeartbeats 2000000 in
theorem settle_ok (P : Program) (hP : P = Try.prog) {vo n m : Nat} {ro : Bool} {K O : List Int} {ks tl ps es : List (List D)} (hks : ks = K.map encI) (h : HQ n m tl K ps es O) (hm : (m : Int) ≤ 1000000) {p : Nat} (hp : p < m) (hpre : Pre K O p) :
  FnS P n_heap_Heap_settle [.c (.ptr 0 0 0 0), iA p] (hpH vo n m ro ks ps es) fun r h' => r = .tup [] ∧ ∃ ps' es' O', h' = hpH vo n m ro ks ps' es' ∧ HQ n m tl K ps' es' O' ∧ HO K O' ∧ ∀ x, x ∈ O' ↔ x ∈ O := by
 refine heap_start (hP ▸ mixed) (hP ▸ fn_heap_Heap_settle) (hP ▸ c_heap_Heap_settle) (Nat.le_of_ble_eq_true rfl) fun Λ Λo KK hKK => ?_
 have hbf := fun (ps es : List (List D)) (O : List Int) (h : HQ n m tl K ps es O) => @beforeQ P hP vo n m ro K O ks tl ps es hks h
 have hsw := fun (ps es : List (List D)) (O : List Int) (h : HQ n m tl K ps es O) => @swapQ P hP vo n m ro K O ks tl ps es hks h hm
 clear hP
 obtain ⟨x0, hx0⟩ : ∃ x : Int, x = p := ⟨_, rfl⟩
 rw [← hx0]
 conv => cbv
 refine loop_upx p (fun (s : Int × List (List D) × List (List D)) => [(0, .c (.ptr 0 0 0 0)), (1, iA s.1)]) (fun s => hpH vo n m ro ks s.2.1 s.2.2)
  (fun k s => ∃ (O' : List Int) (p' : Nat), s.1 = p' ∧ p' + k ≤ p ∧ HQ n m tl K s.2.1 s.2.2 O' ∧ Pre K O' p' ∧ ∀ x, x ∈ O' ↔ x ∈ O) (x0, ps, es)
  0 (fun (s : Int × List (List D) × List (List D)) => [(0, .c (.ptr 0 0 0 0)), (1, iA s.1)]) (fun s => hpH vo n m ro ks s.2.1 s.2.2)
  (fun s => ∃ (O' : List Int) (p' : Nat), s.1 = p' ∧ p' < m ∧ HQ n m tl K s.2.1 s.2.2 O' ∧ PreD K O' p' ∧ ∀ x, x ∈ O' ↔ x ∈ O)
  (Wk.ch) ⟨O, p, hx0, by omega, h, hpre, fun _ => .rfl⟩ (fun k s h => by obtain ⟨_, _, _, h, _⟩ := h; omega) ?_ ?_
 ·clear h hpre hKK
  rintro k ⟨x, ps, es⟩ Q' ⟨O', p', hx, hk, hq, hpre, hmem⟩ norm jn ex rt
  simp only at hx hq
  have hpm : p' < m := by omega
  by_cases h0 : p' = 0
  ·conv => cbv
   repeat' first | exact gu | exact trivial | refine And.intro ?_ ?_ | (intro hc; exact absurd hc (by decide)) | (intro hc; exfalso; omega) | (intro hc; (first | rw [wrap_small (by omega) (by omega)] at hc | rw [nI_eq] at hc | skip); try (conv => cbv))
   exact jn _ _ (_, _, _) ⟨O', p', hx, hpm, hq, ⟨hpre, fun h => absurd h (by omega)⟩, hmem⟩ (Wk.ch)
  ·have hol := hq.len
   conv => cbv
   repeat' first | exact gu | exact trivial | refine And.intro ?_ ?_ | (intro hc; exact absurd hc (by decide)) | (intro hc; exfalso; omega) | (intro hc; (first | rw [wrap_small (by omega) (by omega)] at hc | rw [nI_eq] at hc | skip); try (conv => cbv))
   rename_i hx1 a ha b
   have hb := half_eq hx hx1 (by omega) ha hc
   refine CallS.fn ((hbf ps es O' hq hx hb (by omega) (by omega)).mono fun r h' hr => ?_)
   obtain ⟨rfl, rfl⟩ := hr
   by_cases hlt : ltK K (at' O' p') (at' O' ((p' - 1) / 2))
   ·rw [decide_eq_true hlt]
    conv => cbv
    repeat' first | exact gu | exact trivial | refine And.intro ?_ ?_ | (intro hc; exact absurd hc (by decide)) | (intro hc; exfalso; omega) | (intro hc; (first | rw [wrap_small (by omega) (by omega)] at hc | rw [nI_eq] at hc | skip); try (conv => cbv))
    rename_i a1 ha1 b1
    have hb1 := half_eq hx hx1 (by omega) ha1 hc
    refine CallS.fn ((hsw ps es O' hq hx hb1 (by omega) (by omega)).mono fun r h' hr => ?_)
    obtain ⟨rfl, ps', es', rfl, hq'⟩ := hr
    conv => cbv
    repeat' first | exact gu | exact trivial | refine And.intro ?_ ?_ | (intro hc; exact absurd hc (by decide)) | (intro hc; exfalso; omega) | (intro hc; (first | rw [wrap_small (by omega) (by omega)] at hc | rw [nI_eq] at hc | skip); try (conv => cbv))
    rename_i a2 ha2 b2
    have hb2 := half_eq hx hx1 (by omega) ha2 hc
    exact norm _ _ (_, _, _) ⟨_, (p' - 1) / 2, hb2, by omega, hq', hpre.up (by omega) (by omega) hlt, fun y => (swp_mem (by omega) (by omega) y).trans (hmem y)⟩ (Wk.ch)
   ·rw [decide_eq_false hlt]
    conv => cbv
    repeat' first | exact gu | exact trivial | refine And.intro ?_ ?_ | (intro hc; exact absurd hc (by decide)) | (intro hc; exfalso; omega) | (intro hc; (first | rw [wrap_small (by omega) (by omega)] at hc | rw [nI_eq] at hc | skip); try (conv => cbv))
    exact jn _ _ (_, _, _) ⟨O', p', hx, hpm, hq, ⟨hpre, fun _ => hlt⟩, hmem⟩ (Wk.ch)
 ·clear h hpre hx0 x0 hp p ps es
  rintro ⟨x, ps, es⟩ ⟨O', p', hx, hpm, hq, hpre, hmem⟩
  simp only at hx hq
  conv => cbv
  refine loop_up m (fun (s : Int × List (List D) × List (List D)) => [(0, .c (.ptr 0 0 0 0)), (1, iA s.1)]) (fun s => hpH vo n m ro ks s.2.1 s.2.2)
   (fun k s => ∃ (O' : List Int) (p' : Nat), s.1 = p' ∧ p' < m ∧ k ≤ p' ∧ HQ n m tl K s.2.1 s.2.2 O' ∧ PreD K O' p' ∧ ∀ x, x ∈ O' ↔ x ∈ O) (x, ps, es)
   (Wk.ch) ⟨O', p', hx, hpm, by omega, hq, hpre, hmem⟩ (fun k s h => by obtain ⟨_, _, _, h1, h2, _⟩ := h; omega) ?_
  clear hq hx hpm hpre hmem x ps es O' p'
  rintro k ⟨x, ps, es⟩ Q' ⟨O', p', hx, hpm, hk, hq, hpre, hmem⟩ norm ex rt
  simp only at hx hq
  have hol := hq.len
  conv => cbv
  repeat' first | exact gu | exact trivial | refine And.intro ?_ ?_ | (intro hc; exact absurd hc (by decide)) | (intro hc; exfalso; omega) | (intro hc; (first | rw [wrap_small (by omega) (by omega)] at hc | rw [nI_eq] at hc | skip); try (conv => cbv))
  rename_i a ha b
  have hb : b = 2 * (p' : Int) + 1 := by omega
  clear hc ha
  refine loop_upx 2 (fun (s : Int × Int) => [(0, .c (.ptr 0 0 0 0)), (1, iA x), (4, iA s.1), (5, iA s.2)]) (fun _ => hpH vo n m ro ks ps es)
   (fun j s => ∃ l : Nat, s.1 = l ∧ s.2 = 2 * p' + 1 + (j : Int) ∧ j ≤ 2 ∧ l < m ∧ (l = p' ∨ (0 < l ∧ (l - 1) / 2 = p' ∧ ltK K (at' O' l) (at' O' p'))) ∧ ∀ c, 2 * p' + 1 ≤ c → c < 2 * p' + 1 + j → c < m → leK K (at' O' l) (at' O' c)) (x, b)
   4 (fun (s : Int) => [(0, .c (.ptr 0 0 0 0)), (1, iA x), (4, iA s)]) (fun _ => hpH vo n m ro ks ps es)
   (fun s => ∃ l : Nat, s = l ∧ l < m ∧ (l = p' ∨ (0 < l ∧ (l - 1) / 2 = p' ∧ ltK K (at' O' l) (at' O' p'))) ∧ ∀ c, 0 < c → c < m → (c - 1) / 2 = p' → leK K (at' O' l) (at' O' c))
   (Wk.ch) ⟨p', hx, by simp only; omega, by omega, hpm, .inl rfl, fun c h1 h2 => absurd h2 (by omega)⟩ (fun j s h => by obtain ⟨_, _, _, h1, _⟩ := h; exact h1) ?_ ?_
  ·clear norm ex rt hKK hb
   rintro j ⟨le, kid⟩ Q'' ⟨l, hl, hkid, hj, hlm, hcase, hmin⟩ norm jn ex rt
   simp only at hl hkid
   by_cases hin : j < 2 ∧ 2 * p' + 1 + j < m
   ·have hkn : kid = ((2 * p' + 1 + j : Nat) : Int) := by omega
    conv => cbv
    repeat' first | exact gu | exact trivial | refine And.intro ?_ ?_ | (intro hc; exact absurd hc (by decide)) | (intro hc; exfalso; omega) | (intro hc; (first | rw [wrap_small (by omega) (by omega)] at hc | rw [nI_eq] at hc | skip); try (conv => cbv))
    refine CallS.fn ((hbf ps es O' hq hkn hl (by omega) (by omega)).mono fun r h' hr => ?_)
    obtain ⟨rfl, rfl⟩ := hr
    by_cases hlt : ltK K (at' O' (2 * p' + 1 + j)) (at' O' l)
    ·rw [decide_eq_true hlt]
     conv => cbv
     repeat' first | exact gu | exact trivial | refine And.intro ?_ ?_ | (intro hc; exact absurd hc (by decide)) | (intro hc; exfalso; omega) | (intro hc; (first | rw [wrap_small (by omega) (by omega)] at hc | rw [nI_eq] at hc | skip); try (conv => cbv))
     refine norm _ _ (_, _) ?_ (Wk.ch)
     refine ⟨2 * p' + 1 + j, hkn, by simp only; omega, by omega, by omega, .inr ⟨by omega, by omega, ?_⟩, fun c h1 h2 h3 => ?_⟩
     ·rcases hcase with h | h
      ·rw [h] at hlt; exact hlt
      ·exact ltK_trans hlt h.2.2
     ·by_cases h4 : c = 2 * p' + 1 + j
      ·rw [h4]; exact leK_refl _ _
      ·exact leK_trans (ltK_le hlt) (hmin c h1 (by omega) h3)
    ·rw [decide_eq_false hlt]
     conv => cbv
     repeat' first | exact gu | exact trivial | refine And.intro ?_ ?_ | (intro hc; exact absurd hc (by decide)) | (intro hc; exfalso; omega) | (intro hc; (first | rw [wrap_small (by omega) (by omega)] at hc | rw [nI_eq] at hc | skip); try (conv => cbv))
     refine norm _ _ (_, _) ?_ (Wk.ch)
     refine ⟨l, hl, by simp only; omega, by omega, hlm, hcase, fun c h1 h2 h3 => ?_⟩
     by_cases h4 : c = 2 * p' + 1 + j
     ·rw [h4]; exact hlt
     ·exact hmin c h1 (by omega) h3
   ·have hE : ∃ l' : Nat, le = l' ∧ l' < m ∧ (l' = p' ∨ (0 < l' ∧ (l' - 1) / 2 = p' ∧ ltK K (at' O' l') (at' O' p'))) ∧ ∀ c, 0 < c → c < m → (c - 1) / 2 = p' → leK K (at' O' l') (at' O' c) :=
     ⟨l, hl, hlm, hcase, fun c h1 h2 h3 => hmin c (by omega) (by omega) h2⟩
    conv => cbv
    repeat' first | exact gu | exact trivial | refine And.intro ?_ ?_ | (intro hc; exact absurd hc (by decide)) | (intro hc; exfalso; omega) | (intro hc; (first | rw [wrap_small (by omega) (by omega)] at hc | rw [nI_eq] at hc | skip); try (conv => cbv))
    all_goals exact jn _ _ _ hE (Wk.ch)
  ·rintro le ⟨l, hl, hlm, hcase, hmin⟩
   by_cases heq : l = p'
   ·conv => cbv
    repeat' first | exact gu | exact trivial | refine And.intro ?_ ?_ | (intro hc; exact absurd hc (by decide)) | (intro hc; exfalso; omega) | (intro hc; (first | rw [wrap_small (by omega) (by omega)] at hc | rw [nI_eq] at hc | skip); try (conv => cbv))
    refine rt _ _ ?_
    conv => cbv
    rw [heq] at hmin
    exact hKK _ _ ⟨rfl, ps, es, O', rfl, hq, hpre.done (fun c h1 h2 h3 => hmin c h1 (by omega) h3), hmem⟩
   ·conv => cbv
    repeat' first | exact gu | exact trivial | refine And.intro ?_ ?_ | (intro hc; exact absurd hc (by decide)) | (intro hc; exfalso; omega) | (intro hc; (first | rw [wrap_small (by omega) (by omega)] at hc | rw [nI_eq] at hc | skip); try (conv => cbv))
    have hcase := hcase.resolve_left heq
    refine CallS.fn ((hsw ps es O' hq hx hl (by omega) (by omega)).mono fun r h' hr => ?_)
    obtain ⟨rfl, ps', es', rfl, hq'⟩ := hr
    conv => cbv
    repeat' first | exact gu | exact trivial | refine And.intro ?_ ?_ | (intro hc; exact absurd hc (by decide)) | (intro hc; exfalso; omega) | (intro hc; (first | rw [wrap_small (by omega) (by omega)] at hc | rw [nI_eq] at hc | skip); try (conv => cbv))
    exact norm _ _ (_, _, _) ⟨_, l, hl, hlm, by omega, hq', hpre.down (by omega) (by omega) hcase.1 hcase.2.1 hcase.2.2 (fun c h1 h2 h3 => hmin c h1 (by omega) h3), fun y => (swp_mem (by omega) (by omega) y).trans (hmem y)⟩ (Wk.ch)
end Go.Ab

/-
  The priority queue, part e: taking an item out, setting a key; plainly.
-/
namespace Go.Ab
open Go.Proofs
theorem key_set {K : List Int} {i : Nat} {v : Int} {a : Int} (h0 : 0 ≤ a) (h : a ≠ i) : at' (K.set i v) a.toNat = at' K a.toNat := by
 rw [at_set, if_neg (by omega)]
theorem leK_set {K : List Int} {i : Nat} {v : Int} {a b : Int} (ha : 0 ≤ a) (hb : 0 ≤ b) (hai : a ≠ i) (hbi : b ≠ i) : leK (K.set i v) a b ↔ leK K a b := by
 have h1 := key_set (K := K) (v := v) ha hai
 have h2 := key_set (K := K) (v := v) hb hbi
 simp only [at'] at h1 h2
 simp only [leK, ltK, h1, h2]
theorem at_take {O : List Int} {m p : Nat} (h : p < m) : at' (O.take m) p = at' O p := by
 simp only [at', List.getD_eq_getElem?_getD, List.getElem?_take, if_pos h]
theorem HW.key {n : Nat} {K L O : List Int} (h : HW n K L O) (i : Nat) (v : Int) : HW n (K.set i v) L O := ⟨by simp [h.kl], h.ll, h.rg, h.un⟩
theorem Pre.key {n : Nat} {K L O : List Int} (hw : HW n K L O) (h : HO K O) {p : Nat} (hp : p < O.length) {i : Nat} (hi : at' O p = i) (v : Int) : Pre (K.set i v) O p := by
 have ne : ∀ c, c < O.length → c ≠ p → at' O c ≠ i := fun c hc hcp e => hcp (hw.inj hc hp (e.trans hi.symm))
 refine ⟨fun c c0 cl cp cpp => ?_, fun c p0 c0 cl cpp => ?_⟩
 ·exact (leK_set (hw.rg _ (by omega)).1 (hw.rg _ cl).1 (ne _ (by omega) cpp) (ne _ cl cp)).2 (h c c0 cl)
 ·refine (leK_set (hw.rg _ (by omega)).1 (hw.rg _ cl).1 (ne _ (by omega) (by omega)) (ne _ cl (by omega))).2 ?_
  have h1 := h p p0 hp
  have h2 := h c c0 cl
  rw [cpp] at h2
  exact leK_trans h1 h2
theorem HW.add {n : Nat} {K L O : List Int} (h : HW n K L O) {i : Nat} (hi : i < n) (h0 : at' L i = 0) : HW n K (L.set i ((O.length : Int) + 1)) (O ++ [(i : Int)]) := by
 have hll := h.ll
 have ha : ∀ c, c < O.length → at' (O ++ [(i : Int)]) c = at' O c := fun c hc => by
  simp only [at', List.getD_eq_getElem?_getD, List.getElem?_append_left hc]
 have hb : at' (O ++ [(i : Int)]) O.length = i := by simp [at', List.getD_eq_getElem?_getD]
 refine ⟨h.kl, by simp [h.ll], fun p hp => ?_, fun j hj => ?_⟩
 ·simp only [List.length_append, List.length_cons, List.length_nil] at hp
  by_cases h1 : p = O.length
  ·subst h1
   rw [hb, at_set, if_pos ⟨rfl, by omega⟩]
   exact ⟨by omega, by omega, rfl⟩
  ·rw [ha p (by omega)]
   have h2 := h.rg p (by omega)
   have h3 : at' O p ≠ i := fun e => by
    rw [e] at h2
    have e2 : ((i : Int)).toNat = i := rfl
    rw [e2, h0] at h2
    omega
   rw [at_set, if_neg (by omega)]
   exact h2
 ·by_cases h1 : j = i
  ·subst h1; exact .inr ⟨O.length, by simp, hb⟩
  ·rw [at_set, if_neg (by omega)]
   rcases h.un j hj with h2 | ⟨p, hp, h2⟩
   ·exact .inl h2
   ·exact .inr ⟨p, by simp; omega, by rw [ha p hp]; exact h2⟩
theorem Pre.add {n : Nat} {K L O : List Int} (hw : HW n K L O) (h : HO K O) {i : Nat} (h0 : at' L i = 0) (v : Int) : Pre (K.set i v) (O ++ [(i : Int)]) O.length := by
 have ha : ∀ c, c < O.length → at' (O ++ [(i : Int)]) c = at' O c := fun c hc => by
  simp only [at', List.getD_eq_getElem?_getD, List.getElem?_append_left hc]
 have ne : ∀ c, c < O.length → at' O c ≠ i := fun c hc e => by
  have h2 := hw.rg c hc
  rw [e] at h2
  have e2 : ((i : Int)).toNat = i := rfl
  rw [e2, h0] at h2
  omega
 refine ⟨fun c c0 cl cp cpp => ?_, fun c p0 c0 cl cpp => ?_⟩
 ·simp only [List.length_append, List.length_cons, List.length_nil] at cl
  rw [ha _ (by omega), ha _ (by omega)]
  exact (leK_set (hw.rg _ (by omega)).1 (hw.rg _ (by omega)).1 (ne _ (by omega)) (ne _ (by omega))).2 (h c c0 (by omega))
 ·simp only [List.length_append, List.length_cons, List.length_nil] at cl
  omega
theorem HW.cut {n : Nat} {K L O : List Int} (h : HW n K L O) {m : Nat} (hm : O.length = m + 1) {i : Nat} (hi : at' O m = i) : HW n (K.set i 0) (L.set i 0) (O.take m) := by
 have hll := h.ll
 have hl : (O.take m).length = m := by simp [hm]
 refine ⟨by simp [h.kl], by simp [h.ll], fun p hp => ?_, fun j hj => ?_⟩
 ·rw [hl] at hp
  rw [at_take hp]
  have h2 := h.rg p (by omega)
  have h3 : at' O p ≠ i := fun e => by
   have := h.inj (p := p) (q := m) (by omega) (by omega) (e.trans hi.symm)
   omega
  rw [at_set, if_neg (by omega)]
  exact h2
 ·by_cases h1 : j = i
  ·subst h1; left; rw [at_set, if_pos ⟨rfl, by omega⟩]
  ·rw [at_set, if_neg (by omega)]
   rcases h.un j hj with h2 | ⟨p, hp, h2⟩
   ·exact .inl h2
   ·refine .inr ⟨p, ?_, ?_⟩
    ·rw [hl]
     have : p ≠ m := fun e => by rw [e, hi] at h2; omega
     omega
    ·have : p ≠ m := fun e => by rw [e, hi] at h2; omega
     rw [at_take (by omega)]; exact h2
theorem Pre.cut {n : Nat} {K L O : List Int} (hw : HW n K L O) (h : HO K O) {m p : Nat} (hm : O.length = m + 1) (hp : p ≤ m) {i : Nat} (hi : at' O p = i) : Pre (K.set i 0) ((swp O p m).take m) p := by
 have hs := swp_at (O := O) (p := p) (q := m) (by omega) (by omega)
 have hl : ((swp O p m).take m).length = m := by simp [swp_len, hm]
 have ne : ∀ c, c < O.length → c ≠ p → at' O c ≠ i := fun c hc hcp e => hcp (hw.inj hc (by omega) (e.trans hi.symm))
 have same : ∀ c, c < m → c ≠ p → at' ((swp O p m).take m) c = at' O c := fun c hc hcp => by rw [at_take hc, hs, if_neg (by omega), if_neg hcp]
 refine ⟨fun c c0 cl cp cpp => ?_, fun c p0 c0 cl cpp => ?_⟩
 ·rw [hl] at cl
  rw [same _ (by omega) cpp, same _ cl cp]
  exact (leK_set (hw.rg _ (by omega)).1 (hw.rg _ (by omega)).1 (ne _ (by omega) cpp) (ne _ (by omega) cp)).2 (h c c0 (by omega))
 ·rw [hl] at cl
  rw [same _ (by omega) (by omega), same _ cl (by omega)]
  refine (leK_set (hw.rg _ (by omega)).1 (hw.rg _ (by omega)).1 (ne _ (by omega) (by omega)) (ne _ (by omega) (by omega))).2 ?_
  have h1 := h p p0 (by omega)
  have h2 := h c c0 (by omega)
  rw [cpp] at h2
  exact leK_trans h1 h2
end Go.Ab

/-
  The priority queue, part f: the contracts of take and Pop.
-/
namespace Go.Ab
open Go.Proofs
theorem mem_take_last {n : Nat} {K L O : List Int} (hw : HW n K L O) {m : Nat} (hm : O.length = m + 1) (x : Int) : x ∈ O.take m ↔ x ∈ O ∧ x ≠ at' O m := by
 have h1 : O = O.take m ++ [at' O m] := by
  have h2 := at_some (l := O) (p := m) (by omega)
  have h3 : O.take (m + 1) = O := List.take_of_length_le (by omega)
  rw [List.take_add_one, h2] at h3
  exact h3.symm
 have nd := hw.nodup
 rw [h1, List.nodup_append] at nd
 constructor
 ·intro h
  exact ⟨List.mem_of_mem_take h, nd.2.2 x h _ (by simp)⟩
 ·rintro ⟨h, hne⟩
  rw [h1] at h
  rcases List.mem_append.1 h with h | h
  ·exact h
  ·exact absurd (List.mem_singleton.1 h) hne
theorem HQ.cut {n m M : Nat} {tl : List (List D)} {K : List Int} {ps es : List (List D)} {O : List Int} (h : HQ n M tl K ps es O) (hM : M = m + 1) {i : Nat} (hi : at' O m = i) :
  ∃ tl', HQ n m tl' (K.set i 0) (ps.set i [iD 0]) es (O.take m) := by
 obtain ⟨⟨L, rfl, hw⟩, rfl, hl⟩ := h
 refine ⟨(O.drop m).map encI ++ tl, ⟨_, ?_, hw.cut (by omega) hi⟩, ?_, ?_⟩
 ·rw [List.map_set]; rfl
 ·rw [← List.append_assoc, ← List.map_append, List.take_append_drop]
 ·simp; omega
set_option maxHeartbeats 2000000 in
theorem take_ok (P : Program) (hP : P = Try.prog) {vo n m M : Nat} {ro : Bool} {K O : List Int} {ks tl ps es : List (List D)} (hM : M = m + 1) (hks : ks = K.map encI) (h : HQ n M tl K ps es O) (hm : (M : Int) ≤ 1000000) (ho : HO K O) {p : Nat} (hp : p < M) {i : Nat} (hi : at' O p = i) :
  FnS P n_heap_Heap_take [.c (.ptr 0 0 0 0), iA p] (hpH vo n M ro ks ps es) fun r h' => r = .tup [] ∧ ∃ tl' ks' ps' es' O', h' = hpH vo n m ro ks' ps' es' ∧ ks' = (K.set i 0).map encI ∧ HQ n m tl' (K.set i 0) ps' es' O' ∧ HO (K.set i 0) O' ∧ ∀ x, x ∈ O' ↔ x ∈ O ∧ x ≠ i := by
 refine heap_start (hP ▸ mixed) (hP ▸ fn_heap_Heap_take) (hP ▸ c_heap_Heap_take) (Nat.le_of_ble_eq_true rfl) fun Λ Λo KK hKK => ?_
 obtain ⟨x, hx⟩ : ∃ x : Int, x = p := ⟨_, rfl⟩
 obtain ⟨iv, hiv⟩ : ∃ x : Int, x = i := ⟨_, rfl⟩
 rw [← hx]
 have hsw := fun {q : Nat} {y : Int} => @swapQ P hP vo n M ro K O ks tl ps es hks h hm p q x y hx
 obtain ⟨L, hL, hw⟩ := h.pl
 have hoe := h.oe
 have hol := h.len
 have f1 : es[p]? = some [iD iv] := by rw [hoe, enc_at2 tl (by omega), hi, hiv]
 have hrg := hw.rg p (by omega)
 have l1 := get_lt f1
 conv => cbv
 repeat' first | (intro (k : Nat) hk; refine (fun (hz : p = k) => ?_) ?_; rotate_left; omega; subst hz; (conv => cbv)) | (intro (e : List D) he; cases Option.some.inj (he.symm.trans f1); (conv => cbv)) | exact gu | exact trivial | refine And.intro ?_ ?_ | (intro hc; exact absurd hc (by decide)) | (intro hc; exfalso; omega) | (intro hc; (first | rw [wrap_small (by omega) (by omega)] at hc | rw [nI_eq] at hc | skip); try (conv => cbv))
 rename_i cl hcl _ la
 have hla : la = (m : Int) := by omega
 refine CallS.fn ((hsw hla hp (by omega)).mono fun r h' hr => ?_)
 obtain ⟨rfl, ps1, es1, rfl, hq1⟩ := hr
 clear hsw
 obtain ⟨tl', hq2⟩ := hq1.cut hM (i := i) (by rw [swp_at (by omega) (by omega), if_pos rfl]; exact hi)
 obtain ⟨L1, hL1, hw1⟩ := hq1.pl
 have hmem : ∀ x, x ∈ (swp O p m).take m ↔ x ∈ O ∧ x ≠ i := fun x => by
  rw [mem_take_last hw1 (by rw [swp_len]; omega), swp_mem (by omega) (by omega), swp_at (by omega) (by omega), if_pos rfl, hi]
 have hpre := Pre.cut hw ho (m := m) (p := p) (by omega) (by omega) hi
 have g1 : ps1[i]? = some [iD (at' L1 i)] := by rw [hL1]; exact enc_at (by have := hw1.ll; omega)
 have g2 : ks[i]? = some [iD (at' K i)] := by rw [hks]; exact enc_at (by have := hw.kl; omega)
 have l2 := get_lt g1
 have l3 := get_lt g2
 have l4 : ps1.length = n := by rw [hL1, List.length_map]; exact hw1.ll
 have l5 : ks.length = n := by rw [hks, List.length_map]; exact hw.kl
 have l6 : M ≤ es1.length := by rw [hq1.oe, List.length_append, List.length_map, hq1.len]; omega
 obtain ⟨ps2, hps2⟩ : ∃ x, x = ps1.set i [iD 0] := ⟨_, rfl⟩
 obtain ⟨ks2, hks2⟩ : ∃ x, x = ks.set i [iD 0] := ⟨_, rfl⟩
 rw [← hps2] at hq2
 have hks3 : ks2 = (K.set i 0).map encI := by rw [hks2, hks, List.map_set]; rfl
 have hst := @settle_ok P hP vo n m ro _ _ ks2 tl' ps2 es1 hks3 hq2 (by omega) p
 clear hP
 have hst : p < m → _ := fun a => hst a hpre
 rw [← hx] at hst
 conv => cbv
 repeat' first | (intro (k : Nat) hk; refine (fun (hz : p = k) => ?_) ?_; rotate_left; omega; subst hz; (conv => cbv)) | (intro (k : Nat) hk; refine (fun (hz : i = k) => ?_) ?_; rotate_left; omega; subst hz; (conv => cbv)) | (intro (k : Nat) hk; refine (fun (hz : m = k) => ?_) ?_; rotate_left; omega; subst hz; (conv => cbv)) | (intro (e : List D) he; cases Option.some.inj (he.symm.trans g1); (conv => cbv)) | (intro (e : List D) he; cases Option.some.inj (he.symm.trans g2); (conv => cbv)) | (intro (x : List (List D)) (hx : x = ps1.set i [iD 0]); refine (fun (hz : ps2 = x) => ?_) (hps2.trans hx.symm); subst hz; (conv => cbv)) | (intro (x : List (List D)) (hx : x = ks.set i [iD 0]); refine (fun (hz : ks2 = x) => ?_) (hks2.trans hx.symm); subst hz; (conv => cbv)) | exact gu | exact trivial | refine And.intro ?_ ?_ | (intro hc; exact absurd hc (by decide)) | (intro hc; exfalso; omega) | (intro hc; (first | rw [wrap_small (by omega) (by omega)] at hc | rw [nI_eq] at hc | skip); try (conv => cbv))
 ·refine CallS.fn ((hst (by omega)).mono fun r h' hr => ?_)
  obtain ⟨rfl, ps3, es3, O3, rfl, hq3, ho3, hm3⟩ := hr
  conv => cbv
  repeat' first | exact gu | exact trivial | refine And.intro ?_ ?_ | (intro hc; exact absurd hc (by decide)) | (intro hc; exfalso; omega) | (intro hc; (first | rw [wrap_small (by omega) (by omega)] at hc | rw [nI_eq] at hc | skip); try (conv => cbv))
  exact hKK _ _ ⟨rfl, tl', ks2, ps3, es3, O3, rfl, hks3, hq3, ho3, fun y => (hm3 y).trans (hmem y)⟩
 ·refine hKK _ _ ⟨rfl, tl', ks2, ps2, es1, _, rfl, hks3, hq2, fun c c0 cl => ?_, hmem⟩
  have e := hq2.len
  exact hpre.e1 c c0 cl (by omega) (by omega)
end Go.Ab

