/-
  Merged texts, part m.
-/
import Derived.Test.YtlmddegckmbgkaaZl
/-
  Contracts, part a: what a contract says; the data of the program and how they are laid.
-/
namespace Go.Ab
open Go.Proofs
abbrev iA (n : Int) : AV := .c (.d (.int .i64 n))
abbrev bA (b : Bool) : AV := .c (.d (.bool b))
def Ret (P : Program) (f : Nat) (args : List AV) (r : AV) : Prop := FnS P f args [] fun r' _ => pureA r' = true ∧ r' = r
theorem ret_start {P : Program} {f : Nat} {fn : Func} {af : AF} {args : List AV} {r : AV} (hm : P.follows .mixedOrders = true) (hf : P.funcs[f]? = some fn) (hc : compF P fn = some af) (hl : args.length ≤ af.nt)
  (hv : ∀ (Λ : Len), (∀ l, Λ l = (l.length : Int)) → ∀ (K : AV → Prop), K r → vcF P Λ af args K) : Ret P f args r :=
 fn_pure (K := fun r' => r' = r) hm hf hc hl fun Λ h => hv Λ h _ rfl
theorem wrap64 (x : Int) : IntKind.i64.wrap x = (x + 9223372036854775808) % 18446744073709551616 - 9223372036854775808 := by
 simp only [IntKind.wrap, IntKind.bits, IntKind.signed, Bool.true_and, decide_eq_true_eq, Nat.reduceSub, ge_iff_le]
 have e1 : (2 : Int) ^ 64 = 18446744073709551616 := by decide
 have e2 : (2 : Int) ^ 63 = 9223372036854775808 := by decide
 rw [e1, e2]
 split <;> omega
theorem wrap_small {x : Int} (h : -9223372036854775808 ≤ x) (h' : x < 9223372036854775808) : IntKind.i64.wrap x = x := by
 rw [wrap64]; omega
theorem call_b {P : Program} {m : Nat} {d : Bool} {L : Lv} {h : Hp} {f : Nat} {xs : List X} {args' : List AV} {K : Lv → AV → Hp → Prop} {b : Bool} (hf : Ret P f args' (bA b)) (ha : (evsN L xs).map fgA = args') (hp : args'.all pureA = true)
  (k1 : b = true → K L (bA true) h) (k2 : b = false → K L (bA false) h) : CallS P m d L h f xs K := by
 refine CallS.pure (r := bA b) (Or.inl ⟨args', .inl ha.symm, hp, hf⟩) ?_
 cases b
 ·exact k2 rfl
 ·exact k1 rfl
theorem call_i {P : Program} {m : Nat} {d : Bool} {L : Lv} {h : Hp} {f : Nat} {xs : List X} {args' : List AV} {K : Lv → AV → Hp → Prop} {n : Int} (hf : Ret P f args' (iA n)) (ha : (evsN L xs).map fgA = args') (hp : args'.all pureA = true)
  (k : ∀ c, c = n → K L (iA c) h) : CallS P m d L h f xs K :=
 CallS.pure (r := iA n) (Or.inl ⟨args', .inl ha.symm, hp, hf⟩) (k n rfl)
theorem call_r {P : Program} {m : Nat} {d : Bool} {L : Lv} {h : Hp} {f : Nat} {xs : List X} {args' : List AV} {K : Lv → AV → Hp → Prop} {r : AV} (hf : Ret P f args' r) (ha : (evsN L xs).map fgA = args') (hp : args'.all pureA = true)
  (k : K L r h) : CallS P m d L h f xs K :=
 CallS.pure (r := r) (Or.inl ⟨args', .inl ha.symm, hp, hf⟩) k
theorem call_z {P : Program} {m : Nat} {L : Lv} {h : Hp} {f : Nat} {xs : List X} {K : Lv → AV → Hp → Prop} (l v sz k : Nat) {r : Bool} {es : List (List D)} (hl : h[l]? = some (.da r v sz es)) (hk : k = es.length) (h1 : okL l v k L) (h2 : okH l v k h)
  (hc : CallS P m false (zL l v sz es L) (zH l v sz es 0 h) f xs K) : CallS P m false L h f xs K :=
 .wk (.fz l v sz r es hl (fun i => .inr (by rw [← lkN_eq, ← lkN_eq, lkN_z]; exact zA_ok hk (okL_get h1 i))) (zH_ok hk h2)) hc
theorem gu {p : Prop} (h : Unit → p := by
  intro (_ : Unit)
  first
   | omega
   | rfl
   | exact ⟨rfl, by omega⟩
   | (simp only [nI_eq]; omega)
   | ((repeat' first | rfl | omega | refine And.intro ?_ ?_ | (simp only [nI_eq]; omega) | (simp only [List.length_cons, List.length_nil]; omega) | exact Nat.le_of_ble_eq_true rfl); fail_if_success intros)) : Unit → p := h
theorem Wk.cw {m : Nat} {L : Lv} {h : Hp} {L' : Lv} {h' : Hp} (heap : ∃ t, h = h' ++ t := by exact ⟨_, rfl⟩) (least : m ≤ h'.length := by exact Nat.zero_le _) (refs : refsH h'.length h' = true := by rfl)
  (env : KeepL h'.length L L' := by repeat' first | exact trivial | refine And.intro ?_ ?_ | rfl) : Wk m L h L' h' := .cut heap least refs env
theorem Wk.ca {m : Nat} {L : Lv} {h : Hp} {L' : Lv} {h' : Hp} (heap : ∃ t, h = h' ++ t := by exact ⟨_, rfl⟩) (least : m ≤ h'.length := by exact Nat.le_of_ble_eq_true rfl) (refs : refsH h'.length h' = true := by rfl)
  (env : KeepL h'.length L L' := by repeat' first | exact trivial | refine And.intro ?_ ?_ | rfl) : Wk m L h L' h' := .cut heap least refs env
theorem Wk.ch {m : Nat} {L : Lv} {h : Hp} {L' : Lv} (least : m ≤ h.length := by exact Nat.le_of_ble_eq_true rfl) (refs : refsH h.length h = true := by rfl)
  (env : KeepL h.length L L' := by repeat' first | exact trivial | refine And.intro ?_ ?_ | rfl) : Wk m L h L' h := .cut ⟨[], (List.append_nil h).symm⟩ least refs env
structure Lk where
 (a b c0 c1 cap dl gr : Int)
structure Top where
 (nodes : Int) (ov : List Bool) (links : List Lk)
structure Seg where
 (kind num : Int)
 deriving DecidableEq
structure Ety where
 (arcs : List Int) (rep : Bool) (push : List Seg)
structure Tab where
 (node : Int) (to : List Ety) (down : List Int)
structure Pkt where
 (id src dst flow : Int) (stack : List Seg) (hops : Int)
instance : Inhabited Lk := ⟨⟨0, 0, 0, 0, 0, 0, 0⟩⟩
instance : Inhabited Seg := ⟨⟨0, 0⟩⟩
instance : Inhabited Ety := ⟨⟨[], false, []⟩⟩
abbrev iD (n : Int) : D := .int .i64 n
def encB (b : Bool) : List D := [.bool b]
def encI (n : Int) : List D := [.int .i64 n]
def encLk (l : Lk) : List D := [iD l.a, iD l.b, iD l.c0, iD l.c1, iD l.cap, iD l.dl, iD l.gr]
def encSeg (s : Seg) : List D := [iD s.kind, iD s.num]
abbrev intsD (l : List Int) : D := .list false 1 (l.map encI)
abbrev boolsD (l : List Bool) : D := .list false 1 (l.map encB)
abbrev segsD (l : List Seg) : D := .list false 2 (l.map encSeg)
abbrev linksD (l : List Lk) : D := .list false 7 (l.map encLk)
def encEnt (e : Ety) : List D := [intsD e.arcs, .bool e.rep, segsD e.push]
abbrev entsD (l : List Ety) : D := .list false 3 (l.map encEnt)
def topA (t : Top) : AV := .agg [.d (iD t.nodes), .d (boolsD t.ov), .d (linksD t.links)]
def segA (s : Seg) : AV := .agg [.d (iD s.kind), .d (iD s.num)]
def entA (e : Ety) : AV := .agg [.d (intsD e.arcs), .d (.bool e.rep), .d (segsD e.push)]
def tabA (x : Tab) : AV := .agg [.d (iD x.node), .d (entsD x.to), .d (intsD x.down)]
def pktA (p : Pkt) : AV := .agg [.d (iD p.id), .d (iD p.src), .d (iD p.dst), .d (iD p.flow), .d (segsD p.stack), .d (iD p.hops)]
abbrev intsA (l : List Int) : AV := .c (.d (intsD l))
abbrev segsA (l : List Seg) : AV := .c (.d (segsD l))
theorem map_get {α β : Type} {f : α → β} {l : List α} {i : Nat} {y : β} (h : (l.map f)[i]? = some y) : ∃ x, l[i]? = some x ∧ y = f x := by
 simp only [List.getElem?_map, Option.map_eq_some_iff] at h
 obtain ⟨x, h1, h2⟩ := h
 exact ⟨x, h1, h2.symm⟩
theorem map_get' {α β : Type} {f : α → β} {l : List α} {ll : List β} {i : Nat} {y : β} (hl : l.map f = ll) (h : ll[i]? = some y) : ∃ x, l[i]? = some x ∧ y = f x := by
 subst hl; exact map_get h
theorem get_at {α : Type} {l : List α} {i j : Nat} {x : α} (h : l[i]? = some x) (e : i = j) : l[j]? = some x := e ▸ h
theorem elt_at {α β : Type} {f : α → β} {l : List α} {ll : List β} (hl : l.map f = ll) {k : Nat} {i : Int} (hi : i = k) {x : α} (h : l[k]? = some x) : ll[i.toNat]? = some (f x) := by
 subst hi hl; simp [h]
theorem take_succ_get {α : Type} {l : List α} {k : Nat} {x : α} (h : l[k]? = some x) : l.take (k + 1) = l.take k ++ [x] := by
 rw [List.take_add_one, h]; rfl
theorem loop_up {m : Nat} {body : Lv → Hp → Post → Prop} {L : Lv} {h : Hp} {Q : Post} {σ : Type} (N : Nat) (S : σ → Lv) (H : σ → Hp) (Inv : Nat → σ → Prop) (s0 : σ) (wk : Wk m L h (S s0) (H s0)) (h0 : Inv 0 s0)
  (hle : ∀ k s, Inv k s → k ≤ N)
  (round : ∀ k s (Q' : Post), Inv k s → (∀ L' h' s', Inv (k + 1) s' → Wk m L' h' (S s') (H s') → Q' .normal L' h') → (∀ i L' h', Q (.exit i) L' h' → Q' (.exit i) L' h') → (∀ L' h', Q .ret L' h' → Q' .ret L' h') → body (S s) (H s) Q') :
  LoopI m body L h Q := by
 refine LoopI.mk (fun n L h => ∃ k s, Inv k s ∧ n = N - k ∧ L = S s ∧ h = H s) N (S s0) (H s0) wk ⟨0, s0, h0, rfl, rfl, rfl⟩ ?_
 rintro n L h ⟨k, s, hi, rfl, rfl, rfl⟩
 refine round k s _ hi (fun L' h' s' hi' hw => ?_) (fun i L' h' hq => ⟨L', h', .same rfl fun _ => .inr rfl, hq⟩) fun L' h' hq => hq
 have h1 := hle _ _ hi
 have h2 := hle _ _ hi'
 exact ⟨N - (k + 1), _, _, by omega, hw, k + 1, s', hi', rfl, rfl, rfl⟩
theorem loop_upx {m : Nat} {body : Lv → Hp → Post → Prop} {L : Lv} {h : Hp} {Q : Post} {σ τ : Type} (N : Nat) (S : σ → Lv) (H : σ → Hp) (Inv : Nat → σ → Prop) (s0 : σ) (i0 : Nat) (S' : τ → Lv) (H' : τ → Hp) (E : τ → Prop) (wk : Wk m L h (S s0) (H s0)) (h0 : Inv 0 s0)
  (hle : ∀ k s, Inv k s → k ≤ N)
  (round : ∀ k s (Q' : Post), Inv k s → (∀ L' h' s', Inv (k + 1) s' → Wk m L' h' (S s') (H s') → Q' .normal L' h') → (∀ L' h' s', E s' → Wk m L' h' (S' s') (H' s') → Q' (.exit i0) L' h') → (∀ i L' h', Q (.exit i) L' h' → Q' (.exit i) L' h') → (∀ L' h', Q .ret L' h' → Q' .ret L' h') → body (S s) (H s) Q')
  (rest : ∀ s, E s → Q (.exit i0) (S' s) (H' s)) :
  LoopI m body L h Q := by
 refine LoopI.mk (fun n L h => ∃ k s, Inv k s ∧ n = N - k ∧ L = S s ∧ h = H s) N (S s0) (H s0) wk ⟨0, s0, h0, rfl, rfl, rfl⟩ ?_
 rintro n L h ⟨k, s, hi, rfl, rfl, rfl⟩
 refine round k s _ hi (fun L' h' s' hi' hw => ?_) (fun L' h' s' he hw => ⟨_, _, hw, rest s' he⟩) (fun i L' h' hq => ⟨L', h', .same rfl fun _ => .inr rfl, hq⟩) fun L' h' hq => hq
 have h1 := hle _ _ hi
 have h2 := hle _ _ hi'
 exact ⟨N - (k + 1), _, _, by omega, hw, k + 1, s', hi', rfl, rfl, rfl⟩
theorem within_ok (P : Program) (hP : P = Try.prog) (n lo hi : Int) : Ret P n_ref09_within [iA n, iA lo, iA hi] (bA (decide (lo ≤ n ∧ n ≤ hi))) := by
 refine ret_start (hP ▸ mixed) (hP ▸ fn_ref09_within) (hP ▸ c_ref09_within) (Nat.le_of_ble_eq_true rfl) fun Λ Λo K hK => ?_
 clear hP
 conv => cbv
 repeat' first | exact gu | exact trivial | refine And.intro ?_ ?_ | (intro hc; exact absurd hc (by decide)) | (intro hc; exfalso; omega) | (intro hc; (first | rw [wrap_small (by omega) (by omega)] at hc | rw [nI_eq] at hc | skip); try (conv => cbv))
 all_goals (refine cast (congrArg (fun b => K (bA b)) ?_) hK; simp; omega)
end Go.Ab

/-
  Contracts, part b: topologies.
-/
namespace Go.Ab
open Go.Proofs
def okLk (n : Int) (l : Lk) : Bool :=
 decide (0 ≤ l.a ∧ l.a ≤ n - 1) && decide (0 ≤ l.b ∧ l.b ≤ n - 1) && !decide (l.a = l.b) && decide (1 ≤ l.c0 ∧ l.c0 ≤ 65535) && decide (1 ≤ l.c1 ∧ l.c1 ≤ 65535) &&
 decide (0 ≤ l.cap ∧ l.cap ≤ 1048576) && decide (1 ≤ l.dl ∧ l.dl ≤ 65536) && decide (0 ≤ l.gr ∧ l.gr ≤ 64)
def validT (t : Top) : Bool :=
 decide (1 ≤ t.nodes ∧ t.nodes ≤ 64) && (decide (t.ov.length = 0) || decide ((t.ov.length : Int) = t.nodes)) && decide (t.links.length ≤ 256) && t.links.all (okLk t.nodes)
theorem okLk_spec {n : Int} {l : Lk} : okLk n l = true ↔ (0 ≤ l.a ∧ l.a ≤ n - 1) ∧ (0 ≤ l.b ∧ l.b ≤ n - 1) ∧ l.a ≠ l.b ∧ (1 ≤ l.c0 ∧ l.c0 ≤ 65535) ∧ (1 ≤ l.c1 ∧ l.c1 ≤ 65535) ∧
  (0 ≤ l.cap ∧ l.cap ≤ 1048576) ∧ (1 ≤ l.dl ∧ l.dl ≤ 65536) ∧ (0 ≤ l.gr ∧ l.gr ≤ 64) := by
 simp only [okLk, Bool.and_eq_true, decide_eq_true_eq, Bool.not_eq_true', decide_eq_false_iff_not, and_assoc, ne_eq]
theorem validT_spec {t : Top} : validT t = true ↔ (1 ≤ t.nodes ∧ t.nodes ≤ 64) ∧ ((t.ov.length : Int) = 0 ∨ (t.ov.length : Int) = t.nodes) ∧ (t.links.length : Int) ≤ 256 ∧ ∀ l ∈ t.links, okLk t.nodes l = true := by
 simp only [validT, Bool.and_eq_true, Bool.or_eq_true, decide_eq_true_eq, List.all_eq_true, and_assoc]
 constructor
 ·rintro ⟨h1, h2, h3, h4, h5⟩; exact ⟨h1, h2, by omega, by omega, h5⟩
 ·rintro ⟨h1, h2, h3, h4, h5⟩; exact ⟨h1, h2, by omega, by omega, h5⟩
theorem valid_ok (P : Program) (hP : P = Try.prog) (t : Top) : Ret P n_ref09_Valid [topA t] (bA (validT t)) := by
 refine ret_start (hP ▸ mixed) (hP ▸ fn_ref09_Valid) (hP ▸ c_ref09_Valid) (Nat.le_of_ble_eq_true rfl) fun Λ Λo K hK => ?_
 have hw := within_ok P hP
 clear hP
 obtain ⟨nodes, ov, links⟩ := t
 simp only [topA, boolsD, linksD] at *
 generalize hol : ov.map encB = ol at *
 generalize hll : links.map encLk = ll at *
 have hlo : Λ ol = ov.length := by rw [Λo, ← hol]; simp
 have hls : Λ ll = links.length := by rw [Λo, ← hll]; simp
 have leaf : ∀ b, validT ⟨nodes, ov, links⟩ = b → K (bA b) := fun b hb => by rw [← hb]; exact hK
 have no : (validT ⟨nodes, ov, links⟩ = true → False) → K (bA false) := fun h => leaf _ (Bool.eq_false_iff.2 h)
 conv => cbv
 repeat' first | refine call_b (hw _ _ _) rfl rfl ?_ ?_ | exact gu | exact trivial | refine And.intro ?_ ?_ | (intro hc; exact absurd hc (by decide)) | (intro hc; exfalso; omega) | (intro hc; (first | rw [wrap_small (by omega) (by omega)] at hc | rw [nI_eq] at hc | skip); try (conv => cbv))
 all_goals try simp only [decide_eq_true_eq, decide_eq_false_iff_not] at *
 all_goals try (refine no fun h => ?_; obtain ⟨h1, h2, h3, h4⟩ := validT_spec.1 h; simp only at h1 h2 h3; omega)
 all_goals
  refine loop_up links.length (fun (i : Int) => [(1, .c (.ptr 0 0 0 0)), (3, iA i)]) (fun _ => [.bx [.d (.int .i64 nodes), .d (.list false 1 ol), .d (.list false 7 ll)]]) (fun k i => i = k ∧ k ≤ links.length ∧ ∀ l ∈ links.take k, okLk nodes l = true) 0 (Wk.cw) ⟨rfl, by omega, by simp⟩ (fun k s h => h.2.1) ?_
  rintro k i Q' ⟨hi, hk, hok⟩ norm ex rt
  conv => cbv
  repeat' first | (refine ex _ _ _ ?_; (conv => cbv)) | (refine rt _ _ ?_; (conv => cbv)) | refine call_b (hw _ _ _) rfl rfl ?_ ?_ | (intro e he; obtain ⟨⟨xa, xb, xc, xd, xe, xf, xg⟩, hx, rfl⟩ := map_get' hll he; (conv => cbv)) | exact gu | exact trivial | refine And.intro ?_ ?_ | (intro hc; exact absurd hc (by decide)) | (intro hc; exfalso; omega) | (intro hc; (first | rw [wrap_small (by omega) (by omega)] at hc | rw [nI_eq] at hc | skip); try (conv => cbv))
 all_goals try simp only [decide_eq_true_eq, decide_eq_false_iff_not] at *
 all_goals try (refine no fun h => ?_; obtain ⟨h1, h2, h3, h4⟩ := validT_spec.1 h; have h5 := okLk_spec.1 (h4 _ (List.mem_of_getElem? hx)); simp only at h5; omega)
 all_goals try (refine leaf _ (validT_spec.2 ⟨by assumption, by simp only; omega, by simp only; omega, fun l hl => hok l ?_⟩); rw [List.take_of_length_le (by omega)]; exact hl)
 all_goals
  refine norm _ _ _ ?_ (Wk.cw)
  refine ⟨by omega, by omega, ?_⟩
  rw [show i.toNat = k by omega] at hx
  rw [take_succ_get hx]
  intro l hl
  rcases List.mem_append.1 hl with hl | hl
  ·exact hok l hl
  ·simp only [List.mem_singleton] at hl
   subst hl
   exact okLk_spec.2 ⟨by simp only; omega, by simp only; omega, by simp only; omega, by simp only; omega, by simp only; omega, by simp only; omega, by simp only; omega, by simp only; omega⟩
def arcsT (t : Top) : Int := if validT t then 2 * t.links.length else 0
def lkAt (t : Top) (a : Int) : Lk := (t.links[(a / 2).toNat]?).getD default
def tailT (t : Top) (a : Int) : Int := if 0 ≤ a ∧ a < arcsT t then (if a % 2 = 0 then (lkAt t a).a else (lkAt t a).b) else -1
def headT (t : Top) (a : Int) : Int := if 0 ≤ a ∧ a < arcsT t then (if a % 2 = 0 then (lkAt t a).b else (lkAt t a).a) else -1
def costT (t : Top) (a : Int) : Int := if 0 ≤ a ∧ a < arcsT t then (if a % 2 = 0 then (lkAt t a).c0 else (lkAt t a).c1) else -1
theorem arcsT_le (t : Top) : arcsT t ≤ 2 * t.links.length ∧ arcsT t ≤ 512 ∧ 0 ≤ arcsT t := by
 rw [arcsT]; split
 ·rename_i h; have := (validT_spec.1 h).2.2.1; omega
 ·omega
theorem tdiv2 {x : Int} (h1 : 0 ≤ x) (h2 : x < 9223372036854775808) : IntKind.i64.wrap (x.tdiv 2) = x / 2 := by
 rw [Int.tdiv_eq_ediv_of_nonneg h1, wrap64]; omega
theorem tmod2 {x : Int} (h1 : 0 ≤ x) : x.tmod 2 = x % 2 := Int.tmod_eq_emod_of_nonneg h1
theorem arcs_ok (P : Program) (hP : P = Try.prog) (t : Top) : Ret P n_ref09_Arcs [topA t] (iA (arcsT t)) := by
 refine ret_start (hP ▸ mixed) (hP ▸ fn_ref09_Arcs) (hP ▸ c_ref09_Arcs) (Nat.le_of_ble_eq_true rfl) fun Λ Λo K hK => ?_
 have hw := valid_ok P hP t
 clear hP
 have leaf : ∀ b, arcsT t = b → K (iA b) := fun b hb => by rw [← hb]; exact hK
 have h256 : validT t = true → (t.links.length : Int) ≤ 256 := fun h => (validT_spec.1 h).2.2.1
 have ha : arcsT t = if validT t then 2 * (t.links.length : Int) else 0 := rfl
 generalize arcsT t = r at *
 generalize validT t = v at *
 cases v
 all_goals
  obtain ⟨nodes, ov, links⟩ := t
  simp only [topA, boolsD, linksD] at *
  generalize hol : ov.map encB = ol at *
  generalize hll : links.map encLk = ll at *
  have hlo : Λ ol = ov.length := by rw [Λo, ← hol]; simp
  have hls : Λ ll = links.length := by rw [Λo, ← hll]; simp
  simp only [Bool.false_eq_true, if_true, if_false, forall_const] at ha h256
  conv => cbv
  repeat' first | refine call_b hw rfl rfl ?_ ?_ | (intro hc; cases hc; done) | exact gu | exact trivial | refine And.intro ?_ ?_ | (intro hc; exact absurd hc (by decide)) | (intro hc; exfalso; omega) | (intro hc; (first | rw [wrap_small (by omega) (by omega)] at hc | rw [nI_eq] at hc | skip); try (conv => cbv))
 ·exact leaf _ ha
 ·exact leaf _ (by omega)
theorem tail_ok (P : Program) (hP : P = Try.prog) (t : Top) (a : Int) : Ret P n_ref09_Tail [topA t, iA a] (iA (tailT t a)) := by
 refine ret_start (hP ▸ mixed) (hP ▸ fn_ref09_Tail) (hP ▸ c_ref09_Tail) (Nat.le_of_ble_eq_true rfl) fun Λ Λo K hK => ?_
 have hw := arcs_ok P hP t
 clear hP
 have leaf : ∀ b, tailT t a = b → K (iA b) := fun b hb => by rw [← hb]; exact hK
 have hv2 := arcsT_le t
 have hta : tailT t a = if 0 ≤ a ∧ a < arcsT t then (if a % 2 = 0 then (lkAt t a).a else (lkAt t a).b) else -1 := rfl
 have hat : ∀ x, t.links[(a / 2).toNat]? = some x → lkAt t a = x := fun x hx => by simp [lkAt, hx]
 generalize arcsT t = v at *
 obtain ⟨nodes, ov, links⟩ := t
 simp only [topA, boolsD, linksD] at *
 generalize hol : ov.map encB = ol at *
 generalize hll : links.map encLk = ll at *
 have hlo : Λ ol = ov.length := by rw [Λo, ← hol]; simp
 have hls : Λ ll = links.length := by rw [Λo, ← hll]; simp
 conv => cbv
 repeat' first | refine call_i hw rfl rfl ?_ | (intro hc; rw [tdiv2 (by omega) (by omega)] at hc; conv => cbv) | (intro hc; rw [tmod2 (by omega)] at hc; conv => cbv) | (intro (_ : Unit); decide) | (intro e he; obtain ⟨⟨xa, xb, xc, xd, xe, xf, xg⟩, hx, rfl⟩ := map_get' hll he; (conv => cbv)) | exact gu | exact trivial | refine And.intro ?_ ?_ | (intro hc; exact absurd hc (by decide)) | (intro hc; exfalso; omega) | (intro hc; (first | rw [wrap_small (by omega) (by omega)] at hc | rw [nI_eq] at hc | skip); try (conv => cbv))
 ·exact leaf _ (by rw [hta, if_neg (by omega)])
 ·exact leaf _ (by rw [hta, if_neg (by omega)])
 all_goals
  refine leaf _ ?_
  rw [hta, if_pos (by omega), hat _ (get_at hx (by omega))]
 ·rw [if_pos (by omega)]
 ·rw [if_neg (by omega)]
theorem head_ok (P : Program) (hP : P = Try.prog) (t : Top) (a : Int) : Ret P n_ref09_Head [topA t, iA a] (iA (headT t a)) := by
 refine ret_start (hP ▸ mixed) (hP ▸ fn_ref09_Head) (hP ▸ c_ref09_Head) (Nat.le_of_ble_eq_true rfl) fun Λ Λo K hK => ?_
 have hw := arcs_ok P hP t
 have ht := tail_ok P hP t
 clear hP
 have leaf : ∀ b, headT t a = b → K (iA b) := fun b hb => by rw [← hb]; exact hK
 have hv2 := arcsT_le t
 have hta : headT t a = if 0 ≤ a ∧ a < arcsT t then (if a % 2 = 0 then (lkAt t a).b else (lkAt t a).a) else -1 := rfl
 have htt : ∀ c, tailT t c = if 0 ≤ c ∧ c < arcsT t then (if c % 2 = 0 then (lkAt t c).a else (lkAt t c).b) else -1 := fun _ => rfl
 have hlk : ∀ c, c / 2 = a / 2 → lkAt t c = lkAt t a := fun c hc => by rw [lkAt, lkAt, hc]
 have hev : arcsT t % 2 = 0 := by rw [arcsT]; split <;> omega
 generalize headT t a = r at *
 generalize hf : tailT t = f at *
 generalize arcsT t = v at *
 generalize lkAt t = lk at *
 obtain ⟨nodes, ov, links⟩ := t
 simp only [topA, boolsD, linksD] at *
 generalize hol : ov.map encB = ol at *
 generalize hll : links.map encLk = ll at *
 have hlo : Λ ol = ov.length := by rw [Λo, ← hol]; simp
 have hls : Λ ll = links.length := by rw [Λo, ← hll]; simp
 conv => cbv
 repeat' first | refine call_i hw rfl rfl ?_ | refine call_i (ht _) rfl rfl ?_ | (intro hc; rw [tdiv2 (by omega) (by omega)] at hc; conv => cbv) | (intro hc; rw [tmod2 (by omega)] at hc; conv => cbv) | (intro (_ : Unit); decide) | exact gu | exact trivial | refine And.intro ?_ ?_ | (intro hc; exact absurd hc (by decide)) | (intro hc; exfalso; omega) | (intro hc; (first | rw [wrap_small (by omega) (by omega)] at hc | rw [nI_eq] at hc | skip); try (conv => cbv))
 ·exact leaf _ (by rw [hta, if_neg (by omega)])
 ·exact leaf _ (by rw [hta, if_neg (by omega)])
 ·refine leaf _ ?_
  subst hc
  rename_i c
  rw [hta.trans (if_pos (by omega)), (htt c).trans (if_pos (by omega)), hlk c (by omega)]
  by_cases h0 : a % 2 = 0
  ·rw [if_pos h0, if_neg (by omega)]
  ·rw [if_neg h0, if_pos (by omega)]
end Go.Ab

/-
  Contracts, part c: lists.
-/
namespace Go.Ab
open Go.Proofs
theorem yes_of {K : AV → Prop} {p : Prop} [Decidable p] (hK : K (bA (decide p))) : p → K (bA true) := fun h => by rw [decide_eq_true h] at hK; exact hK
theorem no_of {K : AV → Prop} {p : Prop} [Decidable p] (hK : K (bA (decide p))) : ¬ p → K (bA false) := fun h => by rw [decide_eq_false h] at hK; exact hK
theorem mem_take_succ {α : Type} {l : List α} {k : Nat} {x y : α} (h : l[k]? = some x) : y ∈ l.take (k + 1) ↔ y ∈ l.take k ∨ y = x := by
 rw [take_succ_get h]; simp
theorem has_ok (P : Program) (hP : P = Try.prog) (l : List Int) (n : Int) : Ret P n_ref09_Has [intsA l, iA n] (bA (decide (n ∈ l))) := by
 refine ret_start (hP ▸ mixed) (hP ▸ fn_ref09_Has) (hP ▸ c_ref09_Has) (Nat.le_of_ble_eq_true rfl) fun Λ Λo K hK => ?_
 clear hP
 have yes := yes_of hK
 have no := no_of hK
 simp only [intsA, intsD] at *
 generalize llh : List.map encI l = ll at *
 have lln : Λ ll = l.length := by rw [Λo, ← llh]; simp
 conv => cbv
 refine loop_up l.length (fun i : Int => [(0, .c (.d (.list false 1 ll))), (1, iA n), (5, iA i)]) (fun _ => []) (fun k i => i = k ∧ k ≤ l.length ∧ n ∉ l.take k) 0 (Wk.cw) ⟨rfl, by omega, by simp⟩ (fun k s h => h.2.1) ?_
 rintro k i Q' ⟨hi, hk, hno⟩ norm ex rt
 conv => cbv
 repeat' first | (refine ex _ _ _ ?_; (conv => cbv)) | (refine rt _ _ ?_; (conv => cbv)) | (intro e he; obtain ⟨x, hx, rfl⟩ := map_get' llh he; (conv => cbv)) | exact gu | exact trivial | refine And.intro ?_ ?_ | (intro hc; exact absurd hc (by decide)) | (intro hc; exfalso; omega) | (intro hc; (first | rw [wrap_small (by omega) (by omega)] at hc | rw [nI_eq] at hc | skip); try (conv => cbv))
 ·subst hc; exact yes (List.mem_of_getElem? hx)
 ·refine norm _ _ _ ?_ (Wk.cw)
  exact ⟨by omega, by omega, by rw [mem_take_succ (get_at hx (by omega))]; intro h; rcases h with h | h; exact hno h; omega⟩
 ·exact no (by rw [List.take_of_length_le (by omega)] at hno; exact hno)
theorem sameSegs_ok (P : Program) (hP : P = Try.prog) (l m : List Seg) : Ret P n_ref18_Same [segsA l, segsA m] (bA (decide (l = m))) := by
 refine ret_start (hP ▸ mixed) (hP ▸ fn_ref18_Same) (hP ▸ c_ref18_Same) (Nat.le_of_ble_eq_true rfl) fun Λ Λo K hK => ?_
 clear hP
 have yes := yes_of hK
 have no := no_of hK
 simp only [segsA, segsD] at *
 generalize llh : List.map encSeg l = ll at *
 have lln : Λ ll = l.length := by rw [Λo, ← llh]; simp
 generalize mlh : List.map encSeg m = ml at *
 have mln : Λ ml = m.length := by rw [Λo, ← mlh]; simp
 conv => cbv
 repeat' first | exact gu | exact trivial | refine And.intro ?_ ?_ | (intro hc; exact absurd hc (by decide)) | (intro hc; exfalso; omega) | (intro hc; (first | rw [wrap_small (by omega) (by omega)] at hc | rw [nI_eq] at hc | skip); try (conv => cbv))
 ·exact no fun h => by subst h; omega
 refine loop_up l.length (fun i : Int => [(0, .c (.d (.list false 2 ll))), (1, .c (.d (.list false 2 ml))), (5, iA i)]) (fun _ => []) (fun k i => i = k ∧ k ≤ l.length ∧ l.take k = m.take k) 0 (Wk.cw) ⟨rfl, by omega, by simp⟩ (fun k s h => h.2.1) ?_
 rintro k i Q' ⟨hi, hk, hno⟩ norm ex rt
 conv => cbv
 repeat' first | (refine ex _ _ _ ?_; (conv => cbv)) | (refine rt _ _ ?_; (conv => cbv)) | (intro e he; obtain ⟨⟨xa, xb⟩, hx, rfl⟩ := map_get' llh he; (conv => cbv)) | (intro e he; obtain ⟨⟨ya, yb⟩, hy, rfl⟩ := map_get' mlh he; (conv => cbv)) | exact gu | exact trivial | refine And.intro ?_ ?_ | (intro hc; exact absurd hc (by decide)) | (intro hc; exfalso; omega) | (intro hc; (first | rw [wrap_small (by omega) (by omega)] at hc | rw [nI_eq] at hc | skip); try (conv => cbv))
 ·refine norm _ _ _ ?_ (Wk.cw)
  exact ⟨by omega, by omega, by rw [take_succ_get (get_at hx (by omega)), take_succ_get (get_at hy (by omega)), hno, show xa = ya by omega, show xb = yb by omega]⟩
 ·refine no fun h => hc ?_
  subst h; rw [hx] at hy; cases hy; exact ⟨rfl, rfl, trivial⟩
 ·exact yes (by rw [List.take_of_length_le (by omega), List.take_of_length_le (by omega)] at hno; exact hno)
theorem index_ok (P : Program) (hP : P = Try.prog) (l : List Int) (n : Int) : Ret P n_slices_Index_int_int [intsA l, iA n] (iA (if n ∈ l then (l.idxOf n : Int) else -1)) := by
 refine ret_start (hP ▸ mixed) (hP ▸ fn_slices_Index_int_int) (hP ▸ c_slices_Index_int_int) (Nat.le_of_ble_eq_true rfl) fun Λ Λo K hK => ?_
 clear hP
 have leaf : ∀ b : Int, (if n ∈ l then (l.idxOf n : Int) else -1) = b → K (iA b) := fun b hb => by rw [← hb]; exact hK
 simp only [intsA, intsD] at *
 generalize llh : List.map encI l = ll at *
 have lln : Λ ll = l.length := by rw [Λo, ← llh]; simp
 conv => cbv
 intro hmax
 conv => cbv
 refine loop_up l.length (fun i : Int => [(0, .c (.d (.list false 1 ll))), (1, iA n), (7, iA (Λ ll)), (8, iA i)]) (fun _ => []) (fun k i => i = k ∧ k ≤ l.length ∧ n ∉ l.take k) 0 (Wk.cw) ⟨rfl, by omega, by simp⟩ (fun k s h => h.2.1) ?_
 rintro k i Q' ⟨hi, hk, hno⟩ norm ex rt
 conv => cbv
 repeat' first | (refine ex _ _ _ ?_; (conv => cbv)) | (refine rt _ _ ?_; (conv => cbv)) | (intro e he; obtain ⟨x, hx, rfl⟩ := map_get' llh he; (conv => cbv)) | exact gu | exact trivial | refine And.intro ?_ ?_ | (intro hc; exact absurd hc (by decide)) | (intro hc; exfalso; omega) | (intro hc; (first | rw [wrap_small (by omega) (by omega)] at hc | rw [nI_eq] at hc | skip); try (conv => cbv))
 ·refine leaf _ ?_
  subst hc
  have hx := get_at hx (show i.toNat = k by omega)
  rw [if_pos (List.mem_of_getElem? hx), hi]
  congr 1
  have e : l = l.take k ++ n :: l.drop (k + 1) := by
   conv => lhs; rw [← List.take_append_drop k l]
   congr 1
   rw [List.drop_eq_getElem_cons (by have := get_lt hx; exact this)]
   congr 1
   rw [List.getElem?_eq_getElem (get_lt hx)] at hx
   exact Option.some.inj hx
  rw [e, List.idxOf_append, if_neg hno, List.idxOf_cons_self]
  simp; omega
 ·refine norm _ _ _ ?_ (Wk.cw)
  exact ⟨by omega, by omega, by rw [mem_take_succ (get_at hx (by omega))]; intro h; rcases h with h | h; exact hno h; omega⟩
 ·exact leaf _ (if_neg (by rw [List.take_of_length_le (by omega)] at hno; exact hno))
theorem contains_ok (P : Program) (hP : P = Try.prog) (l : List Int) (n : Int) : Ret P n_slices_Contains_int_int [intsA l, iA n] (bA (decide (n ∈ l))) := by
 refine ret_start (hP ▸ mixed) (hP ▸ fn_slices_Contains_int_int) (hP ▸ c_slices_Contains_int_int) (Nat.le_of_ble_eq_true rfl) fun Λ Λo K hK => ?_
 have hw := index_ok P hP l n
 clear hP
 have yes := yes_of hK
 have no := no_of hK
 have hi : (0 : Int) ≤ (if n ∈ l then (l.idxOf n : Int) else -1) ↔ n ∈ l := by split <;> simp_all <;> omega
 generalize (if n ∈ l then (l.idxOf n : Int) else -1) = r at *
 simp only [intsA, intsD] at *
 generalize llh : List.map encI l = ll at *
 have lln : Λ ll = l.length := by rw [Λo, ← llh]; simp
 conv => cbv
 repeat' first | refine call_i hw rfl rfl ?_ | exact gu | exact trivial | refine And.intro ?_ ?_ | (intro hc; exact absurd hc (by decide)) | (intro hc; exfalso; omega) | (intro hc; (first | rw [wrap_small (by omega) (by omega)] at hc | rw [nI_eq] at hc | skip); try (conv => cbv))
 ·exact yes (hi.1 (by omega))
 ·exact no fun h => by have := hi.2 h; omega
end Go.Ab

/-
  Contracts, part d: arcs, segments, the program's validity of topologies.
-/
namespace Go.Ab
open Go.Proofs
theorem twithin_ok (P : Program) (hP : P = Try.prog) (n lo hi : Int) : Ret P n_topology_within [iA n, iA lo, iA hi] (bA (decide (lo ≤ n ∧ n ≤ hi))) := by
 refine ret_start (hP ▸ mixed) (hP ▸ fn_topology_within) (hP ▸ c_topology_within) (Nat.le_of_ble_eq_true rfl) fun Λ Λo K hK => ?_
 clear hP
 have yes := yes_of hK
 have no := no_of hK
 conv => cbv
 repeat' first | exact gu | exact trivial | refine And.intro ?_ ?_ | (intro hc; exact absurd hc (by decide)) | (intro hc; exfalso; omega) | (intro hc; (first | rw [wrap_small (by omega) (by omega)] at hc | rw [nI_eq] at hc | skip); try (conv => cbv))
 ·exact yes (by omega)
 ·exact no (by omega)
 ·exact no (by omega)
theorem gnode_ok (P : Program) (hP : P = Try.prog) (t : Top) (n : Int) : Ret P n_graph_Node [topA t, iA n] (bA (decide (0 ≤ n ∧ n < t.nodes))) := by
 refine ret_start (hP ▸ mixed) (hP ▸ fn_graph_Node) (hP ▸ c_graph_Node) (Nat.le_of_ble_eq_true rfl) fun Λ Λo K hK => ?_
 clear hP
 have yes := yes_of hK
 have no := no_of hK
 obtain ⟨nodes, ov, links⟩ := t
 simp only [topA, boolsD, linksD] at *
 generalize hol : ov.map encB = ol at *
 generalize hll : links.map encLk = ll at *
 have hlo : Λ ol = ov.length := by rw [Λo, ← hol]; simp
 have hls : Λ ll = links.length := by rw [Λo, ← hll]; simp
 conv => cbv
 repeat' first | exact gu | exact trivial | refine And.intro ?_ ?_ | (intro hc; exact absurd hc (by decide)) | (intro hc; exfalso; omega) | (intro hc; (first | rw [wrap_small (by omega) (by omega)] at hc | rw [nI_eq] at hc | skip); try (conv => cbv))
 ·exact yes (by omega)
 ·exact no (by omega)
 ·exact no (by omega)
theorem tvalid_ok (P : Program) (hP : P = Try.prog) (t : Top) : Ret P n_topology_Valid [topA t] (bA (validT t)) := by
 refine ret_start (hP ▸ mixed) (hP ▸ fn_topology_Valid) (hP ▸ c_topology_Valid) (Nat.le_of_ble_eq_true rfl) fun Λ Λo K hK => ?_
 have hw := twithin_ok P hP
 have hn := gnode_ok P hP t
 clear hP
 have leaf : ∀ b, validT t = b → K (bA b) := fun b hb => by rw [← hb]; exact hK
 have no : (validT t = true → False) → K (bA false) := fun h => leaf _ (Bool.eq_false_iff.2 h)
 obtain ⟨nodes, ov, links⟩ := t
 simp only [topA, boolsD, linksD] at *
 generalize hol : ov.map encB = ol at *
 generalize hll : links.map encLk = ll at *
 have hlo : Λ ol = ov.length := by rw [Λo, ← hol]; simp
 have hls : Λ ll = links.length := by rw [Λo, ← hll]; simp
 conv => cbv
 repeat' first | refine call_b (hw _ _ _) rfl rfl ?_ ?_ | exact gu | exact trivial | refine And.intro ?_ ?_ | (intro hc; exact absurd hc (by decide)) | (intro hc; exfalso; omega) | (intro hc; (first | rw [wrap_small (by omega) (by omega)] at hc | rw [nI_eq] at hc | skip); try (conv => cbv))
 all_goals try simp only [decide_eq_true_eq, decide_eq_false_iff_not] at *
 all_goals try (refine no fun h => ?_; obtain ⟨h1, h2, h3, h4⟩ := validT_spec.1 h; simp only at h1 h2 h3; omega)
 all_goals
  refine loop_up links.length (fun (i : Int) => [(1, .c (.ptr 0 0 0 0)), (29, iA (Λ ll)), (30, iA i)]) (fun _ => [.bx [.d (.int .i64 nodes), .d (.list false 1 ol), .d (.list false 7 ll)]]) (fun k i => i = k ∧ k ≤ links.length ∧ ∀ l ∈ links.take k, okLk nodes l = true) 0 (Wk.cw) ⟨rfl, by omega, by simp⟩ (fun k s h => h.2.1) ?_
  rintro k i Q' ⟨hi, hk, hok⟩ norm ex rt
  conv => cbv
  repeat' first | (refine ex _ _ _ ?_; (conv => cbv)) | (refine rt _ _ ?_; (conv => cbv)) | refine call_b (hw _ _ _) rfl rfl ?_ ?_ | refine call_b (hn _) rfl rfl ?_ ?_ | (intro e he; obtain ⟨⟨xa, xb, xc, xd, xe, xf, xg⟩, hx, rfl⟩ := map_get' hll he; (conv => cbv)) | exact gu | exact trivial | refine And.intro ?_ ?_ | (intro hc; exact absurd hc (by decide)) | (intro hc; exfalso; omega) | (intro hc; (first | rw [wrap_small (by omega) (by omega)] at hc | rw [nI_eq] at hc | skip); try (conv => cbv))
 all_goals try simp only [decide_eq_true_eq, decide_eq_false_iff_not] at *
 all_goals try (refine no fun h => ?_; obtain ⟨h1, h2, h3, h4⟩ := validT_spec.1 h; have h5 := okLk_spec.1 (h4 _ (List.mem_of_getElem? hx)); simp only at h5; omega)
 all_goals try (refine leaf _ (validT_spec.2 ⟨by simp only; omega, by simp only; omega, by simp only; omega, fun l hl => hok l ?_⟩); rw [List.take_of_length_le (by omega)]; exact hl)
 all_goals
  refine norm _ _ _ ?_ (Wk.cw)
  refine ⟨by omega, by omega, ?_⟩
  rw [show i.toNat = k by omega] at hx
  rw [take_succ_get hx]
  intro l hl
  rcases List.mem_append.1 hl with hl | hl
  ·exact hok l hl
  ·simp only [List.mem_singleton] at hl
   subst hl
   exact okLk_spec.2 ⟨by simp only; omega, by simp only; omega, by simp only; omega, by simp only; omega, by simp only; omega, by simp only; omega, by simp only; omega, by simp only; omega⟩
theorem garcs_ok (P : Program) (hP : P = Try.prog) (t : Top) (h : (t.links.length : Int) ≤ 256) : Ret P n_graph_Arcs [topA t] (iA (2 * t.links.length)) := by
 refine ret_start (hP ▸ mixed) (hP ▸ fn_graph_Arcs) (hP ▸ c_graph_Arcs) (Nat.le_of_ble_eq_true rfl) fun Λ Λo K hK => ?_
 clear hP
 obtain ⟨nodes, ov, links⟩ := t
 simp only [topA, boolsD, linksD] at *
 generalize hol : ov.map encB = ol at *
 generalize hll : links.map encLk = ll at *
 have hlo : Λ ol = ov.length := by rw [Λo, ← hol]; simp
 have hls : Λ ll = links.length := by rw [Λo, ← hll]; simp
 conv => cbv
 repeat' first | exact gu | exact trivial | refine And.intro ?_ ?_ | (intro hc; exact absurd hc (by decide)) | (intro hc; exfalso; omega) | (intro hc; (first | rw [wrap_small (by omega) (by omega)] at hc | rw [nI_eq] at hc | skip); try (conv => cbv))
 rename_i c
 rw [show c = 2 * (links.length : Int) by omega]
 exact hK
theorem garc_ok (P : Program) (hP : P = Try.prog) (t : Top) (a : Int) (h : (t.links.length : Int) ≤ 256) : Ret P n_graph_Arc [topA t, iA a] (bA (decide (0 ≤ a ∧ a < 2 * t.links.length))) := by
 refine ret_start (hP ▸ mixed) (hP ▸ fn_graph_Arc) (hP ▸ c_graph_Arc) (Nat.le_of_ble_eq_true rfl) fun Λ Λo K hK => ?_
 have hw := garcs_ok P hP t h
 clear hP
 have yes := yes_of hK
 have no := no_of hK
 obtain ⟨nodes, ov, links⟩ := t
 simp only [topA, boolsD, linksD] at *
 generalize hol : ov.map encB = ol at *
 generalize hll : links.map encLk = ll at *
 have hlo : Λ ol = ov.length := by rw [Λo, ← hol]; simp
 have hls : Λ ll = links.length := by rw [Λo, ← hll]; simp
 conv => cbv
 repeat' first | refine call_i hw rfl rfl ?_ | exact gu | exact trivial | refine And.intro ?_ ?_ | (intro hc; exact absurd hc (by decide)) | (intro hc; exfalso; omega) | (intro hc; (first | rw [wrap_small (by omega) (by omega)] at hc | rw [nI_eq] at hc | skip); try (conv => cbv))
 ·exact yes (by omega)
 ·exact no (by omega)
 ·exact no (by omega)
def tailG (t : Top) (a : Int) : Int := if a % 2 = 0 then (lkAt t a).a else (lkAt t a).b
theorem gtail_ok (P : Program) (hP : P = Try.prog) (t : Top) (a : Int) (h0 : 0 ≤ a) (h1 : a < 2 * t.links.length) (h2 : (t.links.length : Int) ≤ 256) : Ret P n_graph_Tail [topA t, iA a] (iA (tailG t a)) := by
 refine ret_start (hP ▸ mixed) (hP ▸ fn_graph_Tail) (hP ▸ c_graph_Tail) (Nat.le_of_ble_eq_true rfl) fun Λ Λo K hK => ?_
 clear hP
 have leaf : ∀ b, tailG t a = b → K (iA b) := fun b hb => by rw [← hb]; exact hK
 have hta : tailG t a = if a % 2 = 0 then (lkAt t a).a else (lkAt t a).b := rfl
 have hat : ∀ x, t.links[(a / 2).toNat]? = some x → lkAt t a = x := fun x hx => by simp [lkAt, hx]
 obtain ⟨nodes, ov, links⟩ := t
 simp only [topA, boolsD, linksD] at *
 generalize hol : ov.map encB = ol at *
 generalize hll : links.map encLk = ll at *
 have hlo : Λ ol = ov.length := by rw [Λo, ← hol]; simp
 have hls : Λ ll = links.length := by rw [Λo, ← hll]; simp
 conv => cbv
 repeat' first | (intro hc; rw [tdiv2 (by omega) (by omega)] at hc; conv => cbv) | (intro hc; rw [tmod2 (by omega)] at hc; conv => cbv) | (intro (_ : Unit); decide) | (intro e he; obtain ⟨⟨xa, xb, xc, xd, xe, xf, xg⟩, hx, rfl⟩ := map_get' hll he; (conv => cbv)) | exact gu | exact trivial | refine And.intro ?_ ?_ | (intro hc; exact absurd hc (by decide)) | (intro hc; exfalso; omega) | (intro hc; (first | rw [wrap_small (by omega) (by omega)] at hc | rw [nI_eq] at hc | skip); try (conv => cbv))
 ·exact leaf _ (by rw [hta, if_pos (by omega), hat _ (get_at hx (by omega))])
 ·exact leaf _ (by rw [hta, if_neg (by omega), hat _ (get_at hx (by omega))])
def segB (t : Top) (s : Seg) : Bool := decide (0 ≤ s.num) && (decide (s.kind = 1 ∧ s.num < t.nodes) || decide (s.kind = 2 ∧ s.num < 2 * t.links.length) || decide (s.kind = 3 ∧ 1 ≤ s.num ∧ s.num ≤ 64) || decide (s.kind = 4 ∧ s.num ≤ 65535))
theorem segB_spec {t : Top} {s : Seg} : segB t s = true ↔ 0 ≤ s.num ∧ ((s.kind = 1 ∧ s.num < t.nodes) ∨ (s.kind = 2 ∧ s.num < 2 * t.links.length) ∨ (s.kind = 3 ∧ 1 ≤ s.num ∧ s.num ≤ 64) ∨ (s.kind = 4 ∧ s.num ≤ 65535)) := by
 simp only [segB, Bool.and_eq_true, Bool.or_eq_true, decide_eq_true_eq, or_assoc]
theorem gseg_ok (P : Program) (hP : P = Try.prog) (t : Top) (s : Seg) (h : (t.links.length : Int) ≤ 256) : Ret P n_graph_Segment [topA t, segA s] (bA (segB t s)) := by
 refine ret_start (hP ▸ mixed) (hP ▸ fn_graph_Segment) (hP ▸ c_graph_Segment) (Nat.le_of_ble_eq_true rfl) fun Λ Λo K hK => ?_
 have hn := gnode_ok P hP t
 have ha := fun a => garc_ok P hP t a h
 clear hP
 have leaf : ∀ b, segB t s = b → K (bA b) := fun b hb => by rw [← hb]; exact hK
 have yes : (0 ≤ s.num ∧ ((s.kind = 1 ∧ s.num < t.nodes) ∨ (s.kind = 2 ∧ s.num < 2 * t.links.length) ∨ (s.kind = 3 ∧ 1 ≤ s.num ∧ s.num ≤ 64) ∨ (s.kind = 4 ∧ s.num ≤ 65535))) → K (bA true) := fun h => leaf _ (segB_spec.2 h)
 have no : ¬ (0 ≤ s.num ∧ ((s.kind = 1 ∧ s.num < t.nodes) ∨ (s.kind = 2 ∧ s.num < 2 * t.links.length) ∨ (s.kind = 3 ∧ 1 ≤ s.num ∧ s.num ≤ 64) ∨ (s.kind = 4 ∧ s.num ≤ 65535))) → K (bA false) := fun h => leaf _ (Bool.eq_false_iff.2 fun h' => h (segB_spec.1 h'))
 clear leaf hK
 obtain ⟨kind, num⟩ := s
 simp only [segA] at *
 obtain ⟨nodes, ov, links⟩ := t
 simp only [topA, boolsD, linksD] at *
 generalize hol : ov.map encB = ol at *
 generalize hll : links.map encLk = ll at *
 have hlo : Λ ol = ov.length := by rw [Λo, ← hol]; simp
 have hls : Λ ll = links.length := by rw [Λo, ← hll]; simp
 conv => cbv
 repeat' first | refine call_b (hn _) rfl rfl ?_ ?_ | refine call_b (ha _) rfl rfl ?_ ?_ | exact gu | exact trivial | refine And.intro ?_ ?_ | (intro hc; exact absurd hc (by decide)) | (intro hc; exfalso; omega) | (intro hc; (first | rw [wrap_small (by omega) (by omega)] at hc | rw [nI_eq] at hc | skip); try (conv => cbv))
 all_goals try simp only [decide_eq_true_eq, decide_eq_false_iff_not] at *
 all_goals first | (refine yes ?_; omega) | (refine no ?_; omega)
theorem rseg_ok (P : Program) (hP : P = Try.prog) (t : Top) (s : Seg) : Ret P n_ref18_Valid [topA t, segA s] (bA (validT t && segB t s)) := by
 refine ret_start (hP ▸ mixed) (hP ▸ fn_ref18_Valid) (hP ▸ c_ref18_Valid) (Nat.le_of_ble_eq_true rfl) fun Λ Λo K hK => ?_
 have hn := valid_ok P hP t
 have ha := arcs_ok P hP t
 clear hP
 have hb : validT t = true → arcsT t = 2 * t.links.length := fun h => by rw [arcsT, if_pos h]
 have leaf : ∀ b, (validT t && segB t s) = b → K (bA b) := fun b hb => by rw [← hb]; exact hK
 have yes : (validT t = true ∧ 0 ≤ s.num ∧ ((s.kind = 1 ∧ s.num < t.nodes) ∨ (s.kind = 2 ∧ s.num < 2 * t.links.length) ∨ (s.kind = 3 ∧ 1 ≤ s.num ∧ s.num ≤ 64) ∨ (s.kind = 4 ∧ s.num ≤ 65535))) → K (bA true) := fun h => leaf _ (by rw [h.1, segB_spec.2 h.2]; rfl)
 have no : (validT t = true → ¬ (0 ≤ s.num ∧ ((s.kind = 1 ∧ s.num < t.nodes) ∨ (s.kind = 2 ∧ s.num < 2 * t.links.length) ∨ (s.kind = 3 ∧ 1 ≤ s.num ∧ s.num ≤ 64) ∨ (s.kind = 4 ∧ s.num ≤ 65535)))) → K (bA false) := fun h => leaf _ (by
  cases hv : validT t with
  | false => rfl
  | true => exact Bool.eq_false_iff.2 fun h' => h hv (segB_spec.1 h'))
 clear leaf hK
 generalize validT t = v at *
 generalize arcsT t = r at *
 obtain ⟨kind, num⟩ := s
 simp only [segA] at *
 obtain ⟨nodes, ov, links⟩ := t
 simp only [topA, boolsD, linksD] at *
 generalize hol : ov.map encB = ol at *
 generalize hll : links.map encLk = ll at *
 have hlo : Λ ol = ov.length := by rw [Λo, ← hol]; simp
 have hls : Λ ll = links.length := by rw [Λo, ← hll]; simp
 conv => cbv
 repeat' first | refine call_b hn rfl rfl ?_ ?_ | refine call_i ha rfl rfl ?_ | exact gu | exact trivial | refine And.intro ?_ ?_ | (intro hc; exact absurd hc (by decide)) | (intro hc; exfalso; omega) | (intro hc; (first | rw [wrap_small (by omega) (by omega)] at hc | rw [nI_eq] at hc | skip); try (conv => cbv))
 all_goals first | (refine no fun h => ?_; have := hb h; omega) | (refine no fun h => ?_; exact absurd (h.symm.trans ‹v = false›) (by simp)) | (refine yes ⟨‹v = true›, ?_⟩; have := hb ‹v = true›; omega)
end Go.Ab

/-
  Contracts, part e: tables.
-/
namespace Go.Ab
open Go.Proofs
def outAt (t : Top) (n : Int) (l : List Int) (i : Nat) : Bool := decide (tailT t (l.getD i 0) = n) && (decide (i = 0) || decide (l.getD (i - 1) 0 < l.getD i 0))
def outB (t : Top) (n : Int) (l : List Int) : Bool := (List.range l.length).all (outAt t n l)
theorem outB_spec {t : Top} {n : Int} {l : List Int} : outB t n l = true ↔ ∀ i, i < l.length → outAt t n l i = true := by
 simp [outB, List.all_eq_true]
theorem getD_at {α : Type} {l : List α} {i : Nat} {x d : α} (h : l[i]? = some x) : l.getD i d = x := by
 simp [List.getD, h]
theorem outAt_yes {t : Top} {n : Int} {l : List Int} {i : Nat} {x : Int} (hx : l[i]? = some x) (h1 : tailT t x = n) (h2 : i = 0 ∨ ∃ y, l[i - 1]? = some y ∧ y < x) : outAt t n l i = true := by
 simp only [outAt, getD_at hx, h1, decide_true, Bool.true_and, Bool.or_eq_true, decide_eq_true_eq]
 rcases h2 with h2 | ⟨y, hy, h2⟩
 ·exact .inl h2
 ·exact .inr (by rw [getD_at hy]; exact h2)
theorem outAt_no {t : Top} {n : Int} {l : List Int} {i : Nat} {x : Int} (hx : l[i]? = some x) (h : tailT t x ≠ n ∨ (i ≠ 0 ∧ ∃ y, l[i - 1]? = some y ∧ x ≤ y)) : ¬ outAt t n l i = true := by
 simp only [outAt, getD_at hx, Bool.and_eq_true, Bool.or_eq_true, decide_eq_true_eq]
 rintro ⟨h1, h2⟩
 rcases h with h | ⟨h0, y, hy, h⟩
 ·exact h h1
 ·rcases h2 with h2 | h2
  ·exact h0 h2
  ·rw [getD_at hy] at h2; omega
theorem tailT_valid {t : Top} {a : Int} (hv : validT t = true) (h0 : 0 ≤ a) (h1 : a < 2 * t.links.length) : tailT t a = tailG t a := by
 rw [tailT, arcsT, if_pos hv, if_pos ⟨h0, h1⟩]; rfl
theorem tailT_none {t : Top} {a : Int} (hv : validT t = true) (h : ¬ (0 ≤ a ∧ a < 2 * t.links.length)) : tailT t a = -1 := by
 rw [tailT, arcsT, if_pos hv, if_neg h]
theorem outgoing_ok (P : Program) (hP : P = Try.prog) (t : Top) (n : Int) (l : List Int) : Ret P n_ref22_outgoing [topA t, iA n, intsA l] (bA (outB t n l)) := by
 refine ret_start (hP ▸ mixed) (hP ▸ fn_ref22_outgoing) (hP ▸ c_ref22_outgoing) (Nat.le_of_ble_eq_true rfl) fun Λ Λo K hK => ?_
 have ht := tail_ok P hP t
 clear hP
 have yes : (∀ i, i < l.length → outAt t n l i = true) → K (bA true) := fun h => by rw [outB_spec.2 h] at hK; exact hK
 have no : ∀ i, i < l.length → ¬ outAt t n l i = true → K (bA false) := fun i hi h => by
  rw [show outB t n l = false from Bool.eq_false_iff.2 fun h' => h (outB_spec.1 h' i hi)] at hK; exact hK
 have ya := fun i x => @outAt_yes t n l i x
 have na := fun i x => @outAt_no t n l i x
 generalize outAt t n l = oa at *
 generalize tailT t = f at *
 clear hK
 simp only [intsA, intsD] at *
 generalize alh : List.map encI l = al at *
 have aln : Λ al = l.length := by rw [Λo, ← alh]; simp
 obtain ⟨nodes, ov, links⟩ := t
 simp only [topA, boolsD, linksD] at *
 generalize hol : ov.map encB = ol at *
 generalize hll : links.map encLk = ll at *
 have hlo : Λ ol = ov.length := by rw [Λo, ← hol]; simp
 have hls : Λ ll = links.length := by rw [Λo, ← hll]; simp
 conv => cbv
 refine loop_up l.length (fun (i : Int) => [(1, iA n), (2, .c (.d (.list false 1 al))), (3, .c (.ptr 0 0 0 0)), (7, iA i)]) (fun _ => [.bx [.d (.int .i64 nodes), .d (.list false 1 ol), .d (.list false 7 ll)]]) (fun k i => i = k ∧ k ≤ l.length ∧ ∀ j, j < k → oa j = true) 0 (Wk.cw) ⟨rfl, by omega, by simp⟩ (fun k s h => h.2.1) ?_
 rintro k i Q' ⟨hi, hk, hok⟩ norm ex rt
 by_cases hlt : k < l.length
 ·obtain ⟨x, hx⟩ : ∃ x, l[k]? = some x := ⟨_, List.getElem?_eq_getElem hlt⟩
  have hxa := elt_at alh hi hx
  conv => cbv
  repeat' first | (refine ex _ _ _ ?_; (conv => cbv)) | (refine rt _ _ ?_; (conv => cbv)) | refine call_i (ht _) rfl rfl ?_ | (intro e he; cases Option.some.inj (he.symm.trans hxa); (conv => cbv)) | (intro e he; obtain ⟨y, hy, rfl⟩ := map_get' alh he; (conv => cbv)) | exact gu | exact trivial | refine And.intro ?_ ?_ | (intro hc; exact absurd hc (by decide)) | (intro hc; exfalso; omega) | (intro hc; (first | rw [wrap_small (by omega) (by omega)] at hc | rw [nI_eq] at hc | skip); try (conv => cbv))
  ·exact no k hlt (na k x hx (.inl (by omega)))
  ·exact no k hlt (na k x hx (.inr ⟨by omega, _, get_at hy (by omega), by omega⟩))
  all_goals
   refine norm _ _ _ ?_ (Wk.cw)
   refine ⟨by omega, by omega, fun j hj => ?_⟩
   rcases Nat.lt_or_ge j k with h | h
   ·exact hok j h
   ·obtain rfl : j = k := by omega
    first | exact ya j x hx (by omega) (.inr ⟨_, get_at hy (by omega), by omega⟩) | exact ya j x hx (by omega) (.inl (by omega))
 ·conv => cbv
  repeat' first | (refine ex _ _ _ ?_; (conv => cbv)) | (refine rt _ _ ?_; (conv => cbv)) | exact gu | exact trivial | refine And.intro ?_ ?_ | (intro hc; exact absurd hc (by decide)) | (intro hc; exfalso; omega) | (intro hc; (first | rw [wrap_small (by omega) (by omega)] at hc | rw [nI_eq] at hc | skip); try (conv => cbv))
  exact yes fun j hj => hok j (by omega)
theorem leaving_ok (P : Program) (hP : P = Try.prog) (t : Top) (n : Int) (l : List Int) (hv : validT t = true) (hn0 : 0 ≤ n) : Ret P n_table_leaving [topA t, iA n, intsA l] (bA (outB t n l)) := by
 refine ret_start (hP ▸ mixed) (hP ▸ fn_table_leaving) (hP ▸ c_table_leaving) (Nat.le_of_ble_eq_true rfl) fun Λ Λo K hK => ?_
 have h256 := (validT_spec.1 hv).2.2.1
 have har := fun a => garc_ok P hP t a h256
 have ht := fun a h0 h1 => gtail_ok P hP t a h0 h1 h256
 clear hP
 have yes : (∀ i, i < l.length → outAt t n l i = true) → K (bA true) := fun h => by rw [outB_spec.2 h] at hK; exact hK
 have no : ∀ i, i < l.length → ¬ outAt t n l i = true → K (bA false) := fun i hi h => by
  rw [show outB t n l = false from Bool.eq_false_iff.2 fun h' => h (outB_spec.1 h' i hi)] at hK; exact hK
 have ya := fun i x => @outAt_yes t n l i x
 have na := fun i x => @outAt_no t n l i x
 have tv := fun a => @tailT_valid t a hv
 have tn := fun a => @tailT_none t a hv
 generalize outAt t n l = oa at *
 generalize tailT t = f at *
 generalize tailG t = g at *
 clear hK hv
 simp only [intsA, intsD] at *
 generalize alh : List.map encI l = al at *
 have aln : Λ al = l.length := by rw [Λo, ← alh]; simp
 obtain ⟨nodes, ov, links⟩ := t
 simp only [topA, boolsD, linksD] at *
 generalize hol : ov.map encB = ol at *
 generalize hll : links.map encLk = ll at *
 have hlo : Λ ol = ov.length := by rw [Λo, ← hol]; simp
 have hls : Λ ll = links.length := by rw [Λo, ← hll]; simp
 conv => cbv
 intro hmax
 conv => cbv
 refine loop_up l.length (fun (i : Int) => [(1, iA n), (2, .c (.d (.list false 1 al))), (3, .c (.ptr 0 0 0 0)), (9, .c (.d (.list false 1 al))), (10, iA (Λ al)), (11, iA i)]) (fun _ => [.bx [.d (.int .i64 nodes), .d (.list false 1 ol), .d (.list false 7 ll)]]) (fun k i => i = k ∧ k ≤ l.length ∧ ∀ j, j < k → oa j = true) 0 (Wk.cw) ⟨rfl, by omega, by simp⟩ (fun k s h => h.2.1) ?_
 rintro k i Q' ⟨hi, hk, hok⟩ norm ex rt
 by_cases hlt : k < l.length
 ·obtain ⟨x, hx⟩ : ∃ x, l[k]? = some x := ⟨_, List.getElem?_eq_getElem hlt⟩
  have hxa := elt_at alh hi hx
  conv => cbv
  repeat' first | (refine ex _ _ _ ?_; (conv => cbv)) | (refine rt _ _ ?_; (conv => cbv)) | refine call_b (har _) rfl rfl ?_ ?_ | (refine call_i (ht _ (by simp only [decide_eq_true_eq] at *; omega) (by simp only [decide_eq_true_eq] at *; omega)) rfl rfl ?_) | (intro e he; cases Option.some.inj (he.symm.trans hxa); (conv => cbv)) | (intro e he; obtain ⟨y, hy, rfl⟩ := map_get' alh he; (conv => cbv)) | exact gu | exact trivial | refine And.intro ?_ ?_ | (intro hc; exact absurd hc (by decide)) | (intro hc; exfalso; omega) | (intro hc; (first | rw [wrap_small (by omega) (by omega)] at hc | rw [nI_eq] at hc | skip); try (conv => cbv))
  all_goals simp only [decide_eq_true_eq, decide_eq_false_iff_not] at *
  all_goals first
   | (refine no k hlt (na k x hx (.inl ?_)); rw [tn x (by omega)]; omega)
   | (refine no k hlt (na k x hx (.inl ?_)); rw [tv x (by omega) (by omega)]; omega)
   | (refine no k hlt (na k x hx (.inr ⟨?_, y, get_at hy ?_, ?_⟩)) <;> omega)
   | skip
  all_goals
   refine norm _ _ _ ?_ (Wk.cw)
   refine ⟨by omega, by omega, fun j hj => ?_⟩
   rcases Nat.lt_or_ge j k with h | h
   ·exact hok j h
   ·obtain rfl : j = k := by omega
    first
     | (refine ya j x hx ?_ (.inr ⟨y, get_at hy ?_, ?_⟩); (rw [tv x (by omega) (by omega)]; omega); all_goals omega)
     | (refine ya j x hx ?_ (.inl ?_); (rw [tv x (by omega) (by omega)]; omega); all_goals omega)
 ·conv => cbv
  repeat' first | (refine ex _ _ _ ?_; (conv => cbv)) | (refine rt _ _ ?_; (conv => cbv)) | exact gu | exact trivial | refine And.intro ?_ ?_ | (intro hc; exact absurd hc (by decide)) | (intro hc; exfalso; omega) | (intro hc; (first | rw [wrap_small (by omega) (by omega)] at hc | rw [nI_eq] at hc | skip); try (conv => cbv))
  exact yes fun j hj => hok j (by omega)
end Go.Ab

/-
  Contracts, part f: entries and tables.
-/
namespace Go.Ab
open Go.Proofs
def entB (t : Top) (n d : Int) (e : Ety) : Bool :=
 outB t n e.arcs && !(decide (d = n) && decide (0 < e.arcs.length)) && (if e.rep then decide (e.arcs.length = 1 ∧ e.push.length ≤ 32) else decide (e.push.length = 0)) && e.push.all (segB t)
theorem entB_spec {t : Top} {n d : Int} {e : Ety} : entB t n d e = true ↔
  outB t n e.arcs = true ∧ ¬ (d = n ∧ 0 < e.arcs.length) ∧ (e.rep = true → e.arcs.length = 1 ∧ e.push.length ≤ 32) ∧ (e.rep = false → e.push.length = 0) ∧ ∀ s ∈ e.push, segB t s = true := by
 cases h : e.rep <;> simp only [entB, h, Bool.and_eq_true, List.all_eq_true, and_assoc, Bool.not_eq_true', Bool.and_eq_false_iff, decide_eq_false_iff_not, decide_eq_true_eq, if_true, if_false, Bool.false_eq_true, false_implies, true_and, forall_const, Classical.not_and_iff_not_or_not, reduceCtorEq]
def tabB (t : Top) (x : Tab) : Bool :=
 validT t && decide (0 ≤ x.node ∧ x.node < t.nodes) && decide ((x.to.length : Int) = t.nodes) && outB t x.node x.down && (List.range x.to.length).all fun d => entB t x.node d (x.to.getD d default)
theorem tabB_spec {t : Top} {x : Tab} : tabB t x = true ↔ validT t = true ∧ (0 ≤ x.node ∧ x.node < t.nodes) ∧ (x.to.length : Int) = t.nodes ∧ outB t x.node x.down = true ∧ ∀ (i : Nat) (e : Ety), x.to[i]? = some e → entB t x.node i e = true := by
 simp only [tabB, Bool.and_eq_true, decide_eq_true_eq, List.all_eq_true, List.mem_range, and_assoc]
 constructor
 ·rintro ⟨h1, h2, h3, h4, h5, h6⟩
  refine ⟨h1, h2, h3, h4, h5, fun i e he => ?_⟩
  have := h6 i (get_lt he)
  rw [getD_at he] at this
  exact this
 ·rintro ⟨h1, h2, h3, h4, h5, h6⟩
  exact ⟨h1, h2, h3, h4, h5, fun i hi => h6 i _ (by simp [List.getD, List.getElem?_eq_getElem hi])⟩
theorem proper_ok (P : Program) (hP : P = Try.prog) (t : Top) (e : Ety) (n d : Int) (hv : validT t = true) (hn0 : 0 ≤ n) : Ret P n_table_proper [topA t, entA e, iA n, iA d] (bA (entB t n d e)) := by
 refine ret_start (hP ▸ mixed) (hP ▸ fn_table_proper) (hP ▸ c_table_proper) (Nat.le_of_ble_eq_true rfl) fun Λ Λo K hK => ?_
 have h256 := (validT_spec.1 hv).2.2.1
 have hl := leaving_ok P hP t n e.arcs hv hn0
 have hg := fun s => gseg_ok P hP t s h256
 clear hP
 have yes : (outB t n e.arcs = true ∧ ¬ (d = n ∧ 0 < e.arcs.length) ∧ (e.rep = true → e.arcs.length = 1 ∧ e.push.length ≤ 32) ∧ (e.rep = false → e.push.length = 0) ∧ ∀ s ∈ e.push, segB t s = true) → K (bA true) := fun h => by
  rw [entB_spec.2 h] at hK; exact hK
 have no : ¬ (outB t n e.arcs = true ∧ ¬ (d = n ∧ 0 < e.arcs.length) ∧ (e.rep = true → e.arcs.length = 1 ∧ e.push.length ≤ 32) ∧ (e.rep = false → e.push.length = 0) ∧ ∀ s ∈ e.push, segB t s = true) → K (bA false) := fun h => by
  rw [show entB t n d e = false from Bool.eq_false_iff.2 fun h' => h (entB_spec.1 h')] at hK; exact hK
 clear hK hv
 obtain ⟨arcs, rep, push⟩ := e
 simp only [entA, intsA, intsD, segsD, segA] at *
 generalize outB t n arcs = ob at *
 generalize segB t = sb at *
 generalize alh : List.map encI arcs = al at *
 have aln : Λ al = arcs.length := by rw [Λo, ← alh]; simp
 generalize plh : List.map encSeg push = pl at *
 have pln : Λ pl = push.length := by rw [Λo, ← plh]; simp
 obtain ⟨nodes, ov, links⟩ := t
 simp only [topA, boolsD, linksD] at *
 generalize hol : ov.map encB = ol at *
 generalize hll : links.map encLk = ll at *
 have hlo : Λ ol = ov.length := by rw [Λo, ← hol]; simp
 have hls : Λ ll = links.length := by rw [Λo, ← hll]; simp
 cases rep
 all_goals
  conv => cbv
  repeat' first | refine call_b hl rfl rfl ?_ ?_ | exact gu | exact trivial | refine And.intro ?_ ?_ | (intro hc; exact absurd hc (by decide)) | (intro hc; exfalso; omega) | (intro hc; (first | rw [wrap_small (by omega) (by omega)] at hc | rw [nI_eq] at hc | skip); try (conv => cbv))
 all_goals try (refine no fun h => ?_; obtain ⟨h1, h2, h3, h4, _⟩ := h; first | omega | (have := h3 rfl; omega) | (have := h4 rfl; omega) | (rw [h1] at hc; cases hc))
 all_goals try (refine yes ⟨by assumption, by omega, (by simp), by intro _; omega, ?_⟩; obtain rfl : push = [] := List.eq_nil_of_length_eq_zero (by omega); simp)
 all_goals
  refine loop_up push.length (fun (i : Int) => [(4, .c (.ptr 0 0 0 0)), (46, .c (.d (.list false 2 pl))), (47, iA (Λ pl)), (48, iA i)]) (fun _ => [.bx [.d (.int .i64 nodes), .d (.list false 1 ol), .d (.list false 7 ll)]]) (fun k i => i = k ∧ k ≤ push.length ∧ ∀ s ∈ push.take k, sb s = true) 0 (Wk.cw) ⟨rfl, by omega, by simp⟩ (fun k s h => h.2.1) ?_
  rintro k i Q' ⟨hi, hk, hok⟩ norm ex rt
  by_cases hlt : k < push.length
  ·obtain ⟨x, hx⟩ : ∃ x, push[k]? = some x := ⟨_, List.getElem?_eq_getElem hlt⟩
   have hxa := elt_at plh hi hx
   obtain ⟨xk, xn⟩ := x
   have hgx := hg ⟨xk, xn⟩
   conv => cbv
   repeat' first | (refine ex _ _ _ ?_; (conv => cbv)) | (refine rt _ _ ?_; (conv => cbv)) | refine call_b hgx rfl rfl ?_ ?_ | (intro e he; cases Option.some.inj (he.symm.trans hxa); (conv => cbv)) | exact gu | exact trivial | refine And.intro ?_ ?_ | (intro hc; exact absurd hc (by decide)) | (intro hc; exfalso; omega) | (intro hc; (first | rw [wrap_small (by omega) (by omega)] at hc | rw [nI_eq] at hc | skip); try (conv => cbv))
   ·refine norm _ _ _ ?_ (Wk.cw)
    refine ⟨by omega, by omega, fun s hs => ?_⟩
    rw [take_succ_get hx] at hs
    rcases List.mem_append.1 hs with hs | hs
    ·exact hok s hs
    ·simp only [List.mem_singleton] at hs; subst hs; assumption
   ·refine no fun h => ?_
    have := h.2.2.2.2 _ (List.mem_of_getElem? hx)
    rw [this] at hc; cases hc
  ·conv => cbv
   repeat' first | (refine ex _ _ _ ?_; (conv => cbv)) | (refine rt _ _ ?_; (conv => cbv)) | exact gu | exact trivial | refine And.intro ?_ ?_ | (intro hc; exact absurd hc (by decide)) | (intro hc; exfalso; omega) | (intro hc; (first | rw [wrap_small (by omega) (by omega)] at hc | rw [nI_eq] at hc | skip); try (conv => cbv))
   refine yes ⟨by assumption, by omega, fun _ => by omega, by simp, ?_⟩
   rw [List.take_of_length_le (by omega)] at hok; exact hok
end Go.Ab

/-
  Contracts, part g: tables.
-/
namespace Go.Ab
open Go.Proofs
theorem tableValid_ok (P : Program) (hP : P = Try.prog) (t : Top) (x : Tab) : Ret P n_table_Valid [topA t, tabA x] (bA (tabB t x)) := by
 refine ret_start (hP ▸ mixed) (hP ▸ fn_table_Valid) (hP ▸ c_table_Valid) (Nat.le_of_ble_eq_true rfl) fun Λ Λo K hK => ?_
 have hw := tvalid_ok P hP t
 have hn := gnode_ok P hP t
 have hl := fun l => leaving_ok P hP t x.node l
 have hp := fun e d => proper_ok P hP t e x.node d
 clear hP
 have yes : (validT t = true ∧ (0 ≤ x.node ∧ x.node < t.nodes) ∧ (x.to.length : Int) = t.nodes ∧ outB t x.node x.down = true ∧ ∀ (i : Nat) (e : Ety), x.to[i]? = some e → entB t x.node i e = true) → K (bA true) := fun h => by
  rw [tabB_spec.2 h] at hK; exact hK
 have no : ¬ (validT t = true ∧ (0 ≤ x.node ∧ x.node < t.nodes) ∧ (x.to.length : Int) = t.nodes ∧ outB t x.node x.down = true ∧ ∀ (i : Nat) (e : Ety), x.to[i]? = some e → entB t x.node i e = true) → K (bA false) := fun h => by
  rw [show tabB t x = false from Bool.eq_false_iff.2 fun h' => h (tabB_spec.1 h')] at hK; exact hK
 clear hK
 obtain ⟨node, to, down⟩ := x
 have hld := hl down
 simp only [tabA, entsD, intsA, intsD] at *
 generalize outB t node down = ob at *
 generalize entB t node = eb at *
 generalize validT t = v at *
 generalize elh : List.map encEnt to = el at *
 have eln : Λ el = to.length := by rw [Λo, ← elh]; simp
 generalize dlh : List.map encI down = dl at *
 have dln : Λ dl = down.length := by rw [Λo, ← dlh]; simp
 obtain ⟨nodes, ov, links⟩ := t
 simp only [topA, boolsD, linksD] at *
 generalize hol : ov.map encB = ol at *
 generalize hll : links.map encLk = ll at *
 have hlo : Λ ol = ov.length := by rw [Λo, ← hol]; simp
 have hls : Λ ll = links.length := by rw [Λo, ← hll]; simp
 conv => cbv
 repeat' first | refine call_b hw rfl rfl ?_ ?_ | refine call_b (hn _) rfl rfl ?_ ?_ | refine call_b (hld (by assumption) (by simp only [decide_eq_true_eq] at *; omega)) rfl rfl ?_ ?_ | exact gu | exact trivial | refine And.intro ?_ ?_ | (intro hc; exact absurd hc (by decide)) | (intro hc; exfalso; omega) | (intro hc; (first | rw [wrap_small (by omega) (by omega)] at hc | rw [nI_eq] at hc | skip); try (conv => cbv))
 all_goals try simp only [decide_eq_true_eq, decide_eq_false_iff_not] at *
 all_goals try (refine no fun h => ?_; obtain ⟨h1, h2, h3, h4, _⟩ := h; first | omega | (rw [h1] at hc; cases hc; done) | (rw [h4] at hc; cases hc; done) | (have := ‹ob = false›; rw [h4] at this; cases this; done))
 refine loop_up to.length (fun (i : Int) => [(2, .c (.ptr 0 0 0 0)), (3, .c (.ptr 1 0 0 0)), (35, .c (.d (.list false 3 el))), (36, iA (Λ el)), (37, iA i)]) (fun _ => [.bx [.d (.int .i64 nodes), .d (.list false 1 ol), .d (.list false 7 ll)], .bx [.d (.int .i64 node), .d (.list false 3 el), .d (.list false 1 dl)]]) (fun k i => i = k ∧ k ≤ to.length ∧ ∀ (j : Nat) (e : Ety), j < k → to[j]? = some e → eb j e = true) 0 (Wk.cw) ⟨rfl, by omega, by simp⟩ (fun k s h => h.2.1) ?_
 rintro k i Q' ⟨hi, hk, hok⟩ norm ex rt
 by_cases hlt : k < to.length
 ·obtain ⟨x, hx⟩ : ∃ x, to[k]? = some x := ⟨_, List.getElem?_eq_getElem hlt⟩
  have hxa := elt_at elh hi hx
  obtain ⟨arcs, rep, push⟩ := x
  have hpx := hp ⟨arcs, rep, push⟩ i (by assumption) (by omega)
  simp only [entA, encEnt, intsD, segsD] at hxa hpx
  generalize List.map encI arcs = al at *
  generalize List.map encSeg push = pl at *
  conv => cbv
  repeat' first | (refine ex _ _ _ ?_; (conv => cbv)) | (refine rt _ _ ?_; (conv => cbv)) | refine call_b hpx rfl rfl ?_ ?_ | (intro e he; cases Option.some.inj (he.symm.trans hxa); (conv => cbv)) | exact gu | exact trivial | refine And.intro ?_ ?_ | (intro hc; exact absurd hc (by decide)) | (intro hc; exfalso; omega) | (intro hc; (first | rw [wrap_small (by omega) (by omega)] at hc | rw [nI_eq] at hc | skip); try (conv => cbv))
  ·refine norm _ _ _ ?_ (Wk.cw)
   refine ⟨by omega, by omega, fun j e hj he => ?_⟩
   rcases Nat.lt_or_ge j k with h | h
   ·exact hok j e h he
   ·obtain rfl : j = k := by omega
    rw [hx] at he; cases he
    rw [← hi]; assumption
  ·refine no fun h => ?_
   have := h.2.2.2.2 k _ hx
   rw [← hi, hc] at this; cases this
 ·conv => cbv
  repeat' first | (refine ex _ _ _ ?_; (conv => cbv)) | (refine rt _ _ ?_; (conv => cbv)) | exact gu | exact trivial | refine And.intro ?_ ?_ | (intro hc; exact absurd hc (by decide)) | (intro hc; exfalso; omega) | (intro hc; (first | rw [wrap_small (by omega) (by omega)] at hc | rw [nI_eq] at hc | skip); try (conv => cbv))
  exact yes ⟨by assumption, by omega, by omega, by assumption, fun j e he => hok j e (by have := get_lt he; omega) he⟩
theorem rtableValid_ok (P : Program) (hP : P = Try.prog) (t : Top) (x : Tab) : Ret P n_ref22_Valid [topA t, tabA x] (bA (tabB t x)) := by
  refine ret_start (hP ▸ mixed) (hP ▸ fn_ref22_Valid) (hP ▸ c_ref22_Valid) (Nat.le_of_ble_eq_true rfl) fun Λ Λo K hK => ?_
  have hw := valid_ok P hP t
  have hl := fun l => outgoing_ok P hP t x.node l
  have hg := rseg_ok P hP t
  clear hP
  have yes : (validT t = true ∧ (0 ≤ x.node ∧ x.node < t.nodes) ∧ (x.to.length : Int) = t.nodes ∧ outB t x.node x.down = true ∧ ∀ (i : Nat) (e : Ety), x.to[i]? = some e → entB t x.node i e = true) → K (bA true) := fun h => by
    rw [tabB_spec.2 h] at hK; exact hK
  have no : ¬ (validT t = true ∧ (0 ≤ x.node ∧ x.node < t.nodes) ∧ (x.to.length : Int) = t.nodes ∧ outB t x.node x.down = true ∧ ∀ (i : Nat) (e : Ety), x.to[i]? = some e → entB t x.node i e = true) → K (bA false) := fun h => by
    rw [show tabB t x = false from Bool.eq_false_iff.2 fun h' => h (tabB_spec.1 h')] at hK; exact hK
  clear hK
  obtain ⟨node, to, down⟩ := x
  have hld := hl down
  have hes := fun d e => @entB_spec t node d e
  simp only [tabA, entsD, intsA, intsD, segA] at *
  generalize outB t node = ob at *
  generalize entB t node = eb at *
  generalize validT t = v at *
  generalize segB t = sb at *
  generalize elh : List.map encEnt to = el at *
  have eln : Λ el = to.length := by rw [Λo, ← elh]; simp
  generalize dlh : List.map encI down = dl at *
  have dln : Λ dl = down.length := by rw [Λo, ← dlh]; simp
  obtain ⟨nodes, ov, links⟩ := t
  simp only [topA, boolsD, linksD] at *
  generalize hol : ov.map encB = ol at *
  generalize hll : links.map encLk = ll at *
  have hlo : Λ ol = ov.length := by rw [Λo, ← hol]; simp
  have hls : Λ ll = links.length := by rw [Λo, ← hll]; simp
  conv => cbv
  repeat' first | refine call_b hw rfl rfl ?_ ?_ | refine call_b hld rfl rfl ?_ ?_ | exact gu | exact trivial | refine And.intro ?_ ?_ | (intro hc; exact absurd hc (by decide)) | (intro hc; exfalso; omega) | (intro hc; (first | rw [wrap_small (by omega) (by omega)] at hc | rw [nI_eq] at hc | skip); try (conv => cbv))
  all_goals try (refine no fun h => ?_; obtain ⟨h1, h2, h3, h4, _⟩ := h; first | omega | (rw [h1] at hc; cases hc; done) | (rw [h4] at hc; cases hc; done))
  refine loop_up to.length (fun (i : Int) => [(2, .c (.ptr 0 0 0 0)), (3, .c (.ptr 1 0 0 0)), (5, iA i)]) (fun _ => [.bx [.d (.int .i64 nodes), .d (.list false 1 ol), .d (.list false 7 ll)], .bx [.d (.int .i64 node), .d (.list false 3 el), .d (.list false 1 dl)]]) (fun k i => i = k ∧ k ≤ to.length ∧ ∀ (j : Nat) (e : Ety), j < k → to[j]? = some e → eb j e = true) 0 (Wk.cw) ⟨rfl, by omega, by simp⟩ (fun k s h => h.2.1) ?_
  rintro k i Q' ⟨hi, hk, hok⟩ norm exo rto
  by_cases hlt : k < to.length
  · obtain ⟨x, hx⟩ : ∃ x, to[k]? = some x := ⟨_, List.getElem?_eq_getElem hlt⟩
    have hxa := elt_at elh hi hx
    obtain ⟨arcs, rep, push⟩ := x
    have hlx := hl arcs
    have hesx := hes i ⟨arcs, rep, push⟩
    have bad : ¬ eb i ⟨arcs, rep, push⟩ = true → K (bA false) := fun h => no fun h' => h (by rw [hi]; exact h'.2.2.2.2 k _ hx)
    simp only [encEnt, intsD, segsD] at hxa hlx hesx
    generalize alh : List.map encI arcs = al at *
    have aln : Λ al = arcs.length := by rw [Λo, ← alh]; simp
    generalize plh : List.map encSeg push = pl at *
    have pln : Λ pl = push.length := by rw [Λo, ← plh]; simp
    cases rep
    all_goals
      conv => cbv
      repeat' first | (refine rto _ _ ?_; (conv => cbv)) | refine call_b hlx rfl rfl ?_ ?_ | (intro e he; cases Option.some.inj (he.symm.trans hxa); (conv => cbv)) | exact gu | exact trivial | refine And.intro ?_ ?_ | (intro hc; exact absurd hc (by decide)) | (intro hc; exfalso; omega) | (intro hc; (first | rw [wrap_small (by omega) (by omega)] at hc | rw [nI_eq] at hc | skip); try (conv => cbv))
    all_goals try (refine bad fun h => ?_; obtain ⟨h1, h2, h3, h4, _⟩ := hesx.1 h; first | omega | (have := h3 rfl; omega) | (have := h4 rfl; omega) | (rw [h1] at hc; cases hc; done))
    all_goals
      refine loop_up push.length (fun (i' : Int) => [(2, .c (.ptr 0 0 0 0)), (3, .c (.ptr 1 0 0 0)), (5, iA i), (6, .c (.ptr 2 0 0 0)), (7, iA i')]) (fun _ => [.bx [.d (.int .i64 nodes), .d (.list false 1 ol), .d (.list false 7 ll)], .bx [.d (.int .i64 node), .d (.list false 3 el), .d (.list false 1 dl)], .bx [.d (.list false 1 al), .d (.bool _), .d (.list false 2 pl)]]) (fun k i => i = k ∧ k ≤ push.length ∧ ∀ s ∈ push.take k, sb s = true) 0 (Wk.cw) ⟨rfl, by omega, by simp⟩ (fun k s h => h.2.1) ?_
    all_goals
      rintro k2 i2 Q2 ⟨hi2, hk2, hok2⟩ norm2 ex rt
      by_cases hlt2 : k2 < push.length
      · obtain ⟨s, hs⟩ : ∃ s, push[k2]? = some s := ⟨_, List.getElem?_eq_getElem hlt2⟩
        have hsa := elt_at plh hi2 hs
        obtain ⟨xk, xn⟩ := s
        have hgx := hg ⟨xk, xn⟩
        conv => cbv
        repeat' first | (refine ex _ _ _ ?_; (conv => cbv)) | (refine rt _ _ ?_; (conv => cbv)) | (refine rto _ _ ?_; (conv => cbv)) | refine call_b hgx rfl rfl ?_ ?_ | (intro e he; cases Option.some.inj (he.symm.trans hsa); (conv => cbv)) | exact gu | exact trivial | refine And.intro ?_ ?_ | (intro hc; exact absurd hc (by decide)) | (intro hc; exfalso; omega) | (intro hc; (first | rw [wrap_small (by omega) (by omega)] at hc | rw [nI_eq] at hc | skip); try (conv => cbv))
        all_goals first
          | (refine bad fun h => ?_
             have := (hesx.1 h).2.2.2.2 _ (List.mem_of_getElem? hs)
             rw [this, ‹v = true›] at hc; cases hc; done)
          | (refine norm2 _ _ _ ?_ (Wk.cw)
             refine ⟨by omega, by omega, fun s' hs' => ?_⟩
             rw [take_succ_get hs] at hs'
             rcases List.mem_append.1 hs' with h | h
             · exact hok2 s' h
             · simp only [List.mem_singleton] at h; subst h
               have hvs : (v && sb ⟨xk, xn⟩) = true := by assumption
               simp only [Bool.and_eq_true] at hvs
               exact hvs.2)
      · conv => cbv
        repeat' first | (refine ex _ _ _ ?_; (conv => cbv)) | (refine rt _ _ ?_; (conv => cbv)) | exact gu | exact trivial | refine And.intro ?_ ?_ | (intro hc; exact absurd hc (by decide)) | (intro hc; exfalso; omega) | (intro hc; (first | rw [wrap_small (by omega) (by omega)] at hc | rw [nI_eq] at hc | skip); try (conv => cbv))
        refine norm _ _ _ ?_ (Wk.cw)
        refine ⟨by omega, by omega, fun j e hj he => ?_⟩
        rcases Nat.lt_or_ge j k with h | h
        · exact hok j e h he
        · obtain rfl : j = k := by omega
          rw [hx] at he; cases he
          rw [← hi]
          rw [List.take_of_length_le (by omega)] at hok2
          exact hesx.2 ⟨by assumption, by omega, by first | (intro h; cases h; done) | (intro _; omega), by first | (intro h; cases h; done) | (intro _; omega), hok2⟩
  · conv => cbv
    repeat' first | (refine exo _ _ _ ?_; (conv => cbv)) | exact gu | exact trivial | refine And.intro ?_ ?_ | (intro hc; exact absurd hc (by decide)) | (intro hc; exfalso; omega) | (intro hc; (first | rw [wrap_small (by omega) (by omega)] at hc | rw [nI_eq] at hc | skip); try (conv => cbv))
    exact yes ⟨by assumption, by omega, by omega, by assumption, fun j e he => hok j e (by have := get_lt he; omega) he⟩
end Go.Ab

/-
  Contracts, part h: copies; the parts of a step.
-/
namespace Go.Ab
open Go.Proofs
theorem cloneSegs_raw (P : Program) (hP : P = Try.prog) (ll : List (List D)) (hl : ll.length ≤ 1000000) : Ret P n_slices_Clone_api_Segment_api_Segment [.c (.d (.list false 2 ll))] (.c (.d (.list false 2 ll))) := by
 refine ret_start (hP ▸ mixed) (hP ▸ fn_slices_Clone_api_Segment_api_Segment) (hP ▸ c_slices_Clone_api_Segment_api_Segment) (Nat.le_of_ble_eq_true rfl) fun Λ Λo K hK => ?_
 clear hP
 have h0 : ll = [] → K (.c (.d (.list false 2 []))) := fun h => by rw [h] at hK; exact hK
 have lln := Λo ll
 conv => cbv
 repeat' first | exact gu | exact trivial | refine And.intro ?_ ?_ | (intro hc; exact absurd hc (by decide)) | (intro hc; exfalso; omega) | (intro hc; (first | rw [wrap_small (by omega) (by omega)] at hc | rw [nI_eq] at hc | skip); try (conv => cbv))
 ·rename_i m r es hm hr hes ls
  have : ls = ll := by subst hc hes hm; simp
  rw [this]; exact hK
 ·exact h0 hc
theorem cloneInts_raw (P : Program) (hP : P = Try.prog) (ll : List (List D)) (hl : ll.length ≤ 1000000) : Ret P n_slices_Clone_int_int [.c (.d (.list false 1 ll))] (.c (.d (.list false 1 ll))) := by
 refine ret_start (hP ▸ mixed) (hP ▸ fn_slices_Clone_int_int) (hP ▸ c_slices_Clone_int_int) (Nat.le_of_ble_eq_true rfl) fun Λ Λo K hK => ?_
 clear hP
 have h0 : ll = [] → K (.c (.d (.list false 1 []))) := fun h => by rw [h] at hK; exact hK
 have lln := Λo ll
 conv => cbv
 repeat' first | exact gu | exact trivial | refine And.intro ?_ ?_ | (intro hc; exact absurd hc (by decide)) | (intro hc; exfalso; omega) | (intro hc; (first | rw [wrap_small (by omega) (by omega)] at hc | rw [nI_eq] at hc | skip); try (conv => cbv))
 ·rename_i m r es hm hr hes ls
  have : ls = ll := by subst hc hes hm; simp
  rw [this]; exact hK
 ·exact h0 hc
theorem cloneInts_ok (P : Program) (hP : P = Try.prog) (l : List Int) (hl : l.length ≤ 1000000) : Ret P n_slices_Clone_int_int [intsA l] (intsA l) :=
 cloneInts_raw P hP _ (by rw [List.length_map]; exact hl)
def encSegs (l : List Seg) : List D := [segsD l]
theorem call_in {P : Program} {m : Nat} {L : Lv} {h : Hp} {f : Nat} {fn : Func} {af : AF} {xs : List X} {K : Lv → AV → Hp → Prop} (hm : P.follows .mixedOrders = true) (hf : P.funcs[f]? = some fn) (hc : compF P fn = some af) (hl : (evsN L xs).length ≤ af.nt)
  (hv : ∀ Λ : Len, (∀ l, Λ l = (l.length : Int)) → vcH P Λ af (evsN L xs) h (K L)) : CallS P m false L h f xs K := .fn (fn_heap hm hf hc hl hv)
def sumLen (l : List (List Seg)) : Nat := (l.map List.length).sum
theorem sumLen_take {l : List (List Seg)} {k : Nat} {x : List Seg} (h : l[k]? = some x) : sumLen (l.take (k + 1)) = sumLen (l.take k) + x.length := by
 rw [take_succ_get h]; simp [sumLen]
theorem sumLen_le (l : List (List Seg)) (k : Nat) : sumLen (l.take k) ≤ sumLen l := by
 have : sumLen l = sumLen (l.take k) + sumLen (l.drop k) := by
  conv => lhs; rw [← List.take_append_drop k l]
  simp [sumLen, -List.take_append_drop]
 omega
theorem flat_len (l : List (List Seg)) : l.flatten.length = sumLen l := by simp [sumLen, List.length_flatten]
theorem concatSegs_ok (P : Program) (hP : P = Try.prog) (l : List (List Seg)) (hl : sumLen l ≤ 1000000) : Ret P n_slices_Concat_api_Segment_api_Segment [.c (.d (.list false 1 (l.map encSegs)))] (segsA l.flatten) := by
 refine ret_start (hP ▸ mixed) (hP ▸ fn_slices_Concat_api_Segment_api_Segment) (hP ▸ c_slices_Concat_api_Segment_api_Segment) (Nat.le_of_ble_eq_true rfl) fun Λ Λo K hK => ?_
 have gm : P.follows .mixedOrders = true := hP ▸ mixed
 have gf := hP ▸ fn_slices_Grow_api_Segment_api_Segment
 have gc := hP ▸ c_slices_Grow_api_Segment_api_Segment
 clear hP
 generalize llh : l.map encSegs = ll at *
 have lln : Λ ll = l.length := by rw [Λo, ← llh]; simp
 conv => cbv
 repeat' first | exact gu | exact trivial | refine And.intro ?_ ?_ | (intro hc; exact absurd hc (by decide)) | (intro hc; exfalso; omega) | (intro hc; (first | rw [wrap_small (by omega) (by omega)] at hc | rw [nI_eq] at hc | skip); try (conv => cbv))
 refine loop_up l.length (fun (s : Int × Int) => [(0, .c (.d (.list false 1 ll))), (3, iA s.2), (9, .c (.d (.list false 1 ll))), (10, iA (Λ ll)), (11, iA s.1)]) (fun _ => []) (fun k s => s.1 = k ∧ k ≤ l.length ∧ s.2 = sumLen (l.take k)) (0, 0) (Wk.cw) ⟨rfl, by omega, by simp [sumLen]⟩ (fun k s h => h.2.1) ?_
 rintro k ⟨i, sz⟩ Q' ⟨hi, hk, hsz⟩ norm ex rt
 simp only at hi hsz
 have hle := sumLen_le l k
 by_cases hlt : k < l.length
 ·obtain ⟨x, hx⟩ : ∃ x, l[k]? = some x := ⟨_, List.getElem?_eq_getElem hlt⟩
  have hxa := elt_at llh hi hx
  have hst := sumLen_take hx
  have hle2 := sumLen_le l (k + 1)
  simp only [encSegs, segsD] at hxa
  generalize xlh : List.map encSeg x = xl at *
  have xln : Λ xl = x.length := by rw [Λo, ← xlh]; simp
  conv => cbv
  repeat' first | (refine ex _ _ _ ?_; (conv => cbv)) | (refine rt _ _ ?_; (conv => cbv)) | (intro e he; cases Option.some.inj (he.symm.trans hxa); (conv => cbv)) | exact gu | exact trivial | refine And.intro ?_ ?_ | (intro hc; exact absurd hc (by decide)) | (intro hc; exfalso; omega) | (intro hc; (first | rw [wrap_small (by omega) (by omega)] at hc | rw [nI_eq] at hc | skip); try (conv => cbv))
  refine norm _ _ (_, _) ?_ (Wk.cw)
  exact ⟨by simp only; omega, by omega, by simp only; omega⟩
 ·conv => cbv
  repeat' first | (refine ex _ _ _ ?_; (conv => cbv)) | (refine rt _ _ ?_; (conv => cbv)) | exact gu | exact trivial | refine And.intro ?_ ?_ | (intro hc; exact absurd hc (by decide)) | (intro hc; exfalso; omega) | (intro hc; (first | rw [wrap_small (by omega) (by omega)] at hc | rw [nI_eq] at hc | skip); try (conv => cbv))
  clear norm ex rt
  rw [List.take_of_length_le (by omega)] at hsz
  refine call_in gm gf gc (Nat.le_of_ble_eq_true rfl) fun Λ' Λo' => ?_
  have hΛ0 : Λ' [] = 0 := by rw [Λo']; rfl
  conv => cbv
  repeat' first | exact gu | exact trivial | refine And.intro ?_ ?_ | (intro hc; exact absurd hc (by decide)) | (intro hc; exfalso; omega) | (intro hc; (first | rw [wrap_small (by omega) (by omega)] at hc | rw [nI_eq] at hc | skip); try (conv => cbv))
  all_goals (clear gm gf gc)
  all_goals first
   | refine loop_up l.length (fun (s : Int × Nat × Nat × Bool × List (List D)) => [(6, .c (.arr 0 s.2.1 0 s.2.2.1)), (25, .c (.d (.list false 1 ll))), (26, iA (Λ ll)), (27, iA s.1)]) (fun s => [.da s.2.2.2.1 s.2.1 2 s.2.2.2.2]) (fun k s => s.1 = k ∧ k ≤ l.length ∧ s.2.2.1 = sumLen (l.take k) ∧ s.2.2.2.2.take s.2.2.1 = (l.take k).flatten.map encSeg) (0, 0, _, _, _) (Wk.cw) ⟨rfl, by omega, ?_, ?_⟩ (fun k s h => h.2.1) ?_
   | refine loop_up l.length (fun (s : Int × Nat × Nat × Bool × List (List D)) => [(6, .c (.arr 0 s.2.1 0 s.2.2.1)), (25, .c (.d (.list false 1 ll))), (26, iA (Λ ll)), (27, iA s.1)]) (fun s => [.da s.2.2.2.1 s.2.1 2 s.2.2.2.2]) (fun k s => s.1 = k ∧ k ≤ l.length ∧ s.2.2.1 = sumLen (l.take k) ∧ s.2.2.2.2.take s.2.2.1 = (l.take k).flatten.map encSeg) (0, 0, 0, false, []) (.trans (.nilS 6 2 rfl) (Wk.cw)) ⟨rfl, by omega, rfl, rfl⟩ (fun k s h => h.2.1) ?_
  ·rename_i n0 hn0; rw [show n0 = 0 by omega]; rfl
  ·rename_i n0 hn0; rw [show n0 = 0 by omega]; rfl
  all_goals clear hle hlt hi hk
  all_goals rintro k ⟨i, v, n, r, es⟩ Q' ⟨hi, hk, hn, hes⟩ norm ex rt
  all_goals simp only at hi hes hn
  all_goals have hle := sumLen_le l k
  all_goals by_cases hlt : k < l.length
  case pos | pos =>
   obtain ⟨x, hx⟩ : ∃ x, l[k]? = some x := ⟨_, List.getElem?_eq_getElem hlt⟩
   have hxa := elt_at llh hi hx
   have hst := sumLen_take hx
   have hle2 := sumLen_le l (k + 1)
   simp only [encSegs, segsD] at hxa
   generalize xlh : List.map encSeg x = xl at *
   have xln : Λ xl = x.length := by rw [Λo, ← xlh]; simp
   have xll : xl.length = x.length := by rw [← xlh]; simp
   conv => cbv
   repeat' first | (refine ex _ _ _ ?_; (conv => cbv)) | (refine rt _ _ ?_; (conv => cbv)) | (intro e he; cases Option.some.inj (he.symm.trans hxa); (conv => cbv)) | (intro (_ : Unit); refine ⟨rfl, ?_⟩; rw [xll]; omega) | exact gu | exact trivial | refine And.intro ?_ ?_ | (intro hc; exact absurd hc (by decide)) | (intro hc; exfalso; omega) | (intro hc; (first | rw [wrap_small (by omega) (by omega)] at hc | rw [nI_eq] at hc | skip); try (conv => cbv))
   rename_i m r' es' hm hr he' _
   refine norm _ _ (_, _, _, _, _) ?_ (Wk.cw)
   refine ⟨by simp only; omega, by omega, by simp only; omega, ?_⟩
   simp only
   rw [hm, he', take_succ_get hx, List.drop_zero, xll, hes, ← xlh]
   have : n = (List.map encSeg (List.take k l).flatten).length := by rw [List.length_map, flat_len]; exact hn
   rw [List.take_of_length_le (by simp only [List.length_append, List.length_map] at this ⊢; omega)]
   simp
  all_goals
   conv => cbv
   repeat' first | (refine ex _ _ _ ?_; (conv => cbv)) | (refine rt _ _ ?_; (conv => cbv)) | exact gu | exact trivial | refine And.intro ?_ ?_ | (intro hc; exact absurd hc (by decide)) | (intro hc; exfalso; omega) | (intro hc; (first | rw [wrap_small (by omega) (by omega)] at hc | rw [nI_eq] at hc | skip); try (conv => cbv))
   rename_i ls
   have : ls = l.flatten.map encSeg := by rw [hc, List.drop_zero, hes, List.take_of_length_le (by omega)]
   subst this
   exact hK
end Go.Ab

/-
  Contracts, part i: a step of a packet.
-/
namespace Go.Ab
open Go.Proofs
def tupA (arcs : List Int) (p : Pkt) (r : Int) : AV := .tup [intsA arcs, pktA p, iA r]
def leaveS (p : Pkt) (l : List Seg) (arcs : List Int) : List Int × Pkt × Int := (arcs, {p with stack := l, hops := p.hops + 1}, 0)
def enterS (p : Pkt) (l : List Seg) (e : Ety) : List Int × Pkt × Int :=
 if e.rep = true then (if (e.push ++ l.drop 1).length > 32 then ([], p, 5) else leaveS p (e.push ++ l.drop 1) e.arcs) else leaveS p l e.arcs
abbrev ansA (x : List Int × Pkt × Int) : AV := tupA x.1 x.2.1 x.2.2
end Go.Ab

/-
  Contracts, part j: forward.Step.
-/
namespace Go.Ab
open Go.Proofs
abbrev Ans := List Int × Pkt × Int
def ent (x : Tab) (n : Int) : Ety := x.to.getD n.toNat default
def plainS (t : Top) (x : Tab) (p : Pkt) : Ans :=
 if p.dst = x.node then ([], {p with stack := []}, -1)
 else if p.hops < 0 ∨ 255 ≤ p.hops then ([], p, 4)
 else if (0 ≤ p.dst ∧ p.dst < t.nodes) ∧ 0 < (ent x p.dst).arcs.length then enterS p [] (ent x p.dst) else ([], p, 1)
def routeS (t : Top) (x : Tab) (p : Pkt) : List Seg → Ans
 | [] => plainS t x p
 | s :: r =>
  if p.hops < 0 ∨ 255 ≤ p.hops then ([], p, 4)
  else if s.kind = 1 then (if (0 ≤ s.num ∧ s.num < t.nodes) ∧ 0 < (ent x s.num).arcs.length then enterS p (s :: r) (ent x s.num) else plainS t x p)
  else if s.kind = 2 then (if (0 ≤ s.num ∧ s.num < 2 * t.links.length) ∧ tailG t s.num = x.node then (if s.num ∈ x.down then plainS t x p else leaveS p r [s.num]) else ([], p, 2))
  else ([], p, 1)
def skipS (n : Int) (l : List Seg) : List Seg := l.dropWhile fun s => decide (s = ⟨1, n⟩)
def stepS (t : Top) (x : Tab) (p : Pkt) : Ans :=
 if tabB t x = true ∧ 0 ≤ p.dst ∧ p.dst < t.nodes then (if p.stack.length > 32 then ([], p, 5) else routeS t x p (skipS x.node p.stack)) else ([], p, 1)
theorem plain_K {K : Ans → Prop} {t : Top} {x : Tab} {p : Pkt} (h : K (plainS t x p)) :
  (p.dst = x.node → K ([], {p with stack := []}, -1)) ∧ (p.dst ≠ x.node → (p.hops < 0 ∨ 255 ≤ p.hops) → K ([], p, 4)) ∧
  (p.dst ≠ x.node → ¬ (p.hops < 0 ∨ 255 ≤ p.hops) → (0 ≤ p.dst ∧ p.dst < t.nodes) → 0 < (ent x p.dst).arcs.length → K (enterS p [] (ent x p.dst))) ∧
  (p.dst ≠ x.node → ¬ (p.hops < 0 ∨ 255 ≤ p.hops) → ¬ ((0 ≤ p.dst ∧ p.dst < t.nodes) ∧ 0 < (ent x p.dst).arcs.length) → K ([], p, 1)) := by
 unfold plainS at h
 refine ⟨fun h1 => ?_, fun h1 h2 => ?_, fun h1 h2 h3 h4 => ?_, fun h1 h2 h3 => ?_⟩
 ·rw [if_pos h1] at h; exact h
 ·rw [if_neg h1, if_pos h2] at h; exact h
 ·rw [if_neg h1, if_neg h2, if_pos ⟨h3, h4⟩] at h; exact h
 ·rw [if_neg h1, if_neg h2, if_neg h3] at h; exact h
theorem route_K {K : Ans → Prop} {t : Top} {x : Tab} {p : Pkt} {s : Seg} {r : List Seg} (h : K (routeS t x p (s :: r))) :
  ((p.hops < 0 ∨ 255 ≤ p.hops) → K ([], p, 4)) ∧
  (¬ (p.hops < 0 ∨ 255 ≤ p.hops) → s.kind = 1 → (0 ≤ s.num ∧ s.num < t.nodes) → 0 < (ent x s.num).arcs.length → K (enterS p (s :: r) (ent x s.num))) ∧
  (¬ (p.hops < 0 ∨ 255 ≤ p.hops) → s.kind = 1 → ¬ ((0 ≤ s.num ∧ s.num < t.nodes) ∧ 0 < (ent x s.num).arcs.length) → K (plainS t x p)) ∧
  (¬ (p.hops < 0 ∨ 255 ≤ p.hops) → s.kind = 2 → ¬ ((0 ≤ s.num ∧ s.num < 2 * t.links.length) ∧ tailG t s.num = x.node) → K ([], p, 2)) ∧
  (¬ (p.hops < 0 ∨ 255 ≤ p.hops) → s.kind = 2 → (0 ≤ s.num ∧ s.num < 2 * t.links.length) → tailG t s.num = x.node → s.num ∈ x.down → K (plainS t x p)) ∧
  (¬ (p.hops < 0 ∨ 255 ≤ p.hops) → s.kind = 2 → (0 ≤ s.num ∧ s.num < 2 * t.links.length) → tailG t s.num = x.node → s.num ∉ x.down → K (leaveS p r [s.num])) ∧
  (¬ (p.hops < 0 ∨ 255 ≤ p.hops) → s.kind ≠ 1 → s.kind ≠ 2 → K ([], p, 1)) := by
 simp only [routeS] at h
 refine ⟨fun h1 => ?_, fun h1 h2 h3 h4 => ?_, fun h1 h2 h3 => ?_, fun h1 h2 h3 => ?_, fun h1 h2 h3 h4 h5 => ?_, fun h1 h2 h3 h4 h5 => ?_, fun h1 h2 h3 => ?_⟩
 ·rw [if_pos h1] at h; exact h
 ·rw [if_neg h1, if_pos h2, if_pos ⟨h3, h4⟩] at h; exact h
 ·rw [if_neg h1, if_pos h2, if_neg h3] at h; exact h
 ·rw [if_neg h1, if_neg (by omega), if_pos h2, if_neg h3] at h; exact h
 ·rw [if_neg h1, if_neg (by omega), if_pos h2, if_pos ⟨h3, h4⟩, if_pos h5] at h; exact h
 ·rw [if_neg h1, if_neg (by omega), if_pos h2, if_pos ⟨h3, h4⟩, if_neg h5] at h; exact h
 ·rw [if_neg h1, if_neg h2, if_neg h3] at h; exact h
def Fit (x : Tab) (p : Pkt) : Prop := (∀ e ∈ x.to, e.arcs.length ≤ 1000 ∧ e.push.length ≤ 1000) ∧ p.stack.length ≤ 1000
abbrev stepH (nodes : Int) (ol ll : List (List D)) (node : Int) (tl dl : List (List D)) (id src dst flow : Int) (sl : List (List D)) (hops : Int) : Hp :=
  [.bx [.d (iD nodes), .d (.list false 1 ol), .d (.list false 7 ll)], .bx [.d (iD node), .d (.list false 3 tl), .d (.list false 1 dl)],
   .bx [.d (iD id), .d (iD src), .d (iD dst), .d (iD flow), .d (.list false 2 sl), .d (iD hops)], .bx [.d (iD 0), .d (iD 0), .d (iD 0), .d (iD 0), .d (.list true 2 []), .d (iD 0)]]
abbrev stepL (l : List (List D)) : Lv := [(3, .c (.ptr 0 0 0 0)), (4, .c (.ptr 1 0 0 0)), (5, .c (.ptr 2 0 0 0)), (6, .c (.d (.list true 1 []))), (7, .c (.ptr 3 0 0 0)), (8, iA 0), (9, .c (.d (.list false 2 l)))]
end Go.Ab

/-
  The engine: a contract over a few blocks, used where these blocks are some of many.
-/
namespace Go.Ab
section
variable {G : Nat → Prop} {w : World} {ιc ι : Io} {hc h : Hp} {ρ : Nat → Nat}
theorem Kept.rn {ι' ιc' : Io} {w' : World} {i l : Nat} {k k' : Blk} (hk : Kept ιc ιc' w w' i k k') (h1 : ι[l]? = ιc[i]?) (h2 : ι'[l]? = ιc'[i]?) : Kept ι ι' w w' l (rnB ρ k) (rnB ρ k') := by
 cases k' with
 | dead => cases k <;> trivial
 | am m' =>
  cases k with
  | am m => trivial
  | _ => simp [Kept] at hk
 | bx cs' =>
  cases k with
  | bx cs => exact ⟨by rw [rnCs_len, rnCs_len]; exact hk.1, by rw [h1, h2]; exact hk.2⟩
  | _ => simp [Kept] at hk
 | da r' v' sz' es' =>
  cases k with
  | da r v sz es =>
   rcases hk with hk | ⟨a1, a2, a3, a4, a5, a6⟩
   ·exact .inl hk
   ·exact .inr ⟨a1, a2, a3, a4, by rw [h1, h2]; exact a5, fun hr b o hb => a6 hr b o (by rw [← h1]; exact hb)⟩
  | _ => simp [Kept] at hk
 | mp v' es' =>
  cases k with
  | mp v es =>
   obtain ⟨a1, a2⟩ := hk
   refine ⟨by rw [h1, h2]; exact a1, ?_⟩
   rcases a2 with a2 | ⟨a2, a3, a4⟩
   ·exact .inl a2
   ·exact .inr ⟨a2, a3, fun b o hb => a4 b o (by rw [← h1]; exact hb)⟩
  | _ => simp [Kept] at hk
 | mi m' v' es' =>
  cases k with
  | mi m v es =>
   obtain ⟨a1, a2, a3⟩ := hk
   exact ⟨by rw [a1], a2, by rw [h1, h2]; exact a3⟩
  | _ => simp [Kept] at hk
end
def setAll {α : Type} : List α → List Nat → List α → List α
 | h, [], _ => h
 | h, _ :: _, [] => h
 | h, l :: σ, b :: bs => setAll (h.set l b) σ bs
theorem setAll_len {α : Type} : ∀ (σ : List Nat) (h bs : List α), (setAll h σ bs).length = h.length
 | [], _, _ => by simp only [setAll]
 | _ :: _, _, [] => by simp only [setAll]
 | l :: σ, h, b :: bs => by simp only [setAll]; rw [setAll_len σ]; simp
theorem setAll_other {α : Type} : ∀ (σ : List Nat) (h bs : List α) (l : Nat), l ∉ σ → (setAll h σ bs)[l]? = h[l]?
 | [], _, _, _, _ => by simp only [setAll]
 | _ :: _, _, [], _, _ => by simp only [setAll]
 | l :: σ, h, b :: bs, l', hn => by
  simp only [setAll]
  rw [setAll_other σ _ bs l' (fun hm => hn (List.mem_cons_of_mem _ hm)), List.getElem?_set_ne (fun (e : l = l') => hn (by rw [e]; exact List.mem_cons_self ..))]
theorem setAll_at {α : Type} : ∀ (σ : List Nat) (h bs : List α) (i l : Nat) (b : α), σ.Nodup → (∀ l ∈ σ, l < h.length) → σ[i]? = some l → bs[i]? = some b → (setAll h σ bs)[l]? = some b
 | [], _, _, _, _, _, _, _, h1, _ => by simp at h1
 | _ :: _, _, [], _, _, _, _, _, _, h2 => by simp at h2
 | l0 :: σ, h, b0 :: bs, i, l, b, hn, hl, h1, h2 => by
  simp only [setAll]
  cases i with
  | zero =>
   simp at h1 h2
   subst h1 h2
   rw [setAll_other σ _ bs l0 (List.nodup_cons.1 hn).1, List.getElem?_set_self (hl l0 (List.mem_cons_self ..))]
  | succ i =>
   exact setAll_at σ _ bs i l b (List.nodup_cons.1 hn).2 (fun x hx => by simpa using hl x (List.mem_cons_of_mem _ hx)) (by simpa using h1) (by simpa using h2)
def rho : List Nat → Nat → Nat → Nat
 | [], n, i => n + i
 | l :: _, _, 0 => l
 | _ :: σ, n, i + 1 => rho σ n i
theorem rho_old : ∀ (σ : List Nat) (n i : Nat), i < σ.length → σ[i]? = some (rho σ n i)
 | [], _, _, h => by simp at h
 | l :: σ, n, 0, _ => rfl
 | l :: σ, n, i + 1, h => by simpa [rho] using rho_old σ n i (by simpa using h)
theorem rho_new : ∀ (σ : List Nat) (n i : Nat), σ.length ≤ i → rho σ n i = n + (i - σ.length)
 | [], _, _, _ => rfl
 | l :: σ, n, 0, h => by simp at h
 | l :: σ, n, i + 1, h => by simp only [rho, List.length_cons]; rw [rho_new σ n i (by simpa using h)]; omega
def backH (h : Hp) (σ : List Nat) (hc : Hp) : Hp := setAll h σ (rnH (rho σ h.length) hc) ++ rnH (rho σ h.length) (hc.drop σ.length)
def backI (ι : Io) (σ : List Nat) (ιc : Io) : Io := setAll ι σ ιc ++ ιc.drop σ.length
theorem FnS.frame {P : Program} {f : Nat} {args : List AV} {hc : Hp} {R : AV → Hp → Prop} (hf : FnS P f args hc R) (σ : List Nat) (h : Hp) (hlen : σ.length = hc.length) (hnd : σ.Nodup)
    (hh : ∀ i k, hc[i]? = some k → h[rho σ h.length i]? = some (rnB (rho σ h.length) k)) (hcl : refsH hc.length hc = true) (hca : ∀ x ∈ args, refsA hc.length x = true) :
    FnS P f (rnAs (rho σ h.length) args) h fun r' h' => ∃ r hc', R r hc' ∧ r' = rnA (rho σ h.length) r ∧ h' = backH h σ hc' := by
  refine ⟨fun G ι w vs hr hv => ?_⟩
  have hlt : ∀ l ∈ σ, l < h.length := by
    intro l hl
    obtain ⟨i, hi, rfl⟩ := List.getElem_of_mem hl
    have h1 := rho_old σ h.length i hi
    rw [List.getElem?_eq_getElem hi] at h1
    have h2 := hh i _ (List.getElem?_eq_getElem (by omega))
    rw [← Option.some.inj h1] at h2
    exact get_lt h2
  have hιl : ∀ l ∈ σ, l < ι.length := fun l hl => by rw [hr.len]; exact hlt l hl
  generalize hρ : rho σ h.length = ρ at *
  have rold : ∀ i, i < σ.length → σ[i]? = some (ρ i) := fun i hi => by rw [← hρ]; exact rho_old σ _ i hi
  have rnew : ∀ i, σ.length ≤ i → ρ i = h.length + (i - σ.length) := fun i hi => by rw [← hρ]; exact rho_new σ _ i hi
  have rmem : ∀ i, i < σ.length → ρ i ∈ σ := fun i hi => List.mem_of_getElem? (rold i hi)
  have rinj : ∀ i j, ρ i = ρ j → i = j := by
    intro i j e
    rcases Nat.lt_or_ge i σ.length with hi | hi <;> rcases Nat.lt_or_ge j σ.length with hj | hj
    · have h1 := rold i hi
      have h2 := rold j hj
      rw [e, ← h2] at h1
      exact (List.getElem?_inj hi hnd).1 h1
    · have := hlt _ (rmem i hi); have := rnew j hj; omega
    · have := hlt _ (rmem j hj); have := rnew i hi; omega
    · have := rnew i hi; have := rnew j hj; omega
  let ιc : Io := σ.map fun l => (ι[l]?).getD (0, 0)
  have hιc : ∀ i, i < σ.length → ιc[i]? = ι[ρ i]? := by
    intro i hi
    simp only [ιc, List.getElem?_map, rold i hi, Option.map_some]
    rw [List.getElem?_eq_getElem (hιl _ (rmem i hi))]; rfl
  have am : Among ρ ιc hc ι h := ⟨hh, fun i k hk => (hιc i (by rw [hlen]; exact get_lt hk)).symm⟩
  have hrc : HR G ιc hc w := HR.down am hr (by simp [ιc, hlen]) (fun i j _ _ e => rinj i j e) hcl
  have hvc : VRs G w ιc hc vs args := by
    refine ⟨by rw [hv.1, rnAs_len], fun i v x h1 h2 => ?_⟩
    exact (hv.2 i v (rnA ρ x) h1 (by rw [rnAs_get, h2]; rfl)).unrn am (hca x (List.mem_of_getElem? h2))
  refine (hf.out G ιc w vs hrc hvc).mono fun e w2 ⟨v, r, G2, ι2, hc2, he, hR, hr2, hvr, hx⟩ => ?_
  have hl2 : hc.length ≤ hc2.length := by
    rcases Nat.lt_or_ge hc2.length hc.length with hb | hb
    · obtain ⟨k', h1, _⟩ := hx.keep hc2.length _ (List.getElem?_eq_getElem hb)
      have := get_lt h1; omega
    · exact hb
  have hl2' : ι2.length = hc2.length := hr2.len
  have hset : (setAll h σ (rnH ρ hc2)).length = h.length := setAll_len σ h _
  have hseti : (setAll ι σ ι2).length = h.length := by rw [setAll_len, hr.len]
  have hbh : backH h σ hc2 = setAll h σ (rnH ρ hc2) ++ rnH ρ (hc2.drop σ.length) := by simp only [backH, hρ]
  -- the callee's blocks, at the caller
  have am2 : Among ρ ι2 hc2 (backI ι σ ι2) (backH h σ hc2) := by
    rw [hbh]
    constructor
    · intro i k hk
      rcases Nat.lt_or_ge i σ.length with hi | hi
      · rw [List.getElem?_append_left (by rw [hset]; exact hlt _ (rmem i hi))]
        exact setAll_at σ h _ i _ _ hnd hlt (rold i hi) (by rw [rnH_get, hk]; rfl)
      · rw [rnew i hi, List.getElem?_append_right (by omega), hset, rnH_get, List.getElem?_drop]
        rw [show σ.length + (h.length + (i - σ.length) - h.length) = i by omega, hk]; rfl
    · intro i k hk
      unfold backI
      have hi2 : ι2[i]? = some (ι2[i]'(by rw [hl2']; exact get_lt hk)) := List.getElem?_eq_getElem _
      rcases Nat.lt_or_ge i σ.length with hi | hi
      · rw [List.getElem?_append_left (by rw [hseti]; exact hlt _ (rmem i hi)), hi2]
        exact setAll_at σ ι _ i _ _ hnd hιl (rold i hi) hi2
      · rw [rnew i hi, List.getElem?_append_right (by omega), hseti, List.getElem?_drop]
        rw [show σ.length + (h.length + (i - σ.length) - h.length) = i by omega]
  -- each of the caller's blocks is one of the callee's, or as it was
  have part : ∀ l k', (backH h σ hc2)[l]? = some k' → (∃ i k, hc2[i]? = some k ∧ l = ρ i ∧ k' = rnB ρ k) ∨ (h[l]? = some k' ∧ l ∉ σ ∧ (backI ι σ ι2)[l]? = ι[l]?) := by
    intro l k' hk'
    by_cases hm : l ∈ σ
    · obtain ⟨i, hi, rfl⟩ := List.getElem_of_mem hm
      have e : σ[i] = ρ i := by have := rold i hi; rw [List.getElem?_eq_getElem hi] at this; exact Option.some.inj this
      have hki : hc2[i]? = some (hc2[i]'(by omega)) := List.getElem?_eq_getElem _
      have := am2.blk i _ hki
      rw [e, this] at hk'
      exact .inl ⟨i, _, hki, e, (Option.some.inj hk').symm⟩
    · rcases Nat.lt_or_ge l h.length with hl | hl
      · rw [hbh, List.getElem?_append_left (by omega), setAll_other σ h _ l hm] at hk'
        exact .inr ⟨hk', hm, by unfold backI; rw [List.getElem?_append_left (by omega), setAll_other σ ι _ l hm]⟩
      · rw [hbh, List.getElem?_append_right (by omega), hset, rnH_get, List.getElem?_drop, Option.map_eq_some_iff] at hk'
        obtain ⟨k, h1, rfl⟩ := hk'
        exact .inl ⟨_, k, h1, by rw [rnew _ (by omega)]; omega, rfl⟩
  have other : ∀ l b k, h[l]? = some k → l ∉ σ → own1 ι l k b → b < w.heap.size ∧ ¬ owned ιc hc b := by
    intro l b k h1 h2 h3
    refine ⟨owned_lt hr ⟨l, k, h1, h3⟩, fun ho => ?_⟩
    obtain ⟨i, kc, g1, g2, g3, g4⟩ := owned_rn am ho
    have := hr.own l (ρ i) b k _ h1 g4 h3 g3
    exact h2 (this ▸ rmem i (by rw [hlen]; exact get_lt g1))
  have same : ∀ l b k, h[l]? = some k → l ∉ σ → own1 ι l k b → w2.heap[b]? = w.heap[b]? := by
    intro l b k h1 h2 h3
    have := other l b k h1 h2 h3
    exact hx.frame b this.1 this.2
  have hext : Ext G ι h w G2 (backI ι σ ι2) (backH h σ hc2) w2 :=
    { size := hx.size
      quiet := hx.quiet
      frame := fun b hb ho => hx.frame b hb fun ho' => ho (owned_up am ho')
      gmono := hx.gmono
      gnew := fun b hb => by
        rcases hx.gnew b hb with h1 | h1 | h1
        · exact .inl h1
        · exact .inr (.inl h1)
        · exact .inr (.inr (owned_up am h1))
      onew := fun b ⟨l, k, h2, h3⟩ => by
        rcases part l k h2 with ⟨i, kc, g1, rfl, rfl⟩ | ⟨g1, g2, g3⟩
        · rcases hx.onew b ⟨i, kc, g1, (own1_rn (am2.at' i kc g1)).1 h3⟩ with h4 | h4
          · exact .inl (owned_up am h4)
          · exact .inr h4
        · exact .inl ⟨l, k, g1, own1_io h3 fun _ => g3.symm⟩
      keep := fun l k hk => by
        by_cases hm : l ∈ σ
        · obtain ⟨i, hi, rfl⟩ := List.getElem_of_mem hm
          have e : σ[i] = ρ i := by have := rold i hi; rw [List.getElem?_eq_getElem hi] at this; exact Option.some.inj this
          have hki : hc[i]? = some (hc[i]'(by omega)) := List.getElem?_eq_getElem _
          rw [e, hh i _ hki] at hk
          cases hk
          obtain ⟨k', g1, g2⟩ := hx.keep i _ hki
          exact ⟨rnB ρ k', by rw [e]; exact am2.blk i k' g1, by rw [e]; exact g2.rn (am.at' i _ hki) (am2.at' i k' g1)⟩
        · have hl : l < h.length := get_lt hk
          have e1 : (backH h σ hc2)[l]? = some k := by rw [hbh, List.getElem?_append_left (by omega), setAll_other σ h _ l hm]; exact hk
          have e2 : (backI ι σ ι2)[l]? = ι[l]? := by unfold backI; rw [List.getElem?_append_left (by omega), setAll_other σ ι _ l hm]
          exact ⟨k, e1, Kept.frame e2 fun b hb => same l b k hk hm hb⟩ }
  refine ⟨v, rnA ρ r, G2, backI ι σ ι2, backH h σ hc2, he, ⟨r, hc2, hR, rfl, rfl⟩, ?_, hvr.rn am2, hext⟩
  exact
    { len := by
        rw [hbh]; unfold backI
        simp only [List.length_append, hset, hseti, rnH_len, List.length_drop, hl2']
      own := by
        intro l l' b k k' h3 h4 h5 h6
        rcases part l k h3 with ⟨i, kc, g1, rfl, rfl⟩ | ⟨g1, g2, g3⟩ <;> rcases part l' k' h4 with ⟨i', kc', q1, rfl, rfl⟩ | ⟨q1, q2, q3⟩
        · rw [hr2.own i i' b kc kc' g1 q1 ((own1_rn (am2.at' i kc g1)).1 h5) ((own1_rn (am2.at' i' kc' q1)).1 h6)]
        · exfalso
          have ot := other l' b k' q1 q2 (own1_io h6 fun _ => q3.symm)
          rcases hx.onew b ⟨i, kc, g1, (own1_rn (am2.at' i kc g1)).1 h5⟩ with h7 | h7
          · exact ot.2 h7
          · omega
        · exfalso
          have ot := other l b k g1 g2 (own1_io h5 fun _ => g3.symm)
          rcases hx.onew b ⟨i', kc', q1, (own1_rn (am2.at' i' kc' q1)).1 h6⟩ with h7 | h7
          · exact ot.2 h7
          · omega
        · exact hr.own l l' b k k' g1 q1 (own1_io h5 fun _ => g3.symm) (own1_io h6 fun _ => q3.symm)
      g := by
        intro b hb
        refine ⟨(hr2.g b hb).1, fun ⟨l, k, h2, h3⟩ => ?_⟩
        rcases part l k h2 with ⟨i, kc, g1, rfl, rfl⟩ | ⟨g1, g2, g3⟩
        · exact (hr2.g b hb).2 ⟨i, kc, g1, (own1_rn (am2.at' i kc g1)).1 h3⟩
        · have h3' : own1 ι l k b := own1_io h3 fun _ => g3.symm
          have ot := other l b k g1 g2 h3'
          rcases hx.gnew b hb with h4 | h4 | h4
          · exact (hr.g b h4).2 ⟨l, k, g1, h3'⟩
          · omega
          · exact ot.2 h4
      blk := by
        intro l k hk
        rcases part l k hk with ⟨i, kc, g1, rfl, rfl⟩ | ⟨g1, g2, g3⟩
        · exact BR.rn am2 g1 (hr2.blk i kc g1)
        · exact BR.ext hext hr g1 g3 fun b hb => same l b k g1 g2 hb }
end Go.Ab

/-
  The priority queue, part a: heaps, plainly (no program in sight).
-/
namespace Go.Ab
open Go.Proofs
def ltK (K : List Int) (a b : Int) : Prop := K.getD a.toNat 0 < K.getD b.toNat 0 ∨ (K.getD a.toNat 0 = K.getD b.toNat 0 ∧ a < b)
instance (K : List Int) (a b : Int) : Decidable (ltK K a b) := by unfold ltK; infer_instance
def leK (K : List Int) (a b : Int) : Prop := ¬ ltK K b a
theorem leK_trans {K : List Int} {a b c : Int} (h1 : leK K a b) (h2 : leK K b c) : leK K a c := by unfold leK ltK at *; omega
theorem ltK_le {K : List Int} {a b : Int} (h : ltK K a b) : leK K a b := by unfold leK ltK at *; omega
abbrev at' (O : List Int) (p : Nat) : Int := O.getD p 0
structure Pre (K O : List Int) (p : Nat) : Prop where
 e1 : ∀ c, 0 < c → c < O.length → c ≠ p → (c - 1) / 2 ≠ p → leK K (at' O ((c - 1) / 2)) (at' O c)
 e2 : ∀ c, 0 < p → 0 < c → c < O.length → (c - 1) / 2 = p → leK K (at' O ((p - 1) / 2)) (at' O c)
def HO (K O : List Int) : Prop := ∀ c, 0 < c → c < O.length → leK K (at' O ((c - 1) / 2)) (at' O c)
def swp (O : List Int) (p q : Nat) : List Int := (O.set p (at' O q)).set q (at' O p)
theorem swp_len (O : List Int) (p q : Nat) : (swp O p q).length = O.length := by simp [swp]
theorem swp_at {O : List Int} {p q : Nat} (hp : p < O.length) (hq : q < O.length) (c : Nat) : at' (swp O p q) c = if c = q then at' O p else if c = p then at' O q else at' O c := by
 simp only [at', swp, List.getD_eq_getElem?_getD, List.getElem?_set, List.length_set]
 by_cases h1 : c = q
 ·subst h1; simp [hq]
 ·have h1' : ¬ q = c := fun h => h1 h.symm
  simp only [if_neg h1, if_neg h1']
  by_cases h2 : c = p
  ·subst h2; simp [hp]
  ·have h2' : ¬ p = c := fun h => h2 h.symm
   simp only [if_neg h2, if_neg h2']
theorem Pre.up {K O : List Int} {p : Nat} (h : Pre K O p) (hp0 : 0 < p) (hp : p < O.length) (_hlt : ltK K (at' O p) (at' O ((p - 1) / 2))) : Pre K (swp O p ((p - 1) / 2)) ((p - 1) / 2) := by
 have hq : (p - 1) / 2 < O.length := by omega
 have hsw := swp_at hp hq
 have hqp : (p - 1) / 2 ≠ p := by omega
 refine ⟨fun c c0 cl cq cpq => ?_, fun c q0 c0 cl cpq => ?_⟩
 ·rw [swp_len] at cl
  rw [hsw, hsw, if_neg cpq, if_neg cq]
  by_cases h1 : c = p
  ·exact absurd (by rw [h1]) cpq
  ·rw [if_neg h1]
   by_cases h2 : (c - 1) / 2 = p
   ·rw [if_pos h2]; exact h.e2 c hp0 c0 cl h2
   ·rw [if_neg h2]; exact h.e1 c c0 cl h1 h2
 ·rw [swp_len] at cl
  have hg : ((p - 1) / 2 - 1) / 2 ≠ (p - 1) / 2 := by omega
  have hg2 : ((p - 1) / 2 - 1) / 2 ≠ p := by omega
  have e0 : leK K (at' O (((p - 1) / 2 - 1) / 2)) (at' O ((p - 1) / 2)) := h.e1 ((p - 1) / 2) q0 hq hqp (by omega)
  rw [hsw, hsw, if_neg hg, if_neg hg2]
  by_cases h1 : c = (p - 1) / 2
  ·omega
  ·rw [if_neg h1]
   by_cases h2 : c = p
   ·rw [if_pos h2]; exact e0
   ·rw [if_neg h2]
    have := h.e1 c c0 cl h2 (by omega)
    rw [cpq] at this
    exact leK_trans e0 this
structure PreD (K O : List Int) (p : Nat) : Prop where
 pre : Pre K O p
 top : 0 < p → leK K (at' O ((p - 1) / 2)) (at' O p)
theorem PreD.done {K O : List Int} {p : Nat} (h : PreD K O p) (hk : ∀ c, 0 < c → c < O.length → (c - 1) / 2 = p → leK K (at' O p) (at' O c)) : HO K O := by
 intro c c0 cl
 by_cases h1 : c = p
 ·subst h1; exact h.top c0
 ·by_cases h2 : (c - 1) / 2 = p
  ·rw [h2]; exact hk c c0 cl h2
  ·exact h.pre.e1 c c0 cl h1 h2
theorem PreD.down {K O : List Int} {p q : Nat} (h : PreD K O p) (hp : p < O.length) (hq : q < O.length) (q0 : 0 < q) (hqp : (q - 1) / 2 = p) (hlt : ltK K (at' O q) (at' O p)) (hle : ∀ c, 0 < c → c < O.length → (c - 1) / 2 = p → leK K (at' O q) (at' O c)) : PreD K (swp O p q) q := by
 have hsw := swp_at hp hq
 have hne : p ≠ q := by omega
 refine ⟨⟨fun c c0 cl cq cpq => ?_, fun c _ c0 cl cpq => ?_⟩, fun _ => ?_⟩
 ·rw [swp_len] at cl
  rw [hsw, hsw, if_neg cpq, if_neg cq]
  by_cases h1 : c = p
  ·subst h1
   rw [if_neg (by omega), if_pos rfl]
   exact h.pre.e2 q c0 q0 hq hqp
  ·rw [if_neg h1]
   by_cases h2 : (c - 1) / 2 = p
   ·rw [if_pos h2]; exact hle c c0 cl h2
   ·rw [if_neg h2]; exact h.pre.e1 c c0 cl h1 h2
 ·rw [swp_len] at cl
  rw [hsw, hsw, hqp, if_neg hne, if_pos rfl, if_neg (by omega), if_neg (by omega)]
  have := h.pre.e1 c c0 cl (by omega) (by omega)
  rw [cpq] at this
  exact this
 ·rw [hsw, hsw, hqp, if_neg hne, if_pos rfl, if_pos rfl]
  exact ltK_le hlt
end Go.Ab

/-
  The priority queue, part b: the contracts of before and swap.
-/
namespace Go.Ab
open Go.Proofs
theorem heap_start {P : Program} {f : Nat} {fn : Func} {af : AF} {args : List AV} {h : Hp} {R : AV → Hp → Prop} (hm : P.follows .mixedOrders = true) (hf : P.funcs[f]? = some fn) (hc : compF P fn = some af) (hl : args.length ≤ af.nt)
  (hv : ∀ Λ : Len, (∀ l, Λ l = (l.length : Int)) → ∀ K : AV → Hp → Prop, (∀ r h', R r h' → K r h') → vcH P Λ af args h K) : FnS P f args h R := fn_heap hm hf hc hl fun Λ h => hv Λ h _ fun _ _ h => h
end Go.Ab

/-
  The engine: a function's new blocks, given up behind it.
-/
namespace Go.Ab
theorem FnS.cut {P : Program} {f : Nat} {args : List AV} {h : Hp} {R : AV → Hp → Prop} (hf : FnS P f args h R) (hc : ∀ r h', R r h' → refsA h.length r = true ∧ refsH h.length (h'.take h.length) = true) :
  FnS P f args h fun r h1 => ∃ h2, R r (h1 ++ h2) ∧ h1.length = h.length := by
 refine ⟨fun G ι w vs hr hv => ?_⟩
 refine (hf.out G ι w vs hr hv).mono fun e w2 ⟨v, r, G2, ι2, hc2, he, hR, hr2, hvr, hx⟩ => ?_
 have hl2 : h.length ≤ hc2.length := by
  rcases Nat.lt_or_ge hc2.length h.length with hb | hb
  ·obtain ⟨k', h1, _⟩ := hx.keep hc2.length _ (List.getElem?_eq_getElem hb)
   have := get_lt h1; omega
  ·exact hb
 obtain ⟨c1, c2⟩ := hc r hc2 hR
 have hlt : (hc2.take h.length).length = h.length := by rw [List.length_take]; omega
 let a : Act := ⟨#[v], []⟩
 have hfit : Fits 1 G ι h w (lkL [(0, r)]) hc2 a w2 := ⟨G2, ι2, ⟨hr2, rfl, rfl, fun i => by
  cases i with
  | zero => exact hvr
  | succ i => exact .c _ _ (.u _)⟩, hx⟩
 obtain ⟨G3, ι3, st⟩ := Wk.cut_fits (m := h.length) (L' := [(0, r)]) (h' := hc2.take h.length) ⟨hc2.drop h.length, (List.take_append_drop _ _).symm⟩ (by omega) (by rw [hlt]; exact c2)
  (by rw [hlt]; exact ⟨⟨rfl, c1⟩, trivial⟩) (Nat.le_refl _) hfit
 have hv0 := st.rel.env 0
 exact ⟨v, r, G3, ι3, hc2.take h.length, he, ⟨hc2.drop h.length, by rw [List.take_append_drop]; exact hR, hlt⟩, st.rel.hr, hv0, st.ext⟩
theorem Kept.unrn {ι ι2 ιc : Io} {w w2 : World} {l : Nat} {k kc : Blk} {ρ : Nat → Nat} (hk : Kept ι ι2 w w2 l k (rnB ρ kc)) (hi : ιc[l]? = ι2[l]?) (hm : ∀ m v es, kc ≠ .mi m v es) : Kept ι ιc w w2 l k kc := by
 cases kc with
 | dead => cases k <;> trivial
 | am m' =>
  cases k with
  | am m => trivial
  | _ => simp [rnB, Kept] at hk
 | bx cs' =>
  cases k with
  | bx cs => exact ⟨by have := hk.1; rw [rnCs_len] at this; exact this, by rw [hi]; exact hk.2⟩
  | _ => simp [rnB, Kept] at hk
 | da r' v' sz' es' =>
  cases k with
  | da r v sz es =>
   rcases hk with hk | ⟨a1, a2, a3, a4, a5, a6⟩
   ·exact .inl hk
   ·exact .inr ⟨a1, a2, a3, a4, by rw [hi]; exact a5, a6⟩
  | _ => simp [rnB, Kept] at hk
 | mp v' es' =>
  cases k with
  | mp v es => exact ⟨by rw [hi]; exact hk.1, hk.2⟩
  | _ => simp [rnB, Kept] at hk
 | mi m v es => exact absurd rfl (hm m v es)
theorem FnS.gc {P : Program} {f : Nat} {args : List AV} {h : Hp} {R : AV → Hp → Prop} (hf : FnS P f args h R) (Q : AV → Hp → Prop)
    (hg : ∀ r h', R r h' → ∃ (σ : List Nat) (r' : AV) (hc : Hp), Q r' hc ∧ σ.length = hc.length ∧ σ.Nodup ∧ (∀ l ∈ σ, l < h'.length) ∧ (∀ (i : Nat) (k : Blk), hc[i]? = some k → h'[rho σ h'.length i]? = some (rnB (rho σ h'.length) k)) ∧
      r = rnA (rho σ h'.length) r' ∧ refsH hc.length hc = true ∧ refsA hc.length r' = true ∧ h.length ≤ hc.length ∧ (∀ i, i < h.length → rho σ h'.length i = i) ∧ ∀ k ∈ hc, ∀ m v es, k ≠ .mi m v es) : FnS P f args h Q := by
  refine ⟨fun G ι w vs hr hv => ?_⟩
  refine (hf.out G ι w vs hr hv).mono fun e w2 ⟨v, r, G2, ι2, h', he, hR, hr2, hvr, hx⟩ => ?_
  obtain ⟨σ, r', hc, hQ, hlen, hnd, hlt, hh, hrr, hcl, hca, hle, hid, hmi⟩ := hg r h' hR
  generalize hρ : rho σ h'.length = ρ at *
  have rold : ∀ i, i < σ.length → σ[i]? = some (ρ i) := fun i hi => by rw [← hρ]; exact rho_old σ _ i hi
  have rnew : ∀ i, σ.length ≤ i → ρ i = h'.length + (i - σ.length) := fun i hi => by rw [← hρ]; exact rho_new σ _ i hi
  have rmem : ∀ i, i < σ.length → ρ i ∈ σ := fun i hi => List.mem_of_getElem? (rold i hi)
  have rinj : ∀ i j, ρ i = ρ j → i = j := by
    intro i j e
    rcases Nat.lt_or_ge i σ.length with hi | hi <;> rcases Nat.lt_or_ge j σ.length with hj | hj
    · have h1 := rold i hi
      have h2 := rold j hj
      rw [e, ← h2] at h1
      exact (List.getElem?_inj hi hnd).1 h1
    · have := hlt _ (rmem i hi); have := rnew j hj; omega
    · have := hlt _ (rmem j hj); have := rnew i hi; omega
    · have := rnew i hi; have := rnew j hj; omega
  let ιc : Io := σ.map fun l => (ι2[l]?).getD (0, 0)
  have hιc : ∀ i, i < σ.length → ιc[i]? = ι2[ρ i]? := by
    intro i hi
    simp only [ιc, List.getElem?_map, rold i hi, Option.map_some]
    rw [List.getElem?_eq_getElem (by rw [hr2.len]; exact hlt _ (rmem i hi))]; rfl
  have am : Among ρ ιc hc ι2 h' := ⟨hh, fun i k hk => (hιc i (by rw [hlen]; exact get_lt hk)).symm⟩
  have hrc : HR G2 ιc hc w2 := HR.down am hr2 (by simp [ιc, hlen]) (fun i j _ _ e => rinj i j e) hcl
  have hvc : VR G2 w2 ιc hc v r' := VR.unrn am (hrr ▸ hvr) hca
  refine ⟨v, r', G2, ιc, hc, he, hQ, hrc, hvc, ?_⟩
  exact
    { size := hx.size
      quiet := hx.quiet
      frame := hx.frame
      gmono := hx.gmono
      gnew := hx.gnew
      onew := fun b ho => hx.onew b (owned_up am ho)
      keep := fun l k hk => by
        obtain ⟨k', h1, h2⟩ := hx.keep l k hk
        have hl := get_lt hk
        have hkc : hc[l]? = some (hc[l]'(by omega)) := List.getElem?_eq_getElem _
        have h3 := hh l _ hkc
        rw [hid l hl, h1] at h3
        cases h3
        exact ⟨_, hkc, h2.unrn (by rw [hιc l (by omega), hid l hl]) (hmi _ (List.getElem_mem _))⟩ }
end Go.Ab

/-
  The engine: a function's new blocks, given up behind it, where it returns several values.
-/
namespace Go.Ab
def refsT (n : Nat) : AV → Bool
 | .tup l => l.all (refsA n)
 | x => refsA n x
theorem rnAs_at (ρ : Nat → Nat) : ∀ (l : List AV) (i : Nat), (rnAs ρ l)[i]? = (l[i]?).map (rnA ρ)
 | [], _ => by simp [rnAs, rnA.rnAs]
 | x :: l, 0 => by simp [rnAs, rnA.rnAs]
 | x :: l, i + 1 => by
  have := rnAs_at ρ l i
  simpa [rnAs, rnA.rnAs] using this
theorem rnAs_ln (ρ : Nat → Nat) : ∀ (l : List AV), (rnAs ρ l).length = l.length
 | [] => rfl
 | x :: l => by
  have := rnAs_ln ρ l
  simpa [rnAs, rnA.rnAs] using this
theorem VR.unrnT {G : Nat → Prop} {w : World} {ι ιc : Io} {h hc : Hp} {ρ : Nat → Nat} (am : Among ρ ιc hc ι h) {v : Value} {x : AV} (hx : VR G w ι h v (rnA ρ x)) (hr : refsT hc.length x = true) : VR G w ιc hc v x := by
 cases x with
 | c x => exact hx.unrn am hr
 | agg l => exact hx.unrn am hr
 | tup l =>
  cases hx with
  | tup cs _ hn h1 =>
   have h1 : ∀ (i : Nat) (v : Value) (x : AV), cs[i]? = some v → (rnAs ρ l)[i]? = some x → VR G w ι h v x := h1
   refine .tup cs l (by rw [hn]; exact rnAs_ln ρ l) fun i v x hv hx => ?_
   exact (h1 i v (rnA ρ x) hv (by rw [rnAs_at, hx]; rfl)).unrn am (List.all_eq_true.1 hr x (List.mem_of_getElem? hx))
theorem FnS.gct {P : Program} {f : Nat} {args : List AV} {h : Hp} {R : AV → Hp → Prop} (hf : FnS P f args h R) (Q : AV → Hp → Prop)
    (hg : ∀ r h', R r h' → ∃ (σ : List Nat) (r' : AV) (hc : Hp), Q r' hc ∧ σ.length = hc.length ∧ σ.Nodup ∧ (∀ l ∈ σ, l < h'.length) ∧ (∀ (i : Nat) (k : Blk), hc[i]? = some k → h'[rho σ h'.length i]? = some (rnB (rho σ h'.length) k)) ∧
      r = rnA (rho σ h'.length) r' ∧ refsH hc.length hc = true ∧ refsT hc.length r' = true ∧ h.length ≤ hc.length ∧ (∀ i, i < h.length → rho σ h'.length i = i) ∧ ∀ k ∈ hc, ∀ m v es, k ≠ .mi m v es) : FnS P f args h Q := by
  refine ⟨fun G ι w vs hr hv => ?_⟩
  refine (hf.out G ι w vs hr hv).mono fun e w2 ⟨v, r, G2, ι2, h', he, hR, hr2, hvr, hx⟩ => ?_
  obtain ⟨σ, r', hc, hQ, hlen, hnd, hlt, hh, hrr, hcl, hca, hle, hid, hmi⟩ := hg r h' hR
  generalize hρ : rho σ h'.length = ρ at *
  have rold : ∀ i, i < σ.length → σ[i]? = some (ρ i) := fun i hi => by rw [← hρ]; exact rho_old σ _ i hi
  have rnew : ∀ i, σ.length ≤ i → ρ i = h'.length + (i - σ.length) := fun i hi => by rw [← hρ]; exact rho_new σ _ i hi
  have rmem : ∀ i, i < σ.length → ρ i ∈ σ := fun i hi => List.mem_of_getElem? (rold i hi)
  have rinj : ∀ i j, ρ i = ρ j → i = j := by
    intro i j e
    rcases Nat.lt_or_ge i σ.length with hi | hi <;> rcases Nat.lt_or_ge j σ.length with hj | hj
    · have h1 := rold i hi
      have h2 := rold j hj
      rw [e, ← h2] at h1
      exact (List.getElem?_inj hi hnd).1 h1
    · have := hlt _ (rmem i hi); have := rnew j hj; omega
    · have := hlt _ (rmem j hj); have := rnew i hi; omega
    · have := rnew i hi; have := rnew j hj; omega
  let ιc : Io := σ.map fun l => (ι2[l]?).getD (0, 0)
  have hιc : ∀ i, i < σ.length → ιc[i]? = ι2[ρ i]? := by
    intro i hi
    simp only [ιc, List.getElem?_map, rold i hi, Option.map_some]
    rw [List.getElem?_eq_getElem (by rw [hr2.len]; exact hlt _ (rmem i hi))]; rfl
  have am : Among ρ ιc hc ι2 h' := ⟨hh, fun i k hk => (hιc i (by rw [hlen]; exact get_lt hk)).symm⟩
  have hrc : HR G2 ιc hc w2 := HR.down am hr2 (by simp [ιc, hlen]) (fun i j _ _ e => rinj i j e) hcl
  have hvc : VR G2 w2 ιc hc v r' := VR.unrnT am (hrr ▸ hvr) hca
  refine ⟨v, r', G2, ιc, hc, he, hQ, hrc, hvc, ?_⟩
  exact
    { size := hx.size
      quiet := hx.quiet
      frame := hx.frame
      gmono := hx.gmono
      gnew := hx.gnew
      onew := fun b ho => hx.onew b (owned_up am ho)
      keep := fun l k hk => by
        obtain ⟨k', h1, h2⟩ := hx.keep l k hk
        have hl := get_lt hk
        have hkc : hc[l]? = some (hc[l]'(by omega)) := List.getElem?_eq_getElem _
        have h3 := hh l _ hkc
        rw [hid l hl, h1] at h3
        cases h3
        exact ⟨_, hkc, h2.unrn (by rw [hιc l (by omega), hid l hl]) (hmi _ (List.getElem_mem _))⟩ }
end Go.Ab

/-
  Chapter 23: a step whose stack is new memory.
-/
namespace Go.Ab
open Go.Proofs
def NewX (es : List (List D)) (c : CV) (H : Hp) : Prop := (∃ l k rl, c = .arr l 1 0 k ∧ H[l]? = some (Blk.da rl 1 2 es) ∧ k = es.length) ∨ (es = [] ∧ ∃ nk, c = .d (.list nk 2 []))
def NewR (mk : Bool → CV → AV) (es : List (List D)) (r : AV) (h' : Hp) : Prop := ∃ nl c, r = mk nl c ∧ NewX es c h'
def NewC (mk : Bool → CV → AV) (es : List (List D)) (r : AV) (h' : Hp) : Prop := ∃ nl c, r = mk nl c ∧ ((∃ k rl, c = .arr 0 1 0 k ∧ h' = [Blk.da rl 1 2 es] ∧ k = es.length) ∨ (es = [] ∧ ∃ nk, c = .d (.list nk 2 []) ∧ h' = []))
structure MkA (mk : Bool → CV → AV) : Prop where
 ren : ∀ ρ nl c, rnA ρ (mk nl c) = mk nl (rnC ρ c)
 r1 : ∀ nl k, refsT 1 (mk nl (.arr 0 1 0 k)) = true
 r0 : ∀ nl nk, refsT 0 (mk nl (.d (.list nk 2 []))) = true
abbrev pkC (id src dst flow : Int) (c : CV) (hops : Int) : AV := .agg [.d (iD id), .d (iD src), .d (iD dst), .d (iD flow), c, .d (iD hops)]
abbrev stkA (nl : Bool) (al : List (List D)) (id src dst flow : Int) (c : CV) (hops rs : Int) : AV := .tup [.c (.d (.list nl 1 al)), pkC id src dst flow c hops, iA rs]
abbrev mkC : Bool → CV → AV := fun _ c => .c c
abbrev mkP (id src dst flow hops : Int) : Bool → CV → AV := fun _ c => pkC id src dst flow c hops
abbrev mkS (al : List (List D)) (id src dst flow : Int) (hops rs : Int) : Bool → CV → AV := fun nl c => stkA nl al id src dst flow c hops rs
theorem mkC_ok : MkA mkC := ⟨fun _ _ _ => rfl, fun _ _ => rfl, fun _ _ => rfl⟩
theorem mkP_ok {id src dst flow hops : Int} : MkA (mkP id src dst flow hops) := ⟨fun _ _ _ => rfl, fun _ _ => rfl, fun _ _ => rfl⟩
theorem mkS_ok {al : List (List D)} {id src dst flow : Int} {hops rs : Int} : MkA (mkS al id src dst flow hops rs) := ⟨fun _ _ _ => rfl, fun _ _ => rfl, fun _ _ => rfl⟩
theorem FnS.newC {P : Program} {f : Nat} {args : List AV} {mk : Bool → CV → AV} {es : List (List D)} (hm : MkA mk) (hf : FnS P f args [] (NewR mk es)) : FnS P f args [] (NewC mk es) := by
 refine hf.gct _ ?_
 rintro r h' ⟨nl, c, rfl, ⟨l, k, rl, rfl, h1, h2⟩ | ⟨h1, nk, rfl⟩⟩
 ·refine ⟨[l], mk nl (.arr 0 1 0 k), [Blk.da rl 1 2 es], ⟨nl, _, rfl, .inl ⟨k, rl, rfl, rfl, h2⟩⟩, rfl, by simp, ?_, ?_, ?_, rfl, hm.r1 _ _, Nat.zero_le _, fun i hi => by simp at hi, ?_⟩
  ·intro l' hl'
   rw [List.mem_singleton] at hl'
   subst hl'
   exact get_lt h1
  ·intro i k' hk'
   cases i with
   | zero => cases hk'; exact h1
   | succ i => simp at hk'
  ·rw [hm.ren]; rfl
  ·intro k' hk' m v' es' e
   rw [List.mem_singleton] at hk'
   subst hk'; cases e
 ·exact ⟨[], mk nl (.d (.list nk 2 [])), [], ⟨nl, _, rfl, .inr ⟨h1, nk, rfl, rfl⟩⟩, rfl, .nil, by simp, by simp, by rw [hm.ren]; rfl, rfl, hm.r0 _ _, Nat.le_refl _, fun i hi => by simp at hi, by simp⟩
theorem backH_nil (h hc : Hp) : backH h [] hc = h ++ rnH (rho [] h.length) hc := by simp [backH, setAll]
theorem new_call {P : Program} {f : Nat} {args : List AV} {args0 : List AV} {R : AV → Hp → Prop} {h : Hp} (hf : FnS P f args [] R) (ha : args0.map fgA = rnAs (rho [] h.length) args) (hca : args.all (refsA 0) = true) :
  FnS P f args0 h fun r h' => ∃ r0 hc', R r0 hc' ∧ r = rnA (rho [] h.length) r0 ∧ h' = h ++ rnH (rho [] h.length) hc' := by
 refine FnS.fg ?_
 rw [ha]
 refine (hf.frame [] h rfl .nil (fun i k hk => by simp at hk) rfl fun x hx => List.all_eq_true.1 hca x hx).mono ?_
 rintro r h' ⟨r0, hc', h1, rfl, rfl⟩
 exact ⟨r0, hc', h1, rfl, backH_nil _ _⟩
theorem call_newC {P : Program} {m : Nat} {L : Lv} {h : Hp} {f : Nat} {xs : List X} {K : Lv → AV → Hp → Prop} {args : List AV} {mk : Bool → CV → AV} {es : List (List D)} (hm : MkA mk) (hf : FnS P f args [] (NewC mk es))
  (ha : (evsN L xs).map fgA = rnAs (rho [] h.length) args) (hca : args.all (refsA 0) = true)
  (k : ∀ nl c T, ((∃ k rl, c = .arr h.length 1 0 k ∧ T = [Blk.da rl 1 2 es] ∧ k = es.length) ∨ (es = [] ∧ ∃ nk, c = .d (.list nk 2 []) ∧ T = [])) → K L (mk nl c) (h ++ T)) : CallS P m false L h f xs K := by
 refine .fn ((new_call hf ha hca).mono ?_)
 rintro r h' ⟨r0, hc', ⟨nl, c, rfl, ⟨k0, rl, rfl, rfl, h2⟩ | ⟨h1, nk, rfl, rfl⟩⟩, rfl, rfl⟩
 ·rw [hm.ren]
  exact k nl _ _ (.inl ⟨k0, rl, rfl, rfl, h2⟩)
 ·rw [hm.ren]
  exact k nl _ _ (.inr ⟨h1, nk, rfl, rfl⟩)
abbrev StkR (a : Ans) : AV → Hp → Prop := NewC (mkS (a.1.map encI) a.2.1.id a.2.1.src a.2.1.dst a.2.1.flow a.2.1.hops a.2.2) (a.2.1.stack.map encSeg)
abbrev kq (KQ : List (List D) → Int → Int → Int → Int → List (List D) → Int → Int → Prop) (a : Ans) : Prop := KQ (a.1.map encI) a.2.1.id a.2.1.src a.2.1.dst a.2.1.flow (a.2.1.stack.map encSeg) a.2.1.hops a.2.2
theorem cloneSegs_new (P : Program) (hP : P = Try.prog) (ll : List (List D)) (hl : ll.length ≤ 1000000) : FnS P n_slices_Clone_api_Segment_api_Segment [.c (.d (.list false 2 ll))] [] (NewC mkC ll) := by
 refine FnS.newC mkC_ok (fn_heap (hP ▸ mixed) (hP ▸ fn_slices_Clone_api_Segment_api_Segment) (hP ▸ c_slices_Clone_api_Segment_api_Segment) (Nat.le_of_ble_eq_true rfl) fun Λ Λo => ?_)
 clear hP
 generalize hK : NewR mkC ll = K
 have k1 : ∀ l n rl (es : List (List D)) h', h'[l]? = some (Blk.da rl 1 2 es) → es = ll → n = ll.length → K (.c (.arr l 1 0 n)) h' := by
  intro l n rl es h' h1 h2 h3; rw [← hK]; subst h2; exact ⟨false, _, rfl, .inl ⟨l, n, rl, rfl, h1, h3⟩⟩
 have k2 : ll = [] → ∀ nl h', K (.c (.d (.list nl 2 []))) h' := by
  intro h1 nl h'; rw [← hK]; exact ⟨false, _, rfl, .inr ⟨h1, nl, rfl⟩⟩
 clear hK
 have lln := Λo ll
 conv => cbv
 repeat' first | exact gu | exact trivial | refine And.intro ?_ ?_ | (intro hc; exact absurd hc (by decide)) | (intro hc; exfalso; omega) | (intro hc; (first | rw [wrap_small (by omega) (by omega)] at hc | rw [nI_eq] at hc | skip); try (conv => cbv))
 ·exact k1 0 _ _ _ _ rfl (by rw [hc]; simp) (by rename_i h1 _; rw [h1]; simp)
 ·exact k2 (by assumption) _ _
theorem with_new (P : Program) (hP : P = Try.prog) (p : Pkt) (l : List Seg) (hl : l.length ≤ 1000000) : FnS P n_forward_with [pktA p, segsA l] [] (NewC (mkP p.id p.src p.dst p.flow p.hops) (l.map encSeg)) := by
 have hq := cloneSegs_new P hP (l.map encSeg) (by rw [List.length_map]; exact hl)
 refine FnS.newC mkP_ok (heap_start (hP ▸ mixed) (hP ▸ fn_forward_with) (hP ▸ c_forward_with) (Nat.le_of_ble_eq_true rfl) fun Λ Λo K hK => ?_)
 clear hP
 obtain ⟨id, src, dst, flow, stack, hops⟩ := p
 simp only [segsA, segsD, pktA] at *
 generalize llh : List.map encSeg l = ll at *
 generalize slh : List.map encSeg stack = sl at *
 have lf : ∀ {c : CV} {H : Hp}, NewX ll c H → K (pkC id src dst flow c hops) H := fun hn => hK _ _ ⟨false, _, rfl, hn⟩
 clear hK
 conv => cbv
 repeat' first | (refine call_newC mkC_ok hq rfl rfl ?_; intro nl c T hn; rcases hn with ⟨k, rl, rfl, rfl, hk⟩ | ⟨hnil, nk, rfl, rfl⟩ <;> (conv => cbv)) | exact gu | exact trivial | refine And.intro ?_ ?_ | (intro hc; exact absurd hc (by decide)) | (intro hc; exfalso; omega) | (intro hc; (first | rw [wrap_small (by omega) (by omega)] at hc | rw [nI_eq] at hc | skip); try (conv => cbv))
 all_goals exact lf (by first | exact .inl ⟨_, _, _, rfl, rfl, by assumption⟩ | exact .inr ⟨by assumption, _, rfl⟩)
theorem drop_new (P : Program) (hP : P = Try.prog) (p : Pkt) (r : Int) (hl : p.stack.length ≤ 1000000) : FnS P n_forward_drop [pktA p, iA r] [] (StkR ([], p, r)) := by
 have hq := with_new P hP p p.stack hl
 refine FnS.newC mkS_ok (heap_start (hP ▸ mixed) (hP ▸ fn_forward_drop) (hP ▸ c_forward_drop) (Nat.le_of_ble_eq_true rfl) fun Λ Λo K hK => ?_)
 clear hP
 obtain ⟨id, src, dst, flow, stack, hops⟩ := p
 simp only [segsA, segsD, pktA, intsA, intsD, List.map_nil, StkR] at *
 generalize slh : List.map encSeg stack = sl at *
 have lf : ∀ {nl : Bool} {c : CV} {H : Hp}, NewX sl c H → K (stkA nl [] id src dst flow c hops r) H := fun hn => hK _ _ ⟨_, _, rfl, hn⟩
 clear hK
 conv => cbv
 repeat' first | (refine call_newC mkP_ok hq rfl rfl ?_; intro nl c T hn; rcases hn with ⟨k, rl, rfl, rfl, hk⟩ | ⟨hnil, nk, rfl, rfl⟩ <;> (conv => cbv)) | exact gu | exact trivial | refine And.intro ?_ ?_ | (intro hc; exact absurd hc (by decide)) | (intro hc; exfalso; omega) | (intro hc; (first | rw [wrap_small (by omega) (by omega)] at hc | rw [nI_eq] at hc | skip); try (conv => cbv))
 all_goals exact lf (by first | exact .inl ⟨_, _, _, rfl, rfl, by assumption⟩ | exact .inr ⟨by assumption, _, rfl⟩)
theorem leave_new (P : Program) (hP : P = Try.prog) (p : Pkt) (l : List Seg) (arcs : List Int) (hl : l.length ≤ 1000000) (ha : arcs.length ≤ 1000000) (h0 : -1000 ≤ p.hops) (h1 : p.hops ≤ 1000) :
  FnS P n_forward_leave [pktA p, segsA l, intsA arcs] [] (StkR (arcs, {p with stack := l, hops := p.hops + 1}, 0)) := by
 have hq := with_new P hP p l hl
 have hr := cloneInts_ok P hP arcs ha
 refine FnS.newC mkS_ok (heap_start (hP ▸ mixed) (hP ▸ fn_forward_leave) (hP ▸ c_forward_leave) (Nat.le_of_ble_eq_true rfl) fun Λ Λo K hK => ?_)
 clear hP
 obtain ⟨id, src, dst, flow, stack, hops⟩ := p
 simp only [segsA, segsD, pktA, intsA, intsD, StkR] at *
 generalize slh : List.map encSeg stack = sl at *
 generalize llh : List.map encSeg l = ll at *
 generalize alh : List.map encI arcs = al at *
 have lf : ∀ {nl : Bool} {c : CV} {H : Hp}, NewX ll c H → K (stkA nl al id src dst flow c (hops + 1) 0) H := fun hn => hK _ _ ⟨_, _, rfl, hn⟩
 clear hK
 obtain ⟨hz, hhz⟩ : ∃ hz, hz = hops + 1 := ⟨_, rfl⟩
 rw [← hhz] at lf
 conv => cbv
 repeat' first | (refine call_newC mkP_ok hq rfl rfl ?_; intro nl c T hn; rcases hn with ⟨k, rl, rfl, rfl, hk⟩ | ⟨hnil, nk, rfl, rfl⟩ <;> (conv => cbv)) | (refine call_r hr rfl rfl ?_; conv => cbv) | (intro (k : Int) hk; rw [wrap_small (by omega) (by omega)] at hk; refine (fun (hz : hz = k) => ?_) ?_; rotate_left; omega; subst hz; (conv => cbv)) | exact gu | exact trivial | refine And.intro ?_ ?_ | (intro hc; exact absurd hc (by decide)) | (intro hc; exfalso; omega) | (intro hc; (first | rw [wrap_small (by omega) (by omega)] at hc | rw [nI_eq] at hc | skip); try (conv => cbv))
 all_goals exact lf (by first | exact .inl ⟨_, _, _, rfl, rfl, by assumption⟩ | exact .inr ⟨by assumption, _, rfl⟩)
theorem enter_new (P : Program) (hP : P = Try.prog) (p : Pkt) (l : List Seg) (e : Ety) (hl : l.length ≤ 100000) (hs : p.stack.length ≤ 1000000) (ha : e.arcs.length ≤ 1000000) (hp : e.push.length ≤ 100000) (h0 : -1000 ≤ p.hops) (h1 : p.hops ≤ 1000) :
  FnS P n_forward_enter [pktA p, segsA l, entA e] [] (StkR (enterS p l e)) := by
 obtain ⟨arcs, rep, push⟩ := e
 have hdrop := drop_new P hP p 5 hs
 have hleave := leave_new P hP p l arcs (by omega) ha h0 h1
 have hcat := concatSegs_ok P hP [push, l.drop 1] (by simp [sumLen]; simp only at hp; omega)
 have hleave2 := leave_new P hP p (push ++ l.drop 1) arcs (by simp; simp only at hp; omega) ha h0 h1
 refine FnS.newC mkS_ok (heap_start (hP ▸ mixed) (hP ▸ fn_forward_enter) (hP ▸ c_forward_enter) (Nat.le_of_ble_eq_true rfl) fun Λ Λo K hK => ?_)
 clear hP
 obtain ⟨KQ, hKQ⟩ : ∃ KQ : List (List D) → Int → Int → Int → Int → List (List D) → Int → Int → Prop, KQ = fun al id src dst flow es hops rs => ∀ nl c H, NewX es c H → K (stkA nl al id src dst flow c hops rs) H := ⟨_, rfl⟩
 have lf : ∀ {al : List (List D)} {id src dst flow : Int} {es : List (List D)} {hops rs : Int}, KQ al id src dst flow es hops rs → ∀ {nl : Bool} {c : CV} {H : Hp}, NewX es c H → K (stkA nl al id src dst flow c hops rs) H := by
  intro al id src dst flow es hops rs hq nl c H hn
  rw [hKQ] at hq; exact hq nl c H hn
 have hK : kq KQ (enterS p l ⟨arcs, rep, push⟩) := by rw [kq, hKQ]; exact fun nl c H hn => hK _ _ ⟨nl, c, rfl, hn⟩
 clear hKQ
 have k0 : rep = false → kq KQ (leaveS p l arcs) := by intro h; subst h; simpa [enterS] using hK
 have k1 : rep = true → (push ++ l.drop 1).length > 32 → kq KQ ([], p, 5) := by
  intro h h'; subst h
  simp only [enterS, if_true] at hK
  rw [if_pos h'] at hK; exact hK
 have k2 : rep = true → ¬ (push ++ l.drop 1).length > 32 → kq KQ (leaveS p (push ++ l.drop 1) arcs) := by
  intro h h'; subst h
  simp only [enterS, if_true] at hK
  rw [if_neg h'] at hK; exact hK
 clear hK
 simp only at ha hp
 obtain ⟨id, src, dst, flow, stack, hops⟩ := p
 simp only [segsA, segsD, pktA, intsA, intsD, entA, kq, StkR, leaveS, List.map_nil, List.map_cons, encSegs, List.flatten_cons, List.flatten_nil, List.append_nil] at *
 have hcl : Λ (List.map encSeg (push ++ l.drop 1)) = (push ++ l.drop 1).length := by rw [Λo]; simp
 generalize clh : push ++ l.drop 1 = c at *
 generalize cmh : List.map encSeg c = cm at *
 generalize slh : List.map encSeg stack = sl at *
 generalize plh : List.map encSeg push = pl at *
 simp only [List.map_drop] at *
 generalize llh : List.map encSeg l = ll at *
 have lln : Λ ll = l.length := by rw [Λo, ← llh]; simp
 generalize tlh : List.drop 1 ll = tl at *
 generalize alh : List.map encI arcs = al at *
 cases rep
 all_goals (conv => cbv)
 all_goals (repeat' first | (refine call_newC mkS_ok hleave rfl rfl ?_; intro nl c' T hn; rcases hn with ⟨k, rl, rfl, rfl, hk⟩ | ⟨hnil, nk, rfl, rfl⟩ <;> (conv => cbv)) | (refine call_newC mkS_ok hdrop rfl rfl ?_; intro nl c' T hn; rcases hn with ⟨k, rl, rfl, rfl, hk⟩ | ⟨hnil, nk, rfl, rfl⟩ <;> (conv => cbv)) | (refine call_newC mkS_ok hleave2 rfl rfl ?_; intro nl c' T hn; rcases hn with ⟨k, rl, rfl, rfl, hk⟩ | ⟨hnil, nk, rfl, rfl⟩ <;> (conv => cbv)) | exact gu | exact trivial | refine And.intro ?_ ?_ | (intro hc; exact absurd hc (by decide)) | (intro hc; exfalso; omega) | (intro hc; (first | rw [wrap_small (by omega) (by omega)] at hc | rw [nI_eq] at hc | skip); try (conv => cbv)))
 all_goals (try exact lf (k0 rfl) (by first | exact .inl ⟨_, _, _, rfl, rfl, by assumption⟩ | exact .inr ⟨by assumption, _, rfl⟩))
 ·rename_i tl'
  have e : tl' = tl := hc.trans tlh
  subst e
  (refine call_z 3 0 1 2 rfl rfl (by repeat' first | exact trivial | refine And.intro ?_ ?_ | rfl) (by repeat' first | exact trivial | refine And.intro ?_ ?_ | rfl) ?_; conv => cbv)
  (refine call_r hcat rfl rfl ?_; conv => cbv)
  repeat' first | (refine call_newC mkS_ok hleave2 rfl rfl ?_; intro nl c' T hn; rcases hn with ⟨k, rl, rfl, rfl, hk⟩ | ⟨hnil, nk, rfl, rfl⟩ <;> (conv => cbv)) | (refine call_newC mkS_ok hdrop rfl rfl ?_; intro nl c' T hn; rcases hn with ⟨k, rl, rfl, rfl, hk⟩ | ⟨hnil, nk, rfl, rfl⟩ <;> (conv => cbv)) | exact gu | exact trivial | refine And.intro ?_ ?_ | (intro hc; exact absurd hc (by decide)) | (intro hc; exfalso; omega) | (intro hc; (first | rw [wrap_small (by omega) (by omega)] at hc | rw [nI_eq] at hc | skip); try (conv => cbv))
  all_goals first
   | exact lf (k1 rfl (by omega)) (by first | exact .inl ⟨_, _, _, rfl, rfl, by assumption⟩ | exact .inr ⟨by assumption, _, rfl⟩)
   | exact lf (k2 rfl (by omega)) (by first | exact .inl ⟨_, _, _, rfl, rfl, by assumption⟩ | exact .inr ⟨by assumption, _, rfl⟩)
 ·have e : tl = ll := by
   rw [← tlh]
   have h0 : ll.length = 0 := by rw [Λo] at hc; omega
   rw [List.eq_nil_of_length_eq_zero h0]; rfl
  subst e
  (refine call_z 3 0 1 2 rfl rfl (by repeat' first | exact trivial | refine And.intro ?_ ?_ | rfl) (by repeat' first | exact trivial | refine And.intro ?_ ?_ | rfl) ?_; conv => cbv)
  (refine call_r hcat rfl rfl ?_; conv => cbv)
  repeat' first | (refine call_newC mkS_ok hleave2 rfl rfl ?_; intro nl c' T hn; rcases hn with ⟨k, rl, rfl, rfl, hk⟩ | ⟨hnil, nk, rfl, rfl⟩ <;> (conv => cbv)) | (refine call_newC mkS_ok hdrop rfl rfl ?_; intro nl c' T hn; rcases hn with ⟨k, rl, rfl, rfl, hk⟩ | ⟨hnil, nk, rfl, rfl⟩ <;> (conv => cbv)) | exact gu | exact trivial | refine And.intro ?_ ?_ | (intro hc; exact absurd hc (by decide)) | (intro hc; exfalso; omega) | (intro hc; (first | rw [wrap_small (by omega) (by omega)] at hc | rw [nI_eq] at hc | skip); try (conv => cbv))
  all_goals first
   | exact lf (k1 rfl (by omega)) (by first | exact .inl ⟨_, _, _, rfl, rfl, by assumption⟩ | exact .inr ⟨by assumption, _, rfl⟩)
   | exact lf (k2 rfl (by omega)) (by first | exact .inl ⟨_, _, _, rfl, rfl, by assumption⟩ | exact .inr ⟨by assumption, _, rfl⟩)
end Go.Ab

