/-
  Merged texts, part k.
-/
import Derived.Test.YtjaodmgeonfkiaaZj
/-
  Contracts, part a: what a contract says; the data of the program and how they are laid.
-/
namespace Go.Ab
open Go.Proofs

abbrev iA (n : Int) : AV := .c (.d (.int .i64 n))
abbrev bA (b : Bool) : AV := .c (.d (.bool b))

/-- a plain answer -/
def Ret (P : Program) (f : Nat) (args : List AV) (r : AV) : Prop := FnS P f args [] fun r' _ => pureA r' = true ∧ r' = r

theorem ret_start {P : Program} {f : Nat} {fn : Func} {af : AF} {args : List AV} {r : AV} (hm : P.follows .mixedOrders = true) (hf : P.funcs[f]? = some fn) (hc : compF P fn = some af) (hl : args.length ≤ af.nt)
    (hv : ∀ (Λ : Len), (∀ l, Λ l = (l.length : Int)) → ∀ (K : AV → Prop), K r → vcF P Λ af args K) : Ret P f args r :=
  fn_pure (K := fun r' => r' = r) hm hf hc hl fun Λ h => hv Λ h _ rfl

theorem wrap64 (x : Int) : IntKind.i64.wrap x = (x + 9223372036854775808) % 18446744073709551616 - 9223372036854775808 := by
  simp only [IntKind.wrap, IntKind.bits, IntKind.signed, Bool.true_and, decide_eq_true_eq, Nat.reduceSub, ge_iff_le]
  have e1 : (2 : Int) ^ 64 = 18446744073709551616 := by decide
  have e2 : (2 : Int) ^ 63 = 9223372036854775808 := by decide
  rw [e1, e2]
  split <;> omega

theorem wrap_small {x : Int} (h : -9223372036854775808 ≤ x) (h' : x < 9223372036854775808) : IntKind.i64.wrap x = x := by
  rw [wrap64]; omega

/-- a call that answers a bool -/
theorem call_b {P : Program} {m : Nat} {d : Bool} {L : Lv} {h : Hp} {f : Nat} {xs : List X} {args' : List AV} {K : Lv → AV → Hp → Prop} {b : Bool} (hf : Ret P f args' (bA b)) (ha : (evsN L xs).map fgA = args') (hp : args'.all pureA = true)
    (k1 : b = true → K L (bA true) h) (k2 : b = false → K L (bA false) h) : CallS P m d L h f xs K := by
  refine CallS.pure (r := bA b) (Or.inl ⟨args', .inl ha.symm, hp, hf⟩) ?_
  cases b
  · exact k2 rfl
  · exact k1 rfl

theorem call_i {P : Program} {m : Nat} {d : Bool} {L : Lv} {h : Hp} {f : Nat} {xs : List X} {args' : List AV} {K : Lv → AV → Hp → Prop} {n : Int} (hf : Ret P f args' (iA n)) (ha : (evsN L xs).map fgA = args') (hp : args'.all pureA = true)
    (k : ∀ c, c = n → K L (iA c) h) : CallS P m d L h f xs K :=
  CallS.pure (r := iA n) (Or.inl ⟨args', .inl ha.symm, hp, hf⟩) (k n rfl)

theorem call_r {P : Program} {m : Nat} {d : Bool} {L : Lv} {h : Hp} {f : Nat} {xs : List X} {args' : List AV} {K : Lv → AV → Hp → Prop} {r : AV} (hf : Ret P f args' r) (ha : (evsN L xs).map fgA = args') (hp : args'.all pureA = true)
    (k : K L r h) : CallS P m d L h f xs K :=
  CallS.pure (r := r) (Or.inl ⟨args', .inl ha.symm, hp, hf⟩) k

/-- arguments that are arrays of the caller's own are looked at -/
theorem look_b {P : Program} {m : Nat} {d : Bool} {L : Lv} {h : Hp} {f : Nat} {xs : List X} {vargs : List AV} {K : Lv → AV → Hp → Prop} {b : Bool} (hf : Ret P f vargs (bA b)) (ha : viewAs h (evsN L xs) = some vargs)
    (k1 : b = true → K L (bA true) h) (k2 : b = false → K L (bA false) h) : CallS P m d L h f xs K := by
  refine CallS.pure (r := bA b) (Or.inr ⟨vargs, ha, .inl (hf.mono fun r _ ⟨_, e⟩ => ⟨by rw [e]; rfl, e⟩)⟩) ?_
  cases b
  · exact k2 rfl
  · exact k1 rfl

theorem look_i {P : Program} {m : Nat} {d : Bool} {L : Lv} {h : Hp} {f : Nat} {xs : List X} {vargs : List AV} {K : Lv → AV → Hp → Prop} {n : Int} (hf : Ret P f vargs (iA n)) (ha : viewAs h (evsN L xs) = some vargs)
    (k : ∀ c, c = n → K L (iA c) h) : CallS P m d L h f xs K :=
  CallS.pure (r := iA n) (Or.inr ⟨vargs, ha, .inl (hf.mono fun r _ ⟨_, e⟩ => ⟨by rw [e]; rfl, e⟩)⟩) (k n rfl)

theorem call_z {P : Program} {m : Nat} {L : Lv} {h : Hp} {f : Nat} {xs : List X} {K : Lv → AV → Hp → Prop} (l v sz k : Nat) {r : Bool} {es : List (List D)} (hl : h[l]? = some (.da r v sz es)) (hk : k = es.length) (h1 : okL l v k L) (h2 : okH l v k h)
    (hc : CallS P m false (zL l v sz es L) (zH l v sz es 0 h) f xs K) : CallS P m false L h f xs K :=
  .wk (.fz l v sz r es hl (fun i => .inr (by rw [← lkN_eq, ← lkN_eq, lkN_z]; exact zA_ok hk (okL_get h1 i))) (zH_ok hk h2)) hc

structure Lk where
  (a b c0 c1 cap dl gr : Int)
structure Top where
  (nodes : Int) (ov : List Bool) (links : List Lk)
structure Seg where
  (kind num : Int)
  deriving DecidableEq
structure Ety where
  (arcs : List Int) (rep : Bool) (push : List Seg)
structure Tab where
  (node : Int) (to : List Ety) (down : List Int)
structure Pkt where
  (id src dst flow : Int) (stack : List Seg) (hops : Int)
instance : Inhabited Lk := ⟨⟨0, 0, 0, 0, 0, 0, 0⟩⟩
instance : Inhabited Seg := ⟨⟨0, 0⟩⟩
instance : Inhabited Ety := ⟨⟨[], false, []⟩⟩

abbrev iD (n : Int) : D := .int .i64 n
def encB (b : Bool) : List D := [.bool b]
def encI (n : Int) : List D := [.int .i64 n]
def encLk (l : Lk) : List D := [iD l.a, iD l.b, iD l.c0, iD l.c1, iD l.cap, iD l.dl, iD l.gr]
def encSeg (s : Seg) : List D := [iD s.kind, iD s.num]
abbrev intsD (l : List Int) : D := .list false 1 (l.map encI)
abbrev boolsD (l : List Bool) : D := .list false 1 (l.map encB)
abbrev segsD (l : List Seg) : D := .list false 2 (l.map encSeg)
abbrev linksD (l : List Lk) : D := .list false 7 (l.map encLk)
def encEnt (e : Ety) : List D := [intsD e.arcs, .bool e.rep, segsD e.push]
abbrev entsD (l : List Ety) : D := .list false 3 (l.map encEnt)
def topA (t : Top) : AV := .agg [.d (iD t.nodes), .d (boolsD t.ov), .d (linksD t.links)]
def segA (s : Seg) : AV := .agg [.d (iD s.kind), .d (iD s.num)]
def entA (e : Ety) : AV := .agg [.d (intsD e.arcs), .d (.bool e.rep), .d (segsD e.push)]
def tabA (x : Tab) : AV := .agg [.d (iD x.node), .d (entsD x.to), .d (intsD x.down)]
def pktA (p : Pkt) : AV := .agg [.d (iD p.id), .d (iD p.src), .d (iD p.dst), .d (iD p.flow), .d (segsD p.stack), .d (iD p.hops)]
abbrev intsA (l : List Int) : AV := .c (.d (intsD l))
abbrev segsA (l : List Seg) : AV := .c (.d (segsD l))

theorem map_get {α β : Type} {f : α → β} {l : List α} {i : Nat} {y : β} (h : (l.map f)[i]? = some y) : ∃ x, l[i]? = some x ∧ y = f x := by
  simp only [List.getElem?_map, Option.map_eq_some_iff] at h
  obtain ⟨x, h1, h2⟩ := h
  exact ⟨x, h1, h2.symm⟩

theorem map_get' {α β : Type} {f : α → β} {l : List α} {ll : List β} {i : Nat} {y : β} (hl : l.map f = ll) (h : ll[i]? = some y) : ∃ x, l[i]? = some x ∧ y = f x := by
  subst hl; exact map_get h

theorem get_at {α : Type} {l : List α} {i j : Nat} {x : α} (h : l[i]? = some x) (e : i = j) : l[j]? = some x := e ▸ h

theorem elt_at {α β : Type} {f : α → β} {l : List α} {ll : List β} (hl : l.map f = ll) {k : Nat} {i : Int} (hi : i = k) {x : α} (h : l[k]? = some x) : ll[i.toNat]? = some (f x) := by
  subst hi hl; simp [h]

theorem take_succ_get {α : Type} {l : List α} {k : Nat} {x : α} (h : l[k]? = some x) : l.take (k + 1) = l.take k ++ [x] := by
  rw [List.take_add_one, h]; rfl

/-- a loop that is gone through at most N times: what the slots and the heap are at the head of each round -/
theorem loop_up {m : Nat} {body : Lv → Hp → Post → Prop} {L : Lv} {h : Hp} {Q : Post} {σ : Type} (N : Nat) (S : σ → Lv) (H : σ → Hp) (Inv : Nat → σ → Prop) (s0 : σ) (wk : Wk m L h (S s0) (H s0)) (h0 : Inv 0 s0)
    (hle : ∀ k s, Inv k s → k ≤ N)
    (round : ∀ k s (Q' : Post), Inv k s → (∀ L' h' s', Inv (k + 1) s' → Wk m L' h' (S s') (H s') → Q' .normal L' h') → (∀ i L' h', Q (.exit i) L' h' → Q' (.exit i) L' h') → (∀ L' h', Q .ret L' h' → Q' .ret L' h') → body (S s) (H s) Q') :
    LoopI m body L h Q := by
  refine LoopI.mk (fun n L h => ∃ k s, Inv k s ∧ n = N - k ∧ L = S s ∧ h = H s) N (S s0) (H s0) wk ⟨0, s0, h0, rfl, rfl, rfl⟩ ?_
  rintro n L h ⟨k, s, hi, rfl, rfl, rfl⟩
  refine round k s _ hi (fun L' h' s' hi' hw => ?_) (fun i L' h' hq => ⟨L', h', .same rfl fun _ => .inr rfl, hq⟩) fun L' h' hq => hq
  have h1 := hle _ _ hi
  have h2 := hle _ _ hi'
  exact ⟨N - (k + 1), _, _, by omega, hw, k + 1, s', hi', rfl, rfl, rfl⟩

/-- the same, where what comes behind the loop is shown once -/
theorem loop_upx {m : Nat} {body : Lv → Hp → Post → Prop} {L : Lv} {h : Hp} {Q : Post} {σ τ : Type} (N : Nat) (S : σ → Lv) (H : σ → Hp) (Inv : Nat → σ → Prop) (s0 : σ) (i0 : Nat) (S' : τ → Lv) (H' : τ → Hp) (E : τ → Prop) (wk : Wk m L h (S s0) (H s0)) (h0 : Inv 0 s0)
    (hle : ∀ k s, Inv k s → k ≤ N)
    (round : ∀ k s (Q' : Post), Inv k s → (∀ L' h' s', Inv (k + 1) s' → Wk m L' h' (S s') (H s') → Q' .normal L' h') → (∀ L' h' s', E s' → Wk m L' h' (S' s') (H' s') → Q' (.exit i0) L' h') → (∀ i L' h', Q (.exit i) L' h' → Q' (.exit i) L' h') → (∀ L' h', Q .ret L' h' → Q' .ret L' h') → body (S s) (H s) Q')
    (rest : ∀ s, E s → Q (.exit i0) (S' s) (H' s)) :
    LoopI m body L h Q := by
  refine LoopI.mk (fun n L h => ∃ k s, Inv k s ∧ n = N - k ∧ L = S s ∧ h = H s) N (S s0) (H s0) wk ⟨0, s0, h0, rfl, rfl, rfl⟩ ?_
  rintro n L h ⟨k, s, hi, rfl, rfl, rfl⟩
  refine round k s _ hi (fun L' h' s' hi' hw => ?_) (fun L' h' s' he hw => ⟨_, _, hw, rest s' he⟩) (fun i L' h' hq => ⟨L', h', .same rfl fun _ => .inr rfl, hq⟩) fun L' h' hq => hq
  have h1 := hle _ _ hi
  have h2 := hle _ _ hi'
  exact ⟨N - (k + 1), _, _, by omega, hw, k + 1, s', hi', rfl, rfl, rfl⟩

theorem within_ok (P : Program) (hP : P = Try.prog) (n lo hi : Int) : Ret P n_ref09_within [iA n, iA lo, iA hi] (bA (decide (lo ≤ n ∧ n ≤ hi))) := by
  refine ret_start (hP ▸ mixed) (hP ▸ fn_ref09_within) (hP ▸ c_ref09_within) (Nat.le_of_ble_eq_true rfl) fun Λ Λo K hK => ?_
  clear hP
  conv => cbv
  repeat' first | (intro (_ : Unit); first | omega | rfl | exact ⟨rfl, by omega⟩ | (simp only [nI_eq]; omega) | ((repeat' first | rfl | omega | refine And.intro ?_ ?_ | (simp only [nI_eq]; omega) | exact Nat.le_of_ble_eq_true rfl); done)) | exact trivial | refine And.intro ?_ ?_ | (intro hc; exact absurd hc (by decide)) | (intro hc; exfalso; omega) | (intro hc; (first | rw [wrap_small (by omega) (by omega)] at hc | rw [nI_eq] at hc | skip); try (conv => cbv))
  all_goals (refine cast (congrArg (fun b => K (bA b)) ?_) hK; simp; omega)

end Go.Ab

/-
  Contracts, part b: topologies.
-/
namespace Go.Ab
open Go.Proofs

def okLk (n : Int) (l : Lk) : Bool :=
  decide (0 ≤ l.a ∧ l.a ≤ n - 1) && decide (0 ≤ l.b ∧ l.b ≤ n - 1) && !decide (l.a = l.b) && decide (1 ≤ l.c0 ∧ l.c0 ≤ 65535) && decide (1 ≤ l.c1 ∧ l.c1 ≤ 65535) &&
  decide (0 ≤ l.cap ∧ l.cap ≤ 1048576) && decide (1 ≤ l.dl ∧ l.dl ≤ 65536) && decide (0 ≤ l.gr ∧ l.gr ≤ 64)

def validT (t : Top) : Bool :=
  decide (1 ≤ t.nodes ∧ t.nodes ≤ 64) && (decide (t.ov.length = 0) || decide ((t.ov.length : Int) = t.nodes)) && decide (t.links.length ≤ 256) && t.links.all (okLk t.nodes)

theorem okLk_spec {n : Int} {l : Lk} : okLk n l = true ↔ (0 ≤ l.a ∧ l.a ≤ n - 1) ∧ (0 ≤ l.b ∧ l.b ≤ n - 1) ∧ l.a ≠ l.b ∧ (1 ≤ l.c0 ∧ l.c0 ≤ 65535) ∧ (1 ≤ l.c1 ∧ l.c1 ≤ 65535) ∧
    (0 ≤ l.cap ∧ l.cap ≤ 1048576) ∧ (1 ≤ l.dl ∧ l.dl ≤ 65536) ∧ (0 ≤ l.gr ∧ l.gr ≤ 64) := by
  simp only [okLk, Bool.and_eq_true, decide_eq_true_eq, Bool.not_eq_true', decide_eq_false_iff_not, and_assoc, ne_eq]

theorem validT_spec {t : Top} : validT t = true ↔ (1 ≤ t.nodes ∧ t.nodes ≤ 64) ∧ ((t.ov.length : Int) = 0 ∨ (t.ov.length : Int) = t.nodes) ∧ (t.links.length : Int) ≤ 256 ∧ ∀ l ∈ t.links, okLk t.nodes l = true := by
  simp only [validT, Bool.and_eq_true, Bool.or_eq_true, decide_eq_true_eq, List.all_eq_true, and_assoc]
  constructor
  · rintro ⟨h1, h2, h3, h4, h5⟩; exact ⟨h1, h2, by omega, by omega, h5⟩
  · rintro ⟨h1, h2, h3, h4, h5⟩; exact ⟨h1, h2, by omega, by omega, h5⟩

theorem valid_ok (P : Program) (hP : P = Try.prog) (t : Top) : Ret P n_ref09_Valid [topA t] (bA (validT t)) := by
  refine ret_start (hP ▸ mixed) (hP ▸ fn_ref09_Valid) (hP ▸ c_ref09_Valid) (Nat.le_of_ble_eq_true rfl) fun Λ Λo K hK => ?_
  have hw := within_ok P hP
  clear hP
  obtain ⟨nodes, ov, links⟩ := t
  simp only [topA, boolsD, linksD] at *
  generalize hol : ov.map encB = ol at *
  generalize hll : links.map encLk = ll at *
  have hlo : Λ ol = ov.length := by rw [Λo, ← hol]; simp
  have hls : Λ ll = links.length := by rw [Λo, ← hll]; simp
  have leaf : ∀ b, validT ⟨nodes, ov, links⟩ = b → K (bA b) := fun b hb => by rw [← hb]; exact hK
  have no : (validT ⟨nodes, ov, links⟩ = true → False) → K (bA false) := fun h => leaf _ (Bool.eq_false_iff.2 h)
  conv => cbv
  repeat' first | refine call_b (hw _ _ _) rfl rfl ?_ ?_ | (intro (_ : Unit); first | omega | rfl | exact ⟨rfl, by omega⟩ | (simp only [nI_eq]; omega) | ((repeat' first | rfl | omega | refine And.intro ?_ ?_ | (simp only [nI_eq]; omega) | exact Nat.le_of_ble_eq_true rfl); done)) | exact trivial | refine And.intro ?_ ?_ | (intro hc; exact absurd hc (by decide)) | (intro hc; exfalso; omega) | (intro hc; (first | rw [wrap_small (by omega) (by omega)] at hc | rw [nI_eq] at hc | skip); try (conv => cbv))
  all_goals try simp only [decide_eq_true_eq, decide_eq_false_iff_not] at *
  all_goals try (refine no fun h => ?_; obtain ⟨h1, h2, h3, h4⟩ := validT_spec.1 h; simp only at h1 h2 h3; omega)
  all_goals
    refine loop_up links.length (fun (i : Int) => [(1, .c (.ptr 0 0 0 0)), (3, iA i)]) (fun _ => [.bx [.d (.int .i64 nodes), .d (.list false 1 ol), .d (.list false 7 ll)]]) (fun k i => i = k ∧ k ≤ links.length ∧ ∀ l ∈ links.take k, okLk nodes l = true) 0 (Wk.cut ⟨_, rfl⟩ (Nat.zero_le _) rfl (by repeat' first | exact trivial | refine And.intro ?_ ?_ | rfl)) ⟨rfl, by omega, by simp⟩ (fun k s h => h.2.1) ?_
    rintro k i Q' ⟨hi, hk, hok⟩ norm ex rt
    conv => cbv
    repeat' first | (refine ex _ _ _ ?_; (conv => cbv)) | (refine rt _ _ ?_; (conv => cbv)) | refine call_b (hw _ _ _) rfl rfl ?_ ?_ | (intro e he; obtain ⟨⟨xa, xb, xc, xd, xe, xf, xg⟩, hx, rfl⟩ := map_get' hll he; (conv => cbv)) | (intro (_ : Unit); first | omega | rfl | exact ⟨rfl, by omega⟩ | (simp only [nI_eq]; omega) | ((repeat' first | rfl | omega | refine And.intro ?_ ?_ | (simp only [nI_eq]; omega) | exact Nat.le_of_ble_eq_true rfl); done)) | exact trivial | refine And.intro ?_ ?_ | (intro hc; exact absurd hc (by decide)) | (intro hc; exfalso; omega) | (intro hc; (first | rw [wrap_small (by omega) (by omega)] at hc | rw [nI_eq] at hc | skip); try (conv => cbv))
  all_goals try simp only [decide_eq_true_eq, decide_eq_false_iff_not] at *
  all_goals try (refine no fun h => ?_; obtain ⟨h1, h2, h3, h4⟩ := validT_spec.1 h; have h5 := okLk_spec.1 (h4 _ (List.mem_of_getElem? hx)); simp only at h5; omega)
  all_goals try (refine leaf _ (validT_spec.2 ⟨by assumption, by simp only; omega, by simp only; omega, fun l hl => hok l ?_⟩); rw [List.take_of_length_le (by omega)]; exact hl)
  all_goals
    refine norm _ _ _ ?_ (Wk.cut ⟨_, rfl⟩ (Nat.zero_le _) rfl (by repeat' first | exact trivial | refine And.intro ?_ ?_ | rfl))
    refine ⟨by omega, by omega, ?_⟩
    rw [show i.toNat = k by omega] at hx
    rw [take_succ_get hx]
    intro l hl
    rcases List.mem_append.1 hl with hl | hl
    · exact hok l hl
    · simp only [List.mem_singleton] at hl
      subst hl
      exact okLk_spec.2 ⟨by simp only; omega, by simp only; omega, by simp only; omega, by simp only; omega, by simp only; omega, by simp only; omega, by simp only; omega, by simp only; omega⟩
def arcsT (t : Top) : Int := if validT t then 2 * t.links.length else 0
def lkAt (t : Top) (a : Int) : Lk := (t.links[(a / 2).toNat]?).getD default
def tailT (t : Top) (a : Int) : Int := if 0 ≤ a ∧ a < arcsT t then (if a % 2 = 0 then (lkAt t a).a else (lkAt t a).b) else -1
def headT (t : Top) (a : Int) : Int := if 0 ≤ a ∧ a < arcsT t then (if a % 2 = 0 then (lkAt t a).b else (lkAt t a).a) else -1
def costT (t : Top) (a : Int) : Int := if 0 ≤ a ∧ a < arcsT t then (if a % 2 = 0 then (lkAt t a).c0 else (lkAt t a).c1) else -1

theorem arcsT_le (t : Top) : arcsT t ≤ 2 * t.links.length ∧ arcsT t ≤ 512 ∧ 0 ≤ arcsT t := by
  rw [arcsT]; split
  · rename_i h; have := (validT_spec.1 h).2.2.1; omega
  · omega

theorem tdiv2 {x : Int} (h1 : 0 ≤ x) (h2 : x < 9223372036854775808) : IntKind.i64.wrap (x.tdiv 2) = x / 2 := by
  rw [Int.tdiv_eq_ediv_of_nonneg h1, wrap64]; omega
theorem tmod2 {x : Int} (h1 : 0 ≤ x) : x.tmod 2 = x % 2 := Int.tmod_eq_emod_of_nonneg h1

theorem arcs_ok (P : Program) (hP : P = Try.prog) (t : Top) : Ret P n_ref09_Arcs [topA t] (iA (arcsT t)) := by
  refine ret_start (hP ▸ mixed) (hP ▸ fn_ref09_Arcs) (hP ▸ c_ref09_Arcs) (Nat.le_of_ble_eq_true rfl) fun Λ Λo K hK => ?_
  have hw := valid_ok P hP t
  clear hP
  have leaf : ∀ b, arcsT t = b → K (iA b) := fun b hb => by rw [← hb]; exact hK
  have h256 : validT t = true → (t.links.length : Int) ≤ 256 := fun h => (validT_spec.1 h).2.2.1
  have ha : arcsT t = if validT t then 2 * (t.links.length : Int) else 0 := rfl
  generalize arcsT t = r at *
  generalize validT t = v at *
  cases v
  all_goals
    obtain ⟨nodes, ov, links⟩ := t
    simp only [topA, boolsD, linksD] at *
    generalize hol : ov.map encB = ol at *
    generalize hll : links.map encLk = ll at *
    have hlo : Λ ol = ov.length := by rw [Λo, ← hol]; simp
    have hls : Λ ll = links.length := by rw [Λo, ← hll]; simp
    simp only [Bool.false_eq_true, if_true, if_false, forall_const] at ha h256
    conv => cbv
    repeat' first | refine call_b hw rfl rfl ?_ ?_ | (intro hc; cases hc; done) | (intro (_ : Unit); first | omega | rfl | exact ⟨rfl, by omega⟩ | (simp only [nI_eq]; omega) | ((repeat' first | rfl | omega | refine And.intro ?_ ?_ | (simp only [nI_eq]; omega) | exact Nat.le_of_ble_eq_true rfl); done)) | exact trivial | refine And.intro ?_ ?_ | (intro hc; exact absurd hc (by decide)) | (intro hc; exfalso; omega) | (intro hc; (first | rw [wrap_small (by omega) (by omega)] at hc | rw [nI_eq] at hc | skip); try (conv => cbv))
  · exact leaf _ ha
  · exact leaf _ (by omega)

theorem tail_ok (P : Program) (hP : P = Try.prog) (t : Top) (a : Int) : Ret P n_ref09_Tail [topA t, iA a] (iA (tailT t a)) := by
  refine ret_start (hP ▸ mixed) (hP ▸ fn_ref09_Tail) (hP ▸ c_ref09_Tail) (Nat.le_of_ble_eq_true rfl) fun Λ Λo K hK => ?_
  have hw := arcs_ok P hP t
  clear hP
  have leaf : ∀ b, tailT t a = b → K (iA b) := fun b hb => by rw [← hb]; exact hK
  have hv2 := arcsT_le t
  have hta : tailT t a = if 0 ≤ a ∧ a < arcsT t then (if a % 2 = 0 then (lkAt t a).a else (lkAt t a).b) else -1 := rfl
  have hat : ∀ x, t.links[(a / 2).toNat]? = some x → lkAt t a = x := fun x hx => by simp [lkAt, hx]
  generalize arcsT t = v at *
  obtain ⟨nodes, ov, links⟩ := t
  simp only [topA, boolsD, linksD] at *
  generalize hol : ov.map encB = ol at *
  generalize hll : links.map encLk = ll at *
  have hlo : Λ ol = ov.length := by rw [Λo, ← hol]; simp
  have hls : Λ ll = links.length := by rw [Λo, ← hll]; simp
  conv => cbv
  repeat' first | refine call_i hw rfl rfl ?_ | (intro hc; rw [tdiv2 (by omega) (by omega)] at hc; conv => cbv) | (intro hc; rw [tmod2 (by omega)] at hc; conv => cbv) | (intro (_ : Unit); decide) | (intro e he; obtain ⟨⟨xa, xb, xc, xd, xe, xf, xg⟩, hx, rfl⟩ := map_get' hll he; (conv => cbv)) | (intro (_ : Unit); first | omega | rfl | exact ⟨rfl, by omega⟩ | (simp only [nI_eq]; omega) | ((repeat' first | rfl | omega | refine And.intro ?_ ?_ | (simp only [nI_eq]; omega) | exact Nat.le_of_ble_eq_true rfl); done)) | exact trivial | refine And.intro ?_ ?_ | (intro hc; exact absurd hc (by decide)) | (intro hc; exfalso; omega) | (intro hc; (first | rw [wrap_small (by omega) (by omega)] at hc | rw [nI_eq] at hc | skip); try (conv => cbv))
  · exact leaf _ (by rw [hta, if_neg (by omega)])
  · exact leaf _ (by rw [hta, if_neg (by omega)])
  all_goals
    refine leaf _ ?_
    rw [hta, if_pos (by omega), hat _ (get_at hx (by omega))]
  · rw [if_pos (by omega)]
  · rw [if_neg (by omega)]

theorem head_ok (P : Program) (hP : P = Try.prog) (t : Top) (a : Int) : Ret P n_ref09_Head [topA t, iA a] (iA (headT t a)) := by
  refine ret_start (hP ▸ mixed) (hP ▸ fn_ref09_Head) (hP ▸ c_ref09_Head) (Nat.le_of_ble_eq_true rfl) fun Λ Λo K hK => ?_
  have hw := arcs_ok P hP t
  have ht := tail_ok P hP t
  clear hP
  have leaf : ∀ b, headT t a = b → K (iA b) := fun b hb => by rw [← hb]; exact hK
  have hv2 := arcsT_le t
  have hta : headT t a = if 0 ≤ a ∧ a < arcsT t then (if a % 2 = 0 then (lkAt t a).b else (lkAt t a).a) else -1 := rfl
  have htt : ∀ c, tailT t c = if 0 ≤ c ∧ c < arcsT t then (if c % 2 = 0 then (lkAt t c).a else (lkAt t c).b) else -1 := fun _ => rfl
  have hlk : ∀ c, c / 2 = a / 2 → lkAt t c = lkAt t a := fun c hc => by rw [lkAt, lkAt, hc]
  have hev : arcsT t % 2 = 0 := by rw [arcsT]; split <;> omega
  generalize headT t a = r at *
  generalize hf : tailT t = f at *
  generalize arcsT t = v at *
  generalize lkAt t = lk at *
  obtain ⟨nodes, ov, links⟩ := t
  simp only [topA, boolsD, linksD] at *
  generalize hol : ov.map encB = ol at *
  generalize hll : links.map encLk = ll at *
  have hlo : Λ ol = ov.length := by rw [Λo, ← hol]; simp
  have hls : Λ ll = links.length := by rw [Λo, ← hll]; simp
  conv => cbv
  repeat' first | refine call_i hw rfl rfl ?_ | refine call_i (ht _) rfl rfl ?_ | (intro hc; rw [tdiv2 (by omega) (by omega)] at hc; conv => cbv) | (intro hc; rw [tmod2 (by omega)] at hc; conv => cbv) | (intro (_ : Unit); decide) | (intro (_ : Unit); first | omega | rfl | exact ⟨rfl, by omega⟩ | (simp only [nI_eq]; omega) | ((repeat' first | rfl | omega | refine And.intro ?_ ?_ | (simp only [nI_eq]; omega) | exact Nat.le_of_ble_eq_true rfl); done)) | exact trivial | refine And.intro ?_ ?_ | (intro hc; exact absurd hc (by decide)) | (intro hc; exfalso; omega) | (intro hc; (first | rw [wrap_small (by omega) (by omega)] at hc | rw [nI_eq] at hc | skip); try (conv => cbv))
  · exact leaf _ (by rw [hta, if_neg (by omega)])
  · exact leaf _ (by rw [hta, if_neg (by omega)])
  · refine leaf _ ?_
    subst hc
    rename_i c
    rw [hta.trans (if_pos (by omega)), (htt c).trans (if_pos (by omega)), hlk c (by omega)]
    by_cases h0 : a % 2 = 0
    · rw [if_pos h0, if_neg (by omega)]
    · rw [if_neg h0, if_pos (by omega)]

end Go.Ab

/-
  Contracts, part c: lists.
-/
namespace Go.Ab
open Go.Proofs

theorem yes_of {K : AV → Prop} {p : Prop} [Decidable p] (hK : K (bA (decide p))) : p → K (bA true) := fun h => by rw [decide_eq_true h] at hK; exact hK
theorem no_of {K : AV → Prop} {p : Prop} [Decidable p] (hK : K (bA (decide p))) : ¬ p → K (bA false) := fun h => by rw [decide_eq_false h] at hK; exact hK

theorem mem_take_succ {α : Type} {l : List α} {k : Nat} {x y : α} (h : l[k]? = some x) : y ∈ l.take (k + 1) ↔ y ∈ l.take k ∨ y = x := by
  rw [take_succ_get h]; simp

theorem has_ok (P : Program) (hP : P = Try.prog) (l : List Int) (n : Int) : Ret P n_ref09_Has [intsA l, iA n] (bA (decide (n ∈ l))) := by
  refine ret_start (hP ▸ mixed) (hP ▸ fn_ref09_Has) (hP ▸ c_ref09_Has) (Nat.le_of_ble_eq_true rfl) fun Λ Λo K hK => ?_
  clear hP
  have yes := yes_of hK
  have no := no_of hK
  simp only [intsA, intsD] at *
  generalize llh : List.map encI l = ll at *
  have lln : Λ ll = l.length := by rw [Λo, ← llh]; simp
  conv => cbv
  refine loop_up l.length (fun i : Int => [(0, .c (.d (.list false 1 ll))), (1, iA n), (5, iA i)]) (fun _ => []) (fun k i => i = k ∧ k ≤ l.length ∧ n ∉ l.take k) 0 (Wk.cut ⟨_, rfl⟩ (Nat.zero_le _) rfl (by repeat' first | exact trivial | refine And.intro ?_ ?_ | rfl)) ⟨rfl, by omega, by simp⟩ (fun k s h => h.2.1) ?_
  rintro k i Q' ⟨hi, hk, hno⟩ norm ex rt
  conv => cbv
  repeat' first | (refine ex _ _ _ ?_; (conv => cbv)) | (refine rt _ _ ?_; (conv => cbv)) | (intro e he; obtain ⟨x, hx, rfl⟩ := map_get' llh he; (conv => cbv)) | (intro (_ : Unit); first | omega | rfl | exact ⟨rfl, by omega⟩ | (simp only [nI_eq]; omega) | ((repeat' first | rfl | omega | refine And.intro ?_ ?_ | (simp only [nI_eq]; omega) | exact Nat.le_of_ble_eq_true rfl); done)) | exact trivial | refine And.intro ?_ ?_ | (intro hc; exact absurd hc (by decide)) | (intro hc; exfalso; omega) | (intro hc; (first | rw [wrap_small (by omega) (by omega)] at hc | rw [nI_eq] at hc | skip); try (conv => cbv))
  · subst hc; exact yes (List.mem_of_getElem? hx)
  · refine norm _ _ _ ?_ (Wk.cut ⟨_, rfl⟩ (Nat.zero_le _) rfl (by repeat' first | exact trivial | refine And.intro ?_ ?_ | rfl))
    exact ⟨by omega, by omega, by rw [mem_take_succ (get_at hx (by omega))]; intro h; rcases h with h | h; exact hno h; omega⟩
  · exact no (by rw [List.take_of_length_le (by omega)] at hno; exact hno)

theorem sameSegs_ok (P : Program) (hP : P = Try.prog) (l m : List Seg) : Ret P n_ref18_Same [segsA l, segsA m] (bA (decide (l = m))) := by
  refine ret_start (hP ▸ mixed) (hP ▸ fn_ref18_Same) (hP ▸ c_ref18_Same) (Nat.le_of_ble_eq_true rfl) fun Λ Λo K hK => ?_
  clear hP
  have yes := yes_of hK
  have no := no_of hK
  simp only [segsA, segsD] at *
  generalize llh : List.map encSeg l = ll at *
  have lln : Λ ll = l.length := by rw [Λo, ← llh]; simp
  generalize mlh : List.map encSeg m = ml at *
  have mln : Λ ml = m.length := by rw [Λo, ← mlh]; simp
  conv => cbv
  repeat' first | (intro (_ : Unit); first | omega | rfl | exact ⟨rfl, by omega⟩ | (simp only [nI_eq]; omega) | ((repeat' first | rfl | omega | refine And.intro ?_ ?_ | (simp only [nI_eq]; omega) | exact Nat.le_of_ble_eq_true rfl); done)) | exact trivial | refine And.intro ?_ ?_ | (intro hc; exact absurd hc (by decide)) | (intro hc; exfalso; omega) | (intro hc; (first | rw [wrap_small (by omega) (by omega)] at hc | rw [nI_eq] at hc | skip); try (conv => cbv))
  · exact no fun h => by subst h; omega
  refine loop_up l.length (fun i : Int => [(0, .c (.d (.list false 2 ll))), (1, .c (.d (.list false 2 ml))), (5, iA i)]) (fun _ => []) (fun k i => i = k ∧ k ≤ l.length ∧ l.take k = m.take k) 0 (Wk.cut ⟨_, rfl⟩ (Nat.zero_le _) rfl (by repeat' first | exact trivial | refine And.intro ?_ ?_ | rfl)) ⟨rfl, by omega, by simp⟩ (fun k s h => h.2.1) ?_
  rintro k i Q' ⟨hi, hk, hno⟩ norm ex rt
  conv => cbv
  repeat' first | (refine ex _ _ _ ?_; (conv => cbv)) | (refine rt _ _ ?_; (conv => cbv)) | (intro e he; obtain ⟨⟨xa, xb⟩, hx, rfl⟩ := map_get' llh he; (conv => cbv)) | (intro e he; obtain ⟨⟨ya, yb⟩, hy, rfl⟩ := map_get' mlh he; (conv => cbv)) | (intro (_ : Unit); first | omega | rfl | exact ⟨rfl, by omega⟩ | (simp only [nI_eq]; omega) | ((repeat' first | rfl | omega | refine And.intro ?_ ?_ | (simp only [nI_eq]; omega) | exact Nat.le_of_ble_eq_true rfl); done)) | exact trivial | refine And.intro ?_ ?_ | (intro hc; exact absurd hc (by decide)) | (intro hc; exfalso; omega) | (intro hc; (first | rw [wrap_small (by omega) (by omega)] at hc | rw [nI_eq] at hc | skip); try (conv => cbv))
  · refine norm _ _ _ ?_ (Wk.cut ⟨_, rfl⟩ (Nat.zero_le _) rfl (by repeat' first | exact trivial | refine And.intro ?_ ?_ | rfl))
    exact ⟨by omega, by omega, by rw [take_succ_get (get_at hx (by omega)), take_succ_get (get_at hy (by omega)), hno, show xa = ya by omega, show xb = yb by omega]⟩
  · refine no fun h => hc ?_
    subst h; rw [hx] at hy; cases hy; exact ⟨rfl, rfl, trivial⟩
  · exact yes (by rw [List.take_of_length_le (by omega), List.take_of_length_le (by omega)] at hno; exact hno)
end Go.Ab

/-
  Contracts, part d: arcs, segments, the program's validity of topologies.
-/
namespace Go.Ab
open Go.Proofs

theorem twithin_ok (P : Program) (hP : P = Try.prog) (n lo hi : Int) : Ret P n_topology_within [iA n, iA lo, iA hi] (bA (decide (lo ≤ n ∧ n ≤ hi))) := by
  refine ret_start (hP ▸ mixed) (hP ▸ fn_topology_within) (hP ▸ c_topology_within) (Nat.le_of_ble_eq_true rfl) fun Λ Λo K hK => ?_
  clear hP
  have yes := yes_of hK
  have no := no_of hK
  conv => cbv
  repeat' first | (intro (_ : Unit); first | omega | rfl | exact ⟨rfl, by omega⟩ | (simp only [nI_eq]; omega) | ((repeat' first | rfl | omega | refine And.intro ?_ ?_ | (simp only [nI_eq]; omega) | exact Nat.le_of_ble_eq_true rfl); done)) | exact trivial | refine And.intro ?_ ?_ | (intro hc; exact absurd hc (by decide)) | (intro hc; exfalso; omega) | (intro hc; (first | rw [wrap_small (by omega) (by omega)] at hc | rw [nI_eq] at hc | skip); try (conv => cbv))
  · exact yes (by omega)
  · exact no (by omega)
  · exact no (by omega)

theorem gnode_ok (P : Program) (hP : P = Try.prog) (t : Top) (n : Int) : Ret P n_graph_Node [topA t, iA n] (bA (decide (0 ≤ n ∧ n < t.nodes))) := by
  refine ret_start (hP ▸ mixed) (hP ▸ fn_graph_Node) (hP ▸ c_graph_Node) (Nat.le_of_ble_eq_true rfl) fun Λ Λo K hK => ?_
  clear hP
  have yes := yes_of hK
  have no := no_of hK
  obtain ⟨nodes, ov, links⟩ := t
  simp only [topA, boolsD, linksD] at *
  generalize hol : ov.map encB = ol at *
  generalize hll : links.map encLk = ll at *
  have hlo : Λ ol = ov.length := by rw [Λo, ← hol]; simp
  have hls : Λ ll = links.length := by rw [Λo, ← hll]; simp
  conv => cbv
  repeat' first | (intro (_ : Unit); first | omega | rfl | exact ⟨rfl, by omega⟩ | (simp only [nI_eq]; omega) | ((repeat' first | rfl | omega | refine And.intro ?_ ?_ | (simp only [nI_eq]; omega) | exact Nat.le_of_ble_eq_true rfl); done)) | exact trivial | refine And.intro ?_ ?_ | (intro hc; exact absurd hc (by decide)) | (intro hc; exfalso; omega) | (intro hc; (first | rw [wrap_small (by omega) (by omega)] at hc | rw [nI_eq] at hc | skip); try (conv => cbv))
  · exact yes (by omega)
  · exact no (by omega)
  · exact no (by omega)

theorem tvalid_ok (P : Program) (hP : P = Try.prog) (t : Top) : Ret P n_topology_Valid [topA t] (bA (validT t)) := by
  refine ret_start (hP ▸ mixed) (hP ▸ fn_topology_Valid) (hP ▸ c_topology_Valid) (Nat.le_of_ble_eq_true rfl) fun Λ Λo K hK => ?_
  have hw := twithin_ok P hP
  have hn := gnode_ok P hP t
  clear hP
  have leaf : ∀ b, validT t = b → K (bA b) := fun b hb => by rw [← hb]; exact hK
  have no : (validT t = true → False) → K (bA false) := fun h => leaf _ (Bool.eq_false_iff.2 h)
  obtain ⟨nodes, ov, links⟩ := t
  simp only [topA, boolsD, linksD] at *
  generalize hol : ov.map encB = ol at *
  generalize hll : links.map encLk = ll at *
  have hlo : Λ ol = ov.length := by rw [Λo, ← hol]; simp
  have hls : Λ ll = links.length := by rw [Λo, ← hll]; simp
  conv => cbv
  repeat' first | refine call_b (hw _ _ _) rfl rfl ?_ ?_ | (intro (_ : Unit); first | omega | rfl | exact ⟨rfl, by omega⟩ | (simp only [nI_eq]; omega) | ((repeat' first | rfl | omega | refine And.intro ?_ ?_ | (simp only [nI_eq]; omega) | exact Nat.le_of_ble_eq_true rfl); done)) | exact trivial | refine And.intro ?_ ?_ | (intro hc; exact absurd hc (by decide)) | (intro hc; exfalso; omega) | (intro hc; (first | rw [wrap_small (by omega) (by omega)] at hc | rw [nI_eq] at hc | skip); try (conv => cbv))
  all_goals try simp only [decide_eq_true_eq, decide_eq_false_iff_not] at *
  all_goals try (refine no fun h => ?_; obtain ⟨h1, h2, h3, h4⟩ := validT_spec.1 h; simp only at h1 h2 h3; omega)
  all_goals
    refine loop_up links.length (fun (i : Int) => [(1, .c (.ptr 0 0 0 0)), (29, iA (Λ ll)), (30, iA i)]) (fun _ => [.bx [.d (.int .i64 nodes), .d (.list false 1 ol), .d (.list false 7 ll)]]) (fun k i => i = k ∧ k ≤ links.length ∧ ∀ l ∈ links.take k, okLk nodes l = true) 0 (Wk.cut ⟨_, rfl⟩ (Nat.zero_le _) rfl (by repeat' first | exact trivial | refine And.intro ?_ ?_ | rfl)) ⟨rfl, by omega, by simp⟩ (fun k s h => h.2.1) ?_
    rintro k i Q' ⟨hi, hk, hok⟩ norm ex rt
    conv => cbv
    repeat' first | (refine ex _ _ _ ?_; (conv => cbv)) | (refine rt _ _ ?_; (conv => cbv)) | refine call_b (hw _ _ _) rfl rfl ?_ ?_ | refine call_b (hn _) rfl rfl ?_ ?_ | (intro e he; obtain ⟨⟨xa, xb, xc, xd, xe, xf, xg⟩, hx, rfl⟩ := map_get' hll he; (conv => cbv)) | (intro (_ : Unit); first | omega | rfl | exact ⟨rfl, by omega⟩ | (simp only [nI_eq]; omega) | ((repeat' first | rfl | omega | refine And.intro ?_ ?_ | (simp only [nI_eq]; omega) | exact Nat.le_of_ble_eq_true rfl); done)) | exact trivial | refine And.intro ?_ ?_ | (intro hc; exact absurd hc (by decide)) | (intro hc; exfalso; omega) | (intro hc; (first | rw [wrap_small (by omega) (by omega)] at hc | rw [nI_eq] at hc | skip); try (conv => cbv))
  all_goals try simp only [decide_eq_true_eq, decide_eq_false_iff_not] at *
  all_goals try (refine no fun h => ?_; obtain ⟨h1, h2, h3, h4⟩ := validT_spec.1 h; have h5 := okLk_spec.1 (h4 _ (List.mem_of_getElem? hx)); simp only at h5; omega)
  all_goals try (refine leaf _ (validT_spec.2 ⟨by simp only; omega, by simp only; omega, by simp only; omega, fun l hl => hok l ?_⟩); rw [List.take_of_length_le (by omega)]; exact hl)
  all_goals
    refine norm _ _ _ ?_ (Wk.cut ⟨_, rfl⟩ (Nat.zero_le _) rfl (by repeat' first | exact trivial | refine And.intro ?_ ?_ | rfl))
    refine ⟨by omega, by omega, ?_⟩
    rw [show i.toNat = k by omega] at hx
    rw [take_succ_get hx]
    intro l hl
    rcases List.mem_append.1 hl with hl | hl
    · exact hok l hl
    · simp only [List.mem_singleton] at hl
      subst hl
      exact okLk_spec.2 ⟨by simp only; omega, by simp only; omega, by simp only; omega, by simp only; omega, by simp only; omega, by simp only; omega, by simp only; omega, by simp only; omega⟩

theorem garcs_ok (P : Program) (hP : P = Try.prog) (t : Top) (h : (t.links.length : Int) ≤ 256) : Ret P n_graph_Arcs [topA t] (iA (2 * t.links.length)) := by
  refine ret_start (hP ▸ mixed) (hP ▸ fn_graph_Arcs) (hP ▸ c_graph_Arcs) (Nat.le_of_ble_eq_true rfl) fun Λ Λo K hK => ?_
  clear hP
  obtain ⟨nodes, ov, links⟩ := t
  simp only [topA, boolsD, linksD] at *
  generalize hol : ov.map encB = ol at *
  generalize hll : links.map encLk = ll at *
  have hlo : Λ ol = ov.length := by rw [Λo, ← hol]; simp
  have hls : Λ ll = links.length := by rw [Λo, ← hll]; simp
  conv => cbv
  repeat' first | (intro (_ : Unit); first | omega | rfl | exact ⟨rfl, by omega⟩ | (simp only [nI_eq]; omega) | ((repeat' first | rfl | omega | refine And.intro ?_ ?_ | (simp only [nI_eq]; omega) | exact Nat.le_of_ble_eq_true rfl); done)) | exact trivial | refine And.intro ?_ ?_ | (intro hc; exact absurd hc (by decide)) | (intro hc; exfalso; omega) | (intro hc; (first | rw [wrap_small (by omega) (by omega)] at hc | rw [nI_eq] at hc | skip); try (conv => cbv))
  rename_i c
  rw [show c = 2 * (links.length : Int) by omega]
  exact hK

theorem garc_ok (P : Program) (hP : P = Try.prog) (t : Top) (a : Int) (h : (t.links.length : Int) ≤ 256) : Ret P n_graph_Arc [topA t, iA a] (bA (decide (0 ≤ a ∧ a < 2 * t.links.length))) := by
  refine ret_start (hP ▸ mixed) (hP ▸ fn_graph_Arc) (hP ▸ c_graph_Arc) (Nat.le_of_ble_eq_true rfl) fun Λ Λo K hK => ?_
  have hw := garcs_ok P hP t h
  clear hP
  have yes := yes_of hK
  have no := no_of hK
  obtain ⟨nodes, ov, links⟩ := t
  simp only [topA, boolsD, linksD] at *
  generalize hol : ov.map encB = ol at *
  generalize hll : links.map encLk = ll at *
  have hlo : Λ ol = ov.length := by rw [Λo, ← hol]; simp
  have hls : Λ ll = links.length := by rw [Λo, ← hll]; simp
  conv => cbv
  repeat' first | refine call_i hw rfl rfl ?_ | (intro (_ : Unit); first | omega | rfl | exact ⟨rfl, by omega⟩ | (simp only [nI_eq]; omega) | ((repeat' first | rfl | omega | refine And.intro ?_ ?_ | (simp only [nI_eq]; omega) | exact Nat.le_of_ble_eq_true rfl); done)) | exact trivial | refine And.intro ?_ ?_ | (intro hc; exact absurd hc (by decide)) | (intro hc; exfalso; omega) | (intro hc; (first | rw [wrap_small (by omega) (by omega)] at hc | rw [nI_eq] at hc | skip); try (conv => cbv))
  · exact yes (by omega)
  · exact no (by omega)
  · exact no (by omega)

def tailG (t : Top) (a : Int) : Int := if a % 2 = 0 then (lkAt t a).a else (lkAt t a).b
def headG (t : Top) (a : Int) : Int := if a % 2 = 0 then (lkAt t a).b else (lkAt t a).a

theorem gtail_ok (P : Program) (hP : P = Try.prog) (t : Top) (a : Int) (h0 : 0 ≤ a) (h1 : a < 2 * t.links.length) (h2 : (t.links.length : Int) ≤ 256) : Ret P n_graph_Tail [topA t, iA a] (iA (tailG t a)) := by
  refine ret_start (hP ▸ mixed) (hP ▸ fn_graph_Tail) (hP ▸ c_graph_Tail) (Nat.le_of_ble_eq_true rfl) fun Λ Λo K hK => ?_
  clear hP
  have leaf : ∀ b, tailG t a = b → K (iA b) := fun b hb => by rw [← hb]; exact hK
  have hta : tailG t a = if a % 2 = 0 then (lkAt t a).a else (lkAt t a).b := rfl
  have hat : ∀ x, t.links[(a / 2).toNat]? = some x → lkAt t a = x := fun x hx => by simp [lkAt, hx]
  obtain ⟨nodes, ov, links⟩ := t
  simp only [topA, boolsD, linksD] at *
  generalize hol : ov.map encB = ol at *
  generalize hll : links.map encLk = ll at *
  have hlo : Λ ol = ov.length := by rw [Λo, ← hol]; simp
  have hls : Λ ll = links.length := by rw [Λo, ← hll]; simp
  conv => cbv
  repeat' first | (intro hc; rw [tdiv2 (by omega) (by omega)] at hc; conv => cbv) | (intro hc; rw [tmod2 (by omega)] at hc; conv => cbv) | (intro (_ : Unit); decide) | (intro e he; obtain ⟨⟨xa, xb, xc, xd, xe, xf, xg⟩, hx, rfl⟩ := map_get' hll he; (conv => cbv)) | (intro (_ : Unit); first | omega | rfl | exact ⟨rfl, by omega⟩ | (simp only [nI_eq]; omega) | ((repeat' first | rfl | omega | refine And.intro ?_ ?_ | (simp only [nI_eq]; omega) | exact Nat.le_of_ble_eq_true rfl); done)) | exact trivial | refine And.intro ?_ ?_ | (intro hc; exact absurd hc (by decide)) | (intro hc; exfalso; omega) | (intro hc; (first | rw [wrap_small (by omega) (by omega)] at hc | rw [nI_eq] at hc | skip); try (conv => cbv))
  · exact leaf _ (by rw [hta, if_pos (by omega), hat _ (get_at hx (by omega))])
  · exact leaf _ (by rw [hta, if_neg (by omega), hat _ (get_at hx (by omega))])

/-- a valid segment of a valid topology -/
def segB (t : Top) (s : Seg) : Bool := decide (0 ≤ s.num) && (decide (s.kind = 1 ∧ s.num < t.nodes) || decide (s.kind = 2 ∧ s.num < 2 * t.links.length) || decide (s.kind = 3 ∧ 1 ≤ s.num ∧ s.num ≤ 64) || decide (s.kind = 4 ∧ s.num ≤ 65535))

theorem segB_spec {t : Top} {s : Seg} : segB t s = true ↔ 0 ≤ s.num ∧ ((s.kind = 1 ∧ s.num < t.nodes) ∨ (s.kind = 2 ∧ s.num < 2 * t.links.length) ∨ (s.kind = 3 ∧ 1 ≤ s.num ∧ s.num ≤ 64) ∨ (s.kind = 4 ∧ s.num ≤ 65535)) := by
  simp only [segB, Bool.and_eq_true, Bool.or_eq_true, decide_eq_true_eq, or_assoc]

theorem gseg_ok (P : Program) (hP : P = Try.prog) (t : Top) (s : Seg) (h : (t.links.length : Int) ≤ 256) : Ret P n_graph_Segment [topA t, segA s] (bA (segB t s)) := by
  refine ret_start (hP ▸ mixed) (hP ▸ fn_graph_Segment) (hP ▸ c_graph_Segment) (Nat.le_of_ble_eq_true rfl) fun Λ Λo K hK => ?_
  have hn := gnode_ok P hP t
  have ha := fun a => garc_ok P hP t a h
  clear hP
  have leaf : ∀ b, segB t s = b → K (bA b) := fun b hb => by rw [← hb]; exact hK
  have yes : (0 ≤ s.num ∧ ((s.kind = 1 ∧ s.num < t.nodes) ∨ (s.kind = 2 ∧ s.num < 2 * t.links.length) ∨ (s.kind = 3 ∧ 1 ≤ s.num ∧ s.num ≤ 64) ∨ (s.kind = 4 ∧ s.num ≤ 65535))) → K (bA true) := fun h => leaf _ (segB_spec.2 h)
  have no : ¬ (0 ≤ s.num ∧ ((s.kind = 1 ∧ s.num < t.nodes) ∨ (s.kind = 2 ∧ s.num < 2 * t.links.length) ∨ (s.kind = 3 ∧ 1 ≤ s.num ∧ s.num ≤ 64) ∨ (s.kind = 4 ∧ s.num ≤ 65535))) → K (bA false) := fun h => leaf _ (Bool.eq_false_iff.2 fun h' => h (segB_spec.1 h'))
  clear leaf hK
  obtain ⟨kind, num⟩ := s
  simp only [segA] at *
  obtain ⟨nodes, ov, links⟩ := t
  simp only [topA, boolsD, linksD] at *
  generalize hol : ov.map encB = ol at *
  generalize hll : links.map encLk = ll at *
  have hlo : Λ ol = ov.length := by rw [Λo, ← hol]; simp
  have hls : Λ ll = links.length := by rw [Λo, ← hll]; simp
  conv => cbv
  repeat' first | refine call_b (hn _) rfl rfl ?_ ?_ | refine call_b (ha _) rfl rfl ?_ ?_ | (intro (_ : Unit); first | omega | rfl | exact ⟨rfl, by omega⟩ | (simp only [nI_eq]; omega) | ((repeat' first | rfl | omega | refine And.intro ?_ ?_ | (simp only [nI_eq]; omega) | exact Nat.le_of_ble_eq_true rfl); done)) | exact trivial | refine And.intro ?_ ?_ | (intro hc; exact absurd hc (by decide)) | (intro hc; exfalso; omega) | (intro hc; (first | rw [wrap_small (by omega) (by omega)] at hc | rw [nI_eq] at hc | skip); try (conv => cbv))
  all_goals try simp only [decide_eq_true_eq, decide_eq_false_iff_not] at *
  all_goals first | (refine yes ?_; omega) | (refine no ?_; omega)

theorem rseg_ok (P : Program) (hP : P = Try.prog) (t : Top) (s : Seg) : Ret P n_ref18_Valid [topA t, segA s] (bA (validT t && segB t s)) := by
  refine ret_start (hP ▸ mixed) (hP ▸ fn_ref18_Valid) (hP ▸ c_ref18_Valid) (Nat.le_of_ble_eq_true rfl) fun Λ Λo K hK => ?_
  have hn := valid_ok P hP t
  have ha := arcs_ok P hP t
  clear hP
  have hb : validT t = true → arcsT t = 2 * t.links.length := fun h => by rw [arcsT, if_pos h]
  have leaf : ∀ b, (validT t && segB t s) = b → K (bA b) := fun b hb => by rw [← hb]; exact hK
  have yes : (validT t = true ∧ 0 ≤ s.num ∧ ((s.kind = 1 ∧ s.num < t.nodes) ∨ (s.kind = 2 ∧ s.num < 2 * t.links.length) ∨ (s.kind = 3 ∧ 1 ≤ s.num ∧ s.num ≤ 64) ∨ (s.kind = 4 ∧ s.num ≤ 65535))) → K (bA true) := fun h => leaf _ (by rw [h.1, segB_spec.2 h.2]; rfl)
  have no : (validT t = true → ¬ (0 ≤ s.num ∧ ((s.kind = 1 ∧ s.num < t.nodes) ∨ (s.kind = 2 ∧ s.num < 2 * t.links.length) ∨ (s.kind = 3 ∧ 1 ≤ s.num ∧ s.num ≤ 64) ∨ (s.kind = 4 ∧ s.num ≤ 65535)))) → K (bA false) := fun h => leaf _ (by
    cases hv : validT t with
    | false => rfl
    | true => exact Bool.eq_false_iff.2 fun h' => h hv (segB_spec.1 h'))
  clear leaf hK
  generalize validT t = v at *
  generalize arcsT t = r at *
  obtain ⟨kind, num⟩ := s
  simp only [segA] at *
  obtain ⟨nodes, ov, links⟩ := t
  simp only [topA, boolsD, linksD] at *
  generalize hol : ov.map encB = ol at *
  generalize hll : links.map encLk = ll at *
  have hlo : Λ ol = ov.length := by rw [Λo, ← hol]; simp
  have hls : Λ ll = links.length := by rw [Λo, ← hll]; simp
  conv => cbv
  repeat' first | refine call_b hn rfl rfl ?_ ?_ | refine call_i ha rfl rfl ?_ | (intro (_ : Unit); first | omega | rfl | exact ⟨rfl, by omega⟩ | (simp only [nI_eq]; omega) | ((repeat' first | rfl | omega | refine And.intro ?_ ?_ | (simp only [nI_eq]; omega) | exact Nat.le_of_ble_eq_true rfl); done)) | exact trivial | refine And.intro ?_ ?_ | (intro hc; exact absurd hc (by decide)) | (intro hc; exfalso; omega) | (intro hc; (first | rw [wrap_small (by omega) (by omega)] at hc | rw [nI_eq] at hc | skip); try (conv => cbv))
  all_goals first | (refine no fun h => ?_; have := hb h; omega) | (refine no fun h => ?_; exact absurd (h.symm.trans ‹v = false›) (by simp)) | (refine yes ⟨‹v = true›, ?_⟩; have := hb ‹v = true›; omega)

end Go.Ab

/-
  Contracts, part e: tables.
-/
namespace Go.Ab
open Go.Proofs

/-- an arc of a list that begins at a node, and comes behind the one ahead of it -/
def outAt (t : Top) (n : Int) (l : List Int) (i : Nat) : Bool := decide (tailT t (l.getD i 0) = n) && (decide (i = 0) || decide (l.getD (i - 1) 0 < l.getD i 0))
def outB (t : Top) (n : Int) (l : List Int) : Bool := (List.range l.length).all (outAt t n l)

theorem outB_spec {t : Top} {n : Int} {l : List Int} : outB t n l = true ↔ ∀ i, i < l.length → outAt t n l i = true := by
  simp [outB, List.all_eq_true]

theorem getD_at {α : Type} {l : List α} {i : Nat} {x d : α} (h : l[i]? = some x) : l.getD i d = x := by
  simp [List.getD, h]

theorem outAt_yes {t : Top} {n : Int} {l : List Int} {i : Nat} {x : Int} (hx : l[i]? = some x) (h1 : tailT t x = n) (h2 : i = 0 ∨ ∃ y, l[i - 1]? = some y ∧ y < x) : outAt t n l i = true := by
  simp only [outAt, getD_at hx, h1, decide_true, Bool.true_and, Bool.or_eq_true, decide_eq_true_eq]
  rcases h2 with h2 | ⟨y, hy, h2⟩
  · exact .inl h2
  · exact .inr (by rw [getD_at hy]; exact h2)

theorem outAt_no {t : Top} {n : Int} {l : List Int} {i : Nat} {x : Int} (hx : l[i]? = some x) (h : tailT t x ≠ n ∨ (i ≠ 0 ∧ ∃ y, l[i - 1]? = some y ∧ x ≤ y)) : ¬ outAt t n l i = true := by
  simp only [outAt, getD_at hx, Bool.and_eq_true, Bool.or_eq_true, decide_eq_true_eq]
  rintro ⟨h1, h2⟩
  rcases h with h | ⟨h0, y, hy, h⟩
  · exact h h1
  · rcases h2 with h2 | h2
    · exact h0 h2
    · rw [getD_at hy] at h2; omega

theorem tailT_valid {t : Top} {a : Int} (hv : validT t = true) (h0 : 0 ≤ a) (h1 : a < 2 * t.links.length) : tailT t a = tailG t a := by
  rw [tailT, arcsT, if_pos hv, if_pos ⟨h0, h1⟩]; rfl
theorem tailT_none {t : Top} {a : Int} (hv : validT t = true) (h : ¬ (0 ≤ a ∧ a < 2 * t.links.length)) : tailT t a = -1 := by
  rw [tailT, arcsT, if_pos hv, if_neg h]
end Go.Ab

/-
  Contracts, part f: entries and tables.
-/
namespace Go.Ab
open Go.Proofs

def entB (t : Top) (n d : Int) (e : Ety) : Bool :=
  outB t n e.arcs && !(decide (d = n) && decide (0 < e.arcs.length)) && (if e.rep then decide (e.arcs.length = 1 ∧ e.push.length ≤ 32) else decide (e.push.length = 0)) && e.push.all (segB t)

theorem entB_spec {t : Top} {n d : Int} {e : Ety} : entB t n d e = true ↔
    outB t n e.arcs = true ∧ ¬ (d = n ∧ 0 < e.arcs.length) ∧ (e.rep = true → e.arcs.length = 1 ∧ e.push.length ≤ 32) ∧ (e.rep = false → e.push.length = 0) ∧ ∀ s ∈ e.push, segB t s = true := by
  cases h : e.rep <;> simp only [entB, h, Bool.and_eq_true, List.all_eq_true, and_assoc, Bool.not_eq_true', Bool.and_eq_false_iff, decide_eq_false_iff_not, decide_eq_true_eq, if_true, if_false, Bool.false_eq_true, false_implies, true_and, forall_const, Classical.not_and_iff_not_or_not, reduceCtorEq]

def tabB (t : Top) (x : Tab) : Bool :=
  validT t && decide (0 ≤ x.node ∧ x.node < t.nodes) && decide ((x.to.length : Int) = t.nodes) && outB t x.node x.down && (List.range x.to.length).all fun d => entB t x.node d (x.to.getD d default)

theorem tabB_spec {t : Top} {x : Tab} : tabB t x = true ↔ validT t = true ∧ (0 ≤ x.node ∧ x.node < t.nodes) ∧ (x.to.length : Int) = t.nodes ∧ outB t x.node x.down = true ∧ ∀ (i : Nat) (e : Ety), x.to[i]? = some e → entB t x.node i e = true := by
  simp only [tabB, Bool.and_eq_true, decide_eq_true_eq, List.all_eq_true, List.mem_range, and_assoc]
  constructor
  · rintro ⟨h1, h2, h3, h4, h5, h6⟩
    refine ⟨h1, h2, h3, h4, h5, fun i e he => ?_⟩
    have := h6 i (get_lt he)
    rw [getD_at he] at this
    exact this
  · rintro ⟨h1, h2, h3, h4, h5, h6⟩
    exact ⟨h1, h2, h3, h4, h5, fun i hi => h6 i _ (by simp [List.getD, List.getElem?_eq_getElem hi])⟩
end Go.Ab

/-
  Contracts, part g: tables.
-/
namespace Go.Ab
open Go.Proofs

end Go.Ab

/-
  Contracts, part h: copies; the parts of a step.
-/
namespace Go.Ab
open Go.Proofs

theorem cloneSegs_raw (P : Program) (hP : P = Try.prog) (ll : List (List D)) (hl : ll.length ≤ 1000000) : Ret P n_slices_Clone_api_Segment_api_Segment [.c (.d (.list false 2 ll))] (.c (.d (.list false 2 ll))) := by
  refine ret_start (hP ▸ mixed) (hP ▸ fn_slices_Clone_api_Segment_api_Segment) (hP ▸ c_slices_Clone_api_Segment_api_Segment) (Nat.le_of_ble_eq_true rfl) fun Λ Λo K hK => ?_
  clear hP
  have h0 : ll = [] → K (.c (.d (.list false 2 []))) := fun h => by rw [h] at hK; exact hK
  have lln := Λo ll
  conv => cbv
  repeat' first | (intro (_ : Unit); first | omega | rfl | exact ⟨rfl, by omega⟩ | (simp only [nI_eq]; omega) | ((repeat' first | rfl | omega | refine And.intro ?_ ?_ | (simp only [nI_eq]; omega) | exact Nat.le_of_ble_eq_true rfl); done)) | exact trivial | refine And.intro ?_ ?_ | (intro hc; exact absurd hc (by decide)) | (intro hc; exfalso; omega) | (intro hc; (first | rw [wrap_small (by omega) (by omega)] at hc | rw [nI_eq] at hc | skip); try (conv => cbv))
  · rename_i m r es hm hr hes ls
    have : ls = ll := by subst hc hes hm; simp
    rw [this]; exact hK
  · exact h0 hc

theorem cloneSegs_ok (P : Program) (hP : P = Try.prog) (l : List Seg) (hl : l.length ≤ 1000000) : Ret P n_slices_Clone_api_Segment_api_Segment [segsA l] (segsA l) :=
  cloneSegs_raw P hP _ (by rw [List.length_map]; exact hl)

/-- lists of lists -/
def encSegs (l : List Seg) : List D := [segsD l]

theorem call_in {P : Program} {m : Nat} {L : Lv} {h : Hp} {f : Nat} {fn : Func} {af : AF} {xs : List X} {K : Lv → AV → Hp → Prop} (hm : P.follows .mixedOrders = true) (hf : P.funcs[f]? = some fn) (hc : compF P fn = some af) (hl : (evsN L xs).length ≤ af.nt)
    (hv : ∀ Λ : Len, (∀ l, Λ l = (l.length : Int)) → vcH P Λ af (evsN L xs) h (K L)) : CallS P m false L h f xs K := .fn (fn_heap hm hf hc hl hv)

def sumLen (l : List (List Seg)) : Nat := (l.map List.length).sum

theorem sumLen_take {l : List (List Seg)} {k : Nat} {x : List Seg} (h : l[k]? = some x) : sumLen (l.take (k + 1)) = sumLen (l.take k) + x.length := by
  rw [take_succ_get h]; simp [sumLen]

theorem sumLen_le (l : List (List Seg)) (k : Nat) : sumLen (l.take k) ≤ sumLen l := by
  have : sumLen l = sumLen (l.take k) + sumLen (l.drop k) := by
    conv => lhs; rw [← List.take_append_drop k l]
    simp [sumLen, -List.take_append_drop]
  omega

theorem flat_len (l : List (List Seg)) : l.flatten.length = sumLen l := by simp [sumLen, List.length_flatten]
end Go.Ab

/-
  Chapter 21, part a: policies.
-/
namespace Go.Ab
open Go.Proofs

structure Pol where
  (node bind : Int) (list : List Seg)
instance : Inhabited Pol := ⟨⟨0, 0, []⟩⟩

def encPol (p : Pol) : List D := [iD p.node, iD p.bind, segsD p.list]
abbrev polsD (l : List Pol) : D := .list false 3 (l.map encPol)
abbrev polsA (l : List Pol) : AV := .c (.d (polsD l))
def polA (p : Pol) : AV := .agg [.d (iD p.node), .d (iD p.bind), .d (segsD p.list)]

/-- maps whose keys are pairs of numbers -/
abbrev Asc := List ((Int × Int) × DV)
def encE (e : (Int × Int) × DV) : DV × DV := (.g [iD e.1.1, iD e.1.2], e.2)
def pfind (k : Int × Int) : Asc → Nat → Option (Nat × DV)
  | [], _ => none
  | e :: r, i => if k = e.1 then some (i, e.2) else pfind k r (i + 1)

theorem eqc_pair (a b x y : Int) : eqc [.d (.int .i64 a), .d (.int .i64 b)] [.d (.int .i64 x), .d (.int .i64 y)] [(0, 0), (1, 0)] = some (decide ((a, b) = (x, y))) := by
  have e : eqc [.d (.int .i64 a), .d (.int .i64 b)] [.d (.int .i64 x), .d (.int .i64 y)] [(0, 0), (1, 0)] = some ((a == x) && ((b == y) && true)) := rfl
  rw [e]
  by_cases h1 : a = x
  · by_cases h2 : b = y
    · simp [h1, h2]
    · simp [h1, h2]
  · simp [h1]

theorem mfind_pairs (a b : Int) : ∀ (m : Asc) (i : Nat), mfind false 2 [(0, 0), (1, 0)] (.g [.int .i64 a, .int .i64 b]) (m.map encE) i = some (pfind (a, b) m i) := by
  intro m
  induction m with
  | nil => intro i; rfl
  | cons e r ih =>
    intro i
    obtain ⟨⟨x, y⟩, v⟩ := e
    have e1 : mfind false 2 [(0, 0), (1, 0)] (.g [.int .i64 a, .int .i64 b]) (List.map encE (((x, y), v) :: r)) i =
        (match eqc [.d (.int .i64 a), .d (.int .i64 b)] [.d (.int .i64 x), .d (.int .i64 y)] [(0, 0), (1, 0)] with
        | some true => some (some (i, v))
        | some false => mfind false 2 [(0, 0), (1, 0)] (.g [.int .i64 a, .int .i64 b]) (List.map encE r) (i + 1)
        | none => none) := rfl
    rw [e1, eqc_pair]
    simp only [pfind]
    by_cases h : (a, b) = (x, y)
    · rw [decide_eq_true h, if_pos h]
    · rw [decide_eq_false h, if_neg h]; exact ih (i + 1)

theorem vlk_pairs {a b : Int} {m : Asc} {ml : List (DV × DV)} {ok : Bool} {z : AV} {K : AV → Prop} (mlh : m.map encE = ml) (h0 : pfind (a, b) m 0 = none → K (lkR ok z false)) (h1 : ∀ i v, pfind (a, b) m 0 = some (i, v) → K (lkR ok (avDV v) true)) :
    ∀ r, mfind false 2 [(0, 0), (1, 0)] (.g [.int .i64 a, .int .i64 b]) ml 0 = r → vLk ok z K r := by
  intro r hr
  rw [← mlh, mfind_pairs] at hr
  subst hr
  cases hp : pfind (a, b) m 0 with
  | none => exact h0 hp
  | some p => exact h1 p.1 p.2 hp

theorem vup_pairs {a b : Int} {m : Asc} {ml : List (DV × DV)} {vd : DV} {K : List (DV × DV) → Prop} (mlh : m.map encE = ml) (h0 : pfind (a, b) m 0 = none → ∀ es', (m ++ [((a, b), vd)]).map encE = es' → K es') (h1 : ∀ i v, pfind (a, b) m 0 = some (i, v) → ∀ es', (m.set i ((a, b), vd)).map encE = es' → K es') :
    ∀ r, mfind false 2 [(0, 0), (1, 0)] (.g [.int .i64 a, .int .i64 b]) ml 0 = r → vUp ml (.g [.int .i64 a, .int .i64 b]) vd K r := by
  intro r hr
  have hm : mfind false 2 [(0, 0), (1, 0)] (.g [.int .i64 a, .int .i64 b]) ml 0 = some (pfind (a, b) m 0) := by rw [← mlh, mfind_pairs]
  rw [hm] at hr
  subst hr
  cases hp : pfind (a, b) m 0 with
  | none => intro es' he; exact h0 hp es' (by rw [he, ← mlh]; simp [encE])
  | some p => intro es' he; exact h1 p.1 p.2 hp es' (by rw [he, ← mlh, List.map_set]; rfl)

theorem map_eraseIdx {α β : Type} (f : α → β) : ∀ (l : List α) (i : Nat), (l.eraseIdx i).map f = (l.map f).eraseIdx i
  | [], _ => rfl
  | _ :: _, 0 => rfl
  | a :: l, i + 1 => by simp [map_eraseIdx f l i]

theorem vdel_pairs {a b : Int} {m : Asc} {ml : List (DV × DV)} {K0 : Prop} {K : List (DV × DV) → Prop} (mlh : m.map encE = ml) (h0 : pfind (a, b) m 0 = none → K0) (h1 : ∀ i v, pfind (a, b) m 0 = some (i, v) → ∀ es', (m.eraseIdx i).map encE = es' → K es') :
    ∀ r, mfind false 2 [(0, 0), (1, 0)] (.g [.int .i64 a, .int .i64 b]) ml 0 = r → vDel ml K0 K r := by
  intro r hr
  have hm : mfind false 2 [(0, 0), (1, 0)] (.g [.int .i64 a, .int .i64 b]) ml 0 = some (pfind (a, b) m 0) := by rw [← mlh, mfind_pairs]
  rw [hm] at hr
  subst hr
  cases hp : pfind (a, b) m 0 with
  | none => exact h0 hp
  | some p => intro es' he; exact h1 p.1 p.2 hp es' (by rw [he, ← mlh]; exact map_eraseIdx encE m p.1)

theorem pfind_none {k : Int × Int} {m : Asc} : ∀ {i : Nat}, pfind k m i = none ↔ k ∉ m.map (·.1) := by
  induction m with
  | nil => intro i; simp [pfind]
  | cons e r ih =>
    intro i
    simp only [pfind, List.map_cons, List.mem_cons, not_or]
    split
    · rename_i h; simp [h]
    · rename_i h; rw [ih]; simp [h]

theorem pfind_some {k : Int × Int} {m : Asc} {v : DV} : ∀ {i j : Nat}, pfind k m i = some (j, v) → i ≤ j ∧ m[j - i]? = some (k, v) := by
  induction m with
  | nil => intro i j h; simp [pfind] at h
  | cons e r ih =>
    intro i j h
    simp only [pfind] at h
    split at h
    · rename_i hk
      cases h
      exact ⟨Nat.le_refl _, by rw [hk]; simp⟩
    · obtain ⟨h1, h2⟩ := ih h
      refine ⟨by omega, ?_⟩
      rw [show j - i = (j - (i + 1)) + 1 by omega]; simpa using h2

/-- a set of pairs -/
theorem vlk_set {a b : Int} {m : Asc} {ml : List (DV × DV)} {z : AV} {K : AV → Prop} (mlh : m.map encE = ml) (hall : ∀ e ∈ m, e.2 = .s (.bool true)) (h0 : (a, b) ∉ m.map (·.1) → K z) (h1 : (a, b) ∈ m.map (·.1) → K (.c (.d (.bool true)))) :
    ∀ r, mfind false 2 [(0, 0), (1, 0)] (.g [.int .i64 a, .int .i64 b]) ml 0 = r → vLk false z K r := by
  refine vlk_pairs mlh (fun h => h0 (pfind_none.1 h)) fun i v h => ?_
  have hm := List.mem_of_getElem? (pfind_some h).2
  have := hall _ hm
  simp only at this
  subst this
  exact h1 (List.mem_map.2 ⟨_, hm, rfl⟩)

theorem vup_set {a b : Int} {m : Asc} {ml : List (DV × DV)} {vd : DV} {K : List (DV × DV) → Prop} (mlh : m.map encE = ml) (hn : (a, b) ∉ m.map (·.1)) (h0 : ∀ es', (m ++ [((a, b), vd)]).map encE = es' → K es') :
    ∀ r, mfind false 2 [(0, 0), (1, 0)] (.g [.int .i64 a, .int .i64 b]) ml 0 = r → vUp ml (.g [.int .i64 a, .int .i64 b]) vd K r :=
  vup_pairs mlh (fun _ => h0) fun _ _ h => absurd (List.mem_map.2 ⟨_, List.mem_of_getElem? (pfind_some h).2, rfl⟩) hn

theorem segments_ok (P : Program) (hP : P = Try.prog) (t : Top) (l : List Seg) (h : (t.links.length : Int) ≤ 256) : Ret P n_policy_segments [topA t, segsA l] (bA (l.all (segB t))) := by
  have hg := fun s => gseg_ok P hP t s h
  refine ret_start (hP ▸ mixed) (hP ▸ fn_policy_segments) (hP ▸ c_policy_segments) (Nat.le_of_ble_eq_true rfl) fun Λ Λo K hK => ?_
  clear hP
  have yes : (∀ s ∈ l, segB t s = true) → K (bA true) := fun h => by rw [List.all_eq_true.2 h] at hK; exact hK
  have no : ∀ s ∈ l, segB t s = false → K (bA false) := fun s hs h => by
    rw [show l.all (segB t) = false by rw [List.all_eq_false]; exact ⟨s, hs, by rw [h]; decide⟩] at hK; exact hK
  clear hK
  generalize segB t = sb at *
  simp only [segsA, segsD, segA] at *
  generalize slh : List.map encSeg l = sl at *
  have sln : Λ sl = l.length := by rw [Λo, ← slh]; simp
  obtain ⟨nodes, ov, links⟩ := t
  simp only [topA, boolsD, linksD] at *
  generalize hol : ov.map encB = ol at *
  generalize hll : links.map encLk = ll at *
  have hlo : Λ ol = ov.length := by rw [Λo, ← hol]; simp
  have hls : Λ ll = links.length := by rw [Λo, ← hll]; simp
  conv => cbv
  repeat' first | (intro (_ : Unit); first | omega | rfl | exact ⟨rfl, by omega⟩ | (simp only [nI_eq]; omega) | ((repeat' first | rfl | omega | refine And.intro ?_ ?_ | (simp only [nI_eq]; omega) | exact Nat.le_of_ble_eq_true rfl); done)) | exact trivial | refine And.intro ?_ ?_ | (intro hc; exact absurd hc (by decide)) | (intro hc; exfalso; omega) | (intro hc; (first | rw [wrap_small (by omega) (by omega)] at hc | rw [nI_eq] at hc | skip); try (conv => cbv))
  refine loop_up l.length (fun (i : Int) => [(2, .c (.ptr 0 0 0 0)), (7, .c (.d (.list false 2 sl))), (8, iA (Λ sl)), (9, iA i)]) (fun _ => [.bx [.d (iD nodes), .d (.list false 1 ol), .d (.list false 7 ll)]])
    (fun k i => i = k ∧ k ≤ l.length ∧ ∀ s ∈ l.take k, sb s = true) 0 (Wk.cut ⟨_, rfl⟩ (Nat.zero_le _) rfl (by repeat' first | exact trivial | refine And.intro ?_ ?_ | rfl)) ⟨rfl, by omega, by simp⟩ (fun k s h => h.2.1) ?_
  rintro k i Q' ⟨hi, hk, hok⟩ norm ex rt
  by_cases hlt : k < l.length
  · obtain ⟨x, hx⟩ : ∃ x, l[k]? = some x := ⟨_, List.getElem?_eq_getElem hlt⟩
    have hxa := elt_at slh hi hx
    have hxm := List.mem_of_getElem? hx
    have hgx := hg x
    obtain ⟨xk, xn⟩ := x
    simp only [encSeg] at hxa hgx
    conv => cbv
    repeat' first | (refine ex _ _ _ ?_; (conv => cbv)) | (refine rt _ _ ?_; (conv => cbv)) | (intro e he; cases Option.some.inj (he.symm.trans hxa); (conv => cbv)) | refine call_b hgx rfl rfl ?_ ?_ | (intro (_ : Unit); first | omega | rfl | exact ⟨rfl, by omega⟩ | (simp only [nI_eq]; omega) | ((repeat' first | rfl | omega | refine And.intro ?_ ?_ | (simp only [nI_eq]; omega) | exact Nat.le_of_ble_eq_true rfl); done)) | exact trivial | refine And.intro ?_ ?_ | (intro hc; exact absurd hc (by decide)) | (intro hc; exfalso; omega) | (intro hc; (first | rw [wrap_small (by omega) (by omega)] at hc | rw [nI_eq] at hc | skip); try (conv => cbv))
    · refine norm _ _ _ ?_ (Wk.cut ⟨_, rfl⟩ (Nat.zero_le _) rfl (by repeat' first | exact trivial | refine And.intro ?_ ?_ | rfl))
      refine ⟨by omega, by omega, fun s hs => ?_⟩
      rcases (mem_take_succ hx).1 hs with h | h
      · exact hok s h
      · rw [h]; assumption
    · exact no _ hxm (by assumption)
  · conv => cbv
    repeat' first | (refine ex _ _ _ ?_; (conv => cbv)) | (refine rt _ _ ?_; (conv => cbv)) | (intro (_ : Unit); first | omega | rfl | exact ⟨rfl, by omega⟩ | (simp only [nI_eq]; omega) | ((repeat' first | rfl | omega | refine And.intro ?_ ?_ | (simp only [nI_eq]; omega) | exact Nat.le_of_ble_eq_true rfl); done)) | exact trivial | refine And.intro ?_ ?_ | (intro hc; exact absurd hc (by decide)) | (intro hc; exfalso; omega) | (intro hc; (first | rw [wrap_small (by omega) (by omega)] at hc | rw [nI_eq] at hc | skip); try (conv => cbv))
    refine yes fun s hs => hok s ?_
    rw [List.take_of_length_le (by omega)]; exact hs

theorem rproper_ok (P : Program) (hP : P = Try.prog) (t : Top) (l : List Seg) (hv : validT t = true) : Ret P n_ref21_proper [topA t, segsA l] (bA (l.all (segB t))) := by
  have hg : ∀ s, Ret P n_ref18_Valid [topA t, segA s] (bA (segB t s)) := fun s => by have := rseg_ok P hP t s; rw [hv, Bool.true_and] at this; exact this
  refine ret_start (hP ▸ mixed) (hP ▸ fn_ref21_proper) (hP ▸ c_ref21_proper) (Nat.le_of_ble_eq_true rfl) fun Λ Λo K hK => ?_
  clear hP hv
  have yes : (∀ s ∈ l, segB t s = true) → K (bA true) := fun h => by rw [List.all_eq_true.2 h] at hK; exact hK
  have no : ∀ s ∈ l, segB t s = false → K (bA false) := fun s hs h => by
    rw [show l.all (segB t) = false by rw [List.all_eq_false]; exact ⟨s, hs, by rw [h]; decide⟩] at hK; exact hK
  clear hK
  generalize segB t = sb at *
  simp only [segsA, segsD, segA] at *
  generalize slh : List.map encSeg l = sl at *
  have sln : Λ sl = l.length := by rw [Λo, ← slh]; simp
  obtain ⟨nodes, ov, links⟩ := t
  simp only [topA, boolsD, linksD] at *
  generalize hol : ov.map encB = ol at *
  generalize hll : links.map encLk = ll at *
  have hlo : Λ ol = ov.length := by rw [Λo, ← hol]; simp
  have hls : Λ ll = links.length := by rw [Λo, ← hll]; simp
  conv => cbv
  repeat' first | (intro (_ : Unit); first | omega | rfl | exact ⟨rfl, by omega⟩ | (simp only [nI_eq]; omega) | ((repeat' first | rfl | omega | refine And.intro ?_ ?_ | (simp only [nI_eq]; omega) | exact Nat.le_of_ble_eq_true rfl); done)) | exact trivial | refine And.intro ?_ ?_ | (intro hc; exact absurd hc (by decide)) | (intro hc; exfalso; omega) | (intro hc; (first | rw [wrap_small (by omega) (by omega)] at hc | rw [nI_eq] at hc | skip); try (conv => cbv))
  refine loop_up l.length (fun (i : Int) => [(1, .c (.d (.list false 2 sl))), (2, .c (.ptr 0 0 0 0)), (5, iA i)]) (fun _ => [.bx [.d (iD nodes), .d (.list false 1 ol), .d (.list false 7 ll)]])
    (fun k i => i = k ∧ k ≤ l.length ∧ ∀ s ∈ l.take k, sb s = true) 0 (Wk.cut ⟨_, rfl⟩ (Nat.zero_le _) rfl (by repeat' first | exact trivial | refine And.intro ?_ ?_ | rfl)) ⟨rfl, by omega, by simp⟩ (fun k s h => h.2.1) ?_
  rintro k i Q' ⟨hi, hk, hok⟩ norm ex rt
  by_cases hlt : k < l.length
  · obtain ⟨x, hx⟩ : ∃ x, l[k]? = some x := ⟨_, List.getElem?_eq_getElem hlt⟩
    have hxa := elt_at slh hi hx
    have hxm := List.mem_of_getElem? hx
    have hgx := hg x
    obtain ⟨xk, xn⟩ := x
    simp only [encSeg] at hxa hgx
    conv => cbv
    repeat' first | (refine ex _ _ _ ?_; (conv => cbv)) | (refine rt _ _ ?_; (conv => cbv)) | (intro e he; cases Option.some.inj (he.symm.trans hxa); (conv => cbv)) | refine call_b hgx rfl rfl ?_ ?_ | (intro (_ : Unit); first | omega | rfl | exact ⟨rfl, by omega⟩ | (simp only [nI_eq]; omega) | ((repeat' first | rfl | omega | refine And.intro ?_ ?_ | (simp only [nI_eq]; omega) | exact Nat.le_of_ble_eq_true rfl); done)) | exact trivial | refine And.intro ?_ ?_ | (intro hc; exact absurd hc (by decide)) | (intro hc; exfalso; omega) | (intro hc; (first | rw [wrap_small (by omega) (by omega)] at hc | rw [nI_eq] at hc | skip); try (conv => cbv))
    · refine norm _ _ _ ?_ (Wk.cut ⟨_, rfl⟩ (Nat.zero_le _) rfl (by repeat' first | exact trivial | refine And.intro ?_ ?_ | rfl))
      refine ⟨by omega, by omega, fun s hs => ?_⟩
      rcases (mem_take_succ hx).1 hs with h | h
      · exact hok s h
      · rw [h]; assumption
    · exact no _ hxm (by assumption)
  · conv => cbv
    repeat' first | (refine ex _ _ _ ?_; (conv => cbv)) | (refine rt _ _ ?_; (conv => cbv)) | (intro (_ : Unit); first | omega | rfl | exact ⟨rfl, by omega⟩ | (simp only [nI_eq]; omega) | ((repeat' first | rfl | omega | refine And.intro ?_ ?_ | (simp only [nI_eq]; omega) | exact Nat.le_of_ble_eq_true rfl); done)) | exact trivial | refine And.intro ?_ ?_ | (intro hc; exact absurd hc (by decide)) | (intro hc; exfalso; omega) | (intro hc; (first | rw [wrap_small (by omega) (by omega)] at hc | rw [nI_eq] at hc | skip); try (conv => cbv))
    refine yes fun s hs => hok s ?_
    rw [List.take_of_length_le (by omega)]; exact hs

end Go.Ab

/-
  Chapter 21, part b: which policies are valid.
-/
namespace Go.Ab
open Go.Proofs

def polB (t : Top) (p : Pol) : Bool := decide (0 ≤ p.node ∧ p.node < t.nodes) && decide (0 ≤ p.bind ∧ p.bind ≤ 65535) && decide (p.list.length ≤ 32) && p.list.all (segB t)
def keyP (p : Pol) : Int × Int := (p.node, p.bind)
def polsB (t : Top) (ps : List Pol) : Bool := validT t && ps.all (polB t) && decide ((ps.map keyP).Nodup)

theorem polB_spec {t : Top} {p : Pol} : polB t p = true ↔ (0 ≤ p.node ∧ p.node < t.nodes) ∧ (0 ≤ p.bind ∧ p.bind ≤ 65535) ∧ p.list.length ≤ 32 ∧ p.list.all (segB t) = true := by
  simp only [polB, Bool.and_eq_true, decide_eq_true_eq, and_assoc]
theorem polsB_spec {t : Top} {ps : List Pol} : polsB t ps = true ↔ validT t = true ∧ (∀ p ∈ ps, polB t p = true) ∧ (ps.map keyP).Nodup := by
  simp only [polsB, Bool.and_eq_true, decide_eq_true_eq, List.all_eq_true, and_assoc]

def seenE (p : Pol) : (Int × Int) × DV := (keyP p, .s (.bool true))

theorem nodup_take_succ {ps : List Pol} {k : Nat} {x : Pol} (hx : ps[k]? = some x) : (((ps.take (k + 1)).map keyP).Nodup ↔ ((ps.take k).map keyP).Nodup ∧ keyP x ∉ (ps.take k).map keyP) := by
  rw [take_succ_get hx, List.map_append, List.nodup_append]
  simp only [List.map_cons, List.map_nil, List.nodup_cons, List.not_mem_nil, not_false_eq_true, List.nodup_nil, and_self, true_and, List.mem_singleton]
  constructor
  · rintro ⟨h1, h2⟩
    exact ⟨h1, fun h => h2 _ h _ rfl rfl⟩
  · rintro ⟨h1, h2⟩
    exact ⟨h1, fun a ha b hb e => h2 (by rw [← hb, ← e]; exact ha)⟩

theorem dup_no {ps : List Pol} {k : Nat} {x : Pol} (hx : ps[k]? = some x) (hm : keyP x ∈ (ps.take k).map keyP) : ¬ (ps.map keyP).Nodup := by
  intro h
  have h2 : ((ps.take (k + 1)).map keyP).Nodup := by
    have : (ps.take (k + 1)).map keyP = (ps.map keyP).take (k + 1) := by rw [List.map_take]
    rw [this]; exact h.sublist (List.take_sublist _ _)
  exact ((nodup_take_succ hx).1 h2).2 hm

set_option maxHeartbeats 4000000 in
theorem pvalid_ok (P : Program) (hP : P = Try.prog) (t : Top) (ps : List Pol) : Ret P n_policy_Valid [topA t, polsA ps] (bA (polsB t ps)) := by
  have hv := tvalid_ok P hP t
  have hsg := fun l h => segments_ok P hP t l h
  have hnode := fun n => gnode_ok P hP t n
  refine ret_start (hP ▸ mixed) (hP ▸ fn_policy_Valid) (hP ▸ c_policy_Valid) (Nat.le_of_ble_eq_true rfl) fun Λ Λo K hK => ?_
  clear hP
  have yes : validT t = true → (∀ p ∈ ps, polB t p = true) → (ps.map keyP).Nodup → K (bA true) := fun h1 h2 h3 => by rw [polsB_spec.2 ⟨h1, h2, h3⟩] at hK; exact hK
  have no : ¬ (validT t = true ∧ (∀ p ∈ ps, polB t p = true) ∧ (ps.map keyP).Nodup) → K (bA false) := fun h => by
    rw [show polsB t ps = false from Bool.eq_false_iff.2 fun h' => h (polsB_spec.1 h')] at hK; exact hK
  clear hK
  have h256 : validT t = true → (t.links.length : Int) ≤ 256 := fun h => (validT_spec.1 h).2.2.1
  have hps := fun p => @polB_spec t p
  generalize validT t = vt at *
  generalize segB t = sb at *
  generalize polB t = pb at *
  simp only [polsA, polsD, segsA, segsD] at *
  generalize plh : List.map encPol ps = pl at *
  have pln : Λ pl = ps.length := by rw [Λo, ← plh]; simp
  obtain ⟨nodes, ov, links⟩ := t
  simp only [topA, boolsD, linksD] at *
  generalize hol : ov.map encB = ol at *
  generalize hll : links.map encLk = ll at *
  have hlo : Λ ol = ov.length := by rw [Λo, ← hol]; simp
  have hls : Λ ll = links.length := by rw [Λo, ← hll]; simp
  cases vt with
  | false =>
    conv => cbv
    repeat' first | refine call_b hv rfl rfl ?_ ?_ | (intro hc; cases hc; done) | (intro (_ : Unit); first | omega | rfl | exact ⟨rfl, by omega⟩ | (simp only [nI_eq]; omega) | ((repeat' first | rfl | omega | refine And.intro ?_ ?_ | (simp only [nI_eq]; omega) | exact Nat.le_of_ble_eq_true rfl); done)) | exact trivial | refine And.intro ?_ ?_ | (intro hc; exact absurd hc (by decide)) | (intro hc; exfalso; omega) | (intro hc; (first | rw [wrap_small (by omega) (by omega)] at hc | rw [nI_eq] at hc | skip); try (conv => cbv))
    exact no (by simp)
  | true =>
  have h256 := h256 rfl
  have no1 : ∀ p ∈ ps, ¬ ((0 ≤ p.node ∧ p.node < nodes) ∧ (0 ≤ p.bind ∧ p.bind ≤ 65535) ∧ p.list.length ≤ 32 ∧ p.list.all sb = true) → K (bA false) := fun p hp h => no fun h' => h ((hps p).1 (h'.2.1 p hp))
  have no2 : ¬ (ps.map keyP).Nodup → K (bA false) := fun h => no fun h' => h h'.2.2
  have yes := yes rfl
  clear no
  conv => cbv
  repeat' first | refine call_b hv rfl rfl ?_ ?_ | (intro hc; cases hc; done) | (intro (_ : Unit); first | omega | rfl | exact ⟨rfl, by omega⟩ | (simp only [nI_eq]; omega) | ((repeat' first | rfl | omega | refine And.intro ?_ ?_ | (simp only [nI_eq]; omega) | exact Nat.le_of_ble_eq_true rfl); done)) | exact trivial | refine And.intro ?_ ?_ | (intro hc; exact absurd hc (by decide)) | (intro hc; exfalso; omega) | (intro hc; (first | rw [wrap_small (by omega) (by omega)] at hc | rw [nI_eq] at hc | skip); try (conv => cbv))
  refine loop_up ps.length (fun (s : Int × Nat × List (DV × DV)) => [(2, .c (.ptr 0 0 0 0)), (5, .c (.mp 1)), (13, .c (.d (.list false 3 pl))), (14, iA (Λ pl)), (15, iA s.1)]) (fun s => [.bx [.d (iD nodes), .d (.list false 1 ol), .d (.list false 7 ll)], .mp s.2.1 s.2.2])
    (fun k s => s.1 = k ∧ k ≤ ps.length ∧ ((ps.take k).map seenE).map encE = s.2.2 ∧ (∀ p ∈ ps.take k, pb p = true) ∧ ((ps.take k).map keyP).Nodup) (0, 0, []) (Wk.cut ⟨_, rfl⟩ (Nat.zero_le _) rfl (by repeat' first | exact trivial | refine And.intro ?_ ?_ | rfl)) ⟨rfl, by omega, rfl, by simp, by simp⟩ (fun k s h => h.2.1) ?_
  rintro k ⟨i, ve, ml⟩ Q' ⟨hi, hk, mlh, hok, hnd⟩ norm ex rt
  simp only at hi mlh
  by_cases hlt : k < ps.length
  · obtain ⟨x, hx⟩ : ∃ x, ps[k]? = some x := ⟨_, List.getElem?_eq_getElem hlt⟩
    have hxa := elt_at plh hi hx
    have hxm := List.mem_of_getElem? hx
    have hkeys : ((ps.take k).map seenE).map (·.1) = (ps.take k).map keyP := by rw [List.map_map]; rfl
    have hall : ∀ e ∈ (ps.take k).map seenE, e.2 = .s (.bool true) := fun e he => by obtain ⟨p, _, rfl⟩ := List.mem_map.1 he; rfl
    have hdup : keyP x ∈ (ps.take k).map keyP → K (bA false) := fun h => no2 (dup_no hx h)
    have hbad := no1 x hxm
    have hgood := (hps x).2
    have hnds := (nodup_take_succ hx).2
    have htk := take_succ_get hx
    obtain ⟨node, bind, list⟩ := x
    have hsx := hsg list h256
    have hnx := hnode node
    simp only [encPol, segsD] at hxa
    simp only [keyP] at hdup hnds
    simp only at hbad hgood
    generalize list.all sb = la at *
    generalize hdn : decide (0 ≤ node ∧ node < nodes) = dn at *
    have hdn' : dn = true ↔ 0 ≤ node ∧ node < nodes := by rw [← hdn]; simp
    generalize slh : List.map encSeg list = sl at *
    have sln : Λ sl = list.length := by rw [Λo, ← slh]; simp
    conv => cbv
    repeat' first | (refine ex _ _ _ ?_; (conv => cbv)) | (refine rt _ _ ?_; (conv => cbv)) | (intro e he; cases Option.some.inj (he.symm.trans hxa); (conv => cbv)) | (refine vlk_set mlh hall ?_ ?_ <;> rw [hkeys]) | refine vup_set mlh (by rw [hkeys]; assumption) ?_ | refine call_b hnx rfl rfl ?_ ?_ | refine call_b hsx rfl rfl ?_ ?_ | (intro (_ : Unit); first | omega | rfl | exact ⟨rfl, by omega⟩ | (simp only [nI_eq]; omega) | ((repeat' first | rfl | omega | refine And.intro ?_ ?_ | (simp only [nI_eq]; omega) | exact Nat.le_of_ble_eq_true rfl); done)) | exact trivial | refine And.intro ?_ ?_ | (intro hc; exact absurd hc (by decide)) | (intro hc; exfalso; omega) | (intro hc; (first | rw [wrap_small (by omega) (by omega)] at hc | rw [nI_eq] at hc | skip); try (conv => cbv))
    all_goals try first
      | exact hdup (by assumption)
      | (refine hbad ?_; intro hb; omega)
      | (refine hbad ?_; intro hb; exact absurd hb.2.2.2 (by rw [‹la = false›]; decide))
      | (refine hbad ?_; intro hb; exact absurd (hdn'.2 hb.1) (by rw [‹dn = false›]; decide))
    · rename_i es' hes i'
      refine norm _ _ (_, _, es') ?_ (Wk.cut ⟨_, rfl⟩ (Nat.zero_le _) rfl (by repeat' first | exact trivial | refine And.intro ?_ ?_ | rfl))
      have hdt := hdn'.1 (by assumption)
      have hlt' : la = true := by assumption
      have hkn : (node, bind) ∉ (ps.take k).map keyP := by assumption
      refine ⟨by simp only; omega, by omega, ?_, fun p hp => ?_, hnds ⟨hnd, hkn⟩⟩
      · simp only [← hes, htk, List.map_append]; rfl
      · rcases (mem_take_succ hx).1 hp with h | h
        · exact hok p h
        · rw [h]; exact hgood ⟨hdt, by omega, by omega, hlt'⟩
  · conv => cbv
    repeat' first | (refine ex _ _ _ ?_; (conv => cbv)) | (refine rt _ _ ?_; (conv => cbv)) | (intro (_ : Unit); first | omega | rfl | exact ⟨rfl, by omega⟩ | (simp only [nI_eq]; omega) | ((repeat' first | rfl | omega | refine And.intro ?_ ?_ | (simp only [nI_eq]; omega) | exact Nat.le_of_ble_eq_true rfl); done)) | exact trivial | refine And.intro ?_ ?_ | (intro hc; exact absurd hc (by decide)) | (intro hc; exfalso; omega) | (intro hc; (first | rw [wrap_small (by omega) (by omega)] at hc | rw [nI_eq] at hc | skip); try (conv => cbv))
    have ht : ps.take k = ps := List.take_of_length_le (by omega)
    rw [ht] at hok hnd
    exact yes hok hnd

end Go.Ab

/-
  Chapter 21, part c: the specification's validity, and the search for a policy.
-/
namespace Go.Ab
open Go.Proofs

set_option maxHeartbeats 4000000 in
theorem rpvalid_ok (P : Program) (hP : P = Try.prog) (t : Top) (ps : List Pol) : Ret P n_ref21_Valid [topA t, polsA ps] (bA (polsB t ps)) := by
  have hv := valid_ok P hP t
  have hsg := fun l h => rproper_ok P hP t l h
  refine ret_start (hP ▸ mixed) (hP ▸ fn_ref21_Valid) (hP ▸ c_ref21_Valid) (Nat.le_of_ble_eq_true rfl) fun Λ Λo K hK => ?_
  clear hP
  have yes : validT t = true → (∀ p ∈ ps, polB t p = true) → (ps.map keyP).Nodup → K (bA true) := fun h1 h2 h3 => by rw [polsB_spec.2 ⟨h1, h2, h3⟩] at hK; exact hK
  have no : ¬ (validT t = true ∧ (∀ p ∈ ps, polB t p = true) ∧ (ps.map keyP).Nodup) → K (bA false) := fun h => by
    rw [show polsB t ps = false from Bool.eq_false_iff.2 fun h' => h (polsB_spec.1 h')] at hK; exact hK
  clear hK
  have hps := fun p => @polB_spec t p
  generalize validT t = vt at *
  generalize segB t = sb at *
  generalize polB t = pb at *
  simp only [polsA, polsD, segsA, segsD] at *
  generalize plh : List.map encPol ps = pl at *
  have pln : Λ pl = ps.length := by rw [Λo, ← plh]; simp
  obtain ⟨nodes, ov, links⟩ := t
  simp only [topA, boolsD, linksD] at *
  generalize hol : ov.map encB = ol at *
  generalize hll : links.map encLk = ll at *
  have hlo : Λ ol = ov.length := by rw [Λo, ← hol]; simp
  have hls : Λ ll = links.length := by rw [Λo, ← hll]; simp
  cases vt with
  | false =>
    conv => cbv
    repeat' first | refine call_b hv rfl rfl ?_ ?_ | (intro hc; cases hc; done) | (intro (_ : Unit); first | omega | rfl | exact ⟨rfl, by omega⟩ | (simp only [nI_eq]; omega) | ((repeat' first | rfl | omega | refine And.intro ?_ ?_ | (simp only [nI_eq]; omega) | exact Nat.le_of_ble_eq_true rfl); done)) | exact trivial | refine And.intro ?_ ?_ | (intro hc; exact absurd hc (by decide)) | (intro hc; exfalso; omega) | (intro hc; (first | rw [wrap_small (by omega) (by omega)] at hc | rw [nI_eq] at hc | skip); try (conv => cbv))
    exact no (by simp)
  | true =>
  have hsg := fun l => hsg l rfl
  have no1 : ∀ p ∈ ps, ¬ ((0 ≤ p.node ∧ p.node < nodes) ∧ (0 ≤ p.bind ∧ p.bind ≤ 65535) ∧ p.list.length ≤ 32 ∧ p.list.all sb = true) → K (bA false) := fun p hp h => no fun h' => h ((hps p).1 (h'.2.1 p hp))
  have no2 : ¬ (ps.map keyP).Nodup → K (bA false) := fun h => no fun h' => h h'.2.2
  have yes := yes rfl
  clear no
  conv => cbv
  repeat' first | refine call_b hv rfl rfl ?_ ?_ | (intro hc; cases hc; done) | (intro (_ : Unit); first | omega | rfl | exact ⟨rfl, by omega⟩ | (simp only [nI_eq]; omega) | ((repeat' first | rfl | omega | refine And.intro ?_ ?_ | (simp only [nI_eq]; omega) | exact Nat.le_of_ble_eq_true rfl); done)) | exact trivial | refine And.intro ?_ ?_ | (intro hc; exact absurd hc (by decide)) | (intro hc; exfalso; omega) | (intro hc; (first | rw [wrap_small (by omega) (by omega)] at hc | rw [nI_eq] at hc | skip); try (conv => cbv))
  refine loop_up ps.length (fun (i : Int) => [(1, .c (.d (.list false 3 pl))), (2, .c (.ptr 0 0 0 0)), (5, iA i)]) (fun s => [.bx [.d (iD nodes), .d (.list false 1 ol), .d (.list false 7 ll)]])
    (fun k i => i = k ∧ k ≤ ps.length ∧ (∀ p ∈ ps.take k, pb p = true) ∧ ((ps.take k).map keyP).Nodup) 0 (Wk.cut ⟨_, rfl⟩ (Nat.zero_le _) rfl (by repeat' first | exact trivial | refine And.intro ?_ ?_ | rfl)) ⟨rfl, by omega, by simp, by simp⟩ (fun k s h => h.2.1) ?_
  rintro k i Q' ⟨hi, hk, hok, hnd⟩ norm ex rt
  by_cases hlt : k < ps.length
  · obtain ⟨x, hx⟩ : ∃ x, ps[k]? = some x := ⟨_, List.getElem?_eq_getElem hlt⟩
    have hxa := elt_at plh hi hx
    have hxm := List.mem_of_getElem? hx
    have hdup : keyP x ∈ (ps.take k).map keyP → K (bA false) := fun h => no2 (dup_no hx h)
    have hbad := no1 x hxm
    have hgood := (hps x).2
    have hnds := (nodup_take_succ hx).2
    obtain ⟨node, bind, list⟩ := x
    have hsx := hsg list
    simp only [encPol, segsD] at hxa
    simp only [keyP] at hdup hnds
    simp only at hbad hgood
    generalize list.all sb = la at *
    generalize slh : List.map encSeg list = sl at *
    have sln : Λ sl = list.length := by rw [Λo, ← slh]; simp
    conv => cbv
    repeat' first | (refine ex _ _ _ ?_; (conv => cbv)) | (refine rt _ _ ?_; (conv => cbv)) | (intro e he; cases Option.some.inj (he.symm.trans hxa); (conv => cbv)) | refine call_b hsx rfl rfl ?_ ?_ | (intro (_ : Unit); first | omega | rfl | exact ⟨rfl, by omega⟩ | (simp only [nI_eq]; omega) | ((repeat' first | rfl | omega | refine And.intro ?_ ?_ | (simp only [nI_eq]; omega) | exact Nat.le_of_ble_eq_true rfl); done)) | exact trivial | refine And.intro ?_ ?_ | (intro hc; exact absurd hc (by decide)) | (intro hc; exfalso; omega) | (intro hc; (first | rw [wrap_small (by omega) (by omega)] at hc | rw [nI_eq] at hc | skip); try (conv => cbv))
    all_goals try first
      | (refine hbad ?_; intro hb; omega)
      | (refine hbad ?_; intro hb; exact absurd hb.2.2.2 (by rw [‹la = false›]; decide))
    have hlt' : la = true := by assumption
    have hgd := hgood ⟨by omega, by omega, by omega, hlt'⟩
    clear hbad
    refine loop_up k (fun (j : Int) => [(1, .c (.d (.list false 3 pl))), (2, .c (.ptr 0 0 0 0)), (5, iA i), (6, .c (.ptr 1 0 0 0)), (7, iA j)]) (fun s => [.bx [.d (iD nodes), .d (.list false 1 ol), .d (.list false 7 ll)], .bx [.d (iD node), .d (iD bind), .d (.list false 2 sl)]])
      (fun q j => j = q ∧ q ≤ k ∧ (node, bind) ∉ (ps.take q).map keyP) 0 (Wk.cut ⟨_, rfl⟩ (Nat.zero_le _) rfl (by repeat' first | exact trivial | refine And.intro ?_ ?_ | rfl)) ⟨rfl, by omega, by simp⟩ (fun k s h => h.2.1) ?_
    rintro q j Q'' ⟨hj, hq, hqn⟩ norm2 ex2 rt2
    by_cases hlt2 : q < k
    · obtain ⟨y, hy⟩ : ∃ y, ps[q]? = some y := ⟨_, List.getElem?_eq_getElem (by omega)⟩
      have hya := elt_at plh hj hy
      have hym : keyP y = (node, bind) → (node, bind) ∈ (ps.take k).map keyP := fun e => by
        rw [← e]; exact List.mem_map.2 ⟨y, List.mem_of_getElem? (i := q) (by rw [List.getElem?_take, if_pos hlt2]; exact hy), rfl⟩
      have hys : keyP y ≠ (node, bind) → (node, bind) ∉ (ps.take (q + 1)).map keyP := fun e h => by
        rw [take_succ_get hy, List.map_append] at h
        rcases List.mem_append.1 h with h | h
        · exact hqn h
        · simp only [List.map_cons, List.map_nil, List.mem_singleton] at h; exact e h.symm
      obtain ⟨n2, b2, l2⟩ := y
      simp only [encPol, segsD] at hya
      simp only [keyP, Prod.mk.injEq, ne_eq] at hym hys
      generalize List.map encSeg l2 = sl2 at *
      conv => cbv
      repeat' first | (refine ex2 _ _ _ ?_; (conv => cbv)) | (refine rt2 _ _ ?_; (conv => cbv)) | (refine rt _ _ ?_; (conv => cbv)) | (intro e he; cases Option.some.inj (he.symm.trans hya); (conv => cbv)) | (intro (_ : Unit); first | omega | rfl | exact ⟨rfl, by omega⟩ | (simp only [nI_eq]; omega) | ((repeat' first | rfl | omega | refine And.intro ?_ ?_ | (simp only [nI_eq]; omega) | exact Nat.le_of_ble_eq_true rfl); done)) | exact trivial | refine And.intro ?_ ?_ | (intro hc; exact absurd hc (by decide)) | (intro hc; exfalso; omega) | (intro hc; (first | rw [wrap_small (by omega) (by omega)] at hc | rw [nI_eq] at hc | skip); try (conv => cbv))
      all_goals first
        | exact hdup (hym ⟨by assumption, by assumption⟩)
        | (refine norm2 _ _ _ ?_ (Wk.cut ⟨_, rfl⟩ (Nat.zero_le _) rfl (by repeat' first | exact trivial | refine And.intro ?_ ?_ | rfl)); refine ⟨by omega, by omega, hys fun h => ?_⟩; omega)
        | trace_state
    · conv => cbv
      repeat' first | (refine ex2 _ _ _ ?_; (conv => cbv)) | (refine rt2 _ _ ?_; (conv => cbv)) | (intro (_ : Unit); first | omega | rfl | exact ⟨rfl, by omega⟩ | (simp only [nI_eq]; omega) | ((repeat' first | rfl | omega | refine And.intro ?_ ?_ | (simp only [nI_eq]; omega) | exact Nat.le_of_ble_eq_true rfl); done)) | exact trivial | refine And.intro ?_ ?_ | (intro hc; exact absurd hc (by decide)) | (intro hc; exfalso; omega) | (intro hc; (first | rw [wrap_small (by omega) (by omega)] at hc | rw [nI_eq] at hc | skip); try (conv => cbv))
      have e : q = k := by omega
      subst e
      refine norm _ _ _ ?_ (Wk.cut ⟨_, rfl⟩ (Nat.zero_le _) rfl (by repeat' first | exact trivial | refine And.intro ?_ ?_ | rfl))
      refine ⟨by omega, by omega, fun p hp => ?_, hnds ⟨hnd, hqn⟩⟩
      rcases (mem_take_succ hx).1 hp with h | h
      · exact hok p h
      · rw [h]; exact hgd
  · conv => cbv
    repeat' first | (refine ex _ _ _ ?_; (conv => cbv)) | (refine rt _ _ ?_; (conv => cbv)) | (intro (_ : Unit); first | omega | rfl | exact ⟨rfl, by omega⟩ | (simp only [nI_eq]; omega) | ((repeat' first | rfl | omega | refine And.intro ?_ ?_ | (simp only [nI_eq]; omega) | exact Nat.le_of_ble_eq_true rfl); done)) | exact trivial | refine And.intro ?_ ?_ | (intro hc; exact absurd hc (by decide)) | (intro hc; exfalso; omega) | (intro hc; (first | rw [wrap_small (by omega) (by omega)] at hc | rw [nI_eq] at hc | skip); try (conv => cbv))
    have ht : ps.take k = ps := List.take_of_length_le (by omega)
    rw [ht] at hok hnd
    exact yes hok hnd

/-- the first policy with a key -/
def findPol (ps : List Pol) (n b : Int) : Option Pol := ps.find? fun p => decide (p.node = n ∧ p.bind = b)
def foundA (o : Option Pol) : AV := match o with
  | some p => .tup [polA p, bA true]
  | none => .tup [polA ⟨0, 0, []⟩, bA false]

theorem find_take {ps : List Pol} {f : Pol → Bool} {k : Nat} {x : Pol} (hn : ∀ p ∈ ps.take k, f p = false) (hx : ps[k]? = some x) (hf : f x = true) : ps.find? f = some x := by
  rw [← List.take_append_drop k ps, List.find?_append]
  have h1 : (ps.take k).find? f = none := List.find?_eq_none.2 fun p hp => by rw [hn p hp]; decide
  have h2 : ps.drop k = x :: ps.drop (k + 1) := by
    rw [List.drop_eq_getElem_cons (get_lt hx)]
    congr 1
    rw [List.getElem?_eq_getElem (get_lt hx)] at hx; exact Option.some.inj hx
  rw [h1, h2, Option.none_or, List.find?_cons_of_pos hf]

end Go.Ab

/-
  Chapter 21, part d: the search for a policy.
-/
namespace Go.Ab
open Go.Proofs

def isP (n b : Int) (p : Pol) : Bool := decide (p.node = n ∧ p.bind = b)

set_option maxHeartbeats 4000000 in
theorem pfind_ok (P : Program) (hP : P = Try.prog) (ps : List Pol) (n b : Int) (hs : ∀ p ∈ ps, p.list.length ≤ 1000000) : Ret P n_policy_Find [polsA ps, iA n, iA b] (foundA (ps.find? (isP n b))) := by
  have hcl := fun l h => cloneSegs_ok P hP l h
  refine ret_start (hP ▸ mixed) (hP ▸ fn_policy_Find) (hP ▸ c_policy_Find) (Nat.le_of_ble_eq_true rfl) fun Λ Λo K hK => ?_
  clear hP
  have yes : ∀ p, ps.find? (isP n b) = some p → K (.tup [polA p, bA true]) := fun p h => by rw [h] at hK; exact hK
  have no : ps.find? (isP n b) = none → K (.tup [polA ⟨0, 0, []⟩, bA false]) := fun h => by rw [h] at hK; exact hK
  clear hK
  simp only [polsA, polsD, polA, segsA, segsD, List.map_nil] at *
  generalize plh : List.map encPol ps = pl at *
  have pln : Λ pl = ps.length := by rw [Λo, ← plh]; simp
  conv => cbv
  repeat' first | (intro (_ : Unit); first | omega | rfl | exact ⟨rfl, by omega⟩ | (simp only [nI_eq]; omega) | ((repeat' first | rfl | omega | refine And.intro ?_ ?_ | (simp only [nI_eq]; omega) | exact Nat.le_of_ble_eq_true rfl); done)) | exact trivial | refine And.intro ?_ ?_ | (intro hc; exact absurd hc (by decide)) | (intro hc; exfalso; omega) | (intro hc; (first | rw [wrap_small (by omega) (by omega)] at hc | rw [nI_eq] at hc | skip); try (conv => cbv))
  refine loop_up ps.length (fun (i : Int) => [(1, iA n), (2, iA b), (6, .c (.ptr 0 0 0 0)), (10, .c (.d (.list false 3 pl))), (11, iA (Λ pl)), (12, iA i)]) (fun s => [.bx [.d (iD 0), .d (iD 0), .d (.list true 2 [])]])
    (fun k i => i = k ∧ k ≤ ps.length ∧ (∀ p ∈ ps.take k, isP n b p = false)) 0 (Wk.cut ⟨_, rfl⟩ (Nat.zero_le _) rfl (by repeat' first | exact trivial | refine And.intro ?_ ?_ | rfl)) ⟨rfl, by omega, by simp⟩ (fun k s h => h.2.1) ?_
  rintro k i Q' ⟨hi, hk, hok⟩ norm ex rt
  by_cases hlt : k < ps.length
  · obtain ⟨x, hx⟩ : ∃ x, ps[k]? = some x := ⟨_, List.getElem?_eq_getElem hlt⟩
    have hxa := elt_at plh hi hx
    have hyes := fun h => yes x (find_take hok hx h)
    have hcx := hcl x.list (hs x (List.mem_of_getElem? hx))
    have hnx : isP n b x = false → ∀ p ∈ ps.take (k + 1), isP n b p = false := fun h p hp => by
      rcases (mem_take_succ hx).1 hp with h' | h'
      · exact hok p h'
      · rw [h']; exact h
    obtain ⟨node, bind, list⟩ := x
    simp only [encPol, segsD] at hxa
    simp only [isP, decide_eq_true_eq, decide_eq_false_iff_not] at hyes hnx
    simp only at hcx
    generalize List.map encSeg list = sl at *
    conv => cbv
    repeat' first | (refine ex _ _ _ ?_; (conv => cbv)) | (refine rt _ _ ?_; (conv => cbv)) | (intro e he; cases Option.some.inj (he.symm.trans hxa); (conv => cbv)) | (refine call_r hcx rfl rfl ?_; conv => cbv) | (intro (_ : Unit); first | omega | rfl | exact ⟨rfl, by omega⟩ | (simp only [nI_eq]; omega) | ((repeat' first | rfl | omega | refine And.intro ?_ ?_ | (simp only [nI_eq]; omega) | exact Nat.le_of_ble_eq_true rfl); done)) | exact trivial | refine And.intro ?_ ?_ | (intro hc; exact absurd hc (by decide)) | (intro hc; exfalso; omega) | (intro hc; (first | rw [wrap_small (by omega) (by omega)] at hc | rw [nI_eq] at hc | skip); try (conv => cbv))
    all_goals first
      | exact hyes ⟨by assumption, by assumption⟩
      | (refine norm _ _ _ ?_ (Wk.cut ⟨_, rfl⟩ (Nat.zero_le _) rfl (by repeat' first | exact trivial | refine And.intro ?_ ?_ | rfl)); refine ⟨by omega, by omega, fun p hp => ?_⟩; simp only [isP, decide_eq_false_iff_not]; exact hnx (by omega) p hp)
      | trace_state
  · conv => cbv
    repeat' first | (refine ex _ _ _ ?_; (conv => cbv)) | (refine rt _ _ ?_; (conv => cbv)) | (intro (_ : Unit); first | omega | rfl | exact ⟨rfl, by omega⟩ | (simp only [nI_eq]; omega) | ((repeat' first | rfl | omega | refine And.intro ?_ ?_ | (simp only [nI_eq]; omega) | exact Nat.le_of_ble_eq_true rfl); done)) | exact trivial | refine And.intro ?_ ?_ | (intro hc; exact absurd hc (by decide)) | (intro hc; exfalso; omega) | (intro hc; (first | rw [wrap_small (by omega) (by omega)] at hc | rw [nI_eq] at hc | skip); try (conv => cbv))
    refine no (List.find?_eq_none.2 fun p hp => ?_)
    rw [hok p (by rw [List.take_of_length_le (by omega)]; exact hp)]; decide

theorem rindex_ok (P : Program) (hP : P = Try.prog) (ps : List Pol) (n b : Int) : Ret P n_ref21_index [polsA ps, iA n, iA b] (iA (match ps.findIdx? (isP n b) with | some i => (i : Int) | none => -1)) := by
  refine ret_start (hP ▸ mixed) (hP ▸ fn_ref21_index) (hP ▸ c_ref21_index) (Nat.le_of_ble_eq_true rfl) fun Λ Λo K hK => ?_
  clear hP
  have yes : ∀ i : Nat, ps.findIdx? (isP n b) = some i → K (iA i) := fun p h => by rw [h] at hK; exact hK
  have no : ps.findIdx? (isP n b) = none → K (iA (-1)) := fun h => by rw [h] at hK; exact hK
  clear hK
  simp only [polsA, polsD] at *
  generalize plh : List.map encPol ps = pl at *
  have pln : Λ pl = ps.length := by rw [Λo, ← plh]; simp
  conv => cbv
  repeat' first | (intro (_ : Unit); first | omega | rfl | exact ⟨rfl, by omega⟩ | (simp only [nI_eq]; omega) | ((repeat' first | rfl | omega | refine And.intro ?_ ?_ | (simp only [nI_eq]; omega) | exact Nat.le_of_ble_eq_true rfl); done)) | exact trivial | refine And.intro ?_ ?_ | (intro hc; exact absurd hc (by decide)) | (intro hc; exfalso; omega) | (intro hc; (first | rw [wrap_small (by omega) (by omega)] at hc | rw [nI_eq] at hc | skip); try (conv => cbv))
  refine loop_up ps.length (fun (i : Int) => [(0, .c (.d (.list false 3 pl))), (1, iA n), (2, iA b), (7, iA i)]) (fun s => [])
    (fun k i => i = k ∧ k ≤ ps.length ∧ (∀ p ∈ ps.take k, isP n b p = false)) 0 (Wk.cut ⟨_, rfl⟩ (Nat.zero_le _) rfl (by repeat' first | exact trivial | refine And.intro ?_ ?_ | rfl)) ⟨rfl, by omega, by simp⟩ (fun k s h => h.2.1) ?_
  rintro k i Q' ⟨hi, hk, hok⟩ norm ex rt
  by_cases hlt : k < ps.length
  · obtain ⟨x, hx⟩ : ∃ x, ps[k]? = some x := ⟨_, List.getElem?_eq_getElem hlt⟩
    have hxa := elt_at plh hi hx
    have hyes : isP n b x = true → K (iA k) := fun h => yes k (by
      rw [List.findIdx?_eq_some_iff_getElem]
      have hxe : ps[k] = x := by rw [List.getElem?_eq_getElem hlt] at hx; exact Option.some.inj hx
      refine ⟨hlt, by rw [hxe]; exact h, fun j hj => ?_⟩
      rw [hok _ (List.mem_of_getElem? (i := j) (by rw [List.getElem?_take, if_pos hj, List.getElem?_eq_getElem (by omega)]))]; decide)
    have hnx : isP n b x = false → ∀ p ∈ ps.take (k + 1), isP n b p = false := fun h p hp => by
      rcases (mem_take_succ hx).1 hp with h' | h'
      · exact hok p h'
      · rw [h']; exact h
    obtain ⟨node, bind, list⟩ := x
    simp only [encPol, segsD] at hxa
    simp only [isP, decide_eq_true_eq, decide_eq_false_iff_not] at hyes hnx
    generalize List.map encSeg list = sl at *
    conv => cbv
    repeat' first | (refine ex _ _ _ ?_; (conv => cbv)) | (refine rt _ _ ?_; (conv => cbv)) | (intro e he; cases Option.some.inj (he.symm.trans hxa); (conv => cbv)) | (intro (_ : Unit); first | omega | rfl | exact ⟨rfl, by omega⟩ | (simp only [nI_eq]; omega) | ((repeat' first | rfl | omega | refine And.intro ?_ ?_ | (simp only [nI_eq]; omega) | exact Nat.le_of_ble_eq_true rfl); done)) | exact trivial | refine And.intro ?_ ?_ | (intro hc; exact absurd hc (by decide)) | (intro hc; exfalso; omega) | (intro hc; (first | rw [wrap_small (by omega) (by omega)] at hc | rw [nI_eq] at hc | skip); try (conv => cbv))
    all_goals first
      | (rw [hi]; exact hyes ⟨by assumption, by assumption⟩)
      | (refine norm _ _ _ ?_ (Wk.cut ⟨_, rfl⟩ (Nat.zero_le _) rfl (by repeat' first | exact trivial | refine And.intro ?_ ?_ | rfl)); refine ⟨by omega, by omega, fun p hp => ?_⟩; simp only [isP, decide_eq_false_iff_not]; exact hnx (by omega) p hp)
      | trace_state
  · conv => cbv
    repeat' first | (refine ex _ _ _ ?_; (conv => cbv)) | (refine rt _ _ ?_; (conv => cbv)) | (intro (_ : Unit); first | omega | rfl | exact ⟨rfl, by omega⟩ | (simp only [nI_eq]; omega) | ((repeat' first | rfl | omega | refine And.intro ?_ ?_ | (simp only [nI_eq]; omega) | exact Nat.le_of_ble_eq_true rfl); done)) | exact trivial | refine And.intro ?_ ?_ | (intro hc; exact absurd hc (by decide)) | (intro hc; exfalso; omega) | (intro hc; (first | rw [wrap_small (by omega) (by omega)] at hc | rw [nI_eq] at hc | skip); try (conv => cbv))
    refine no (List.findIdx?_eq_none_iff.2 fun p hp => ?_)
    exact hok p (by rw [List.take_of_length_le (by omega)]; exact hp)

theorem find_idx {ps : List Pol} {f : Pol → Bool} : (∀ i, ps.findIdx? f = some i → ∃ p, ps[i]? = some p ∧ ps.find? f = some p) ∧ (ps.findIdx? f = none → ps.find? f = none) := by
  refine ⟨fun i hi => ?_, fun h => ?_⟩
  · rw [List.findIdx?_eq_some_iff_getElem] at hi
    obtain ⟨h1, h2, h3⟩ := hi
    refine ⟨ps[i], List.getElem?_eq_getElem h1, find_take (k := i) (fun p hp => ?_) (List.getElem?_eq_getElem h1) h2⟩
    obtain ⟨j, hj⟩ := List.getElem?_of_mem hp
    rw [List.getElem?_take] at hj
    split at hj
    · rename_i hji
      have := h3 j hji
      rw [List.getElem?_eq_getElem (by omega)] at hj
      rw [← Option.some.inj hj]; simpa using this
    · cases hj
  · rw [List.findIdx?_eq_none_iff] at h
    exact List.find?_eq_none.2 fun p hp => by rw [h p hp]; decide

theorem rfind_ok (P : Program) (hP : P = Try.prog) (ps : List Pol) (n b : Int) : Ret P n_ref21_Find [polsA ps, iA n, iA b] (foundA (ps.find? (isP n b))) := by
  have hix := rindex_ok P hP ps n b
  refine ret_start (hP ▸ mixed) (hP ▸ fn_ref21_Find) (hP ▸ c_ref21_Find) (Nat.le_of_ble_eq_true rfl) fun Λ Λo K hK => ?_
  clear hP
  have yes : ∀ p, ps.find? (isP n b) = some p → K (.tup [polA p, bA true]) := fun p h => by rw [h] at hK; exact hK
  have no : ps.find? (isP n b) = none → K (.tup [polA ⟨0, 0, []⟩, bA false]) := fun h => by rw [h] at hK; exact hK
  clear hK
  obtain ⟨hf1, hf2⟩ := @find_idx ps (isP n b)
  cases hi : ps.findIdx? (isP n b) with
  | none =>
    rw [hi] at hix
    have no := no (hf2 hi)
    simp only [polsA, polsD, polA, segsD, List.map_nil] at *
    generalize plh : List.map encPol ps = pl at *
    conv => cbv
    repeat' first | refine call_i hix rfl rfl ?_ | (intro (_ : Unit); first | omega | rfl | exact ⟨rfl, by omega⟩ | (simp only [nI_eq]; omega) | ((repeat' first | rfl | omega | refine And.intro ?_ ?_ | (simp only [nI_eq]; omega) | exact Nat.le_of_ble_eq_true rfl); done)) | exact trivial | refine And.intro ?_ ?_ | (intro hc; exact absurd hc (by decide)) | (intro hc; exfalso; omega) | (intro hc; (first | rw [wrap_small (by omega) (by omega)] at hc | rw [nI_eq] at hc | skip); try (conv => cbv))
    all_goals first | exact no | (exfalso; omega)
  | some i =>
    obtain ⟨x, hx, hfx⟩ := hf1 i hi
    rw [hi] at hix
    have yes := yes x hfx
    have hlt := get_lt hx
    simp only [polsA, polsD, polA, segsD] at *
    generalize plh : List.map encPol ps = pl at *
    have pln : Λ pl = ps.length := by rw [Λo, ← plh]; simp
    have hxa : ∀ c : Int, c = i → pl[c.toNat]? = some (encPol x) := fun c hc => elt_at plh hc hx
    obtain ⟨node, bind, list⟩ := x
    simp only [encPol, segsD] at hxa
    simp only at yes
    generalize List.map encSeg list = sl at *
    conv => cbv
    repeat' first | refine call_i hix rfl rfl ?_ | (intro e he; cases Option.some.inj (he.symm.trans (hxa _ (by assumption))); (conv => cbv)) | (intro (_ : Unit); first | omega | rfl | exact ⟨rfl, by omega⟩ | (simp only [nI_eq]; omega) | ((repeat' first | rfl | omega | refine And.intro ?_ ?_ | (simp only [nI_eq]; omega) | exact Nat.le_of_ble_eq_true rfl); done)) | exact trivial | refine And.intro ?_ ?_ | (intro hc; exact absurd hc (by decide)) | (intro hc; exfalso; omega) | (intro hc; (first | rw [wrap_small (by omega) (by omega)] at hc | rw [nI_eq] at hc | skip); try (conv => cbv))
    all_goals first | exact yes | (exfalso; omega) | trace_state

theorem samePol_ok (P : Program) (hP : P = Try.prog) (p : Pol) : Ret P n_ref21_SamePolicy [polA p, polA p] (bA true) := by
  have hss := sameSegs_ok P hP p.list p.list
  simp only [decide_true] at hss
  refine ret_start (hP ▸ mixed) (hP ▸ fn_ref21_SamePolicy) (hP ▸ c_ref21_SamePolicy) (Nat.le_of_ble_eq_true rfl) fun Λ Λo K hK => ?_
  clear hP
  obtain ⟨node, bind, list⟩ := p
  simp only [segsA, segsD, polA] at *
  generalize slh : List.map encSeg list = sl at *
  conv => cbv
  repeat' first | refine call_b hss rfl rfl ?_ ?_ | (intro (_ : Unit); first | omega | rfl | exact ⟨rfl, by omega⟩ | (simp only [nI_eq]; omega) | ((repeat' first | rfl | omega | refine And.intro ?_ ?_ | (simp only [nI_eq]; omega) | exact Nat.le_of_ble_eq_true rfl); done)) | exact trivial | refine And.intro ?_ ?_ | (intro hc; exact absurd hc (by decide)) | (intro hc; exfalso; omega) | (intro hc; (first | rw [wrap_small (by omega) (by omega)] at hc | rw [nI_eq] at hc | skip); try (conv => cbv))
  all_goals first | exact hK | (exfalso; omega)

end Go.Ab

/-
  The engine: a contract over a few blocks, used where these blocks are some of many.
-/
namespace Go.Ab

section
variable {G : Nat → Prop} {w : World} {ιc ι : Io} {hc h : Hp} {ρ : Nat → Nat}

theorem Kept.rn {ι' ιc' : Io} {w' : World} {i l : Nat} {k k' : Blk} (hk : Kept ιc ιc' w w' i k k') (h1 : ι[l]? = ιc[i]?) (h2 : ι'[l]? = ιc'[i]?) : Kept ι ι' w w' l (rnB ρ k) (rnB ρ k') := by
  cases k' with
  | dead => cases k <;> trivial
  | bx cs' =>
    cases k with
    | bx cs => exact ⟨by rw [rnCs_len, rnCs_len]; exact hk.1, by rw [h1, h2]; exact hk.2⟩
    | _ => simp [Kept] at hk
  | da r' v' sz' es' =>
    cases k with
    | da r v sz es =>
      rcases hk with hk | ⟨a1, a2, a3, a4, a5, a6⟩
      · exact .inl hk
      · exact .inr ⟨a1, a2, a3, a4, by rw [h1, h2]; exact a5, fun hr b o hb => a6 hr b o (by rw [← h1]; exact hb)⟩
    | _ => simp [Kept] at hk
  | mp v' es' =>
    cases k with
    | mp v es =>
      obtain ⟨a1, a2⟩ := hk
      refine ⟨by rw [h1, h2]; exact a1, ?_⟩
      rcases a2 with a2 | ⟨a2, a3, a4⟩
      · exact .inl a2
      · exact .inr ⟨a2, a3, fun b o hb => a4 b o (by rw [← h1]; exact hb)⟩
    | _ => simp [Kept] at hk
  | mi m' v' es' =>
    cases k with
    | mi m v es =>
      obtain ⟨a1, a2, a3⟩ := hk
      exact ⟨by rw [a1], a2, by rw [h1, h2]; exact a3⟩
    | _ => simp [Kept] at hk
end

/-- some places of a list, set -/
def setAll {α : Type} : List α → List Nat → List α → List α
  | h, [], _ => h
  | h, _ :: _, [] => h
  | h, l :: σ, b :: bs => setAll (h.set l b) σ bs

theorem setAll_len {α : Type} : ∀ (σ : List Nat) (h bs : List α), (setAll h σ bs).length = h.length
  | [], _, _ => by simp only [setAll]
  | _ :: _, _, [] => by simp only [setAll]
  | l :: σ, h, b :: bs => by simp only [setAll]; rw [setAll_len σ]; simp

theorem setAll_other {α : Type} : ∀ (σ : List Nat) (h bs : List α) (l : Nat), l ∉ σ → (setAll h σ bs)[l]? = h[l]?
  | [], _, _, _, _ => by simp only [setAll]
  | _ :: _, _, [], _, _ => by simp only [setAll]
  | l :: σ, h, b :: bs, l', hn => by
    simp only [setAll]
    rw [setAll_other σ _ bs l' (fun hm => hn (List.mem_cons_of_mem _ hm)), List.getElem?_set_ne (fun (e : l = l') => hn (by rw [e]; exact List.mem_cons_self ..))]

theorem setAll_at {α : Type} : ∀ (σ : List Nat) (h bs : List α) (i l : Nat) (b : α), σ.Nodup → (∀ l ∈ σ, l < h.length) → σ[i]? = some l → bs[i]? = some b → (setAll h σ bs)[l]? = some b
  | [], _, _, _, _, _, _, _, h1, _ => by simp at h1
  | _ :: _, _, [], _, _, _, _, _, _, h2 => by simp at h2
  | l0 :: σ, h, b0 :: bs, i, l, b, hn, hl, h1, h2 => by
    simp only [setAll]
    cases i with
    | zero =>
      simp at h1 h2
      subst h1 h2
      rw [setAll_other σ _ bs l0 (List.nodup_cons.1 hn).1, List.getElem?_set_self (hl l0 (List.mem_cons_self ..))]
    | succ i =>
      exact setAll_at σ _ bs i l b (List.nodup_cons.1 hn).2 (fun x hx => by simpa using hl x (List.mem_cons_of_mem _ hx)) (by simpa using h1) (by simpa using h2)

/-- the numbers of a callee's blocks at its caller: those it was handed, then new ones -/
def rho : List Nat → Nat → Nat → Nat
  | [], n, i => n + i
  | l :: _, _, 0 => l
  | _ :: σ, n, i + 1 => rho σ n i

theorem rho_old : ∀ (σ : List Nat) (n i : Nat), i < σ.length → σ[i]? = some (rho σ n i)
  | [], _, _, h => by simp at h
  | l :: σ, n, 0, _ => rfl
  | l :: σ, n, i + 1, h => by simpa [rho] using rho_old σ n i (by simpa using h)
theorem rho_new : ∀ (σ : List Nat) (n i : Nat), σ.length ≤ i → rho σ n i = n + (i - σ.length)
  | [], _, _, _ => rfl
  | l :: σ, n, 0, h => by simp at h
  | l :: σ, n, i + 1, h => by simp only [rho, List.length_cons]; rw [rho_new σ n i (by simpa using h)]; omega

/-- the caller's heap behind the call -/
def backH (h : Hp) (σ : List Nat) (hc : Hp) : Hp := setAll h σ (rnH (rho σ h.length) hc) ++ rnH (rho σ h.length) (hc.drop σ.length)
def backI (ι : Io) (σ : List Nat) (ιc : Io) : Io := setAll ι σ ιc ++ ιc.drop σ.length

/-- A CONTRACT OVER A FEW BLOCKS, USED WHERE THESE ARE SOME OF MANY. -/
theorem FnS.frame {P : Program} {f : Nat} {args : List AV} {hc : Hp} {R : AV → Hp → Prop} (hf : FnS P f args hc R) (σ : List Nat) (h : Hp) (hlen : σ.length = hc.length) (hnd : σ.Nodup)
    (hh : ∀ i k, hc[i]? = some k → h[rho σ h.length i]? = some (rnB (rho σ h.length) k)) (hcl : refsH hc.length hc = true) (hca : ∀ x ∈ args, refsA hc.length x = true) :
    FnS P f (rnAs (rho σ h.length) args) h fun r' h' => ∃ r hc', R r hc' ∧ r' = rnA (rho σ h.length) r ∧ h' = backH h σ hc' := by
  refine ⟨fun G ι w vs hr hv => ?_⟩
  have hlt : ∀ l ∈ σ, l < h.length := by
    intro l hl
    obtain ⟨i, hi, rfl⟩ := List.getElem_of_mem hl
    have h1 := rho_old σ h.length i hi
    rw [List.getElem?_eq_getElem hi] at h1
    have h2 := hh i _ (List.getElem?_eq_getElem (by omega))
    rw [← Option.some.inj h1] at h2
    exact get_lt h2
  have hιl : ∀ l ∈ σ, l < ι.length := fun l hl => by rw [hr.len]; exact hlt l hl
  generalize hρ : rho σ h.length = ρ at *
  have rold : ∀ i, i < σ.length → σ[i]? = some (ρ i) := fun i hi => by rw [← hρ]; exact rho_old σ _ i hi
  have rnew : ∀ i, σ.length ≤ i → ρ i = h.length + (i - σ.length) := fun i hi => by rw [← hρ]; exact rho_new σ _ i hi
  have rmem : ∀ i, i < σ.length → ρ i ∈ σ := fun i hi => List.mem_of_getElem? (rold i hi)
  have rinj : ∀ i j, ρ i = ρ j → i = j := by
    intro i j e
    rcases Nat.lt_or_ge i σ.length with hi | hi <;> rcases Nat.lt_or_ge j σ.length with hj | hj
    · have h1 := rold i hi
      have h2 := rold j hj
      rw [e, ← h2] at h1
      exact (List.getElem?_inj hi hnd).1 h1
    · have := hlt _ (rmem i hi); have := rnew j hj; omega
    · have := hlt _ (rmem j hj); have := rnew i hi; omega
    · have := rnew i hi; have := rnew j hj; omega
  let ιc : Io := σ.map fun l => (ι[l]?).getD (0, 0)
  have hιc : ∀ i, i < σ.length → ιc[i]? = ι[ρ i]? := by
    intro i hi
    simp only [ιc, List.getElem?_map, rold i hi, Option.map_some]
    rw [List.getElem?_eq_getElem (hιl _ (rmem i hi))]; rfl
  have am : Among ρ ιc hc ι h := ⟨hh, fun i k hk => (hιc i (by rw [hlen]; exact get_lt hk)).symm⟩
  have hrc : HR G ιc hc w := HR.down am hr (by simp [ιc, hlen]) (fun i j _ _ e => rinj i j e) hcl
  have hvc : VRs G w ιc hc vs args := by
    refine ⟨by rw [hv.1, rnAs_len], fun i v x h1 h2 => ?_⟩
    exact (hv.2 i v (rnA ρ x) h1 (by rw [rnAs_get, h2]; rfl)).unrn am (hca x (List.mem_of_getElem? h2))
  refine (hf.out G ιc w vs hrc hvc).mono fun e w2 ⟨v, r, G2, ι2, hc2, he, hR, hr2, hvr, hx⟩ => ?_
  have hl2 : hc.length ≤ hc2.length := by
    rcases Nat.lt_or_ge hc2.length hc.length with hb | hb
    · obtain ⟨k', h1, _⟩ := hx.keep hc2.length _ (List.getElem?_eq_getElem hb)
      have := get_lt h1; omega
    · exact hb
  have hl2' : ι2.length = hc2.length := hr2.len
  have hset : (setAll h σ (rnH ρ hc2)).length = h.length := setAll_len σ h _
  have hseti : (setAll ι σ ι2).length = h.length := by rw [setAll_len, hr.len]
  have hbh : backH h σ hc2 = setAll h σ (rnH ρ hc2) ++ rnH ρ (hc2.drop σ.length) := by simp only [backH, hρ]
  -- the callee's blocks, at the caller
  have am2 : Among ρ ι2 hc2 (backI ι σ ι2) (backH h σ hc2) := by
    rw [hbh]
    constructor
    · intro i k hk
      rcases Nat.lt_or_ge i σ.length with hi | hi
      · rw [List.getElem?_append_left (by rw [hset]; exact hlt _ (rmem i hi))]
        exact setAll_at σ h _ i _ _ hnd hlt (rold i hi) (by rw [rnH_get, hk]; rfl)
      · rw [rnew i hi, List.getElem?_append_right (by omega), hset, rnH_get, List.getElem?_drop]
        rw [show σ.length + (h.length + (i - σ.length) - h.length) = i by omega, hk]; rfl
    · intro i k hk
      unfold backI
      have hi2 : ι2[i]? = some (ι2[i]'(by rw [hl2']; exact get_lt hk)) := List.getElem?_eq_getElem _
      rcases Nat.lt_or_ge i σ.length with hi | hi
      · rw [List.getElem?_append_left (by rw [hseti]; exact hlt _ (rmem i hi)), hi2]
        exact setAll_at σ ι _ i _ _ hnd hιl (rold i hi) hi2
      · rw [rnew i hi, List.getElem?_append_right (by omega), hseti, List.getElem?_drop]
        rw [show σ.length + (h.length + (i - σ.length) - h.length) = i by omega]
  -- each of the caller's blocks is one of the callee's, or as it was
  have part : ∀ l k', (backH h σ hc2)[l]? = some k' → (∃ i k, hc2[i]? = some k ∧ l = ρ i ∧ k' = rnB ρ k) ∨ (h[l]? = some k' ∧ l ∉ σ ∧ (backI ι σ ι2)[l]? = ι[l]?) := by
    intro l k' hk'
    by_cases hm : l ∈ σ
    · obtain ⟨i, hi, rfl⟩ := List.getElem_of_mem hm
      have e : σ[i] = ρ i := by have := rold i hi; rw [List.getElem?_eq_getElem hi] at this; exact Option.some.inj this
      have hki : hc2[i]? = some (hc2[i]'(by omega)) := List.getElem?_eq_getElem _
      have := am2.blk i _ hki
      rw [e, this] at hk'
      exact .inl ⟨i, _, hki, e, (Option.some.inj hk').symm⟩
    · rcases Nat.lt_or_ge l h.length with hl | hl
      · rw [hbh, List.getElem?_append_left (by omega), setAll_other σ h _ l hm] at hk'
        exact .inr ⟨hk', hm, by unfold backI; rw [List.getElem?_append_left (by omega), setAll_other σ ι _ l hm]⟩
      · rw [hbh, List.getElem?_append_right (by omega), hset, rnH_get, List.getElem?_drop, Option.map_eq_some_iff] at hk'
        obtain ⟨k, h1, rfl⟩ := hk'
        exact .inl ⟨_, k, h1, by rw [rnew _ (by omega)]; omega, rfl⟩
  have other : ∀ l o b k, h[l]? = some k → l ∉ σ → ι[l]? = some (b, o) → k.live = true → b < w.heap.size ∧ ¬ owned ιc hc b := by
    intro l o b k h1 h2 h3 h4
    refine ⟨owned_lt hr ⟨l, o, k, h3, h1, h4⟩, fun ho => ?_⟩
    obtain ⟨i, o', kc, g1, g2, g3, g4, g5⟩ := owned_rn am ho
    have := hr.inj l (ρ i) b o o' k _ h3 g4 h1 g5 h4 (by rw [rnB_live]; exact g2)
    exact h2 (this ▸ rmem i (by rw [hlen]; exact get_lt g1))
  have same : ∀ l o b k, h[l]? = some k → l ∉ σ → ι[l]? = some (b, o) → k.live = true → w2.heap[b]? = w.heap[b]? := by
    intro l o b k h1 h2 h3 h4
    have := other l o b k h1 h2 h3 h4
    exact hx.frame b this.1 this.2
  have hext : Ext G ι h w G2 (backI ι σ ι2) (backH h σ hc2) w2 :=
    { size := hx.size
      quiet := hx.quiet
      frame := fun b hb ho => hx.frame b hb fun ho' => ho (owned_up am ho')
      gmono := hx.gmono
      gnew := fun b hb => by
        rcases hx.gnew b hb with h1 | h1 | h1
        · exact .inl h1
        · exact .inr (.inl h1)
        · exact .inr (.inr (owned_up am h1))
      onew := fun b ⟨l, o, k, h1, h2, h3⟩ => by
        rcases part l k h2 with ⟨i, kc, g1, rfl, rfl⟩ | ⟨g1, g2, g3⟩
        · rw [am2.at' i kc g1] at h1
          rw [rnB_live] at h3
          rcases hx.onew b ⟨i, o, kc, h1, g1, h3⟩ with h4 | h4
          · exact .inl (owned_up am h4)
          · exact .inr h4
        · rw [g3] at h1
          exact .inl ⟨l, o, k, h1, g1, h3⟩
      keep := fun l k hk => by
        by_cases hm : l ∈ σ
        · obtain ⟨i, hi, rfl⟩ := List.getElem_of_mem hm
          have e : σ[i] = ρ i := by have := rold i hi; rw [List.getElem?_eq_getElem hi] at this; exact Option.some.inj this
          have hki : hc[i]? = some (hc[i]'(by omega)) := List.getElem?_eq_getElem _
          rw [e, hh i _ hki] at hk
          cases hk
          obtain ⟨k', g1, g2⟩ := hx.keep i _ hki
          exact ⟨rnB ρ k', by rw [e]; exact am2.blk i k' g1, by rw [e]; exact g2.rn (am.at' i _ hki) (am2.at' i k' g1)⟩
        · have hl : l < h.length := get_lt hk
          have e1 : (backH h σ hc2)[l]? = some k := by rw [hbh, List.getElem?_append_left (by omega), setAll_other σ h _ l hm]; exact hk
          have e2 : (backI ι σ ι2)[l]? = ι[l]? := by unfold backI; rw [List.getElem?_append_left (by omega), setAll_other σ ι _ l hm]
          refine ⟨k, e1, ?_⟩
          cases k with
          | dead => trivial
          | bx cs => exact ⟨rfl, e2⟩
          | mi => exact ⟨rfl, rfl, e2⟩
          | mp v es => exact ⟨e2, .inr ⟨rfl, rfl, fun b o hb => same l o b _ hk hm hb rfl⟩⟩
          | da rl v sz es => exact .inr ⟨rfl, rfl, rfl, rfl, e2, fun hrl b o hb => bsize_same (same l o b _ hk hm hb hrl)⟩ }
  refine ⟨v, rnA ρ r, G2, backI ι σ ι2, backH h σ hc2, he, ⟨r, hc2, hR, rfl, rfl⟩, ?_, hvr.rn am2, hext⟩
  exact
    { len := by
        rw [hbh]; unfold backI
        simp only [List.length_append, hset, hseti, rnH_len, List.length_drop, hl2']
      inj := by
        intro l l' b o o' k k' h1 h2 h3 h4 h5 h6
        rcases part l k h3 with ⟨i, kc, g1, rfl, rfl⟩ | ⟨g1, g2, g3⟩ <;> rcases part l' k' h4 with ⟨i', kc', q1, rfl, rfl⟩ | ⟨q1, q2, q3⟩
        · rw [am2.at' i kc g1] at h1
          rw [am2.at' i' kc' q1] at h2
          rw [rnB_live] at h5 h6
          rw [hr2.inj i i' b o o' kc kc' h1 h2 g1 q1 h5 h6]
        · exfalso
          rw [am2.at' i kc g1] at h1
          rw [q3] at h2
          rw [rnB_live] at h5
          have ot := other l' o' b k' q1 q2 h2 h6
          rcases hx.onew b ⟨i, o, kc, h1, g1, h5⟩ with h7 | h7
          · exact ot.2 h7
          · omega
        · exfalso
          rw [am2.at' i' kc' q1] at h2
          rw [g3] at h1
          rw [rnB_live] at h6
          have ot := other l o b k g1 g2 h1 h5
          rcases hx.onew b ⟨i', o', kc', h2, q1, h6⟩ with h7 | h7
          · exact ot.2 h7
          · omega
        · rw [g3] at h1; rw [q3] at h2
          exact hr.inj l l' b o o' k k' h1 h2 g1 q1 h5 h6
      g := by
        intro b hb
        refine ⟨(hr2.g b hb).1, fun ⟨l, o, k, h1, h2, h3⟩ => ?_⟩
        rcases part l k h2 with ⟨i, kc, g1, rfl, rfl⟩ | ⟨g1, g2, g3⟩
        · rw [am2.at' i kc g1] at h1
          rw [rnB_live] at h3
          exact (hr2.g b hb).2 ⟨i, o, kc, h1, g1, h3⟩
        · rw [g3] at h1
          have ot := other l o b k g1 g2 h1 h3
          rcases hx.gnew b hb with h4 | h4 | h4
          · exact (hr.g b h4).2 ⟨l, o, k, h1, g1, h3⟩
          · omega
          · exact ot.2 h4
      blk := by
        intro l k hk
        rcases part l k hk with ⟨i, kc, g1, rfl, rfl⟩ | ⟨g1, g2, g3⟩
        · exact BR.rn am2 g1 (hr2.blk i kc g1)
        · cases hlv : k.live with
          | false => exact BR.of_dead (hr.blk l k g1) hlv
          | true => exact BR.ext hext hr g1 g3 fun b o hb => same l o b k g1 g2 hb hlv }

end Go.Ab

/-
  The engine: results that are new memory.
-/
namespace Go.Ab

def scalD : D → Bool
  | .bool _ => true
  | .int _ _ => true
  | .str _ => true
  | _ => false

theorem scalD_move {G G' : Nat → Prop} {w w' : World} {v : Value} {d : D} (hs : scalD d = true) (hd : DR G w v d) : DR G' w' v d := by
  cases hd <;> first | (simp [scalD] at hs; done) | exact .bool _ | exact .int _ _ | exact .str _

/-- an array of the call's own, of plain elements, as new memory -/
theorem new_arr {G : Nat → Prop} {ι : Io} {h : Hp} {w w' : World} {v : Value} {l ver sz n : Nat} {r : Bool} {es : List (List D)} (hr : HR G ι h w') (hv : CR G w' ι h v (.arr l ver 0 n)) (hl : h[l]? = some (.da r ver sz es)) (hn : n = es.length)
    (hnew : ∀ b, owned ι h b → w.heap.size ≤ b) (hsc : ∀ e ∈ es, ∀ d ∈ e, scalD d = true) : DR (fun b => w.heap.size ≤ b ∧ b < w'.heap.size) w' v (.list false sz es) := by
  have hf : frz h (.arr l ver 0 n) = some (.list false sz es, h.set l .dead) := by simp [frz, hl, hn]
  obtain ⟨G', _, hd, _⟩ := frz_sound hr hv hf
  cases hv with
  | arr _ _ _ _ _ blk hb ha hk hk0 =>
    rw [hl] at hb
    cases hb
    cases r with
    | false =>
      obtain ⟨_, _, rfl⟩ := hk0 sz es rfl
      have : es = [] := hr.blk l _ hl
      subst this
      exact .nils false sz
    | true =>
      obtain ⟨b, o, cap, g1, g2, g3, g4, g5⟩ := hk sz es rfl
      have ho : owned ι h b := ⟨l, o, _, g1, hl, rfl⟩
      have hb2 := owned_lt hr ho
      have hb1 := hnew b ho
      generalize hx : D.list false sz es = x at hd
      cases hd with
      | bool => cases hx
      | int => cases hx
      | str => cases hx
      | nilp => cases hx
      | nilm => cases hx
      | nilf => cases hx
      | nili => cases hx
      | nils nl sz' => cases hx; exact .nils _ _
      | emp a sz' => cases hx; exact .emp _ _
      | sl b' off cap' sz' l' g hG hcap hmax hsz hc hr' =>
        cases hx
        refine .sl b' off cap' sz es g (fun hne => ?_) hcap hmax hsz hc fun i e j x he hx => scalD_move (hsc e (List.mem_of_getElem? he) x (List.mem_of_getElem? hx)) (hr' i e j x he hx)
        have hbb : b' = b := by
          rcases g5 with g5 | ⟨g5, _⟩
          · cases g5; rfl
          · exact absurd (List.eq_nil_of_length_eq_zero (hn ▸ g5)) hne
        rw [hbb]; exact ⟨hb1, hb2⟩

theorem FrS.of_arr {P : Program} {f : Nat} {vargs : List AV} {sz : Nat} {es : List (List D)} (hf : FnS P f vargs [] fun r h' => (∃ l v n rl, r = .c (.arr l v 0 n) ∧ h'[l]? = some (.da rl v sz es) ∧ n = es.length) ∨ (es = [] ∧ ∃ nl, r = .c (.d (.list nl sz []))))
    (hsc : ∀ e ∈ es, ∀ d ∈ e, scalD d = true) : FrS P f vargs (.c (.d (.list false sz es))) where
  pure := rfl
  out w vs hv := by
    refine (hf.out (below w) [] w vs (HR_nil fun b hb => hb) hv).mono fun e w' ⟨v, r, G', ι', h', he, hR, hr, hvr, hx⟩ => ?_
    have hsame : ∀ b, b < w.heap.size → w'.heap[b]? = w.heap[b]? := fun b hb => hx.frame b hb fun ⟨l, o, blk, h1, _⟩ => by simp at h1
    have hnew : ∀ b, owned ι' h' b → w.heap.size ≤ b := fun b ho => by
      rcases hx.onew b ho with ⟨l, o, blk, h1, _⟩ | h1
      · simp at h1
      · exact h1
    refine ⟨v, he, hx.quiet, hx.size, hsame, ?_⟩
    rcases hR with ⟨l, ver, n, rl, rfl, h1, h2⟩ | ⟨rfl, nl, rfl⟩
    · exact .c _ _ (.d _ _ (new_arr hr (inv_c hvr) h1 h2 hnew hsc))
    · have hd := inv_d hvr
      generalize hx : D.list nl sz [] = x at hd
      cases hd with
      | nils nl' sz' => cases hx; exact .c _ _ (.d _ _ (.nils _ _))
      | emp a sz' => cases hx; exact .c _ _ (.d _ _ (.emp _ _))
      | sl b' off cap' sz' l' g hG hcap hmax hsz hc hr' =>
        cases hx
        exact .c _ _ (.d _ _ (.sl b' off cap' sz [] g (fun h => absurd rfl h) hcap hmax (by simp) (by simp) (by simp)))
      | _ => cases hx

end Go.Ab

/-
  Chapter 21, part e: copies are new memory.
-/
namespace Go.Ab
open Go.Proofs

theorem cloneSegs_fr (P : Program) (hP : P = Try.prog) (ll : List (List D)) (hl : ll.length ≤ 1000000) (hsc : ∀ e ∈ ll, ∀ d ∈ e, scalD d = true) : FrS P n_slices_Clone_api_Segment_api_Segment [.c (.d (.list false 2 ll))] (.c (.d (.list false 2 ll))) := by
  refine FrS.of_arr (fn_heap (hP ▸ mixed) (hP ▸ fn_slices_Clone_api_Segment_api_Segment) (hP ▸ c_slices_Clone_api_Segment_api_Segment) (Nat.le_of_ble_eq_true rfl) fun Λ Λo => ?_) hsc
  clear hP hsc
  generalize hK : (fun (r : AV) (h' : Hp) => (∃ l v n rl, r = .c (.arr l v 0 n) ∧ h'[l]? = some (.da rl v 2 ll) ∧ n = ll.length) ∨ (ll = [] ∧ ∃ nl, r = .c (.d (.list nl 2 [])))) = K
  have k1 : ∀ l v n rl (es : List (List D)) h', h'[l]? = some (Blk.da rl v 2 es) → es = ll → n = ll.length → K (.c (.arr l v 0 n)) h' := by
    intro l v n rl es h' h1 h2 h3; rw [← hK]; subst h2; exact .inl ⟨l, v, n, rl, rfl, h1, h3⟩
  have k2 : ll = [] → ∀ nl h', K (.c (.d (.list nl 2 []))) h' := by
    intro h1 nl h'; rw [← hK]; exact .inr ⟨h1, nl, rfl⟩
  clear hK
  have lln := Λo ll
  conv => cbv
  repeat' first | (intro (_ : Unit); first | omega | rfl | exact ⟨rfl, by omega⟩ | (simp only [nI_eq]; omega) | ((repeat' first | rfl | omega | refine And.intro ?_ ?_ | (simp only [nI_eq]; omega) | exact Nat.le_of_ble_eq_true rfl); done)) | exact trivial | refine And.intro ?_ ?_ | (intro hc; exact absurd hc (by decide)) | (intro hc; exfalso; omega) | (intro hc; (first | rw [wrap_small (by omega) (by omega)] at hc | rw [nI_eq] at hc | skip); try (conv => cbv))
  · exact k1 0 1 _ _ _ _ rfl (by rw [hc]; simp) (by rename_i h1 _; rw [h1]; simp)
  · exact k2 (by assumption) _ _

def natCloneL : List AV → Option AV
  | [.c (.d (.list false 2 l))] => if l.length ≤ 1000000 ∧ (l.all fun e => e.all scalD) = true then some (.c (.d (.list false 2 l))) else none
  | _ => none
theorem natCloneL_ok (args : List AV) (r : AV) (h : natCloneL args = some r) : FrS Try.prog n_slices_Clone_api_Segment_api_Segment args r := by
  unfold natCloneL at h
  split at h
  · split at h
    · rename_i l hl
      cases h
      have h2 := hl.2
      simp only [List.all_eq_true] at h2
      exact cloneSegs_fr Try.prog rfl l hl.1 fun e he d hd => h2 e he d hd
    · cases h
  · cases h

end Go.Ab

/-
  Chapter 21, part f: where an arc leads.
-/
namespace Go.Ab
open Go.Proofs

theorem xor_one : ∀ a : Fin 512, IntKind.i64.wrap ((BitVec.ofInt 64 (a.val : Int) ^^^ BitVec.ofInt 64 1).toNat : Int) = if a.val % 2 = 0 then (a.val : Int) + 1 else (a.val : Int) - 1 := by
  decide +kernel

theorem ghead_ok (P : Program) (hP : P = Try.prog) (t : Top) (a : Int) (h0 : 0 ≤ a) (h1 : a < 2 * t.links.length) (h2 : (t.links.length : Int) ≤ 256) : Ret P n_graph_Head [topA t, iA a] (iA (headG t a)) := by
  have hx : IntKind.i64.wrap ((BitVec.ofInt 64 a ^^^ BitVec.ofInt 64 1).toNat : Int) = if a % 2 = 0 then a + 1 else a - 1 := by
    have := xor_one ⟨a.toNat, by omega⟩
    simp only at this
    rw [show ((a.toNat : Nat) : Int) = a by omega] at this
    rw [this]
    by_cases hm : a % 2 = 0
    · rw [if_pos (by omega), if_pos hm]
    · rw [if_neg (by omega), if_neg hm]
  generalize hb : (if a % 2 = 0 then a + 1 else a - 1 : Int) = b at hx
  have ht := gtail_ok P hP t b (by rw [← hb]; split <;> omega) (by rw [← hb]; split <;> omega) h2
  have he : tailG t b = headG t a := by
    rw [← hb]
    unfold tailG headG lkAt
    by_cases hm : a % 2 = 0
    · rw [if_pos hm, if_pos hm, if_neg (by omega), show (a + 1) / 2 = a / 2 by omega]
    · rw [if_neg hm, if_neg hm, if_pos (by omega), show (a - 1) / 2 = a / 2 by omega]
  rw [he] at ht
  refine ret_start (hP ▸ mixed) (hP ▸ fn_graph_Head) (hP ▸ c_graph_Head) (Nat.le_of_ble_eq_true rfl) fun Λ Λo K hK => ?_
  clear hP he
  generalize headG t a = hd at *
  obtain ⟨nodes, ov, links⟩ := t
  simp only [topA, boolsD, linksD] at *
  generalize hol : ov.map encB = ol at *
  generalize hll : links.map encLk = ll at *
  have hlo : Λ ol = ov.length := by rw [Λo, ← hol]; simp
  have hls : Λ ll = links.length := by rw [Λo, ← hll]; simp
  conv => cbv
  repeat' first | (intro (_ : Unit); first | omega | rfl | exact ⟨rfl, by omega⟩ | (simp only [nI_eq]; omega) | ((repeat' first | rfl | omega | refine And.intro ?_ ?_ | (simp only [nI_eq]; omega) | exact Nat.le_of_ble_eq_true rfl); done)) | exact trivial | refine And.intro ?_ ?_ | (intro hc; exact absurd hc (by decide)) | (intro hc; exfalso; omega) | (intro hc; (first | rw [wrap_small (by omega) (by omega)] at hc | rw [nI_eq] at hc | skip); try (conv => cbv))
  refine ⟨.int .i64 b, ?_, ?_⟩
  · rw [← hx]; rfl
  rintro _ rfl
  conv => cbv
  repeat' first | refine call_i ht rfl rfl ?_ | (intro (_ : Unit); first | omega | rfl | exact ⟨rfl, by omega⟩ | (simp only [nI_eq]; omega) | ((repeat' first | rfl | omega | refine And.intro ?_ ?_ | (simp only [nI_eq]; omega) | exact Nat.le_of_ble_eq_true rfl); done)) | exact trivial | refine And.intro ?_ ?_ | (intro hc; exact absurd hc (by decide)) | (intro hc; exfalso; omega) | (intro hc; (first | rw [wrap_small (by omega) (by omega)] at hc | rw [nI_eq] at hc | skip); try (conv => cbv))
  all_goals (subst hc; exact hK)

end Go.Ab

/-
  Chapter 21, part g: the expansion of a list without binding segments.
-/
namespace Go.Ab
open Go.Proofs

theorem call_fr {P : Program} {m : Nat} {d : Bool} {L : Lv} {h : Hp} {f : Nat} {xs : List X} {vargs : List AV} {K : Lv → AV → Hp → Prop} {r : AV} (hf : FrS P f vargs r) (ha : viewAs h (evsN L xs) = some vargs) (k : K L r h) : CallS P m d L h f xs K :=
  .pure (.inr ⟨vargs, ha, .inr hf⟩) k

/-- an array of the caller's own is looked at, and what comes back is new memory -/
theorem call_fra {P : Program} {m : Nat} {d : Bool} {L : Lv} {h : Hp} {f t l v i n sz : Nat} {rl : Bool} {es : List (List D)} {K : Lv → AV → Hp → Prop} {r : AV} (hL : lkN L t = .c (.arr l v i n)) (hh : h[l]? = some (.da rl v sz es))
    (hf : FrS P f [.c (.d (.list false sz ((es.drop i).take n)))] r) (k : K L r h) : CallS P m d L h f [.t t] K :=
  .pure (.inr ⟨_, by simp [evsN, evN, hL, viewAs, viewA, viewC, view, hh], .inr hf⟩) k

theorem vdel_nil {k : DV} {K0 : Prop} {K : List (DV × DV) → Prop} (h : K0) : ∀ r, mfind false 2 [(0, 0), (1, 0)] k [] 0 = r → vDel [] K0 K r := by
  intro r hr; subst hr; exact h
theorem vup_nil {k vd : DV} {K : List (DV × DV) → Prop} (h : ∀ es', K es') : ∀ r, mfind false 2 [(0, 0), (1, 0)] k [] 0 = r → vUp [] k vd K r := by
  intro r hr; subst hr; exact fun es' _ => h es'

/-- omega does not look into it -/
def Hid (p : Prop) : Prop := p
theorem Hid.out {p : Prop} (h : Hid p) : p := h

def posS (t : Top) (pos : Int) (s : Seg) : Int × Int :=
  if s.kind = 1 then (0, s.num) else if s.kind = 2 then (if pos = -1 then (7, pos) else if tailG t s.num = pos then (0, headG t s.num) else (4, pos)) else (0, -1)
def walkS (t : Top) : Int → Nat → List Seg → Int
  | _, _, [] => 0
  | pos, k, s :: r => if (posS t pos s).1 ≠ 0 then (posS t pos s).1 else if k + 1 > 32 then 6 else walkS t (posS t pos s).2 (k + 1) r

abbrev expA (x : List Seg × Int) : AV := .tup [segsA x.1, iA x.2]
def plainE (t : Top) (ps : List Pol) (node : Int) (list : List Seg) : List Seg × Int :=
  if polsB t ps = true ∧ list.all (segB t) = true then
    (if 0 ≤ node ∧ node < t.nodes then (if walkS t node 0 list = 0 then (list, 0) else ([], walkS t node 0 list)) else ([], 2))
  else ([], 1)

theorem walk_cons {t : Top} {pos : Int} {k : Nat} {s : Seg} {r : List Seg} {W : Int} (h : walkS t pos k (s :: r) = W) :
    (s.kind = 1 → k + 1 ≤ 32 → walkS t s.num (k + 1) r = W) ∧ (s.kind = 1 → ¬ k + 1 ≤ 32 → W = 6) ∧
    (s.kind = 2 → pos = -1 → W = 7) ∧ (s.kind = 2 → pos ≠ -1 → tailG t s.num ≠ pos → W = 4) ∧ (s.kind = 2 → pos ≠ -1 → tailG t s.num = pos → k + 1 ≤ 32 → walkS t (headG t s.num) (k + 1) r = W) ∧
    (s.kind = 2 → pos ≠ -1 → tailG t s.num = pos → ¬ k + 1 ≤ 32 → W = 6) ∧
    (s.kind ≠ 1 → s.kind ≠ 2 → k + 1 ≤ 32 → walkS t (-1) (k + 1) r = W) ∧ (s.kind ≠ 1 → s.kind ≠ 2 → ¬ k + 1 ≤ 32 → W = 6) := by
  simp only [walkS] at h
  refine ⟨fun h1 h2 => ?_, fun h1 h2 => ?_, fun h1 h2 => ?_, fun h1 h2 h3 => ?_, fun h1 h2 h3 h4 => ?_, fun h1 h2 h3 h4 => ?_, fun h1 h2 h3 => ?_, fun h1 h2 h3 => ?_⟩
  · simp only [posS, if_pos h1, ne_eq, not_true_eq_false, if_false] at h; rw [if_neg (by omega)] at h; exact h
  · simp only [posS, if_pos h1, ne_eq, not_true_eq_false, if_false] at h; rw [if_pos (by omega)] at h; exact h.symm
  · have h0 : ¬ s.kind = 1 := by omega
    simp only [posS, if_neg h0, if_pos h1, if_pos h2] at h; exact h.symm
  · have h0 : ¬ s.kind = 1 := by omega
    simp only [posS, if_neg h0, if_pos h1, if_neg h2, if_neg h3] at h; exact h.symm
  · have h0 : ¬ s.kind = 1 := by omega
    simp only [posS, if_neg h0, if_pos h1, if_neg h2, if_pos h3, ne_eq, not_true_eq_false, if_false] at h; rw [if_neg (by omega)] at h; exact h
  · have h0 : ¬ s.kind = 1 := by omega
    simp only [posS, if_neg h0, if_pos h1, if_neg h2, if_pos h3, ne_eq, not_true_eq_false, if_false] at h; rw [if_pos (by omega)] at h; exact h.symm
  · simp only [posS, if_neg h1, if_neg h2, ne_eq, not_true_eq_false, if_false] at h; rw [if_neg (by omega)] at h; exact h
  · simp only [posS, if_neg h1, if_neg h2, ne_eq, not_true_eq_false, if_false] at h; rw [if_pos (by omega)] at h; exact h.symm

set_option maxRecDepth 20000 in
set_option maxHeartbeats 1500000 in
theorem plainE_ok (P : Program) (hP : P = Try.prog) (t : Top) (ps : List Pol) (node : Int) (list : List Seg) (hnb : ∀ s ∈ list, s.kind ≠ 4) (hl : list.length ≤ 40) : Ret P n_policy_Expand [topA t, polsA ps, iA node, segsA list] (expA (plainE t ps node list)) := by
  have hv := pvalid_ok P hP t ps
  have hsg := fun h => segments_ok P hP t list h
  have hnode := gnode_ok P hP t node
  have htail := fun a h0 h1 h2 => gtail_ok P hP t a h0 h1 h2
  have hhead := fun a h0 h1 h2 => ghead_ok P hP t a h0 h1 h2
  have hcf := fun ll h1 h2 => cloneSegs_fr P hP ll h1 h2
  refine ret_start (hP ▸ mixed) (hP ▸ fn_policy_Expand) (hP ▸ c_policy_Expand) (Nat.le_of_ble_eq_true rfl) fun Λ Λo K hK => ?_
  have gm : P.follows .mixedOrders = true := hP ▸ mixed
  have gf := hP ▸ fn_policy_expander_step
  have gc := hP ▸ c_policy_expander_step
  have kf := hP ▸ fn_policy_expander_keep
  have kc := hP ▸ c_policy_expander_keep
  clear hP
  have k1 : ¬ (polsB t ps = true ∧ list.all (segB t) = true) → K (expA ([], 1)) := fun h => by unfold plainE at hK; rw [if_neg h] at hK; exact hK
  have k2 : polsB t ps = true → list.all (segB t) = true → ¬ (0 ≤ node ∧ node < t.nodes) → K (expA ([], 2)) := fun h1 h2 h => by unfold plainE at hK; rw [if_pos ⟨h1, h2⟩, if_neg h] at hK; exact hK
  have k3 : polsB t ps = true → list.all (segB t) = true → (0 ≤ node ∧ node < t.nodes) → walkS t node 0 list = 0 → K (expA (list, 0)) := fun h1 h2 h h4 => by unfold plainE at hK; rw [if_pos ⟨h1, h2⟩, if_pos h, if_pos h4] at hK; exact hK
  have k4 : polsB t ps = true → list.all (segB t) = true → (0 ≤ node ∧ node < t.nodes) → walkS t node 0 list ≠ 0 → K (expA ([], walkS t node 0 list)) := fun h1 h2 h h4 => by unfold plainE at hK; rw [if_pos ⟨h1, h2⟩, if_pos h, if_neg h4] at hK; exact hK
  clear hK
  have hv1 : polsB t ps = true → (t.links.length : Int) ≤ 256 := fun h => (validT_spec.1 (polsB_spec.1 h).1).2.2.1
  have hsb : list.all (segB t) = true → ∀ s ∈ list, segB t s = true := fun h => List.all_eq_true.1 h
  generalize polsB t ps = pb at *
  generalize list.all (segB t) = la at *
  generalize hdn : decide (0 ≤ node ∧ node < t.nodes) = dn at *
  have hdn' : dn = true ↔ 0 ≤ node ∧ node < t.nodes := by rw [← hdn]; simp
  have hw0 : ∃ W, walkS t node 0 list = W := ⟨_, rfl⟩
  obtain ⟨W, hw0⟩ := hw0
  rw [hw0] at k3 k4
  have hwc := fun pos k s r h => @walk_cons t pos k s r W h
  have hseg := fun s => @segB_spec t s
  simp only [expA, polsA, polsD, segsA, segsD, List.map_nil] at *
  generalize plh : List.map encPol ps = pl at *
  have pln : Λ pl = ps.length := by rw [Λo, ← plh]; simp
  generalize slh : List.map encSeg list = sl at *
  cases pb with
  | false =>
    obtain ⟨nodes, ov, links⟩ := t
    simp only [topA, boolsD, linksD] at *
    generalize hol : ov.map encB = ol at *
    generalize hll : links.map encLk = ll at *
    have hlo : Λ ol = ov.length := by rw [Λo, ← hol]; simp
    have hls : Λ ll = links.length := by rw [Λo, ← hll]; simp
    conv => cbv
    repeat' first | refine call_b hv rfl rfl ?_ ?_ | (intro hc; cases hc; done) | (intro (_ : Unit); first | omega | rfl | exact ⟨rfl, by omega⟩ | (simp only [nI_eq]; omega) | ((repeat' first | rfl | omega | refine And.intro ?_ ?_ | (simp only [nI_eq]; omega) | exact Nat.le_of_ble_eq_true rfl); done)) | exact trivial | refine And.intro ?_ ?_ | (intro hc; exact absurd hc (by decide)) | (intro hc; exfalso; omega) | (intro hc; (first | rw [wrap_small (by omega) (by omega)] at hc | rw [nI_eq] at hc | skip); try (conv => cbv))
    exact k1 (by simp)
  | true =>
  have hv1 := hv1 rfl
  have hsg := hsg hv1
  cases la with
  | false =>
    obtain ⟨nodes, ov, links⟩ := t
    simp only [topA, boolsD, linksD] at *
    generalize hol : ov.map encB = ol at *
    generalize hll : links.map encLk = ll at *
    have hlo : Λ ol = ov.length := by rw [Λo, ← hol]; simp
    have hls : Λ ll = links.length := by rw [Λo, ← hll]; simp
    conv => cbv
    repeat' first | refine call_b hv rfl rfl ?_ ?_ | refine call_b hsg rfl rfl ?_ ?_ | (intro hc; cases hc; done) | (intro (_ : Unit); first | omega | rfl | exact ⟨rfl, by omega⟩ | (simp only [nI_eq]; omega) | ((repeat' first | rfl | omega | refine And.intro ?_ ?_ | (simp only [nI_eq]; omega) | exact Nat.le_of_ble_eq_true rfl); done)) | exact trivial | refine And.intro ?_ ?_ | (intro hc; exact absurd hc (by decide)) | (intro hc; exfalso; omega) | (intro hc; (first | rw [wrap_small (by omega) (by omega)] at hc | rw [nI_eq] at hc | skip); try (conv => cbv))
    exact k1 (by simp)
  | true =>
  cases dn with
  | false =>
    have k2x := k2 rfl rfl (fun h => by have := hdn'.2 h; cases this)
    obtain ⟨nodes, ov, links⟩ := t
    simp only [topA, boolsD, linksD] at *
    generalize hol : ov.map encB = ol at *
    generalize hll : links.map encLk = ll at *
    have hlo : Λ ol = ov.length := by rw [Λo, ← hol]; simp
    have hls : Λ ll = links.length := by rw [Λo, ← hll]; simp
    conv => cbv
    repeat' first | refine call_b hv rfl rfl ?_ ?_ | refine call_b hsg rfl rfl ?_ ?_ | refine call_b hnode rfl rfl ?_ ?_ | (intro hc; cases hc; done) | (intro (_ : Unit); first | omega | rfl | exact ⟨rfl, by omega⟩ | (simp only [nI_eq]; omega) | ((repeat' first | rfl | omega | refine And.intro ?_ ?_ | (simp only [nI_eq]; omega) | exact Nat.le_of_ble_eq_true rfl); done)) | exact trivial | refine And.intro ?_ ?_ | (intro hc; exact absurd hc (by decide)) | (intro hc; exfalso; omega) | (intro hc; (first | rw [wrap_small (by omega) (by omega)] at hc | rw [nI_eq] at hc | skip); try (conv => cbv))
    exact k2x
  | true =>
  have hin := hdn'.1 rfl
  have k3x := k3 rfl rfl hin
  have k4x := k4 rfl rfl hin
  have hsbx := hsb rfl
  clear k1 k2 k3 k4 hsb hdn hdn'
  have htailx := fun a h0 h1 => htail a h0 h1 hv1
  have hheadx := fun a h0 h1 => hhead a h0 h1 hv1
  clear htail hhead
  have hws : ∀ pos k, walkS t pos k [] = 0 := fun _ _ => rfl
  generalize walkS t = ws at *
  generalize tailG t = tg at *
  generalize headG t = hg at *
  generalize segB t = sb at *
  obtain ⟨nodes, ov, links⟩ := t
  simp only [topA, boolsD, linksD] at *
  generalize hol : ov.map encB = ol at *
  generalize hll : links.map encLk = ll at *
  have hlo : Λ ol = ov.length := by rw [Λo, ← hol]; simp
  have hls : Λ ll = links.length := by rw [Λo, ← hll]; simp
  conv => cbv
  repeat' first | refine call_b hv rfl rfl ?_ ?_ | refine call_b hsg rfl rfl ?_ ?_ | refine call_b hnode rfl rfl ?_ ?_ | (intro hc; cases hc; done) | (intro (_ : Unit); first | omega | rfl | exact ⟨rfl, by omega⟩ | (simp only [nI_eq]; omega) | ((repeat' first | rfl | omega | refine And.intro ?_ ?_ | (simp only [nI_eq]; omega) | exact Nat.le_of_ble_eq_true rfl); done)) | exact trivial | refine And.intro ?_ ?_ | (intro hc; exact absurd hc (by decide)) | (intro hc; exfalso; omega) | (intro hc; (first | rw [wrap_small (by omega) (by omega)] at hc | rw [nI_eq] at hc | skip); try (conv => cbv))
  refine loop_upx ps.length (fun (s : Int × Nat × List (DV × DV)) => [(3, .c (.d (.list false 2 sl))), (10, .c (.ptr 4 0 0 0)), (35, .c (.d (.list false 3 pl))), (36, iA (Λ pl)), (37, iA s.1)])
    (fun s => [.bx [.d (iD nodes), .d (.list false 1 ol), .d (.list false 7 ll)], .mp s.2.1 s.2.2, .mp 0 [], .mp 0 [], .bx [.d (iD nodes), .d (.list false 1 ol), .d (.list false 7 ll), .mp 1, .mp 2, .mp 3, .d (.list true 4 []), .d (.list true 2 []), .d (iD node)]])
    (fun k s => s.1 = k ∧ k ≤ ps.length ∧ ∃ m : Asc, m.map encE = s.2.2) (0, 0, [])
    0 (fun (s : Nat × List (DV × DV)) => [(3, .c (.d (.list false 2 sl))), (10, .c (.ptr 4 0 0 0))])
    (fun s => [.bx [.d (iD nodes), .d (.list false 1 ol), .d (.list false 7 ll)], .mp s.1 s.2, .mp 0 [], .mp 0 [], .bx [.d (iD nodes), .d (.list false 1 ol), .d (.list false 7 ll), .mp 1, .mp 2, .mp 3, .d (.list true 4 []), .d (.list true 2 []), .d (iD node)]]) (fun _ => True)
    (Wk.cut ⟨_, rfl⟩ (Nat.zero_le _) rfl (by repeat' first | exact trivial | refine And.intro ?_ ?_ | rfl)) ⟨rfl, by omega, [], rfl⟩ (fun k s h => h.2.1) ?_ ?_
  · rintro k ⟨i, ve, ml⟩ Q' ⟨hi, hk, m, mlh⟩ norm jn ex rt
    simp only at hi mlh
    by_cases hlt : k < ps.length
    · obtain ⟨x, hx⟩ : ∃ x, ps[k]? = some x := ⟨_, List.getElem?_eq_getElem hlt⟩
      have hxa := elt_at plh hi hx
      obtain ⟨xn, xb, xl⟩ := x
      simp only [encPol, segsD] at hxa
      generalize List.map encSeg xl = xsl at *
      conv => cbv
      repeat' first | (refine ex _ _ _ ?_; (conv => cbv)) | (intro e he; cases Option.some.inj (he.symm.trans hxa); (conv => cbv)) | refine vup_pairs mlh ?_ ?_ | (intro (_ : Unit); first | omega | rfl | exact ⟨rfl, by omega⟩ | (simp only [nI_eq]; omega) | ((repeat' first | rfl | omega | refine And.intro ?_ ?_ | (simp only [nI_eq]; omega) | exact Nat.le_of_ble_eq_true rfl); done)) | exact trivial | refine And.intro ?_ ?_ | (intro hc; exact absurd hc (by decide)) | (intro hc; exfalso; omega) | (intro hc; (first | rw [wrap_small (by omega) (by omega)] at hc | rw [nI_eq] at hc | skip); try (conv => cbv))
      all_goals (rename_i es' hes i'; refine norm _ _ (_, _, es') ?_ (Wk.cut ⟨_, rfl⟩ (Nat.zero_le _) rfl (by repeat' first | exact trivial | refine And.intro ?_ ?_ | rfl)); exact ⟨by simp only; omega, by omega, _, hes⟩)
    · conv => cbv
      repeat' first | (intro (_ : Unit); first | omega | rfl | exact ⟨rfl, by omega⟩ | (simp only [nI_eq]; omega) | ((repeat' first | rfl | omega | refine And.intro ?_ ?_ | (simp only [nI_eq]; omega) | exact Nat.le_of_ble_eq_true rfl); done)) | exact trivial | refine And.intro ?_ ?_ | (intro hc; exact absurd hc (by decide)) | (intro hc; exfalso; omega) | (intro hc; (first | rw [wrap_small (by omega) (by omega)] at hc | rw [nI_eq] at hc | skip); try (conv => cbv))
      exact jn _ _ (_, _) trivial (Wk.cut ⟨_, rfl⟩ (Nat.zero_le _) rfl (by repeat' first | exact trivial | refine And.intro ?_ ?_ | rfl))
  rintro ⟨ve, ml⟩ -
  have hw00 : ∀ pos k, ws pos k [] = W → W = 0 := fun pos k h => by rw [← h, hws]
  conv => cbv
  repeat' first | (intro (_ : Unit); first | omega | rfl | exact ⟨rfl, by omega⟩ | (simp only [nI_eq]; omega) | ((repeat' first | rfl | omega | refine And.intro ?_ ?_ | (simp only [nI_eq]; omega) | exact Nat.le_of_ble_eq_true rfl); done)) | exact trivial | refine And.intro ?_ ?_ | (intro hc; exact absurd hc (by decide)) | (intro hc; exfalso; omega) | (intro hc; (first | rw [wrap_small (by omega) (by omega)] at hc | rw [nI_eq] at hc | skip); try (conv => cbv))
  refine loop_up (list.length + 1) (fun (s : List Seg × Int × Nat × Nat × Bool × List (List D) × Nat × Nat × List (DV × DV)) => [(10, .c (.ptr 4 0 0 0))])
    (fun s => [.bx [.d (iD nodes), .d (.list false 1 ol), .d (.list false 7 ll)], .mp ve ml, .mp 0 [], .mp s.2.2.2.2.2.2.2.1 s.2.2.2.2.2.2.2.2, .bx [.d (iD nodes), .d (.list false 1 ol), .d (.list false 7 ll), .mp 1, .mp 2, .mp 3, .arr 5 0 0 s.2.2.2.2.2.2.1, .arr 6 s.2.2.1 0 s.2.2.2.1, .d (iD s.2.1)],
      .da true 0 4 [[.list false 2 (s.1.map encSeg), iD 0, iD 0, iD 0]], .da s.2.2.2.2.1 s.2.2.1 2 s.2.2.2.2.2.1])
    (fun k s => s.2.2.2.1 = s.2.2.2.2.2.1.length ∧ ((s.2.2.2.2.2.2.1 = 1 ∧ k ≤ list.length ∧ s.1 = list.drop k ∧ s.2.2.2.2.2.1 = (list.take k).map encSeg ∧ ws s.2.1 k s.1 = W ∧ s.2.2.2.2.2.2.2 = (0, [])) ∨
      (s.2.2.2.2.2.2.1 = 0 ∧ k = list.length + 1 ∧ s.2.2.2.2.2.1 = sl ∧ W = 0)))
    (list, node, 0, 0, false, [], 1, 0, []) (by rw [slh]; exact .trans (.nilB 4 7 2 _ rfl rfl) (Wk.cut ⟨_, rfl⟩ (Nat.zero_le _) rfl (by repeat' first | exact trivial | refine And.intro ?_ ?_ | rfl))) ⟨rfl, .inl ⟨rfl, by omega, rfl, rfl, hw0, rfl⟩⟩ (fun k s h => by rcases h.2 with h | h <;> omega) ?_
  rintro k ⟨rest, pos, kv, km, kr, kes, fl, dv, des⟩ Q' ⟨hkm, hph⟩ norm ex rt
  simp only at hkm hph
  rcases hph with ⟨hfl, hkl, hrest, hkes, hws1, hdd⟩ | ⟨hfl, hkl, hkes, hW0⟩
  · obtain ⟨rfl, rfl⟩ := Prod.mk.inj hdd
    subst hfl
    have hkesl : kes.length = k := by rw [hkes, List.length_map, List.length_take]; omega
    have hscal : ∀ e ∈ kes, ∀ d ∈ e, scalD d = true := by
      intro e he d hd
      rw [hkes] at he
      obtain ⟨s, _, rfl⟩ := List.mem_map.1 he
      simp only [encSeg, List.mem_cons, List.not_mem_nil, or_false] at hd
      rcases hd with rfl | rfl <;> rfl
    cases rest with
    | nil =>
      have hWz := hw00 _ _ hws1
      have hkl2 : k = list.length := by have := congrArg List.length hrest; simp only [List.length_nil, List.length_drop] at this; omega
      have hke2 : kes = sl := by rw [hkes, hkl2, List.take_length, slh]
      simp only [List.map_nil]
      conv => cbv
      repeat' first | (intro (_ : Unit); simp only [List.length_cons, List.length_nil]; omega) | (intro (j : Nat) hj; refine (fun (hz : j = 0) => ?_) ?_; rotate_left; omega; subst hz; (conv => cbv)) | (intro (e : List D) he; obtain rfl := Option.some.inj he; (conv => cbv)) | (refine ex _ _ _ ?_; (conv => cbv)) | (refine call_in gm gf gc (Nat.le_of_ble_eq_true rfl) fun Λ1 Λ1o => ?_; have r1 := Λ1o []; simp only [List.length_nil] at r1; conv => cbv) | (refine call_fra rfl rfl (hcf _ ?_ ?_) ?_; rotate_left; rotate_left; (conv => cbv)) | (refine vup_nil ?_; intro es'; (conv => cbv)) | (refine vdel_nil ?_; (conv => cbv)) | (intro (_ : Unit); first | omega | rfl | exact ⟨rfl, by omega⟩ | (simp only [nI_eq]; omega) | ((repeat' first | rfl | omega | refine And.intro ?_ ?_ | (simp only [nI_eq]; omega) | exact Nat.le_of_ble_eq_true rfl); done)) | exact trivial | refine And.intro ?_ ?_ | (intro hc; exact absurd hc (by decide)) | (intro hc; exfalso; omega) | (intro hc; (first | rw [wrap_small (by omega) (by omega)] at hc | rw [nI_eq] at hc | skip); try (conv => cbv))
      all_goals first
        | (simp only [List.length_take, List.length_drop]; omega)
        | exact hscal _ (List.mem_of_mem_drop (List.mem_of_mem_take (by assumption))) _ (by assumption)
        | (refine norm _ _ ([], _, _, _, _, _, _, _, _) ?_ (Wk.cut ⟨_, rfl⟩ (Nat.zero_le _) rfl (by repeat' first | exact trivial | refine And.intro ?_ ?_ | rfl)); exact ⟨hkm, .inr ⟨rfl, by omega, hke2, hWz⟩⟩)
    | cons s0 rs =>
      have hs0 : list[k]? = some s0 := by
        have : (list.drop k)[0]? = some s0 := by rw [← hrest]; rfl
        rw [List.getElem?_drop] at this; simpa using this
      have hs0m := List.mem_of_getElem? hs0
      have hrs : rs = list.drop (k + 1) := by
        have : (list.drop k).drop 1 = rs := by rw [← hrest]; rfl
        rw [← this, List.drop_drop]
      have hklt := get_lt hs0
      have hsv := (hseg s0).1 (hsbx s0 hs0m)
      have hn4 := hnb s0 hs0m
      have cc := hwc pos k s0 rs hws1
      have hkes2 : kes ++ [encSeg s0] = (list.take (k + 1)).map encSeg := by rw [take_succ_get hs0, List.map_append, hkes]; rfl
      have kerr : ∀ e : Int, W = e → e ≠ 0 → K (.tup [.c (.d (.list false 2 [])), iA e]) := fun e h h' => by subst h; exact k4x h'
      have nx : ∀ (L' : Lv) (h' : Hp) (p2 : Int) (kv2 : Nat) (kr2 : Bool) (ke2 : List (List D)), k + 1 ≤ list.length → ws p2 (k + 1) rs = W → ke2 = kes ++ [encSeg s0] →
          Wk 0 L' h' [(10, .c (.ptr 4 0 0 0))] [.bx [.d (iD nodes), .d (.list false 1 ol), .d (.list false 7 ll)], .mp ve ml, .mp 0 [], .mp 0 [], .bx [.d (iD nodes), .d (.list false 1 ol), .d (.list false 7 ll), .mp 1, .mp 2, .mp 3, .arr 5 0 0 1, .arr 6 kv2 0 (k + 1), .d (iD p2)],
            .da true 0 4 [[.list false 2 (rs.map encSeg), iD 0, iD 0, iD 0]], .da kr2 kv2 2 ke2] → Q' .normal L' h' := fun L' h' p2 kv2 kr2 ke2 h1 h2 h3 hw =>
        norm L' h' (rs, p2, kv2, k + 1, kr2, ke2, 1, 0, []) ⟨by simp only; rw [h3]; simp [hkesl], .inl ⟨rfl, h1, hrs, by rw [h3]; exact hkes2, h2, rfl⟩⟩ hw
      clear norm hwc hws1 k4x
      have hkm2 : km = k := by omega
      subst hkm2
      obtain ⟨sk, sn⟩ := s0
      simp only at hsv hn4 cc
      replace cc : Hid _ := cc
      have htx := htailx sn
      have hhx := hheadx sn
      generalize hrlh : List.map encSeg (⟨sk, sn⟩ :: rs) = rl at *
      have rl0 : rl[(0 : Int).toNat]? = some [iD sk, iD sn] := by rw [← hrlh]; rfl
      have rl1 : List.drop 1 rl = rs.map encSeg := by rw [← hrlh]; rfl
      have rlL : rl.length = rs.length + 1 := by rw [← hrlh]; simp
      simp only [encSeg] at nx hkes2
      generalize List.map encSeg rs = rsl at *
      have hcap : ∀ n : Nat, n = 1 → (km + n) * 16 ≤ 140737488355328 := fun n h => by subst h; omega
      have htk : List.take km (List.drop 0 kes) = kes := by rw [List.drop_zero]; exact List.take_of_length_le (by omega)
      conv => cbv
      repeat' first | (refine call_in gm gf gc (Nat.le_of_ble_eq_true rfl) fun Λ1 Λ1o => ?_; have r1 := Λ1o rl; rw [rlL] at r1; (conv => cbv)) | (refine call_in gm kf kc (Nat.le_of_ble_eq_true rfl) fun Λ2 Λ2o => ?_; conv => cbv) | (intro (j : Nat) hj; refine (fun (hz : j = 0) => ?_) ?_; rotate_left; omega; subst hz; (conv => cbv)) | (intro (_ : Unit); exact Nat.le_refl 1) | (intro (_ : Unit); exact hcap _ rfl) | (intro (_ : Unit); exact ⟨rfl, hcap _ rfl⟩) | (intro (_ : Unit); exact ⟨rfl, rfl, hcap _ rfl⟩) | (intro (_ : Unit); exact ⟨rfl, Nat.le_refl 1⟩) | (intro (_ : Unit); exact ⟨rfl, Nat.le_refl 1, Nat.le_of_ble_eq_true rfl⟩) | (intro (e : List D) he; obtain rfl := Option.some.inj he; (conv => cbv)) | (intro (e : List D) he; cases Option.some.inj (he.symm.trans rl0); (conv => cbv)) | (intro (x : List (List D)) hx; have e := hx.trans rl1; subst e; (conv => cbv)) | (intro (x : List (List D)) hx; subst hx; (conv => cbv)) | refine call_i (htx (by omega) (by omega)) rfl rfl ?_ | refine call_i (hhx (by omega) (by omega)) rfl rfl ?_ | (refine rt _ _ ?_; (conv => cbv)) | (intro (_ : Unit); first | omega | rfl | exact ⟨rfl, by omega⟩ | (simp only [nI_eq]; omega) | ((repeat' first | rfl | omega | refine And.intro ?_ ?_ | (simp only [nI_eq]; omega) | exact Nat.le_of_ble_eq_true rfl); done)) | exact trivial | refine And.intro ?_ ?_ | (intro hc; exact absurd hc (by decide)) | (intro hc; exfalso; omega) | (intro hc; (first | rw [wrap_small (by omega) (by omega)] at hc | rw [nI_eq] at hc | skip); try (conv => cbv))
      all_goals first
        | (refine kerr 7 (cc.out.2.2.1 ?_ ?_) (by decide) <;> omega)
        | (refine kerr 4 (cc.out.2.2.2.1 ?_ ?_ ?_) (by decide) <;> omega)
        | (refine kerr 6 (cc.out.2.1 ?_ ?_) (by decide) <;> omega)
        | (refine kerr 6 (cc.out.2.2.2.2.2.1 ?_ ?_ ?_ ?_) (by decide) <;> omega)
        | (refine kerr 6 (cc.out.2.2.2.2.2.2.2 ?_ ?_ ?_) (by decide) <;> omega)
        | (rename_i hx; rw [htk] at hx; refine nx _ _ _ _ _ _ ?_ (cc.out.1 ?_ ?_) hx (Wk.cut ⟨_, rfl⟩ (Nat.zero_le _) rfl (by repeat' first | exact trivial | refine And.intro ?_ ?_ | rfl)) <;> omega)
        | (rename_i hx; rw [htk] at hx; refine nx _ _ _ _ _ _ ?_ (cc.out.2.2.2.2.2.2.1 ?_ ?_ ?_) hx (Wk.cut ⟨_, rfl⟩ (Nat.zero_le _) rfl (by repeat' first | exact trivial | refine And.intro ?_ ?_ | rfl)) <;> omega)
        | (rename_i hx; rw [htk] at hx; refine nx _ _ _ _ _ _ ?_ (Eq.trans (congrArg (fun p => ws p (km + 1) rs) ?_) (cc.out.2.2.2.2.1 ?_ ?_ ?_ ?_)) hx (Wk.cut ⟨_, rfl⟩ (Nat.zero_le _) rfl (by repeat' first | exact trivial | refine And.intro ?_ ?_ | rfl)) <;> omega)
  · subst hfl hkes
    conv => cbv
    repeat' first | (refine ex _ _ _ ?_; (conv => cbv)) | (intro (_ : Unit); first | omega | rfl | exact ⟨rfl, by omega⟩ | (simp only [nI_eq]; omega) | ((repeat' first | rfl | omega | refine And.intro ?_ ?_ | (simp only [nI_eq]; omega) | exact Nat.le_of_ble_eq_true rfl); done)) | exact trivial | refine And.intro ?_ ?_ | (intro hc; exact absurd hc (by decide)) | (intro hc; exfalso; omega) | (intro hc; (first | rw [wrap_small (by omega) (by omega)] at hc | rw [nI_eq] at hc | skip); try (conv => cbv))
    all_goals try (exfalso; omega)
    have e : _ = kes := hc.trans (by rw [List.drop_zero, hkm, List.take_length])
    rw [e]
    exact k3x hW0

end Go.Ab

