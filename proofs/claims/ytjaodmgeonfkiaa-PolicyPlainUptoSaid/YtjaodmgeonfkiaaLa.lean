/-
  Contracts, part a: what a contract says; the data of the program and how they are laid.
-/
import Derived.Test.YtjaodmgeonfkiaaF
namespace Go.Ab
open Go.Proofs

abbrev iA (n : Int) : AV := .c (.d (.int .i64 n))
abbrev bA (b : Bool) : AV := .c (.d (.bool b))

/-- a plain answer -/
def Ret (P : Program) (f : Nat) (args : List AV) (r : AV) : Prop := FnS P f args [] fun r' _ => pureA r' = true ∧ r' = r

theorem ret_start {P : Program} {f : Nat} {fn : Func} {af : AF} {args : List AV} {r : AV} (hm : P.follows .mixedOrders = true) (hf : P.funcs[f]? = some fn) (hc : compF P fn = some af) (hl : args.length ≤ af.nt)
    (hv : ∀ (Λ : Len), (∀ l, Λ l = (l.length : Int)) → ∀ (K : AV → Prop), K r → vcF P Λ af args K) : Ret P f args r :=
  fn_pure (K := fun r' => r' = r) hm hf hc hl fun Λ h => hv Λ h _ rfl

theorem wrap64 (x : Int) : IntKind.i64.wrap x = (x + 9223372036854775808) % 18446744073709551616 - 9223372036854775808 := by
  simp only [IntKind.wrap, IntKind.bits, IntKind.signed, Bool.true_and, decide_eq_true_eq, Nat.reduceSub, ge_iff_le]
  have e1 : (2 : Int) ^ 64 = 18446744073709551616 := by decide
  have e2 : (2 : Int) ^ 63 = 9223372036854775808 := by decide
  rw [e1, e2]
  split <;> omega

theorem wrap_small {x : Int} (h : -9223372036854775808 ≤ x) (h' : x < 9223372036854775808) : IntKind.i64.wrap x = x := by
  rw [wrap64]; omega

/-- a call that answers a bool -/
theorem call_b {P : Program} {m : Nat} {d : Bool} {L : Lv} {h : Hp} {f : Nat} {xs : List X} {args' : List AV} {K : Lv → AV → Hp → Prop} {b : Bool} (hf : Ret P f args' (bA b)) (ha : (evsN L xs).map fgA = args') (hp : args'.all pureA = true)
    (k1 : b = true → K L (bA true) h) (k2 : b = false → K L (bA false) h) : CallS P m d L h f xs K := by
  refine CallS.pure (r := bA b) (Or.inl ⟨args', .inl ha.symm, hp, hf⟩) ?_
  cases b
  · exact k2 rfl
  · exact k1 rfl

theorem call_i {P : Program} {m : Nat} {d : Bool} {L : Lv} {h : Hp} {f : Nat} {xs : List X} {args' : List AV} {K : Lv → AV → Hp → Prop} {n : Int} (hf : Ret P f args' (iA n)) (ha : (evsN L xs).map fgA = args') (hp : args'.all pureA = true)
    (k : ∀ c, c = n → K L (iA c) h) : CallS P m d L h f xs K :=
  CallS.pure (r := iA n) (Or.inl ⟨args', .inl ha.symm, hp, hf⟩) (k n rfl)

theorem call_r {P : Program} {m : Nat} {d : Bool} {L : Lv} {h : Hp} {f : Nat} {xs : List X} {args' : List AV} {K : Lv → AV → Hp → Prop} {r : AV} (hf : Ret P f args' r) (ha : (evsN L xs).map fgA = args') (hp : args'.all pureA = true)
    (k : K L r h) : CallS P m d L h f xs K :=
  CallS.pure (r := r) (Or.inl ⟨args', .inl ha.symm, hp, hf⟩) k

/-- arguments that are arrays of the caller's own are looked at -/
theorem look_b {P : Program} {m : Nat} {d : Bool} {L : Lv} {h : Hp} {f : Nat} {xs : List X} {vargs : List AV} {K : Lv → AV → Hp → Prop} {b : Bool} (hf : Ret P f vargs (bA b)) (ha : viewAs h (evsN L xs) = some vargs)
    (k1 : b = true → K L (bA true) h) (k2 : b = false → K L (bA false) h) : CallS P m d L h f xs K := by
  refine CallS.pure (r := bA b) (Or.inr ⟨vargs, ha, .inl (hf.mono fun r _ ⟨_, e⟩ => ⟨by rw [e]; rfl, e⟩)⟩) ?_
  cases b
  · exact k2 rfl
  · exact k1 rfl

theorem look_i {P : Program} {m : Nat} {d : Bool} {L : Lv} {h : Hp} {f : Nat} {xs : List X} {vargs : List AV} {K : Lv → AV → Hp → Prop} {n : Int} (hf : Ret P f vargs (iA n)) (ha : viewAs h (evsN L xs) = some vargs)
    (k : ∀ c, c = n → K L (iA c) h) : CallS P m d L h f xs K :=
  CallS.pure (r := iA n) (Or.inr ⟨vargs, ha, .inl (hf.mono fun r _ ⟨_, e⟩ => ⟨by rw [e]; rfl, e⟩)⟩) (k n rfl)

theorem call_z {P : Program} {m : Nat} {L : Lv} {h : Hp} {f : Nat} {xs : List X} {K : Lv → AV → Hp → Prop} (l v sz k : Nat) {r : Bool} {es : List (List D)} (hl : h[l]? = some (.da r v sz es)) (hk : k = es.length) (h1 : okL l v k L) (h2 : okH l v k h)
    (hc : CallS P m false (zL l v sz es L) (zH l v sz es 0 h) f xs K) : CallS P m false L h f xs K :=
  .wk (.fz l v sz r es hl (fun i => .inr (by rw [← lkN_eq, ← lkN_eq, lkN_z]; exact zA_ok hk (okL_get h1 i))) (zH_ok hk h2)) hc

structure Lk where
  (a b c0 c1 cap dl gr : Int)
structure Top where
  (nodes : Int) (ov : List Bool) (links : List Lk)
structure Seg where
  (kind num : Int)
  deriving DecidableEq
structure Ety where
  (arcs : List Int) (rep : Bool) (push : List Seg)
structure Tab where
  (node : Int) (to : List Ety) (down : List Int)
structure Pkt where
  (id src dst flow : Int) (stack : List Seg) (hops : Int)
instance : Inhabited Lk := ⟨⟨0, 0, 0, 0, 0, 0, 0⟩⟩
instance : Inhabited Seg := ⟨⟨0, 0⟩⟩
instance : Inhabited Ety := ⟨⟨[], false, []⟩⟩

abbrev iD (n : Int) : D := .int .i64 n
def encB (b : Bool) : List D := [.bool b]
def encI (n : Int) : List D := [.int .i64 n]
def encLk (l : Lk) : List D := [iD l.a, iD l.b, iD l.c0, iD l.c1, iD l.cap, iD l.dl, iD l.gr]
def encSeg (s : Seg) : List D := [iD s.kind, iD s.num]
abbrev intsD (l : List Int) : D := .list false 1 (l.map encI)
abbrev boolsD (l : List Bool) : D := .list false 1 (l.map encB)
abbrev segsD (l : List Seg) : D := .list false 2 (l.map encSeg)
abbrev linksD (l : List Lk) : D := .list false 7 (l.map encLk)
def encEnt (e : Ety) : List D := [intsD e.arcs, .bool e.rep, segsD e.push]
abbrev entsD (l : List Ety) : D := .list false 3 (l.map encEnt)
def topA (t : Top) : AV := .agg [.d (iD t.nodes), .d (boolsD t.ov), .d (linksD t.links)]
def segA (s : Seg) : AV := .agg [.d (iD s.kind), .d (iD s.num)]
def entA (e : Ety) : AV := .agg [.d (intsD e.arcs), .d (.bool e.rep), .d (segsD e.push)]
def tabA (x : Tab) : AV := .agg [.d (iD x.node), .d (entsD x.to), .d (intsD x.down)]
def pktA (p : Pkt) : AV := .agg [.d (iD p.id), .d (iD p.src), .d (iD p.dst), .d (iD p.flow), .d (segsD p.stack), .d (iD p.hops)]
abbrev intsA (l : List Int) : AV := .c (.d (intsD l))
abbrev segsA (l : List Seg) : AV := .c (.d (segsD l))

theorem map_get {α β : Type} {f : α → β} {l : List α} {i : Nat} {y : β} (h : (l.map f)[i]? = some y) : ∃ x, l[i]? = some x ∧ y = f x := by
  simp only [List.getElem?_map, Option.map_eq_some_iff] at h
  obtain ⟨x, h1, h2⟩ := h
  exact ⟨x, h1, h2.symm⟩

theorem map_get' {α β : Type} {f : α → β} {l : List α} {ll : List β} {i : Nat} {y : β} (hl : l.map f = ll) (h : ll[i]? = some y) : ∃ x, l[i]? = some x ∧ y = f x := by
  subst hl; exact map_get h

theorem get_at {α : Type} {l : List α} {i j : Nat} {x : α} (h : l[i]? = some x) (e : i = j) : l[j]? = some x := e ▸ h

theorem elt_at {α β : Type} {f : α → β} {l : List α} {ll : List β} (hl : l.map f = ll) {k : Nat} {i : Int} (hi : i = k) {x : α} (h : l[k]? = some x) : ll[i.toNat]? = some (f x) := by
  subst hi hl; simp [h]

theorem take_succ_get {α : Type} {l : List α} {k : Nat} {x : α} (h : l[k]? = some x) : l.take (k + 1) = l.take k ++ [x] := by
  rw [List.take_add_one, h]; rfl

/-- a loop that is gone through at most N times: what the slots and the heap are at the head of each round -/
theorem loop_up {m : Nat} {body : Lv → Hp → Post → Prop} {L : Lv} {h : Hp} {Q : Post} {σ : Type} (N : Nat) (S : σ → Lv) (H : σ → Hp) (Inv : Nat → σ → Prop) (s0 : σ) (wk : Wk m L h (S s0) (H s0)) (h0 : Inv 0 s0)
    (hle : ∀ k s, Inv k s → k ≤ N)
    (round : ∀ k s (Q' : Post), Inv k s → (∀ L' h' s', Inv (k + 1) s' → Wk m L' h' (S s') (H s') → Q' .normal L' h') → (∀ i L' h', Q (.exit i) L' h' → Q' (.exit i) L' h') → (∀ L' h', Q .ret L' h' → Q' .ret L' h') → body (S s) (H s) Q') :
    LoopI m body L h Q := by
  refine LoopI.mk (fun n L h => ∃ k s, Inv k s ∧ n = N - k ∧ L = S s ∧ h = H s) N (S s0) (H s0) wk ⟨0, s0, h0, rfl, rfl, rfl⟩ ?_
  rintro n L h ⟨k, s, hi, rfl, rfl, rfl⟩
  refine round k s _ hi (fun L' h' s' hi' hw => ?_) (fun i L' h' hq => ⟨L', h', .same rfl fun _ => .inr rfl, hq⟩) fun L' h' hq => hq
  have h1 := hle _ _ hi
  have h2 := hle _ _ hi'
  exact ⟨N - (k + 1), _, _, by omega, hw, k + 1, s', hi', rfl, rfl, rfl⟩

/-- the same, where what comes behind the loop is shown once -/
theorem loop_upx {m : Nat} {body : Lv → Hp → Post → Prop} {L : Lv} {h : Hp} {Q : Post} {σ τ : Type} (N : Nat) (S : σ → Lv) (H : σ → Hp) (Inv : Nat → σ → Prop) (s0 : σ) (i0 : Nat) (S' : τ → Lv) (H' : τ → Hp) (E : τ → Prop) (wk : Wk m L h (S s0) (H s0)) (h0 : Inv 0 s0)
    (hle : ∀ k s, Inv k s → k ≤ N)
    (round : ∀ k s (Q' : Post), Inv k s → (∀ L' h' s', Inv (k + 1) s' → Wk m L' h' (S s') (H s') → Q' .normal L' h') → (∀ L' h' s', E s' → Wk m L' h' (S' s') (H' s') → Q' (.exit i0) L' h') → (∀ i L' h', Q (.exit i) L' h' → Q' (.exit i) L' h') → (∀ L' h', Q .ret L' h' → Q' .ret L' h') → body (S s) (H s) Q')
    (rest : ∀ s, E s → Q (.exit i0) (S' s) (H' s)) :
    LoopI m body L h Q := by
  refine LoopI.mk (fun n L h => ∃ k s, Inv k s ∧ n = N - k ∧ L = S s ∧ h = H s) N (S s0) (H s0) wk ⟨0, s0, h0, rfl, rfl, rfl⟩ ?_
  rintro n L h ⟨k, s, hi, rfl, rfl, rfl⟩
  refine round k s _ hi (fun L' h' s' hi' hw => ?_) (fun L' h' s' he hw => ⟨_, _, hw, rest s' he⟩) (fun i L' h' hq => ⟨L', h', .same rfl fun _ => .inr rfl, hq⟩) fun L' h' hq => hq
  have h1 := hle _ _ hi
  have h2 := hle _ _ hi'
  exact ⟨N - (k + 1), _, _, by omega, hw, k + 1, s', hi', rfl, rfl, rfl⟩

theorem within_ok (P : Program) (hP : P = Try.prog) (n lo hi : Int) : Ret P n_ref09_within [iA n, iA lo, iA hi] (bA (decide (lo ≤ n ∧ n ≤ hi))) := by
  refine ret_start (hP ▸ mixed) (hP ▸ fn_ref09_within) (hP ▸ c_ref09_within) (Nat.le_of_ble_eq_true rfl) fun Λ Λo K hK => ?_
  clear hP
  conv => cbv
  repeat' first | (intro (_ : Unit); first | omega | rfl | exact ⟨rfl, by omega⟩ | (simp only [nI_eq]; omega) | ((repeat' first | rfl | omega | refine And.intro ?_ ?_ | (simp only [nI_eq]; omega) | exact Nat.le_of_ble_eq_true rfl); done)) | exact trivial | refine And.intro ?_ ?_ | (intro hc; exact absurd hc (by decide)) | (intro hc; exfalso; omega) | (intro hc; (first | rw [wrap_small (by omega) (by omega)] at hc | rw [nI_eq] at hc | skip); try (conv => cbv))
  all_goals (refine cast (congrArg (fun b => K (bA b)) ?_) hK; simp; omega)

end Go.Ab
