/-
  Merged texts, part m.
-/
import Derived.Test.YtpmananoicnhlaaZl
/-
  The priority queue, part g: the contracts of Pop, Key and Set.
-/
namespace Go.Ab
open Go.Proofs
set_option maxHeartbeats 2000000 in
theorem pop0_ok (P : Program) (hP : P = Try.prog) {vo n : Nat} {ro : Bool} {ks ps es : List (List D)} :
  FnS P n_heap_Heap_Pop [.c (.ptr 0 0 0 0)] (hpH vo n 0 ro ks ps es) fun r h' => r = .tup [iA 0, iA 0, bA false] ∧ h' = hpH vo n 0 ro ks ps es := by
 refine heap_start (hP ▸ mixed) (hP ▸ fn_heap_Heap_Pop) (hP ▸ c_heap_Heap_Pop) (Nat.le_of_ble_eq_true rfl) fun Λ Λo KK hKK => ?_
 clear hP
 have hK := hKK _ _ ⟨rfl, rfl⟩
 clear hKK
 conv => cbv
 repeat' first | exact gu | exact trivial | refine And.intro ?_ ?_ | (intro hc; exact absurd hc (by decide)) | (intro hc; exfalso; omega) | (intro hc; (first | rw [wrap_small (by omega) (by omega)] at hc | rw [nI_eq] at hc | skip); try (conv => cbv))
 exact hK
set_option maxHeartbeats 2000000 in
theorem pop_ok (P : Program) (hP : P = Try.prog) {vo n m M : Nat} {ro : Bool} {K O : List Int} {ks tl ps es : List (List D)} (hM : M = m + 1) (hks : ks = K.map encI) (h : HQ n M tl K ps es O) (hm : (M : Int) ≤ 1000000) (ho : HO K O) {i : Nat} (hi : at' O 0 = i) :
  FnS P n_heap_Heap_Pop [.c (.ptr 0 0 0 0)] (hpH vo n M ro ks ps es) fun r h' => r = .tup [iA i, iA (at' K i), bA true] ∧ ∃ tl' ks' ps' es' O', h' = hpH vo n m ro ks' ps' es' ∧ ks' = (K.set i 0).map encI ∧ HQ n m tl' (K.set i 0) ps' es' O' ∧ HO (K.set i 0) O' ∧ ∀ x, x ∈ O' ↔ x ∈ O ∧ x ≠ i := by
 refine heap_start (hP ▸ mixed) (hP ▸ fn_heap_Heap_Pop) (hP ▸ c_heap_Heap_Pop) (Nat.le_of_ble_eq_true rfl) fun Λ Λo KK hKK => ?_
 have htk := @take_ok P hP vo n m M ro K O ks tl ps es hM hks h hm ho 0 (by omega) i hi
 have htk : FnS P n_heap_Heap_take [.c (.ptr 0 0 0 0), iA 0] _ _ := htk
 clear hP
 obtain ⟨iv, hiv⟩ : ∃ x : Int, x = i := ⟨_, rfl⟩
 obtain ⟨kv, hkv⟩ : ∃ x : Int, x = at' K i := ⟨_, rfl⟩
 rw [← hkv] at hKK
 obtain ⟨L, hL, hw⟩ := h.pl
 have hoe := h.oe
 have hol := h.len
 obtain ⟨z, hz⟩ : ∃ z : Nat, z = 0 := ⟨_, rfl⟩
 have f1 : es[z]? = some [iD iv] := by rw [hz, hoe, enc_at2 tl (by omega), hi, hiv]
 have hrg := hw.rg 0 (by omega)
 have f2 : ks[i]? = some [iD kv] := by rw [hks, hkv]; exact enc_at (by have := hw.kl; omega)
 have l1 := get_lt f1
 have l2 := get_lt f2
 have l5 : ks.length = n := by rw [hks, List.length_map]; exact hw.kl
 conv => cbv
 repeat' first | (intro (k : Nat) hk; refine (fun (hz : z = k) => ?_) ?_; rotate_left; omega; subst hz; (conv => cbv)) | (intro (k : Nat) hk; refine (fun (hz : i = k) => ?_) ?_; rotate_left; omega; subst hz; (conv => cbv)) | (intro (e : List D) he; cases Option.some.inj (he.symm.trans f1); (conv => cbv)) | (intro (e : List D) he; cases Option.some.inj (he.symm.trans f2); (conv => cbv)) | exact gu | exact trivial | refine And.intro ?_ ?_ | (intro hc; exact absurd hc (by decide)) | (intro hc; exfalso; omega) | (intro hc; (first | rw [wrap_small (by omega) (by omega)] at hc | rw [nI_eq] at hc | skip); try (conv => cbv))
 refine CallS.fn ?_
 refine htk.mono fun r h' hr => ?_
 obtain ⟨rfl, tl', ks', ps', es', O', rfl, hr⟩ := hr
 conv => cbv
 repeat' first | exact gu | exact trivial | refine And.intro ?_ ?_ | (intro hc; exact absurd hc (by decide)) | (intro hc; exfalso; omega) | (intro hc; (first | rw [wrap_small (by omega) (by omega)] at hc | rw [nI_eq] at hc | skip); try (conv => cbv))
 subst hiv
 exact hKK _ _ ⟨rfl, tl', ks', ps', es', O', rfl, hr⟩
set_option maxHeartbeats 2000000 in
theorem key_ok (P : Program) (hP : P = Try.prog) {vo n M : Nat} {ro : Bool} {K O : List Int} {ks tl ps es : List (List D)} (hks : ks = K.map encI) (h : HQ n M tl K ps es O) (_hn : (n : Int) ≤ 1000000) {i : Nat} (hi : i < n) (hd : (i : Int) ∈ O) :
  FnS P n_heap_Heap_Key [.c (.ptr 0 0 0 0), iA i] (hpH vo n M ro ks ps es) fun r h' => r = .tup [iA (at' K i), bA true] ∧ h' = hpH vo n M ro ks ps es := by
 refine heap_start (hP ▸ mixed) (hP ▸ fn_heap_Heap_Key) (hP ▸ c_heap_Heap_Key) (Nat.le_of_ble_eq_true rfl) fun Λ Λo KK hKK => ?_
 clear hP
 have hK := hKK _ _ ⟨rfl, rfl⟩
 clear hKK
 obtain ⟨iv, hiv⟩ : ∃ x : Int, x = i := ⟨_, rfl⟩
 obtain ⟨kv, hkv⟩ : ∃ x : Int, x = at' K i := ⟨_, rfl⟩
 rw [← hkv] at hK
 rw [← hiv]
 obtain ⟨L, hL, hw⟩ := h.pl
 obtain ⟨pv, hpv⟩ : ∃ x : Int, x = at' L i := ⟨_, rfl⟩
 have h0 : pv ≠ 0 := by
  obtain ⟨p, hp, he⟩ := List.mem_iff_getElem.1 hd
  have h1 := at_some hp
  rw [List.getElem?_eq_getElem hp, he] at h1
  have h2 := (hw.rg p hp).2.2
  rw [← Option.some.inj h1] at h2
  have e2 : ((i : Int)).toNat = i := rfl
  rw [e2] at h2
  omega
 have f1 : ps[i]? = some [iD pv] := by rw [hL, hpv]; exact enc_at (by have := hw.ll; omega)
 have f2 : ks[i]? = some [iD kv] := by rw [hks, hkv]; exact enc_at (by have := hw.kl; omega)
 have l1 := get_lt f1
 have l2 := get_lt f2
 have l4 : ps.length = n := by rw [hL, List.length_map]; exact hw.ll
 have l5 : ks.length = n := by rw [hks, List.length_map]; exact hw.kl
 conv => cbv
 repeat' first | (intro (k : Nat) hk; refine (fun (hz : i = k) => ?_) ?_; rotate_left; omega; subst hz; (conv => cbv)) | (intro (e : List D) he; cases Option.some.inj (he.symm.trans f1); (conv => cbv)) | (intro (e : List D) he; cases Option.some.inj (he.symm.trans f2); (conv => cbv)) | exact gu | exact trivial | refine And.intro ?_ ?_ | (intro hc; exact absurd hc (by decide)) | (intro hc; exfalso; omega) | (intro hc; (first | rw [wrap_small (by omega) (by omega)] at hc | rw [nI_eq] at hc | skip); try (conv => cbv))
 exact hK
end Go.Ab

/-
  The priority queue, part h: the contract of Set.
-/
namespace Go.Ab
open Go.Proofs
def SetR (n : Nat) (K O : List Int) (i : Nat) (key : Int) (r : AV) (h' : Hp) : Prop := r = iA 0 ∧ ∃ vo' M' ro' tl' ks' ps' es' O', h' = hpH vo' n M' ro' ks' ps' es' ∧ ks' = (K.set i key).map encI ∧ HQ n M' tl' (K.set i key) ps' es' O' ∧ HO (K.set i key) O' ∧ ∀ x, x ∈ O' ↔ x ∈ O ∨ x = i
set_option maxHeartbeats 2000000 in
theorem setHeld_ok (P : Program) (hP : P = Try.prog) {vo n M : Nat} {ro : Bool} {K O : List Int} {ks tl ps es : List (List D)} (hks : ks = K.map encI) (h : HQ n M tl K ps es O) (hm : (M : Int) ≤ 1000000) (_hn : (n : Int) ≤ 1000000) (ho : HO K O) {i p : Nat} (hin : i < n) (hp : p < M) (hi : at' O p = i) (key : Int) :
  FnS P n_heap_Heap_Set [.c (.ptr 0 0 0 0), iA i, iA key] (hpH vo n M ro ks ps es) (SetR n K O i key) := by
 refine heap_start (hP ▸ mixed) (hP ▸ fn_heap_Heap_Set) (hP ▸ c_heap_Heap_Set) (Nat.le_of_ble_eq_true rfl) fun Λ Λo KK hKK => ?_
 obtain ⟨L, hL, hw⟩ := h.pl
 have hol := h.len
 obtain ⟨iv, hiv⟩ : ∃ x : Int, x = i := ⟨_, rfl⟩
 obtain ⟨pv, hpv⟩ : ∃ x : Int, x = p + 1 := ⟨_, rfl⟩
 rw [← hiv]
 have f1 : ps[i]? = some [iD pv] := by
  have h1 := (hw.rg p (by omega)).2.2
  rw [hi] at h1
  have e2 : ((i : Int)).toNat = i := rfl
  rw [e2] at h1
  rw [hL, enc_at (by have := hw.ll; omega), h1, hpv]
 have f2 : ks[i]? = some [iD (at' K i)] := by rw [hks]; exact enc_at (by have := hw.kl; omega)
 have l1 := get_lt f1
 have l2 := get_lt f2
 have l4 : ps.length = n := by rw [hL, List.length_map]; exact hw.ll
 have l5 : ks.length = n := by rw [hks, List.length_map]; exact hw.kl
 obtain ⟨ks2, hks2⟩ : ∃ x, x = ks.set i [iD key] := ⟨_, rfl⟩
 have hks3 : ks2 = (K.set i key).map encI := by rw [hks2, hks, List.map_set]; rfl
 have hq2 : HQ n M tl (K.set i key) ps es O := ⟨⟨L, hL, hw.key i key⟩, h.oe, h.len⟩
 have hst := @settle_ok P hP vo n M ro _ _ ks2 tl ps es hks3 hq2 hm p hp (Pre.key hw ho (by omega) hi key)
 clear hP
 obtain ⟨px, hpx⟩ : ∃ x : Int, x = p := ⟨_, rfl⟩
 rw [← hpx] at hst
 conv => cbv
 repeat' first | (intro (k : Int) hk; rw [wrap_small (by omega) (by omega)] at hk; refine (fun (hz : px = k) => ?_) ?_; rotate_left; omega; subst hz; (conv => cbv)) | (intro (k : Nat) hk; refine (fun (hz : i = k) => ?_) ?_; rotate_left; omega; subst hz; (conv => cbv)) | (intro (e : List D) he; cases Option.some.inj (he.symm.trans f1); (conv => cbv)) | (intro (e : List D) he; cases Option.some.inj (he.symm.trans f2); (conv => cbv)) | (intro (x : List (List D)) (hx : x = ks.set i [iD key]); refine (fun (hz : ks2 = x) => ?_) (hks2.trans hx.symm); subst hz; (conv => cbv)) | exact gu | exact trivial | refine And.intro ?_ ?_ | (intro hc; exact absurd hc (by decide)) | (intro hc; exfalso; omega) | (intro hc; (first | rw [wrap_small (by omega) (by omega)] at hc | rw [nI_eq] at hc | skip); try (conv => cbv))
 refine CallS.fn ?_
 refine hst.mono fun r h' hr => ?_
 obtain ⟨rfl, ps3, es3, O3, rfl, hq3, ho3, hm3⟩ := hr
 conv => cbv
 repeat' first | exact gu | exact trivial | refine And.intro ?_ ?_ | (intro hc; exact absurd hc (by decide)) | (intro hc; exfalso; omega) | (intro hc; (first | rw [wrap_small (by omega) (by omega)] at hc | rw [nI_eq] at hc | skip); try (conv => cbv))
 refine hKK _ _ ⟨rfl, vo, M, ro, tl, ks2, ps3, es3, O3, rfl, hks3, hq3, ho3, fun y => (hm3 y).trans ⟨.inl, fun hy => hy.elim (fun a => a) fun e => ?_⟩⟩
 rw [e, ← hi]
 have := at_some (l := O) (p := p) (by omega)
 exact List.mem_of_getElem? this
end Go.Ab

/-
  The priority queue, part i: the contract of Set, for an item that is not held.
-/
namespace Go.Ab
open Go.Proofs
theorem sto_len {ps ps2 xx : List (List D)} {i : Nat} {M1 y : Int} (hps2 : ps2 = ps.set i [iD M1]) (hxx : xx = ps.set i (List.take 0 [iD 0] ++ ([D.int .i64 y] ++ List.drop (0 + [D.int .i64 y].length) [iD 0]))) (hy : y = M1) : ps2 = xx := by
 subst hy; rw [hps2, hxx]; rfl
theorem len_app {mm M : Nat} {ee es : List (List D)} {v : List D} (hmm : mm = M + [v].length) (hee : ee = List.take M (List.drop 0 es) ++ [v]) (hM : M ≤ es.length) : ∃ a bs, ee = a :: bs ∧ mm = bs.length + 1 ∧ bs.length = M := by
 have hl : ee.length = M + 1 := by rw [hee]; simp; omega
 cases ee with
 | nil => simp at hl
 | cons a bs => exact ⟨a, bs, rfl, by simp at hl hmm; omega, by simpa using hl⟩
set_option maxHeartbeats 2000000 in
theorem setNew_ok (P : Program) (hP : P = Try.prog) {vo n M : Nat} {ro : Bool} {K O : List Int} {ks tl ps es : List (List D)} (hks : ks = K.map encI) (h : HQ n M tl K ps es O) (hm : (M : Int) < 1000000) (_hn : (n : Int) ≤ 1000000) (ho : HO K O) {i : Nat} (hin : i < n) (hi : (i : Int) ∉ O) (key : Int) :
  FnS P n_heap_Heap_Set [.c (.ptr 0 0 0 0), iA i, iA key] (hpH vo n M ro ks ps es) (SetR n K O i key) := by
 refine heap_start (hP ▸ mixed) (hP ▸ fn_heap_Heap_Set) (hP ▸ c_heap_Heap_Set) (Nat.le_of_ble_eq_true rfl) fun Λ Λo KK hKK => ?_
 obtain ⟨L, hL, hw⟩ := h.pl
 have hol := h.len
 obtain ⟨iv, hiv⟩ : ∃ x : Int, x = i := ⟨_, rfl⟩
 rw [← hiv]
 have h0 : at' L i = 0 := by
  rcases hw.un i hin with h1 | ⟨p, hp, h1⟩
  ·exact h1
  ·exact absurd (h1 ▸ List.mem_of_getElem? (at_some hp)) hi
 have f1 : ps[i]? = some [iD 0] := by rw [hL, enc_at (by have := hw.ll; omega), h0]
 have f2 : ks[i]? = some [iD (at' K i)] := by rw [hks]; exact enc_at (by have := hw.kl; omega)
 have l1 := get_lt f1
 have l2 := get_lt f2
 have l4 : ps.length = n := by rw [hL, List.length_map]; exact hw.ll
 have l5 : ks.length = n := by rw [hks, List.length_map]; exact hw.kl
 have l6 : M ≤ es.length := by rw [h.oe, List.length_append, List.length_map, h.len]; omega
 obtain ⟨ks2, hks2⟩ : ∃ x, x = ks.set i [iD key] := ⟨_, rfl⟩
 obtain ⟨M1, hM1⟩ : ∃ x : Int, x = M + 1 := ⟨_, rfl⟩
 obtain ⟨ps2, hps2⟩ : ∃ x, x = ps.set i [iD M1] := ⟨_, rfl⟩
 have f3 : ps2[i]? = some [iD M1] := by rw [hps2]; simp [l1]
 have l7 := get_lt f3
 have hks3 : ks2 = (K.set i key).map encI := by rw [hks2, hks, List.map_set]; rfl
 obtain ⟨px, hpx⟩ : ∃ x : Int, x = M := ⟨_, rfl⟩
 have hst := fun (vo' : Nat) (ro' : Bool) (es' : List (List D)) (he : es' = (O ++ [(i : Int)]).map encI) => @settle_ok P hP vo' n (M + 1) ro' _ _ ks2 [] ps2 es' hks3
  ⟨⟨_, by rw [hps2, hL, hM1, List.map_set, ← hol]; rfl, (hw.key i key).add hin h0⟩, by rw [he, List.append_nil], by simp [hol]⟩ (by omega) M (by omega) (by rw [← hol]; exact Pre.add hw ho h0 key)
 clear hP
 rw [← hpx] at hst
 conv => cbv
 repeat' first | (intro (mm : Nat) (rr : Bool) (ee : List (List D)) hmm hrr hee; (conv => cbv)) | (intro (xx : List (List D)) hxx; refine (fun (hz : ps2 = xx) => ?_) ?_; rotate_left; refine sto_len hps2 hxx ?_; (obtain ⟨a, bs, rfl, rfl, hal⟩ := len_app hmm hee l6); rw [Λo]; (show ((a :: List.take bs.length bs).length : Int) = M1); rw [List.take_length, List.length_cons]; omega; subst hz; (conv => cbv)) | (intro (k : Int) hk; rw [wrap_small (by omega) (by omega)] at hk; refine (fun (hz : px = k) => ?_) ?_; rotate_left; omega; subst hz; (conv => cbv)) | (intro (k : Nat) hk; refine (fun (hz : i = k) => ?_) ?_; rotate_left; omega; subst hz; (conv => cbv)) | (intro (e : List D) he; cases Option.some.inj (he.symm.trans f1); (conv => cbv)) | (intro (e : List D) he; cases Option.some.inj (he.symm.trans f2); (conv => cbv)) | (intro (e : List D) he; cases Option.some.inj (he.symm.trans f3); (conv => cbv)) | (intro (x : List (List D)) (hx : x = ks.set i [iD key]); refine (fun (hz : ks2 = x) => ?_) (hks2.trans hx.symm); subst hz; (conv => cbv)) | exact gu | exact trivial | refine And.intro ?_ ?_ | (intro hc; exact absurd hc (by decide)) | (intro hc; exfalso; omega) | (intro hc; (first | rw [wrap_small (by omega) (by omega)] at hc | rw [nI_eq] at hc | skip); try (conv => cbv))
 clear hxx
 have hmm : mm = M + 1 := hmm
 have hes : ee = (O ++ [(i : Int)]).map encI := by
  rw [hee, List.drop_zero, h.oe, List.take_append_of_le_length (by simp [hol]), List.take_of_length_le (by simp [hol]), List.map_append, hiv]; rfl
 subst hmm
 refine CallS.wk (L1 := [(56, .c (.ptr 0 0 0 0)), (64, iA px)]) (h1 := hpH (vo + 1) n (M + 1) rr ks2 ps2 ee) (Wk.cut ⟨_, rfl⟩ (Nat.le_of_ble_eq_true rfl) rfl (by repeat' first | exact trivial | refine And.intro ?_ ?_ | rfl)) (CallS.fn ?_)
 refine (hst (vo + 1) rr ee hes).mono fun r h' hr => ?_
 obtain ⟨rfl, ps3, es3, O3, rfl, hq3, ho3, hm3⟩ := hr
 conv => cbv
 repeat' first | exact gu | exact trivial | refine And.intro ?_ ?_ | (intro hc; exact absurd hc (by decide)) | (intro hc; exfalso; omega) | (intro hc; (first | rw [wrap_small (by omega) (by omega)] at hc | rw [nI_eq] at hc | skip); try (conv => cbv))
 refine hKK _ _ ⟨rfl, vo + 1, M + 1, rr, [], ks2, ps3, es3, O3, rfl, hks3, hq3, ho3, fun y => (hm3 y).trans ?_⟩
 simp
end Go.Ab

/-
  The priority queue, part j: the contract of New.
-/
namespace Go.Ab
open Go.Proofs
set_option maxHeartbeats 2000000 in
theorem hnew_ok (P : Program) (hP : P = Try.prog) (n : Nat) (hn : (n : Int) ≤ 65536) :
  FnS P n_heap_New [iA n] [] fun r h' => r = .tup [.c (.ptr 2 0 0 0), iA 0] ∧ h' = [.da true 0 1 ((List.replicate n 0).map encI), .da true 0 1 ((List.replicate n 0).map encI), .bx [.arr 0 0 0 n, .arr 1 0 0 n, .d (.list true 1 [])]] := by
 refine heap_start (hP ▸ mixed) (hP ▸ fn_heap_New) (hP ▸ c_heap_New) (Nat.le_of_ble_eq_true rfl) fun Λ Λo KK hKK => ?_
 clear hP
 obtain ⟨x, hx⟩ : ∃ x : Int, x = n := ⟨_, rfl⟩
 rw [← hx]
 conv => cbv
 repeat' first | exact gu | exact trivial | refine And.intro ?_ ?_ | (intro hc; exact absurd hc (by decide)) | (intro hc; exfalso; omega) | (intro hc; (first | rw [wrap_small (by omega) (by omega)] at hc | rw [nI_eq] at hc | skip); try (conv => cbv))
 rename_i a l ha hl b k hb
 have e : x.toNat = n := by omega
 have e2 : List.replicate n [D.int .i64 0] = (List.replicate n 0).map encI := by rw [List.map_replicate]; rfl
 rw [e] at ha hl hb hc
 rw [e2] at hl hc
 subst ha hl hb hc
 exact hKK _ _ ⟨rfl, rfl⟩
end Go.Ab

/-
  The priority queue, part k: the contract of Key, for an item that is not held.
-/
namespace Go.Ab
open Go.Proofs
set_option maxHeartbeats 2000000 in
theorem key0_ok (P : Program) (hP : P = Try.prog) {vo n M : Nat} {ro : Bool} {K O : List Int} {ks tl ps es : List (List D)} (h : HQ n M tl K ps es O) (_hn : (n : Int) ≤ 1000000) {i : Nat} (hi : i < n) (hd : (i : Int) ∉ O) (hkl : ks.length = n) :
  FnS P n_heap_Heap_Key [.c (.ptr 0 0 0 0), iA i] (hpH vo n M ro ks ps es) fun r h' => r = .tup [iA 0, bA false] ∧ h' = hpH vo n M ro ks ps es := by
 refine heap_start (hP ▸ mixed) (hP ▸ fn_heap_Heap_Key) (hP ▸ c_heap_Heap_Key) (Nat.le_of_ble_eq_true rfl) fun Λ Λo KK hKK => ?_
 clear hP
 have hK := hKK _ _ ⟨rfl, rfl⟩
 clear hKK
 obtain ⟨iv, hiv⟩ : ∃ x : Int, x = i := ⟨_, rfl⟩
 rw [← hiv]
 obtain ⟨L, hL, hw⟩ := h.pl
 have h0 : at' L i = 0 := by
  rcases hw.un i hi with h1 | ⟨p, hp, h1⟩
  ·exact h1
  ·exact absurd (h1 ▸ List.mem_of_getElem? (at_some hp)) hd
 have f1 : ps[i]? = some [iD 0] := by rw [hL, enc_at (by have := hw.ll; omega), h0]
 have l1 := get_lt f1
 have l4 : ps.length = n := by rw [hL, List.length_map]; exact hw.ll
 conv => cbv
 repeat' first | (intro (k : Nat) hk; refine (fun (hz : i = k) => ?_) ?_; rotate_left; omega; subst hz; (conv => cbv)) | (intro (e : List D) he; cases Option.some.inj (he.symm.trans f1); (conv => cbv)) | exact gu | exact trivial | refine And.intro ?_ ?_ | (intro hc; exact absurd hc (by decide)) | (intro hc; exfalso; omega) | (intro hc; (first | rw [wrap_small (by omega) (by omega)] at hc | rw [nI_eq] at hc | skip); try (conv => cbv))
 exact hK
end Go.Ab

/-
  Shortest paths, part b: distances, plainly.
-/
namespace Go.Ab
open Go.Proofs
def xOf (t : Top) (fr : Bool) (a : Int) : Int := if fr then headT t a else tailT t a
def yOf (t : Top) (fr : Bool) (a : Int) : Int := if fr then tailT t a else headT t a
def okArc (t : Top) (down : List Bool) (e : Int) (fr : Bool) (a : Int) : Bool := upB down a && transitB t (yOf t fr a) e
abbrev gt (D : List Int) (i : Int) : Int := D.getD i.toNat (-1)
def fixAt (t : Top) (down : List Bool) (e : Int) (fr : Bool) (D : List Int) (a : Int) : Prop :=
 okArc t down e fr a = true → 0 ≤ gt D (yOf t fr a) → 0 ≤ gt D (xOf t fr a) ∧ gt D (xOf t fr a) ≤ gt D (yOf t fr a) + costT t a
structure IsDist (t : Top) (down : List Bool) (e : Int) (fr : Bool) (D : List Int) : Prop where
 len : (D.length : Int) = t.nodes
 zero : gt D e = 0
 lo : ∀ i, 0 ≤ i → i < t.nodes → -1 ≤ gt D i
 fix : ∀ a : Int, 0 ≤ a → a < 2 * t.links.length → fixAt t down e fr D a
 tight : ∀ x, 0 ≤ x → x < t.nodes → x ≠ e → 0 ≤ gt D x → ∃ a : Int, 0 ≤ a ∧ a < 2 * t.links.length ∧ okArc t down e fr a = true ∧ xOf t fr a = x ∧ 0 ≤ gt D (yOf t fr a) ∧ gt D x = gt D (yOf t fr a) + costT t a
theorem arc_facts {t : Top} (hv : validT t = true) {a : Int} (h0 : 0 ≤ a) (h1 : a < 2 * t.links.length) :
  (0 ≤ tailT t a ∧ tailT t a < t.nodes) ∧ (0 ≤ headT t a ∧ headT t a < t.nodes) ∧ tailT t a ≠ headT t a ∧ 1 ≤ costT t a ∧ costT t a ≤ 65535 := by
 have ha : arcsT t = 2 * t.links.length := by rw [arcsT, if_pos hv]
 have hx : t.links[(a / 2).toNat]? = some (t.links[(a / 2).toNat]'(by omega)) := List.getElem?_eq_getElem (by omega)
 have hk := okLk_spec.1 ((validT_spec.1 hv).2.2.2 _ (List.getElem_mem (l := t.links) (n := (a / 2).toNat) (by omega)))
 have hl : lkAt t a = t.links[(a / 2).toNat]'(by omega) := by rw [lkAt, hx]; rfl
 rw [← hl] at hk
 have hin : 0 ≤ a ∧ a < arcsT t := by omega
 simp only [tailT, headT, costT, if_pos hin]
 by_cases h : a % 2 = 0
 ·simp only [if_pos h]; omega
 ·simp only [if_neg h]; omega
theorem xy_facts {t : Top} (hv : validT t = true) (fr : Bool) {a : Int} (h0 : 0 ≤ a) (h1 : a < 2 * t.links.length) :
  (0 ≤ xOf t fr a ∧ xOf t fr a < t.nodes) ∧ (0 ≤ yOf t fr a ∧ yOf t fr a < t.nodes) ∧ xOf t fr a ≠ yOf t fr a := by
 have := arc_facts hv h0 h1
 cases fr
 ·simp only [xOf, yOf, Bool.false_eq_true, if_false]; exact ⟨this.1, this.2.1, this.2.2.1⟩
 ·simp only [xOf, yOf, if_true]; exact ⟨this.2.1, this.1, fun h => this.2.2.1 h.symm⟩
theorem dist_le {t : Top} (hv : validT t = true) {down : List Bool} {e : Int} {fr : Bool} {D D' : List Int} (h : IsDist t down e fr D) (h' : IsDist t down e fr D') : ∀ (n : Nat) (x : Int), 0 ≤ x → x < t.nodes → gt D x = n → 0 ≤ gt D' x ∧ gt D' x ≤ n := by
 intro n
 induction n using Nat.strongRecOn with
 | _ n ih =>
  intro x h0 h1 hx
  by_cases hxe : x = e
  ·subst hxe; rw [h'.zero]; omega
  ·obtain ⟨a, a0, a1, ha, hxa, hy, hd⟩ := h.tight x h0 h1 hxe (by omega)
   have hf := xy_facts hv fr a0 a1
   have hc := arc_facts hv a0 a1
   obtain ⟨i0, i1⟩ := ih (gt D (yOf t fr a)).toNat (by omega) (yOf t fr a) hf.2.1.1 hf.2.1.2 (by omega)
   obtain ⟨j0, j1⟩ := h'.fix a a0 a1 ha i0
   rw [hxa] at j0 j1
   exact ⟨j0, by omega⟩
theorem dist_unique {t : Top} (hv : validT t = true) {down : List Bool} {e : Int} {fr : Bool} {D D' : List Int} (h : IsDist t down e fr D) (h' : IsDist t down e fr D') : D = D' := by
 have hl := h.len
 have hl' := h'.len
 have key : ∀ x : Int, 0 ≤ x → x < t.nodes → gt D x = gt D' x := by
  intro x h0 h1
  have l1 := h.lo x h0 h1
  have l2 := h'.lo x h0 h1
  by_cases c : 0 ≤ gt D x
  ·have e1 := dist_le hv h h' (gt D x).toNat x h0 h1 (by omega)
   have e2 := dist_le hv h' h (gt D' x).toNat x h0 h1 (by omega)
   omega
  ·by_cases c' : 0 ≤ gt D' x
   ·have e2 := dist_le hv h' h (gt D' x).toNat x h0 h1 (by omega)
    omega
   ·omega
 apply List.ext_getElem?
 intro i
 rcases Nat.lt_or_ge i D.length with hi | hi
 ·have := key (i : Int) (by omega) (by omega)
  simp only [gt, Int.toNat_natCast, List.getD_eq_getElem?_getD, List.getElem?_eq_getElem hi, List.getElem?_eq_getElem (show i < D'.length by omega), Option.getD_some] at this
  rw [List.getElem?_eq_getElem hi, List.getElem?_eq_getElem (by omega), this]
 ·rw [List.getElem?_eq_none hi, List.getElem?_eq_none (by omega)]
noncomputable def distS (t : Top) (down : List Bool) (e : Int) (fr : Bool) : List Int := by
 classical
 exact if h : ∃ D, IsDist t down e fr D then Classical.choose h else []
theorem distS_eq {t : Top} (hv : validT t = true) {down : List Bool} {e : Int} {fr : Bool} {D : List Int} (h : IsDist t down e fr D) : distS t down e fr = D := by
 have hx : ∃ D, IsDist t down e fr D := ⟨D, h⟩
 unfold distS
 rw [dif_pos hx]
 exact dist_unique hv (Classical.choose_spec hx) h
/-! While the distances are searched for. -/
def wt (d : Int) : Nat := if d < 0 then 5000000 else d.toNat
def msr (D : List Int) : Nat := (D.map wt).sum
def cntD (D : List Int) : Nat := (D.map fun d => if d < 0 then 0 else 1).sum
theorem sum_set (f : Int → Nat) : ∀ (D : List Int) (i : Nat) (v : Int) (u : Int), D[i]? = some u → ((D.set i v).map f).sum + f u = (D.map f).sum + f v := by
 intro D
 induction D with
 | nil => intro i v u h; simp at h
 | cons d D ih =>
  intro i v u h
  cases i with
  | zero => simp at h; subst h; simp; omega
  | succ i =>
   simp only [List.getElem?_cons_succ] at h
   have := ih i v u h
   simp only [List.set_cons_succ, List.map_cons, List.sum_cons]
   omega
theorem cnt_le : ∀ (D : List Int), cntD D ≤ D.length := by
 intro D
 induction D with
 | nil => simp [cntD]
 | cons d D ih => simp only [cntD, List.map_cons, List.sum_cons, List.length_cons] at *; split <;> omega
structure Mid (t : Top) (down : List Bool) (e : Int) (fr : Bool) (D : List Int) : Prop where
 len : (D.length : Int) = t.nodes
 zero : gt D e = 0
 lo : ∀ i, 0 ≤ i → i < t.nodes → -1 ≤ gt D i
 hi : ∀ i, 0 ≤ i → i < t.nodes → gt D i ≤ 65535 * cntD D
 loose : ∀ x, 0 ≤ x → x < t.nodes → x ≠ e → 0 ≤ gt D x → ∃ a : Int, 0 ≤ a ∧ a < 2 * t.links.length ∧ okArc t down e fr a = true ∧ xOf t fr a = x ∧ 0 ≤ gt D (yOf t fr a) ∧ gt D (yOf t fr a) + costT t a ≤ gt D x
theorem Mid.le {t : Top} (hv : validT t = true) {down : List Bool} {e : Int} {fr : Bool} {D : List Int} (h : Mid t down e fr D) {i : Int} (h0 : 0 ≤ i) (h1 : i < t.nodes) : gt D i ≤ 4194240 := by
 have := h.hi i h0 h1
 have h2 := cnt_le D
 have h3 := h.len
 have h4 := (validT_spec.1 hv).1
 omega
theorem Mid.dist {t : Top} {down : List Bool} {e : Int} {fr : Bool} {D : List Int} (h : Mid t down e fr D) (hf : ∀ a : Int, 0 ≤ a → a < 2 * t.links.length → fixAt t down e fr D a) : IsDist t down e fr D where
 len := h.len
 zero := h.zero
 lo := h.lo
 fix := hf
 tight x h0 h1 hx hd := by
  obtain ⟨a, a0, a1, ha, hxa, hy, hc⟩ := h.loose x h0 h1 hx hd
  have := (hf a a0 a1 ha hy).2
  rw [hxa] at this
  exact ⟨a, a0, a1, ha, hxa, hy, by omega⟩
theorem gt_set {D : List Int} {i j : Int} {v : Int} (h0 : 0 ≤ i) (h1 : i < D.length) (j0 : 0 ≤ j) : gt (D.set i.toNat v) j = if j = i then v else gt D j := by
 simp only [gt, List.getD_eq_getElem?_getD, List.getElem?_set]
 by_cases h : j = i
 ·subst h; simp [show j.toNat < D.length by omega]
 ·have : i.toNat ≠ j.toNat := by omega
  simp [this, h]
theorem Mid.step {t : Top} (hv : validT t = true) {down : List Bool} {e : Int} {fr : Bool} {D : List Int} (h : Mid t down e fr D) {a : Int} (a0 : 0 ≤ a) (a1 : a < 2 * t.links.length) (ha : okArc t down e fr a = true) (hy : 0 ≤ gt D (yOf t fr a))
  (hc : gt D (xOf t fr a) < 0 ∨ gt D (yOf t fr a) + costT t a < gt D (xOf t fr a)) : Mid t down e fr (D.set (xOf t fr a).toNat (gt D (yOf t fr a) + costT t a)) ∧ msr (D.set (xOf t fr a).toNat (gt D (yOf t fr a) + costT t a)) < msr D := by
 have hf := xy_facts hv fr a0 a1
 have hcs := (arc_facts hv a0 a1).2.2.2
 have hlen := h.len
 generalize hX : xOf t fr a = X at *
 generalize hY : yOf t fr a = Y at *
 generalize hC : gt D Y + costT t a = C at *
 have hXl : X < D.length := by omega
 have hg : ∀ j, 0 ≤ j → gt (D.set X.toNat C) j = if j = X then C else gt D j := fun j j0 => gt_set hf.1.1 hXl j0
 have hget : D[X.toNat]? = some (gt D X) := by
  simp only [gt, List.getD_eq_getElem?_getD, List.getElem?_eq_getElem (show X.toNat < D.length by omega), Option.getD_some]
 have hYle := h.hi Y hf.2.1.1 hf.2.1.2
 have hs1 := sum_set wt D X.toNat C (gt D X) hget
 have hs2 := sum_set (fun d => if d < 0 then 0 else 1) D X.toNat C (gt D X) hget
 have hYm := h.le hv hf.2.1.1 hf.2.1.2
 have hXe : X ≠ e := by
  intro hh
  rw [hh, h.zero] at hc
  omega
 have hcnt : cntD (D.set X.toNat C) = cntD D + (if gt D X < 0 then 1 else 0) := by
  simp only [cntD]
  simp only [show ¬ C < 0 by omega, if_false] at hs2
  by_cases hX0 : gt D X < 0
  ·rw [if_pos hX0] at hs2 ⊢; omega
  ·rw [if_neg hX0] at hs2 ⊢; omega
 refine ⟨⟨by simp only [List.length_set]; exact hlen, ?_, ?_, ?_, ?_⟩, ?_⟩
 ·have he : gt D e = 0 := h.zero
  by_cases e0 : 0 ≤ e
  ·rw [hg e e0, if_neg (fun hh => hXe hh.symm)]; exact he
  ·simp only [gt, show e.toNat = 0 by omega] at he ⊢
   by_cases x0 : X = 0
   ·exfalso
    have hXg : gt D X = 0 := by rw [x0]; exact he
    rw [hXg] at hc; omega
   ·rw [List.getD_eq_getElem?_getD, List.getElem?_set_ne (by omega), ← List.getD_eq_getElem?_getD]; exact he
 ·intro i i0 i1
  rw [hg i i0]
  split
  ·omega
  ·exact h.lo i i0 i1
 ·intro i i0 i1
  rw [hg i i0, hcnt]
  have hi := h.hi i i0 i1
  split
  ·split
   ·omega
   ·have hX := h.hi X hf.1.1 hf.1.2
    omega
  ·split <;> omega
 ·intro x x0 x1 hxe hd
  rw [hg x x0] at hd ⊢
  by_cases hxX : x = X
  ·subst hxX
   refine ⟨a, a0, a1, ha, hX, ?_, ?_⟩
   ·rw [hY, hg Y hf.2.1.1, if_neg (fun hh => hf.2.2 hh.symm)]; exact hy
   ·rw [hY, hg Y hf.2.1.1, if_neg (fun hh => hf.2.2 hh.symm), if_pos rfl]; omega
  ·rw [if_neg hxX] at hd ⊢
   obtain ⟨b, b0, b1, hb, hxb, hyb, hcb⟩ := h.loose x x0 x1 hxe hd
   have hfb := xy_facts hv fr b0 b1
   refine ⟨b, b0, b1, hb, hxb, ?_, ?_⟩
   ·rw [hg _ hfb.2.1.1]
    split <;> omega
   ·rw [hg _ hfb.2.1.1]
    split
    ·rename_i hh; rw [hh] at hyb hcb; omega
    ·exact hcb
 ·simp only [msr]
  have w1 : wt C = C.toNat := by rw [wt, if_neg (by omega)]
  have w2 : wt (gt D X) > C.toNat := by
   rw [wt]
   split <;> omega
  omega
end Go.Ab

/-
  Shortest paths with a queue, plainly.
-/
namespace Go.Ab
open Go.Proofs
structure DI (t : Top) (down : List Bool) (e : Int) (fr : Bool) (D K : List Int) (H : Int → Prop) (last : Int) (pend : Int → Prop) : Prop where
 len : (D.length : Int) = t.nodes
 kl : (K.length : Int) = t.nodes
 lo : ∀ i, 0 ≤ i → i < t.nodes → -1 ≤ gt D i
 hi : ∀ i, 0 ≤ i → i < t.nodes → gt D i ≤ 65535 * cntD D
 l0 : 0 ≤ last
 held : ∀ x, H x → 0 ≤ x ∧ x < t.nodes ∧ gt D x = -1 ∧ last ≤ gt K x
 past : ∀ x, 0 ≤ x → x < t.nodes → gt D x ≤ last
 root : gt D e = 0 ∨ (H e ∧ gt K e = 0 ∧ last = 0 ∧ ∀ x, H x → x = e)
 fix : ∀ a : Int, 0 ≤ a → a < 2 * t.links.length → okArc t down e fr a = true → 0 ≤ gt D (yOf t fr a) → pend a ∨ (0 ≤ gt D (xOf t fr a) ∧ gt D (xOf t fr a) ≤ gt D (yOf t fr a) + costT t a) ∨ (H (xOf t fr a) ∧ gt K (xOf t fr a) ≤ gt D (yOf t fr a) + costT t a)
 td : ∀ x, 0 ≤ x → x < t.nodes → x ≠ e → 0 ≤ gt D x → ∃ a : Int, 0 ≤ a ∧ a < 2 * t.links.length ∧ okArc t down e fr a = true ∧ xOf t fr a = x ∧ 0 ≤ gt D (yOf t fr a) ∧ gt D x = gt D (yOf t fr a) + costT t a
 th : ∀ x, H x → x ≠ e → ∃ a : Int, 0 ≤ a ∧ a < 2 * t.links.length ∧ okArc t down e fr a = true ∧ xOf t fr a = x ∧ 0 ≤ gt D (yOf t fr a) ∧ gt K x = gt D (yOf t fr a) + costT t a
theorem DI.dist {t : Top} {down : List Bool} {e : Int} {fr : Bool} {D K : List Int} {H : Int → Prop} {last : Int} {pend : Int → Prop} (h : DI t down e fr D K H last pend) (hH : ∀ x, ¬ H x) (hp : ∀ a, ¬ pend a) : IsDist t down e fr D where
 len := h.len
 zero := h.root.elim id fun r => absurd r.1 (hH e)
 lo := h.lo
 fix a a0 a1 := fun ho hy => by
  rcases h.fix a a0 a1 ho hy with h1 | h1 | h1
  ·exact absurd h1 (hp a)
  ·exact h1
  ·exact absurd h1.1 (hH _)
 tight := h.td
theorem gt_setD {D : List Int} {n : Int} {v : Int} (h0 : 0 ≤ n) (h1 : n < D.length) (j : Int) (j0 : 0 ≤ j) : gt (D.set n.toNat v) j = if j = n then v else gt D j := gt_set h0 h1 j0
theorem DI.skip {t : Top} {down : List Bool} {e : Int} {fr : Bool} {D K : List Int} {H : Int → Prop} {last : Int} {pend pend' : Int → Prop} (h : DI t down e fr D K H last pend)
  (hp : ∀ a : Int, 0 ≤ a → a < 2 * t.links.length → okArc t down e fr a = true → 0 ≤ gt D (yOf t fr a) → pend a → pend' a ∨ (0 ≤ gt D (xOf t fr a) ∧ gt D (xOf t fr a) ≤ gt D (yOf t fr a) + costT t a) ∨ (H (xOf t fr a) ∧ gt K (xOf t fr a) ≤ gt D (yOf t fr a) + costT t a)) : DI t down e fr D K H last pend' :=
 { h with fix := fun a a0 a1 ho hy => (h.fix a a0 a1 ho hy).elim (hp a a0 a1 ho hy) .inr }
theorem DI.set {t : Top} (hv : validT t = true) {down : List Bool} {e : Int} {fr : Bool} {D K : List Int} {H : Int → Prop} {last : Int} {pend : Int → Prop} (h : DI t down e fr D K H last pend) (he : gt D e = 0) {a0 : Int} (h0 : 0 ≤ a0) (h1 : a0 < 2 * t.links.length) (ho : okArc t down e fr a0 = true)
  (hy : gt D (yOf t fr a0) = last) (hx : gt D (xOf t fr a0) = -1) (hle : H (xOf t fr a0) → last + costT t a0 ≤ gt K (xOf t fr a0)) :
  DI t down e fr D (K.set (xOf t fr a0).toNat (last + costT t a0)) (fun x => H x ∨ x = xOf t fr a0) last (fun a => pend a ∧ a ≠ a0) := by
 have hf := xy_facts hv fr h0 h1
 have hc := arc_facts hv h0 h1
 have hl0 := h.l0
 have hk := gt_setD (D := K) (n := xOf t fr a0) (v := last + costT t a0) hf.1.1 (by rw [h.kl]; exact hf.1.2)
 refine { h with kl := by rw [List.length_set]; exact h.kl, held := fun x hx' => ?_, root := .inl he, fix := fun a b0 b1 hoa hya => ?_, th := fun x hx' hxe => ?_ }
 ·rcases hx' with hh | hh
  ·have := h.held x hh
   rw [hk x this.1]
   refine ⟨this.1, this.2.1, this.2.2.1, ?_⟩
   split
   ·omega
   ·exact this.2.2.2
  ·subst hh
   rw [hk _ hf.1.1, if_pos rfl]
   exact ⟨hf.1.1, hf.1.2, hx, by omega⟩
 ·have hfa := xy_facts hv fr b0 b1
  rw [hk _ hfa.1.1]
  by_cases e1 : a = a0
  ·subst e1
   exact .inr (.inr ⟨.inr rfl, by rw [if_pos rfl]; omega⟩)
  ·rcases h.fix a b0 b1 hoa hya with h2 | h2 | h2
   ·exact .inl ⟨h2, e1⟩
   ·exact .inr (.inl h2)
   ·refine .inr (.inr ⟨.inl h2.1, ?_⟩)
    split
    ·rename_i e2
     have := hle (e2 ▸ h2.1)
     rw [e2] at h2
     omega
    ·exact h2.2
 ·by_cases e1 : x = xOf t fr a0
  ·subst e1
   exact ⟨a0, h0, h1, ho, rfl, by omega, by rw [hk _ hf.1.1, if_pos rfl, hy]⟩
  ·have hh := hx'.resolve_right e1
   rw [hk _ (h.held x hh).1, if_neg e1]
   exact h.th x hh hxe
end Go.Ab

/-
  Shortest paths with a queue: the invariant over a pop, and the queue's contracts over one predicate.
-/
namespace Go.Ab
open Go.Proofs
theorem DI.pop {t : Top} (hv : validT t = true) {down : List Bool} {e : Int} {fr : Bool} {D K : List Int} {H : Int → Prop} {last : Int} (h : DI t down e fr D K H last fun _ => False) (he0 : 0 ≤ e) {n : Int} (hn : H n) (hmin : ∀ x, H x → gt K n ≤ gt K x) :
    DI t down e fr (D.set n.toNat (gt K n)) (K.set n.toNat 0) (fun x => H x ∧ x ≠ n) (gt K n) (fun a => yOf t fr a = n) := by
  obtain ⟨n0, n1, n2, n3⟩ := h.held n hn
  have hD := fun j j0 => gt_setD (D := D) (n := n) (v := gt K n) n0 (by rw [h.len]; exact n1) j j0
  have hK := fun j j0 => gt_setD (D := K) (n := n) (v := 0) n0 (by rw [h.kl]; exact n1) j j0
  have hl0 := h.l0
  have hx : D[n.toNat]? = some (-1) := by
    have hlt : n.toNat < D.length := by have := h.len; omega
    have := n2
    rw [gt, List.getD_eq_getElem?_getD, List.getElem?_eq_getElem hlt, Option.getD_some] at this
    rw [List.getElem?_eq_getElem hlt, this]
  have hcnt : cntD (D.set n.toNat (gt K n)) = cntD D + 1 := by
    have := sum_set (fun d => if d < 0 then 0 else 1) D n.toNat (gt K n) (-1) hx
    simp only [cntD]
    simp only [show ((-1 : Int) < 0) = True by simp, if_true, show ¬ (gt K n < 0) by omega, if_false] at this
    omega
  have hkn : gt K n ≤ 65535 * (cntD D + 1) := by
    by_cases hne : n = e
    · subst hne
      rcases h.root with h1 | h1
      · omega
      · rw [h1.2.1]; omega
    · obtain ⟨a, a0, a1, a2, a3, a4, a5⟩ := h.th n hn hne
      have hf := xy_facts hv fr a0 a1
      have hc := arc_facts hv a0 a1
      have := h.hi _ hf.2.1.1 hf.2.1.2
      omega
  have ny : ∀ y, 0 ≤ gt D y → y ≠ n := fun y hy e => by subst e; omega
  refine
    { len := by rw [List.length_set]; exact h.len
      kl := by rw [List.length_set]; exact h.kl
      lo := fun i i0 i1 => ?_
      hi := fun i i0 i1 => ?_
      l0 := by omega
      held := fun x hx => ?_
      past := fun x x0 x1 => ?_
      root := ?_
      fix := fun a a0 a1 ho hy => ?_
      td := fun x x0 x1 hxe hx => ?_
      th := fun x hx hxe => ?_ }
  · rw [hD i i0]; have := h.lo i i0 i1; split <;> omega
  · rw [hD i i0, hcnt]; have := h.hi i i0 i1; split <;> omega
  · have := h.held x hx.1
    rw [hD x this.1, hK x this.1, if_neg hx.2, if_neg hx.2]
    exact ⟨this.1, this.2.1, this.2.2.1, hmin x hx.1⟩
  · rw [hD x x0]; have := h.past x x0 x1; split <;> omega
  · left
    rcases h.root with h1 | h1
    · have hne : e ≠ n := fun q => by subst q; omega
      rw [hD e he0, if_neg hne]; exact h1
    · have := h1.2.2.2 n hn
      subst this
      rw [hD n n0, if_pos rfl]; exact h1.2.1
  · have hf := xy_facts hv fr a0 a1
    rw [hD _ hf.1.1]
    rw [hD _ hf.2.1.1] at hy ⊢
    by_cases e1 : yOf t fr a = n
    · exact .inl e1
    · rw [if_neg e1] at hy ⊢
      rcases h.fix a a0 a1 ho hy with h2 | h2 | h2
      · exact h2.elim
      · right; left
        rw [if_neg (ny _ h2.1)]; exact h2
      · by_cases e2 : xOf t fr a = n
        · right; left
          rw [if_pos e2]
          rw [e2] at h2
          exact ⟨by omega, h2.2⟩
        · right; right
          rw [hK _ hf.1.1, if_neg e2]
          exact ⟨⟨h2.1, e2⟩, h2.2⟩
  · rw [hD x x0] at hx ⊢
    by_cases e1 : x = n
    · rw [if_pos e1]
      obtain ⟨a, a0, a1, a2, a3, a4, a5⟩ := h.th x (e1 ▸ hn) hxe
      have hf := xy_facts hv fr a0 a1
      refine ⟨a, a0, a1, a2, a3, ?_⟩
      rw [hD _ hf.2.1.1, if_neg (ny _ a4)]
      exact ⟨a4, by rw [← a5, e1]⟩
    · rw [if_neg e1] at hx ⊢
      obtain ⟨a, a0, a1, a2, a3, a4, a5⟩ := h.td x x0 x1 hxe hx
      have hf := xy_facts hv fr a0 a1
      refine ⟨a, a0, a1, a2, a3, ?_⟩
      rw [hD _ hf.2.1.1, if_neg (ny _ a4)]
      exact ⟨a4, a5⟩
  · have hh := h.held x hx.1
    rw [hK x hh.1, if_neg hx.2]
    obtain ⟨a, a0, a1, a2, a3, a4, a5⟩ := h.th x hx.1 hxe
    have hf := xy_facts hv fr a0 a1
    refine ⟨a, a0, a1, a2, a3, ?_⟩
    rw [hD _ hf.2.1.1, if_neg (ny _ a4)]
    exact ⟨a4, a5⟩
def QS (n : Nat) (K O : List Int) (h : Hp) : Prop := ∃ vo M ro ks tl ps es, M = O.length ∧ h = hpH vo n M ro ks ps es ∧ ks = K.map encI ∧ HQ n M tl K ps es O ∧ HO K O
theorem QS.place {n : Nat} {K O : List Int} {h : Hp} (q : QS n K O h) {p : Nat} (hp : p < O.length) : 0 ≤ at' O p ∧ at' O p < n := by
 obtain ⟨vo, M, ro, ks, tl, ps, es, rfl, h1, h2, h3, h4⟩ := q
 obtain ⟨L, hL, hw⟩ := h3.pl
 have := hw.rg p hp
 exact ⟨this.1, this.2.1⟩
theorem QS.mem {n : Nat} {K O : List Int} {h : Hp} (q : QS n K O h) {x : Int} (hx : x ∈ O) : 0 ≤ x ∧ x < n ∧ ∃ p, p < O.length ∧ at' O p = x := by
 obtain ⟨p, hp, rfl⟩ := List.getElem_of_mem hx
 have e : at' O p = O[p] := by simp [at', List.getD_eq_getElem?_getD, hp]
 have := q.place hp
 rw [e] at this
 exact ⟨this.1, this.2, p, hp, e⟩
theorem QS.least {n : Nat} {K O : List Int} {h : Hp} (q : QS n K O h) {x : Int} (hx : x ∈ O) : gt K (at' O 0) ≤ gt K x := by
 obtain ⟨x0, x1, p, hp, e⟩ := q.mem hx
 have q0 := q.place (p := 0) (by omega)
 obtain ⟨vo, M, ro, ks, tl, ps, es, rfl, h1, h2, h3, h4⟩ := q
 obtain ⟨L, hL, hw⟩ := h3.pl
 have := h4.root p hp
 rw [e] at this
 have kl := hw.kl
 have gk : ∀ y : Int, 0 ≤ y → y < n → gt K y = at' K y.toNat := fun y y0 y1 => by
  have : y.toNat < K.length := by omega
  simp [gt, at', List.getD_eq_getElem?_getD, this]
 rw [gk _ q0.1 q0.2, gk _ x0 x1]
 exact leK_key this
theorem pigeon : ∀ (n m : Nat) (f : Nat → Nat), (∀ p, p < m → f p < n) → (∀ p q, p < m → q < m → f p = f q → p = q) → m ≤ n := by
 intro n
 induction n with
 | zero =>
  intro m f h _
  rcases Nat.eq_zero_or_pos m with h0 | h0
  ·omega
  ·have := h 0 h0; omega
 | succ n ih =>
  intro m f h hi
  cases m with
  | zero => omega
  | succ m =>
   have := ih m (fun p => if f p = n then f m else f p) (fun p hp => by
    have h1 := h p (by omega)
    have h2 := h m (by omega)
    split
    ·rename_i e
     have : f m ≠ n := fun e2 => by have := hi p m (by omega) (by omega) (by omega); omega
     omega
    ·omega) (fun p q hp hq e => by
    split at e <;> split at e
    ·exact hi p q (by omega) (by omega) (by omega)
    ·have := hi m q (by omega) (by omega) e; omega
    ·have := hi p m (by omega) (by omega) e; omega
    ·exact hi p q (by omega) (by omega) e)
   omega
theorem QS.len {n : Nat} {K O : List Int} {h : Hp} (q : QS n K O h) : O.length ≤ n := by
 obtain ⟨vo, M, ro, ks, tl, ps, es, rfl, h1, h2, h3, h4⟩ := q
 obtain ⟨L, hL, hw⟩ := h3.pl
 refine pigeon n O.length (fun p => (at' O p).toNat) (fun p hp => ?_) fun p q hp hq e => ?_
 ·have := hw.rg p hp; omega
 ·have a := hw.rg p hp
  have b := hw.rg q hq
  exact hw.inj hp hq (by omega)
theorem qpop0_ok (P : Program) (hP : P = Try.prog) {n : Nat} {K : List Int} {h : Hp} (q : QS n K [] h) : FnS P n_heap_Heap_Pop [.c (.ptr 0 0 0 0)] h fun r h' => r = .tup [iA 0, iA 0, bA false] ∧ h' = h := by
 obtain ⟨vo, M, ro, ks, tl, ps, es, rfl, rfl, h2, h3, h4⟩ := q
 exact pop0_ok P hP
theorem qpop_ok (P : Program) (hP : P = Try.prog) {n : Nat} {K O : List Int} {h : Hp} (q : QS n K O h) (hO : O ≠ []) (_hn : (n : Int) ≤ 1000000) (hm : (O.length : Int) ≤ 1000000) :
  FnS P n_heap_Heap_Pop [.c (.ptr 0 0 0 0)] h fun r h' => r = .tup [iA (at' O 0), iA (gt K (at' O 0)), bA true] ∧ ∃ O', QS n (K.set (at' O 0).toNat 0) O' h' ∧ ∀ x, x ∈ O' ↔ x ∈ O ∧ x ≠ at' O 0 := by
 have hl : 0 < O.length := by cases O with | nil => exact absurd rfl hO | cons => simp
 have q0 := q.place hl
 obtain ⟨vo, M, ro, ks, tl, ps, es, rfl, rfl, h2, h3, h4⟩ := q
 obtain ⟨i, hi⟩ : ∃ i : Nat, at' O 0 = i := ⟨(at' O 0).toNat, by omega⟩
 obtain ⟨L, hL, hw⟩ := h3.pl
 have kl := hw.kl
 refine (pop_ok P hP (m := O.length - 1) (M := O.length) (by omega) h2 h3 hm h4 hi).mono fun r h' ⟨r1, tl', ks', ps', es', O', g1, g2, g3, g4, g5⟩ => ⟨?_, O', ⟨vo, _, ro, ks', tl', ps', es', rfl, ?_, ?_, ?_, ?_⟩, ?_⟩
 ·rw [r1, hi]
  have : gt K (i : Int) = at' K i := by
   have : i < K.length := by omega
   simp [gt, at', List.getD_eq_getElem?_getD, this]
  rw [this]
 ·rw [g1, g3.len]
 ·rw [g2, hi]; rfl
 ·rw [hi, g3.len]; exact g3
 ·rw [hi]; exact g4
 ·intro x; rw [hi]; exact g5 x
theorem qset_ok (P : Program) (hP : P = Try.prog) {n : Nat} {K O : List Int} {h : Hp} (q : QS n K O h) (hn : (n : Int) ≤ 1000000) (hm : (O.length : Int) < 1000000) {i : Int} (i0 : 0 ≤ i) (i1 : i < n) (key : Int) :
  FnS P n_heap_Heap_Set [.c (.ptr 0 0 0 0), iA i, iA key] h fun r h' => r = iA 0 ∧ ∃ O', QS n (K.set i.toNat key) O' h' ∧ ∀ x, x ∈ O' ↔ x ∈ O ∨ x = i := by
 obtain ⟨j, rfl⟩ : ∃ j : Nat, i = j := ⟨i.toNat, by omega⟩
 have fin : ∀ r h', SetR n K O j key r h' → r = iA 0 ∧ ∃ O', QS n (K.set ((j : Int)).toNat key) O' h' ∧ ∀ x, x ∈ O' ↔ x ∈ O ∨ x = (j : Int) := by
  rintro r h' ⟨r1, vo', M', ro', tl', ks', ps', es', O', g1, g2, g3, g4, g5⟩
  refine ⟨r1, O', ⟨vo', _, ro', ks', tl', ps', es', rfl, by rw [g1, g3.len], g2, by rw [g3.len]; exact g3, g4⟩, g5⟩
 by_cases hi : (j : Int) ∈ O
 ·obtain ⟨_, _, p, hp, hpe⟩ := q.mem hi
  obtain ⟨vo, M, ro, ks, tl, ps, es, rfl, rfl, h2, h3, h4⟩ := q
  exact (setHeld_ok P hP h2 h3 (by omega) hn h4 (by omega) hp hpe key).mono fin
 ·obtain ⟨vo, M, ro, ks, tl, ps, es, rfl, rfl, h2, h3, h4⟩ := q
  exact (setNew_ok P hP h2 h3 hm hn h4 (by omega) hi key).mono fin
theorem qkey_ok (P : Program) (hP : P = Try.prog) {n : Nat} {K O : List Int} {h : Hp} (q : QS n K O h) (hn : (n : Int) ≤ 1000000) {i : Int} (i0 : 0 ≤ i) (i1 : i < n) :
  FnS P n_heap_Heap_Key [.c (.ptr 0 0 0 0), iA i] h fun r h' => ((i ∈ O ∧ r = .tup [iA (gt K i), bA true]) ∨ (i ∉ O ∧ r = .tup [iA 0, bA false])) ∧ h' = h := by
 obtain ⟨j, rfl⟩ : ∃ j : Nat, i = j := ⟨i.toNat, by omega⟩
 obtain ⟨vo, M, ro, ks, tl, ps, es, rfl, rfl, h2, h3, h4⟩ := q
 obtain ⟨L, hL, hw⟩ := h3.pl
 have kl := hw.kl
 by_cases hi : (j : Int) ∈ O
 ·refine (key_ok P hP h2 h3 hn (by omega) hi).mono fun r h' ⟨r1, r2⟩ => ⟨.inl ⟨hi, ?_⟩, r2⟩
  have : gt K (j : Int) = at' K j := by
   have : j < K.length := by omega
   simp [gt, at', List.getD_eq_getElem?_getD, this]
  rw [r1, this]
 ·exact (key0_ok P hP h3 hn (by omega) hi (by rw [h2, List.length_map]; exact kl)).mono fun r h' ⟨r1, r2⟩ => ⟨.inr ⟨hi, r1⟩, r2⟩
end Go.Ab

/-
  Calls over a few of the caller's blocks.
-/
namespace Go.Ab
open Go.Proofs
def frOk (h : Hp) (ρ : Nat → Nat) : Nat → Hp → Prop
 | _, [] => True
 | n, k :: r => h[ρ n]? = some (rnB ρ k) ∧ frOk h ρ (n + 1) r
theorem frOk_get {h : Hp} {ρ : Nat → Nat} : ∀ {hc : Hp} {n : Nat}, frOk h ρ n hc → ∀ i k, hc[i]? = some k → h[ρ (n + i)]? = some (rnB ρ k) := by
 intro hc
 induction hc with
 | nil => intro n _ i k h; simp at h
 | cons b r ih =>
  intro n ⟨h1, h2⟩ i k hk
  cases i with
  | zero => simp at hk; subst hk; exact h1
  | succ i =>
   simp at hk
   have := ih h2 i k hk
   rw [show n + 1 + i = n + (i + 1) by omega] at this; exact this
theorem call_fr {P : Program} {m : Nat} {L : Lv} {h : Hp} {f : Nat} {xs : List X} {K : Lv → AV → Hp → Prop} {args : List AV} {hc : Hp} {R : AV → Hp → Prop} (σ : List Nat) (hf : FnS P f args hc R) (ha : evsN L xs = rnAs (rho σ h.length) args) (hlen : σ.length = hc.length) (hnd : σ.Nodup)
  (hh : frOk h (rho σ h.length) 0 hc) (hcl : refsH hc.length hc = true) (hca : args.all (refsA hc.length) = true) (k : ∀ r hc', R r hc' → K L (rnA (rho σ h.length) r) (backH h σ hc')) : CallS P m false L h f xs K := by
 refine .fn ?_
 rw [ha]
 refine (hf.frame σ h hlen hnd (fun i b hb => by have := frOk_get hh i b hb; rw [Nat.zero_add] at this; exact this) hcl fun x hx => List.all_eq_true.1 hca x hx).mono ?_
 rintro r h' ⟨r0, hc', h1, rfl, rfl⟩
 exact k r0 hc' h1
theorem callv_fr {P : Program} {h : Hp} {f : Nat} {args' : List AV} {K : AV → Hp → Prop} {args : List AV} {hc : Hp} {R : AV → Hp → Prop} (σ : List Nat) (hf : FnS P f args hc R) (ha : args' = rnAs (rho σ h.length) args) (hlen : σ.length = hc.length) (hnd : σ.Nodup)
  (hh : frOk h (rho σ h.length) 0 hc) (hcl : refsH hc.length hc = true) (hca : args.all (refsA hc.length) = true) (k : ∀ r hc', R r hc' → K (rnA (rho σ h.length) r) (backH h σ hc')) : CallV P h f args' K := by
 refine .fn ?_
 rw [ha]
 refine (hf.frame σ h hlen hnd (fun i b hb => by have := frOk_get hh i b hb; rw [Nat.zero_add] at this; exact this) hcl fun x hx => List.all_eq_true.1 hca x hx).mono ?_
 rintro r h' ⟨r0, hc', h1, rfl, rfl⟩
 exact k r0 hc' h1
end Go.Ab

/-
  The program's costs, masks and overloaded nodes.
-/
namespace Go.Ab
open Go.Proofs
theorem gover_ok (P : Program) (hP : P = Try.prog) (t : Top) (n : Int) (hv : validT t = true) (h0 : 0 ≤ n) (h1 : n < t.nodes) : Ret P n_graph_Over [topA t, iA n] (bA (ovT t n)) := by
 refine ret_start (hP ▸ mixed) (hP ▸ fn_graph_Over) (hP ▸ c_graph_Over) (Nat.le_of_ble_eq_true rfl) fun Λ Λo K hK => ?_
 clear hP
 have v1 := validT_spec.1 hv
 have hta : ovT t n = (validT t && decide (0 ≤ n ∧ n < t.ov.length) && t.ov.getD n.toNat false) := rfl
 rw [hv] at hta
 have leaf : ∀ b, ovT t n = b → K (bA b) := fun b hb => by rw [← hb]; exact hK
 generalize ovT t n = r at *
 clear hK hv
 obtain ⟨nodes, ov, links⟩ := t
 simp only [topA, boolsD, linksD] at *
 generalize hol : ov.map encB = ol at *
 generalize hll : links.map encLk = ll at *
 have hlo : Λ ol = ov.length := by rw [Λo, ← hol]; simp
 have hls : Λ ll = links.length := by rw [Λo, ← hll]; simp
 conv => cbv
 repeat' first | (intro e he; obtain ⟨x, hx, rfl⟩ := map_get' hol he; (conv => cbv)) | exact gu | exact trivial | refine And.intro ?_ ?_ | (intro hc; exact absurd hc (by decide)) | (intro hc; exfalso; omega) | (intro hc; (first | rw [wrap_small (by omega) (by omega)] at hc | rw [nI_eq] at hc | skip); try (conv => cbv))
 ·refine leaf _ (hta.trans ?_)
  rw [decide_eq_true (by omega)]; simp [hx]
 ·refine leaf _ (hta.trans ?_)
  rw [decide_eq_false (by omega)]; simp
theorem gdown_ok (P : Program) (hP : P = Try.prog) (down : List Bool) (a : Int) (h : down.length = 0 ∨ (0 ≤ a ∧ a < down.length)) : Ret P n_graph_Down [boolsA down, iA a] (bA (!upB down a)) := by
 refine ret_start (hP ▸ mixed) (hP ▸ fn_graph_Down) (hP ▸ c_graph_Down) (Nat.le_of_ble_eq_true rfl) fun Λ Λo K hK => ?_
 clear hP
 have leaf : ∀ b, (!upB down a) = b → K (bA b) := fun b hb => by rw [← hb]; exact hK
 have hta : upB down a = (decide (down.length = 0) || !down.getD a.toNat false) := rfl
 generalize upB down a = r at *
 simp only [boolsA, boolsD] at *
 generalize hdl : down.map encB = dl at *
 have hdn : Λ dl = down.length := by rw [Λo, ← hdl]; simp
 clear hK
 conv => cbv
 repeat' first | (intro e he; obtain ⟨x, hx, rfl⟩ := map_get' hdl he; (conv => cbv)) | exact gu | exact trivial | refine And.intro ?_ ?_ | (intro hc; exact absurd hc (by decide)) | (intro hc; exfalso; omega) | (intro hc; (first | rw [wrap_small (by omega) (by omega)] at hc | rw [nI_eq] at hc | skip); try (conv => cbv))
 ·refine leaf _ ?_
  rw [hta, decide_eq_false (by omega)]; simp [hx]
 ·refine leaf _ ?_
  rw [hta, decide_eq_true (by omega)]; simp
theorem gfits_ok (P : Program) (hP : P = Try.prog) (t : Top) (down : List Bool) (h : (t.links.length : Int) ≤ 256) : Ret P n_graph_Fits [topA t, boolsA down] (bA (decide (down.length = 0 ∨ down.length = 2 * t.links.length))) := by
 refine ret_start (hP ▸ mixed) (hP ▸ fn_graph_Fits) (hP ▸ c_graph_Fits) (Nat.le_of_ble_eq_true rfl) fun Λ Λo K hK => ?_
 have ha := garcs_ok P hP t h
 clear hP
 have yes := yes_of hK
 have no := no_of hK
 simp only [boolsA, boolsD] at *
 generalize hdl : down.map encB = dl at *
 have hdn : Λ dl = down.length := by rw [Λo, ← hdl]; simp
 obtain ⟨nodes, ov, links⟩ := t
 simp only [topA, boolsD, linksD] at *
 generalize hol : ov.map encB = ol at *
 generalize hll : links.map encLk = ll at *
 have hlo : Λ ol = ov.length := by rw [Λo, ← hol]; simp
 have hls : Λ ll = links.length := by rw [Λo, ← hll]; simp
 conv => cbv
 repeat' first | refine call_i ha rfl rfl ?_ | exact gu | exact trivial | refine And.intro ?_ ?_ | (intro hc; exact absurd hc (by decide)) | (intro hc; exfalso; omega) | (intro hc; (first | rw [wrap_small (by omega) (by omega)] at hc | rw [nI_eq] at hc | skip); try (conv => cbv))
 ·exact yes (by omega)
 ·exact yes (by omega)
 ·exact no (by omega)
theorem gcost_ok (P : Program) (hP : P = Try.prog) (t : Top) (a : Int) (hv : validT t = true) (h0 : 0 ≤ a) (h1 : a < 2 * t.links.length) : Ret P n_graph_Cost [topA t, iA a] (iA (costT t a)) := by
 refine ret_start (hP ▸ mixed) (hP ▸ fn_graph_Cost) (hP ▸ c_graph_Cost) (Nat.le_of_ble_eq_true rfl) fun Λ Λo K hK => ?_
 clear hP
 have v1 := validT_spec.1 hv
 have harc : arcsT t = 2 * t.links.length := by rw [arcsT, if_pos hv]
 have leaf : ∀ b, costT t a = b → K (iA b) := fun b hb => by rw [← hb]; exact hK
 have hta : costT t a = if 0 ≤ a ∧ a < arcsT t then (if a % 2 = 0 then (lkAt t a).c0 else (lkAt t a).c1) else -1 := rfl
 rw [if_pos (by omega)] at hta
 have hat : ∀ x, t.links[(a / 2).toNat]? = some x → lkAt t a = x := fun x hx => by simp [lkAt, hx]
 generalize costT t a = cc at *
 clear hK hv harc
 obtain ⟨nodes, ov, links⟩ := t
 simp only [topA, boolsD, linksD] at *
 generalize hol : ov.map encB = ol at *
 generalize hll : links.map encLk = ll at *
 have hlo : Λ ol = ov.length := by rw [Λo, ← hol]; simp
 have hls : Λ ll = links.length := by rw [Λo, ← hll]; simp
 conv => cbv
 repeat' first | (intro hc; rw [tdiv2 (by omega) (by omega)] at hc; conv => cbv) | (intro hc; rw [tmod2 (by omega)] at hc; conv => cbv) | (intro (_ : Unit); decide) | (intro e he; obtain ⟨⟨xa, xb, xc, xd, xe, xf, xg⟩, hx, rfl⟩ := map_get' hll he; (conv => cbv)) | exact gu | exact trivial | refine And.intro ?_ ?_ | (intro hc; exact absurd hc (by decide)) | (intro hc; exfalso; omega) | (intro hc; (first | rw [wrap_small (by omega) (by omega)] at hc | rw [nI_eq] at hc | skip); try (conv => cbv))
 all_goals
  refine leaf _ ?_
  rw [hta, hat _ (get_at hx (by omega))]
 ·rw [if_pos (by omega)]
 ·rw [if_neg (by omega)]
end Go.Ab

/-
  Shortest paths with a queue: the contract of the search.
-/
namespace Go.Ab
open Go.Proofs
abbrev h2H (t : Top) (rD : D) : Hp := [.bx [.d (iD t.nodes), .d (boolsD t.ov), .d (linksD t.links)], .bx [.d rD]]
theorem fillq_get {α : Type} (a b : α) {k n : Nat} (h : k ≤ n) (i : Nat) : (List.replicate k a ++ List.replicate (n - k) b)[i]? = if i < k then some a else if i < n then some b else none := by
 rcases Nat.lt_or_ge i k with h1 | h1
 ·rw [List.getElem?_append_left (by simpa using h1), List.getElem?_replicate, if_pos h1, if_pos h1]
 ·rw [List.getElem?_append_right (by simpa using h1), List.getElem?_replicate, List.length_replicate, if_neg (show ¬ i < k by omega)]
  by_cases h2 : i < n
  ·rw [if_pos (by omega), if_pos h2]
  ·rw [if_neg (by omega), if_neg h2]
theorem fillq_set {α : Type} (a b : α) {k n : Nat} (h : k < n) : (List.replicate k a ++ List.replicate (n - k) b).set k a = List.replicate (k + 1) a ++ List.replicate (n - (k + 1)) b := by
 refine List.ext_getElem? fun i => ?_
 rw [fillq_get a b h]
 by_cases e : k = i
 ·subst e
  rw [List.getElem?_set_self (by simp; omega), if_pos (by omega)]
 ·rw [List.getElem?_set_ne e, fillq_get a b (Nat.le_of_lt h)]
  by_cases h1 : i < k
  ·rw [if_pos h1, if_pos (by omega)]
  ·rw [if_neg h1, if_neg (show ¬ i < k + 1 by omega)]
theorem DI.init {t : Top} {down : List Bool} {e : Int} {fr : Bool} {K : List Int} {H : Int → Prop} {nn : Nat} (hn : (nn : Int) = t.nodes) (e0 : 0 ≤ e) (e1 : e < t.nodes) (hK : (K.length : Int) = t.nodes) (hk : gt K e = 0) (hH : ∀ x, H x ↔ x = e) : DI t down e fr (List.replicate nn (-1)) K H 0 fun _ => False := by
  have hg : ∀ i : Int, gt (List.replicate nn (-1)) i = -1 := fun i => by
    simp only [gt, List.getD_eq_getElem?_getD, List.getElem?_replicate]; split <;> rfl
  exact
    { len := by simp [hn]
      kl := hK
      lo := fun i _ _ => by rw [hg]; omega
      hi := fun i _ _ => by rw [hg]; omega
      l0 := by omega
      held := fun x hx => by rw [(hH x).1 hx, hg, hk]; omega
      past := fun x _ _ => by rw [hg]; omega
      root := .inr ⟨(hH e).2 rfl, hk, rfl, fun x hx => (hH x).1 hx⟩
      fix := fun a _ _ _ hy => by rw [hg] at hy; omega
      td := fun x _ _ _ hx => by rw [hg] at hx; omega
      th := fun x hx hxe => absurd ((hH x).1 hx) hxe }
theorem QS.init (n : Nat) : QS n (List.replicate n 0) [] (hpH 0 n 0 false ((List.replicate n 0).map encI) ((List.replicate n 0).map encI) []) := by
 refine ⟨0, 0, false, _, [], _, [], rfl, rfl, rfl, ⟨⟨List.replicate n 0, rfl, ?_⟩, rfl, rfl⟩, ?_⟩
 ·refine ⟨by simp, by simp, fun p hp => by simp at hp, fun i hi => .inl ?_⟩
  simp [at', List.getD_eq_getElem?_getD, hi]
 ·intro c _ hc; simp at hc
theorem cnt_set {D : List Int} {n v : Int} (n0 : 0 ≤ n) (n1 : n < D.length) (h : gt D n = -1) (hv : 0 ≤ v) : cntD (D.set n.toNat v) = cntD D + 1 := by
 have hx : D[n.toNat]? = some (-1) := by
  have hlt : n.toNat < D.length := by omega
  have := h
  rw [gt, List.getD_eq_getElem?_getD, List.getElem?_eq_getElem hlt, Option.getD_some] at this
  rw [List.getElem?_eq_getElem hlt, this]
 have := sum_set (fun d => if d < 0 then 0 else 1) D n.toNat v (-1) hx
 simp only [cntD]
 simp only [show ((-1 : Int) < 0) = True by simp, if_true, show ¬ (v < 0) by omega, if_false] at this
 omega
theorem encI_set (D : List Int) (i : Nat) (v : Int) : (D.map encI).set i [iD v] = (D.set i v).map encI := by
 rw [List.map_set]; rfl
theorem encI_at {D : List Int} {i : Nat} (h : i < D.length) : (D.map encI)[i]? = some [iD (gt D (i : Int))] := by
 rw [List.getElem?_map, List.getElem?_eq_getElem h]
 simp [gt, List.getD_eq_getElem?_getD, h, encI]
theorem drop_mem {α : Type} {l : List α} {k : Nat} {a x : α} (h : l[k]? = some a) (hx : x ∈ l.drop k) : x = a ∨ x ∈ l.drop (k + 1) := by
 rw [List.drop_eq_getElem_cons (get_lt h)] at hx
 rcases List.mem_cons.1 hx with e | e
 ·left
  rw [List.getElem?_eq_getElem (get_lt h)] at h
  exact e.trans (Option.some.inj h)
 ·exact .inr e
theorem row_mem {t : Top} (hv : validT t = true) {fr : Bool} {n a : Int} (h : a ∈ rowG t fr n (2 * t.links.length)) : 0 ≤ a ∧ a < 2 * t.links.length ∧ yOf t (!fr) a = n := by
 simp only [rowG, List.mem_filter, arcsTo, List.mem_map, List.mem_range, decide_eq_true_eq] at h
 obtain ⟨⟨k, hk, rfl⟩, h2⟩ := h
 have harc : arcsT t = 2 * t.links.length := by rw [arcsT, if_pos hv]
 refine ⟨by omega, by omega, ?_⟩
 rw [← h2]
 unfold yOf endG tailT headT tailG headG
 cases fr <;> simp [harc] <;> omega
theorem mem_row {t : Top} (hv : validT t = true) {fr : Bool} {n a : Int} (h0 : 0 ≤ a) (h1 : a < 2 * t.links.length) (h : yOf t (!fr) a = n) : a ∈ rowG t fr n (2 * t.links.length) := by
 simp only [rowG, List.mem_filter, arcsTo, List.mem_map, List.mem_range, decide_eq_true_eq]
 have harc : arcsT t = 2 * t.links.length := by rw [arcsT, if_pos hv]
 refine ⟨⟨a.toNat, by omega, by omega⟩, ?_⟩
 rw [← h]
 unfold yOf endG tailT headT tailG headG
 have : 0 ≤ a ∧ a < arcsT t := by omega
 cases fr <;> simp [this]
set_option maxHeartbeats 4000000 in
theorem srun_ok (P : Program) (hP : P = Try.prog) (t : Top) (hv : validT t = true) (down : List Bool) (hd : down.length = 0 ∨ down.length = 2 * t.links.length) (root : Int) (r0 : 0 ≤ root) (r1 : root < t.nodes) (fr : Bool) (f1 f2 : Nat) (rD : D) (hf1 : FnOk P f1) (hf2 : FnOk P f2)
  (h1 : ∀ n : Int, 0 ≤ n → n < t.nodes → FnS P f1 [iA n, .c (.ptr 1 0 0 0)] (h2H t rD) fun r h' => r = intsA (rowG t (!fr) n (2 * t.links.length)) ∧ h' = h2H t rD)
  (h2 : ∀ a : Int, 0 ≤ a → a < 2 * t.links.length → FnS P f2 [iA a, .c (.ptr 0 0 0 0)] (h2H t rD) fun r h' => r = iA (xOf t fr a) ∧ h' = h2H t rD) :
  FnS P n_spf_search_run [.agg [.d (iD t.nodes), .d (boolsD t.ov), .d (linksD t.links), .d (boolsD down), .d (iD root), .fn false f1 [.ptr 1 0 0 0], .fn false f2 [.ptr 0 0 0 0]]] (h2H t rD) fun r h' =>
   ∃ D q0 q1 q2 q3 q4, IsDist t down root fr D ∧ r = .c (.arr 3 0 0 t.nodes.toNat) ∧ h' = h2H t rD ++ [q0, .da true 0 1 (D.map encI), q1, q2, q3, q4] := by
 refine heap_start (hP ▸ mixed) (hP ▸ fn_spf_search_run) (hP ▸ c_spf_search_run) (Nat.le_of_ble_eq_true rfl) fun Λ Λo KK hKK => ?_
 have v1 := validT_spec.1 hv
 obtain ⟨nn, hnn⟩ : ∃ nn : Nat, (nn : Int) = t.nodes := ⟨t.nodes.toNat, by omega⟩
 have hnew := hnew_ok P hP nn (by omega)
 have hset := fun {K O h} (q : QS nn K O h) (hm : (O.length : Int) < 1000000) (i : Int) (i0 : 0 ≤ i) (i1 : i < nn) (key : Int) => qset_ok P hP q (by omega) hm i0 i1 key
 have hpop0 := fun {K h} (q : QS nn K [] h) => qpop0_ok P hP q
 have hpop := fun {K O h} (q : QS nn K O h) (hO : O ≠ []) (hm : (O.length : Int) ≤ 1000000) => qpop_ok P hP q hO (by omega) hm
 have hkey := fun {K O h} (q : QS nn K O h) (i : Int) (i0 : 0 ≤ i) (i1 : i < nn) => qkey_ok P hP q (by omega) i0 i1
 have hover := fun n h0 h1 => gover_ok P hP t n hv h0 h1
 have hdown := fun a h => gdown_ok P hP down a h
 have hcost := fun a h0 h1 => gcost_ok P hP t a hv h0 h1
 rw [hnn] at hnew
 have hq0 := QS.init nn
 obtain ⟨ks0, hks0⟩ : ∃ x, x = (List.replicate nn (0 : Int)).map encI := ⟨_, rfl⟩
 rw [← hks0] at hnew hq0
 clear hP
 obtain ⟨nodes, hN⟩ : ∃ x, x = t.nodes := ⟨_, rfl⟩
 obtain ⟨ol, hol⟩ : ∃ x, x = t.ov.map encB := ⟨_, rfl⟩
 obtain ⟨ll, hll⟩ : ∃ x, x = t.links.map encLk := ⟨_, rfl⟩
 obtain ⟨dl, hdl⟩ : ∃ x, x = down.map encB := ⟨_, rfl⟩
 obtain ⟨dn, hdn⟩ : ∃ x : Nat, x = t.nodes.toNat := ⟨_, rfl⟩
 have hdn2 : dn = nn := by omega
 subst hdn2
 simp only [h2H, topA, boolsA, boolsD, linksD, ← hN, ← hol, ← hll, ← hdl] at hKK h1 h2 hover hdown hcost hnew ⊢
 conv => cbv
 repeat' first | exact gu | exact trivial | refine And.intro ?_ ?_ | (intro hc; exact absurd hc (by decide)) | (intro hc; exfalso; omega) | (intro hc; (first | rw [wrap_small (by omega) (by omega)] at hc | rw [nI_eq] at hc | skip); try (conv => cbv))
 rename_i k0 es0 hk0 hes0 n21 hn21
 have hk1 : k0 = dn := by omega
 subst hk1
 rw [show nodes.toNat = k0 by omega] at hes0
 refine loop_up k0 (fun (s : Int × List (List D)) => [(1, .c (.ptr 2 0 0 0)), (3, .c (.arr 3 0 0 k0)), (21, iA n21), (22, iA s.1)]) (fun s => [.bx [.d (.int .i64 nodes), .d (.list false 1 ol), .d (.list false 7 ll)], .bx [.d rD], .bx [.d (.int .i64 nodes), .d (.list false 1 ol), .d (.list false 7 ll), .d (.list false 1 dl), .d (.int .i64 root), .fn false f1 [.ptr 1 0 0 0], .fn false f2 [.ptr 0 0 0 0]], .da true 0 1 s.2]) (fun k s => s.1 = k ∧ k ≤ k0 ∧ s.2 = (List.replicate k (-1) ++ List.replicate (k0 - k) 0).map encI) (0, es0) (Wk.ch) ⟨rfl, by omega, by rw [hes0]; simp [encI]⟩ (fun k s h => h.2.1) ?_
 rintro j ⟨i, es⟩ Q' ⟨hi, hk, hes⟩ norm ex rt
 simp only at hi hes
 have lel : es.length = k0 := by rw [hes]; simp; omega
 by_cases hlt : j < k0
 ·have hfs := fillq_set (-1 : Int) 0 hlt
  have hei : es[j]? = some [iD 0] := by
   rw [hes, List.getElem?_map, fillq_get (-1 : Int) 0 hk, if_neg (by omega), if_pos hlt]; rfl
  clear hset hpop0 hpop hkey h1 h2 hover hdown hcost hnew hq0 hKK
  conv => cbv
  repeat' first | (refine ex _ _ _ ?_; (conv => cbv)) | (refine rt _ _ ?_; (conv => cbv)) | (intro (k : Nat) hk; refine (fun (hz : j = k) => ?_) ?_; rotate_left; omega; subst hz; (conv => cbv)) | (intro (e : List D) he; cases Option.some.inj (he.symm.trans hei); (conv => cbv)) | exact gu | exact trivial | refine And.intro ?_ ?_ | (intro hc; exact absurd hc (by decide)) | (intro hc; exfalso; omega) | (intro hc; (first | rw [wrap_small (by omega) (by omega)] at hc | rw [nI_eq] at hc | skip); try (conv => cbv))
  rename_i es' hes' i'
  refine norm _ _ (i', es') ⟨by simp only; omega, by omega, ?_⟩ (Wk.ch)
  simp only
  rw [hes', hes, ← hfs, List.map_set]; rfl
 have e : j = k0 := by omega
 subst e
 rw [Nat.sub_self] at hes
 simp only [List.replicate_zero, List.append_nil] at hes
 conv => cbv
 repeat' first | (refine ex _ _ _ ?_; (conv => cbv)) | (refine rt _ _ ?_; (conv => cbv)) | (refine call_fr [] hnew rfl rfl (by decide) trivial rfl rfl ?_; rintro r hc' ⟨rfl, rfl⟩; (conv => cbv)) | exact gu | exact trivial | refine And.intro ?_ ?_ | (intro hc; exact absurd hc (by decide)) | (intro hc; exfalso; omega) | (intro hc; (first | rw [wrap_small (by omega) (by omega)] at hc | rw [nI_eq] at hc | skip); try (conv => cbv))
 refine CallS.wk (.nilB 6 2 1 _ rfl rfl) ?_
 refine call_fr [6, 4, 5, 7] (hset hq0 (by simp) root r0 (by omega) 0) rfl rfl (by decide) (by repeat' first | exact trivial | refine And.intro ?_ ?_ | rfl) rfl rfl ?_
 rintro r hc' ⟨rfl, O1, q1, hO1⟩
 have q2 := q1
 obtain ⟨vo1, M1, ro1, ks1, tl1, ps1, es1, -, rfl, -⟩ := q2
 conv => cbv
 clear norm ex rt
 repeat' first | exact gu | exact trivial | refine And.intro ?_ ?_ | (intro hc; exact absurd hc (by decide)) | (intro hc; exfalso; omega) | (intro hc; (first | rw [wrap_small (by omega) (by omega)] at hc | rw [nI_eq] at hc | skip); try (conv => cbv))
 rw [show nodes.toNat = j by omega] at hKK
 have hst0 : QS j ((List.replicate j 0).set root.toNat 0) O1 (hpH vo1 j M1 ro1 ks1 ps1 es1) := q1
 have hdi : DI t down root fr (List.replicate j (-1)) ((List.replicate j 0).set root.toNat 0) (fun x => x ∈ O1) 0 fun _ => False := by
  refine DI.init (by omega) r0 r1 (by simp; omega) ?_ fun x => ?_
  ·rw [gt_setD r0 (by simp; omega) root r0, if_pos rfl]
  ·simp [hO1 x]
 refine loop_up j (fun (s : List (List D) × Nat × Nat × Bool × List (List D) × List (List D) × List (List D)) => [(1, .c (.ptr 2 0 0 0)), (3, .c (.arr 3 0 0 j)), (5, .c (.ptr 6 0 0 0))]) (fun s => [.bx [.d (.int .i64 nodes), .d (.list false 1 ol), .d (.list false 7 ll)], .bx [.d rD], .bx [.d (.int .i64 nodes), .d (.list false 1 ol), .d (.list false 7 ll), .d (.list false 1 dl), .d (.int .i64 root), .fn false f1 [.ptr 1 0 0 0], .fn false f2 [.ptr 0 0 0 0]], .da true 0 1 s.1, .da true 0 1 s.2.2.2.2.1, .da true 0 1 s.2.2.2.2.2.1, .bx [.arr 4 0 0 j, .arr 5 0 0 j, .arr 7 s.2.1 0 s.2.2.1], .da s.2.2.2.1 s.2.1 1 s.2.2.2.2.2.2])
  (fun c s => ∃ Dd K O last, s.1 = Dd.map encI ∧ c = cntD Dd ∧ QS j K O (hpH s.2.1 j s.2.2.1 s.2.2.2.1 s.2.2.2.2.1 s.2.2.2.2.2.1 s.2.2.2.2.2.2) ∧ DI t down root fr Dd K (fun x => x ∈ O) last fun _ => False) (es, vo1, M1, ro1, ks1, ps1, es1) (Wk.ch) ⟨_, _, O1, 0, hes, by simp [cntD], hst0, hdi⟩ (fun c s ⟨Dd, K, O, last, _, hc, _, hd⟩ => by have := cnt_le Dd; have := hd.len; omega) ?_
 clear hst0 hdi q1 hq0 hes lel es hnew hO1
 rintro c ⟨Dl, vo, M, ro, ks, ps, eo⟩ Q' ⟨Dd, K, O, last, hDl, hc, q, di⟩ norm ex rt
 simp only at hDl q
 have hOl := q.len
 by_cases hO : O = []
 ·subst hO
  clear hset hpop hkey h1 h2 hover hdown hcost norm
  conv => cbv
  repeat' first | (refine ex _ _ _ ?_; (conv => cbv)) | (refine rt _ _ ?_; (conv => cbv)) | (refine call_fr [6, 4, 5, 7] (hpop0 q) rfl rfl (by decide) (by repeat' first | exact trivial | refine And.intro ?_ ?_ | rfl) rfl rfl ?_; rintro r hc' ⟨rfl, rfl⟩; (conv => cbv)) | exact gu | exact trivial | refine And.intro ?_ ?_ | (intro hc; exact absurd hc (by decide)) | (intro hc; exfalso; omega) | (intro hc; (first | rw [wrap_small (by omega) (by omega)] at hc | rw [nI_eq] at hc | skip); try (conv => cbv))
  rw [hDl]
  exact hKK _ _ ⟨Dd, _, _, _, _, _, di.dist (fun x hx => by cases hx) (fun _ h => h), rfl, rfl⟩
 ·have hpp := hpop q hO (by omega)
  have q0 := q.place (p := 0) (by cases O with | nil => exact absurd rfl hO | cons => simp)
  have hmem : at' O 0 ∈ O := by
   cases O with
   | nil => exact absurd rfl hO
   | cons a r => simp [at']
  have hmin : ∀ x, x ∈ O → gt K (at' O 0) ≤ gt K x := fun x hx => q.least hx
  generalize hnv : at' O 0 = n at *
  have dp := di.pop hv r0 hmem hmin
  obtain ⟨n0, n1, n2, n3⟩ := di.held n hmem
  generalize hkn : gt K n = kn at *
  have hkn0 : 0 ≤ kn := dp.l0
  have hkn1 : kn ≤ 65535 * 64 := by
   have h1 := dp.hi n n0 n1
   have h2 := cnt_le (Dd.set n.toNat kn)
   rw [gt_setD n0 (by rw [di.len]; exact n1) n n0, if_pos rfl] at h1
   rw [List.length_set] at h2
   have := di.len
   omega
  obtain ⟨ni, hni⟩ : ∃ i : Nat, (i : Int) = n := ⟨n.toNat, by omega⟩
  have lD := di.len
  have hDi : Dl[ni]? = some [iD (-1)] := by
   rw [hDl, encI_at (by omega), hni, n2]
  have lDl : Dl.length = j := by rw [hDl, List.length_map]; omega
  have h1n := h1 n n0 (by omega)
  have hov := hover n n0 (by omega)
  obtain ⟨ov, hov2⟩ : ∃ b, b = ovT t n := ⟨_, rfl⟩
  rw [← hov2] at hov
  obtain ⟨rw', hrw⟩ : ∃ l, l = rowG t (!fr) n (2 * t.links.length) := ⟨_, rfl⟩
  obtain ⟨rl, hrl⟩ : ∃ l, l = rw'.map encI := ⟨_, rfl⟩
  rw [← hrw] at h1n
  simp only [intsA, intsD] at h1n
  rw [← hrl] at h1n
  have lrl : Λ rl = rw'.length := by rw [Λo, hrl]; simp
  have lrw : rw'.length ≤ 2 * t.links.length := by rw [hrw, rowG]; exact Nat.le_trans (List.length_filter_le ..) (by simp [arcsTo])
  have hD2 : Dl.set ni [iD kn] = (Dd.set n.toNat kn).map encI := by rw [hDl, ← hni, encI_set]; rfl
  have hcn := cnt_set n0 (by rw [di.len]; exact n1) n2 hkn0
  obtain ⟨D2, hDD⟩ : ∃ l, l = Dl.set ni [iD kn] := ⟨_, rfl⟩
  rw [← hDD] at hD2
  have hDn : gt (Dd.set n.toNat kn) n = kn := by
   rw [gt_setD n0 (by rw [di.len]; exact n1) n n0, if_pos rfl]
  have hDr : gt (Dd.set n.toNat kn) root = 0 := by
   rw [gt_setD n0 (by rw [di.len]; exact n1) root r0]
   rcases di.root with h | ⟨g1, g2, g3, g4⟩
   ·rw [if_neg (by intro e; rw [e, n2] at h; omega)]; exact h
   ·rw [if_pos (g4 n hmem).symm, ← hkn, g4 n hmem]; exact g2
  generalize Dd.set n.toNat kn = Dq at *
  clear h1 hover hpop0 hpop hKK
  conv => cbv
  repeat' first | (refine ex _ _ _ ?_; (conv => cbv)) | (refine rt _ _ ?_; (conv => cbv)) | (refine call_fr [6, 4, 5, 7] hpp rfl rfl (by decide) (by repeat' first | exact trivial | refine And.intro ?_ ?_ | rfl) rfl rfl ?_; rintro r hc' ⟨rfl, O2, q2, hO2⟩; obtain ⟨vo2, M2, ro2, ks2, tl2, ps2, es2, hq3, rfl, hq4⟩ := id q2; (conv => cbv)) | (intro (k : Nat) hk; refine (fun (hz : ni = k) => ?_) ?_; rotate_left; omega; subst hz; (conv => cbv)) | (intro (e : List D) he; cases Option.some.inj (he.symm.trans hDi); (conv => cbv)) | (intro (x : List (List D)) (hx : x = Dl.set ni _); refine (fun (hz : D2 = x) => ?_) (hDD.trans hx.symm); subst hz; (conv => cbv)) | refine call_b hov rfl rfl ?_ ?_ | exact gu | exact trivial | refine And.intro ?_ ?_ | (intro hc; exact absurd hc (by decide)) | (intro hc; exfalso; omega) | (intro hc; (first | rw [wrap_small (by omega) (by omega)] at hc | rw [nI_eq] at hc | skip); try (conv => cbv))
  ·-- a node that is not passed on
   refine norm _ _ (D2, vo2, M2, ro2, ks2, ps2, es2) ⟨Dq, K.set n.toNat 0, O2, kn, hD2, by omega, q2, ?_⟩ (Wk.ch)
   rw [show (fun x => x ∈ O2) = fun x => x ∈ O ∧ x ≠ n from funext fun x => propext (hO2 x)]
   refine dp.skip fun a a0 a1 ho _ hp => ?_
   rw [okArc, transitB, hp, ← hov2, hc] at ho
   simp at ho
   exact absurd ho.2 (by assumption)
  ·exact hf1
  rotate_left
  ·exact hf1
  all_goals
   have htr : transitB t n root = true := by
    rw [transitB, ← hov2]
    first | (rw [hc]; simp; done) | simp [hc]
   refine callv_fr [0, 1] h1n rfl rfl (by decide) (by repeat' first | exact trivial | refine And.intro ?_ ?_ | rfl) rfl rfl ?_
   rintro r hc' ⟨rfl, rfl⟩
   conv => cbv
   have dq : DI t down root fr Dq (K.set n.toNat 0) (fun x => x ∈ O2) kn fun a => a ∈ rw'.drop 0 := by
    rw [show (fun x => x ∈ O2) = fun x => x ∈ O ∧ x ≠ n from funext fun x => propext (hO2 x)]
    refine dp.skip fun a a0 a1 _ _ hp => .inl ?_
    rw [hrw]
    exact mem_row hv a0 a1 (by rw [Bool.not_not]; exact hp)
   repeat' first | exact gu | exact trivial | refine And.intro ?_ ?_ | (intro hc; exact absurd hc (by decide)) | (intro hc; exfalso; omega) | (intro hc; (first | rw [wrap_small (by omega) (by omega)] at hc | rw [nI_eq] at hc | skip); try (conv => cbv))
   clear ex rt hc dp hO2 di q hmin hO hOl hDl hDi hpp hq4 h1n hov
   refine loop_up rw'.length (fun (s : Int × Nat × Nat × Bool × List (List D) × List (List D) × List (List D)) => [(1, .c (.ptr 2 0 0 0)), (3, .c (.arr 3 0 0 j)), (5, .c (.ptr 6 0 0 0)), (8, iA kn), (66, .c (.d (.list false 1 rl))), (67, iA (Λ rl)), (68, iA s.1)]) (fun s => [.bx [.d (.int .i64 nodes), .d (.list false 1 ol), .d (.list false 7 ll)], .bx [.d rD], .bx [.d (.int .i64 nodes), .d (.list false 1 ol), .d (.list false 7 ll), .d (.list false 1 dl), .d (.int .i64 root), .fn false f1 [.ptr 1 0 0 0], .fn false f2 [.ptr 0 0 0 0]], .da true 0 1 D2, .da true 0 1 s.2.2.2.2.1, .da true 0 1 s.2.2.2.2.2.1, .bx [.arr 4 0 0 j, .arr 5 0 0 j, .arr 7 s.2.1 0 s.2.2.1], .da s.2.2.2.1 s.2.1 1 s.2.2.2.2.2.2])
    (fun k s => s.1 = k ∧ k ≤ rw'.length ∧ ∃ K O, QS j K O (hpH s.2.1 j s.2.2.1 s.2.2.2.1 s.2.2.2.2.1 s.2.2.2.2.2.1 s.2.2.2.2.2.2) ∧ DI t down root fr Dq K (fun x => x ∈ O) kn fun a => a ∈ rw'.drop k) (0, vo2, M2, ro2, ks2, ps2, es2) (Wk.ch) ⟨rfl, Nat.zero_le _, _, _, q2, dq⟩ (fun k s h => h.2.1) ?_
   clear dq q2 hq3 vo2 M2 ro2 ks2 ps2 es2 tl2 O2 hnv hkn hmem n2 n3 last K O
   rintro m ⟨i, vo2, M2, ro2, ks2, ps2, es2⟩ Q'' ⟨hi, hk, K, O, q, di⟩ nrm ex rt
   simp only at hi q
   by_cases hlt : m < rw'.length
   ·obtain ⟨a, ha⟩ : ∃ a, rw'[m]? = some a := ⟨_, List.getElem?_eq_getElem hlt⟩
    have hra : rl[i.toNat]? = some [iD a] := by rw [hi, Int.toNat_natCast, hrl, List.getElem?_map, ha]; rfl
    obtain ⟨a0, a1, ay⟩ := row_mem hv (hrw ▸ List.mem_of_getElem? ha)
    rw [Bool.not_not] at ay
    have xy := xy_facts hv fr a0 a1
    have af := arc_facts hv a0 a1
    have h2a := h2 a a0 a1
    have hda := hdown a (hd.imp id fun h => ⟨a0, by omega⟩)
    have hca := hcost a a0 a1
    obtain ⟨x, hx⟩ : ∃ x, x = xOf t fr a := ⟨_, rfl⟩
    obtain ⟨cs, hcs⟩ : ∃ x, x = costT t a := ⟨_, rfl⟩
    obtain ⟨up, hup⟩ : ∃ x, x = upB down a := ⟨_, rfl⟩
    rw [← hx] at h2a xy
    rw [← hcs] at hca af
    rw [← hup] at hda
    obtain ⟨xi, hxi⟩ : ∃ i : Nat, (i : Int) = x := ⟨x.toNat, by omega⟩
    have lq := di.len
    have hDx : D2[xi]? = some [iD (gt Dq x)] := by
     rw [hD2, encI_at (by omega), hxi]
    have lD2 : D2.length = j := by rw [hD2, List.length_map]; omega
    obtain ⟨dx, hdx⟩ : ∃ d, d = gt Dq x := ⟨_, rfl⟩
    rw [← hdx] at hDx
    have hky := hkey q x xy.1.1 (by omega)
    have hol2 := q.len
    have hs := hset q (by omega) x xy.1.1 (by omega) (kn + cs)
    obtain ⟨nk, hnk⟩ : ∃ y, y = kn + cs := ⟨_, rfl⟩
    rw [← hnk] at hs
    obtain ⟨kx, hkx⟩ : ∃ y, y = gt K x := ⟨_, rfl⟩
    rw [← hkx] at hky
    clear hset hkey h2 hdown hcost norm
    conv => cbv
    repeat' first | (refine ex _ _ _ ?_; (conv => cbv)) | (refine rt _ _ ?_; (conv => cbv)) | exact hf2 | (refine callv_fr [0, 1] h2a rfl rfl (by decide) (by repeat' first | exact trivial | refine And.intro ?_ ?_ | rfl) rfl rfl ?_; rintro r hc' ⟨rfl, rfl⟩; (conv => cbv)) | (intro (k : Nat) hk; refine (fun (hz : xi = k) => ?_) ?_; rotate_left; omega; subst hz; (conv => cbv)) | (intro (e : List D) he; cases Option.some.inj (he.symm.trans hra); (conv => cbv)) | (intro (e : List D) he; cases Option.some.inj (he.symm.trans hDx); (conv => cbv)) | refine call_b hda rfl rfl ?_ ?_ | refine call_i hca rfl rfl ?_ | (intro (k : Int) hk; rw [wrap_small (by omega) (by omega)] at hk; refine (fun (hz : nk = k) => ?_) ?_; rotate_left; omega; subst hz; (conv => cbv)) | (refine call_fr [6, 4, 5, 7] hky rfl rfl (by decide) (by repeat' first | exact trivial | refine And.intro ?_ ?_ | rfl) rfl rfl ?_; rintro r hc' ⟨⟨hin, rfl⟩ | ⟨hin, rfl⟩, rfl⟩ <;> (conv => cbv)) | (refine call_fr [6, 4, 5, 7] hs rfl rfl (by decide) (by repeat' first | exact trivial | refine And.intro ?_ ?_ | rfl) rfl rfl ?_; rintro r hc' ⟨rfl, O3, q3, hO3⟩; obtain ⟨vo3, M3, ro3, ks3, tl3, ps3, es3, -, rfl, -⟩ := id q3; (conv => cbv)) | exact gu | exact trivial | refine And.intro ?_ ?_ | (intro hc; exact absurd hc (by decide)) | (intro hc; exfalso; omega) | (intro hc; (first | rw [wrap_small (by omega) (by omega)] at hc | rw [nI_eq] at hc | skip); try (conv => cbv))
    ·rename_i i'
     refine nrm _ _ (i', vo2, M2, ro2, ks2, ps2, es2) ⟨by simp only; omega, by omega, K, O, q, di.skip fun b b0 b1 ho hy hb => ?_⟩ (Wk.ch)
     rcases drop_mem ha hb with e | hb
     ·exfalso
      rw [e, okArc, ← hup] at ho
      cases up <;> simp_all
     ·exact .inl hb
    ·rename_i i'
     refine nrm _ _ (i', vo2, M2, ro2, ks2, ps2, es2) ⟨by simp only; omega, by omega, K, O, q, di.skip fun b b0 b1 ho hy hb => ?_⟩ (Wk.ch)
     rcases drop_mem ha hb with e | hb
     ·refine .inr (.inl ?_)
      rw [e, ← hx, ay, hDn, ← hdx, ← hcs]
      have := di.past x xy.1.1 xy.1.2
      omega
     ·exact .inl hb
    rotate_left
    ·rename_i i'
     refine nrm _ _ (i', vo2, M2, ro2, ks2, ps2, es2) ⟨by simp only; omega, by omega, K, O, q, di.skip fun b b0 b1 ho hy hb => ?_⟩ (Wk.ch)
     rcases drop_mem ha hb with e | hb
     ·refine .inr (.inr ?_)
      rw [e, ← hx, ay, hDn, ← hcs]
      exact ⟨hin, by omega⟩
     ·exact .inl hb
    all_goals
     rename_i i'
     have hok : okArc t down root fr a = true := by
      rw [okArc, ay, htr, ← hup]
      cases up <;> simp_all
     have hxx : gt Dq (xOf t fr a) = -1 := by
      have := di.lo x xy.1.1 xy.1.2
      rw [← hx, ← hdx]; omega
     have ds := di.set hv hDr a0 a1 hok (by rw [ay]; exact hDn) hxx (by rw [← hx, ← hcs, ← hnk, ← hkx]; first | exact fun _ => by omega | exact fun h => absurd h hin)
     rw [← hx, ← hcs, ← hnk, show (fun y => y ∈ O ∨ y = x) = fun y => y ∈ O3 from funext fun y => propext (hO3 y).symm] at ds
     refine nrm _ _ (i', vo3, M3, ro3, ks3, ps3, es3) ⟨by simp only; omega, by omega, _, O3, q3, ds.skip fun b b0 b1 ho hy hb => ?_⟩ (Wk.ch)
     exact .inl ((drop_mem ha hb.1).resolve_left hb.2)
   have e : m = rw'.length := by omega
   subst e
   rw [List.drop_length] at di
   conv => cbv
   repeat' first | (refine ex _ _ _ ?_; (conv => cbv)) | (refine rt _ _ ?_; (conv => cbv)) | exact gu | exact trivial | refine And.intro ?_ ?_ | (intro hc; exact absurd hc (by decide)) | (intro hc; exfalso; omega) | (intro hc; (first | rw [wrap_small (by omega) (by omega)] at hc | rw [nI_eq] at hc | skip); try (conv => cbv))
   refine norm _ _ (D2, vo2, M2, ro2, ks2, ps2, es2) ⟨Dq, K, O, kn, hD2, by omega, q, di.skip fun a _ _ _ _ h => by cases h⟩ (Wk.ch)
end Go.Ab

/-
  Shortest paths, part c: the document's search.
-/
namespace Go.Ab
open Go.Proofs
noncomputable def searchS (t : Top) (down : List Bool) (n : Int) (fr : Bool) : List Int × Int :=
 if fitsB t down = true then (if 0 ≤ n ∧ n < t.nodes then (distS t down n fr, 0) else ([], 2)) else ([], 1)
theorem mid_start {t : Top} {down : List Bool} {n : Int} {fr : Bool} (h0 : 0 ≤ n) (h1 : n < t.nodes) : Mid t down n fr ((List.replicate t.nodes.toNat (-1)).set n.toNat 0) := by
 have hl : n < (List.replicate t.nodes.toNat (-1 : Int)).length := by simp; omega
 have hg : ∀ j, 0 ≤ j → j < t.nodes → gt ((List.replicate t.nodes.toNat (-1)).set n.toNat 0) j = if j = n then 0 else -1 := by
  intro j j0 j1
  rw [gt_set h0 hl j0]
  split
  ·rfl
  ·simp only [gt, List.getD_eq_getElem?_getD, List.getElem?_replicate]
   split <;> rfl
 refine ⟨by simp; omega, by rw [hg n h0 h1, if_pos rfl], fun i i0 i1 => ?_, fun i i0 i1 => ?_, fun x x0 x1 hx hd => ?_⟩
 ·rw [hg i i0 i1]; split <;> omega
 ·rw [hg i i0 i1]; split <;> omega
 ·rw [hg x x0 x1, if_neg hx] at hd; omega
theorem fill_set {k m : Nat} : (List.replicate k (-1 : Int) ++ List.replicate (m + 1) 0).set k (-1) = List.replicate (k + 1) (-1) ++ List.replicate m 0 := by
 rw [List.set_append_right _ _ (by simp)]
 rw [List.length_replicate, Nat.sub_self, List.replicate_succ (n := m), List.set_cons_zero, List.replicate_succ' (n := k), List.append_assoc]
 rfl
theorem enc_set {D : List Int} {es : List (List Ab.D)} {p : Nat} {e : List Ab.D} {v : Int} (hes : D.map encI = es) (he : es[p]? = some e) : es.set p (List.take 0 e ++ ([Ab.D.int .i64 v] ++ List.drop (0 + [Ab.D.int .i64 v].length) e)) = (D.set p v).map encI := by
 subst hes
 obtain ⟨x, hx, rfl⟩ := map_get he
 rw [List.map_set]; rfl
theorem gt_of {D : List Int} {p : Nat} {i x : Int} (hx : D[p]? = some x) (hp : p = 0 + i.toNat) : gt D i = x := by
 subst hp
 rw [Nat.zero_add] at hx
 simp [gt, List.getD_eq_getElem?_getD, hx]
abbrev srH (nodes : Int) (ol ll : List (List D)) (es : List Int) : Hp := [.bx [.d (iD nodes), .d (.list false 1 ol), .d (.list false 7 ll)], .da true 0 1 (es.map encI)]
abbrev srL (dl : List (List D)) (n : Int) (fr : Bool) (m : Nat) : Lv := [(1, .c (.d (.list false 1 dl))), (2, iA n), (3, bA fr), (4, .c (.ptr 0 0 0 0)), (10, .c (.arr 1 0 0 m))]
set_option maxHeartbeats 4000000 in
theorem search_ok (P : Program) (hP : P = Try.prog) (t : Top) (down : List Bool) (n : Int) (fr : Bool) : Ret P n_ref11_search [topA t, boolsA down, iA n, bA fr] (.tup [intsA (searchS t down n fr).1, iA (searchS t down n fr).2]) := by
  have hfits := fits_ok P hP t down
  have htail := fun a => tail_ok P hP t a
  have hhead := fun a => head_ok P hP t a
  have hup := fun a => up_ok P hP down a
  have htr := fun y => transit_ok P hP t y n
  have hcost := fun a => cost_ok P hP t a
  refine ret_start (hP ▸ mixed) (hP ▸ fn_ref11_search) (hP ▸ c_ref11_search) (Nat.le_of_ble_eq_true rfl) fun Λ Λo K hK => ?_
  clear hP
  have k1 : fitsB t down = false → K (.tup [intsA [], iA 1]) := by
    intro h; rw [searchS, if_neg (by rw [h]; decide)] at hK; exact hK
  have k2 : fitsB t down = true → ¬ (0 ≤ n ∧ n < t.nodes) → K (.tup [intsA [], iA 2]) := by
    intro h h'; rw [searchS, if_pos h, if_neg h'] at hK; exact hK
  have k3 : fitsB t down = true → (0 ≤ n ∧ n < t.nodes) → K (.tup [intsA (distS t down n fr), iA 0]) := by
    intro h h'; rw [searchS, if_pos h, if_pos h'] at hK; exact hK
  clear hK
  have hfb : fitsB t down = true → validT t = true ∧ (down.length = 0 ∨ down.length = 2 * t.links.length) := by
    intro h; simpa [fitsB] using h
  have hk4 : validT t = true → ∀ D, IsDist t down n fr D → distS t down n fr = D := fun hv D hD => distS_eq hv hD
  have hst := fun (h0 : 0 ≤ n) (h1 : n < t.nodes) => mid_start (t := t) (down := down) (n := n) (fr := fr) h0 h1
  have hxy := fun (hv : validT t = true) (a : Int) (h0 : 0 ≤ a) (h1 : a < 2 * t.links.length) => xy_facts hv fr h0 h1
  have hlen := fun (D : List Int) (h : Mid t down n fr D) => h.len
  have hmd := fun (D : List Int) (h : Mid t down n fr D) => h.dist
  have hms := fun (hv : validT t = true) (D : List Int) (h : Mid t down n fr D) (a : Int) => h.step hv (a := a)
  have hml := fun (hv : validT t = true) (D : List Int) (h : Mid t down n fr D) (i : Int) => h.le hv (i := i)
  have hcs := fun (hv : validT t = true) (a : Int) (h0 : 0 ≤ a) (h1 : a < 2 * t.links.length) => (arc_facts hv h0 h1).2.2.2
  have hn64 := fun (hv : validT t = true) => (validT_spec.1 hv).1
  have hl256 := fun (hv : validT t = true) => (validT_spec.1 hv).2.2.1
  have hxe : ∀ a, xOf t fr a = if fr then headT t a else tailT t a := fun _ => rfl
  have hye : ∀ a, yOf t fr a = if fr then tailT t a else headT t a := fun _ => rfl
  have hoa : ∀ a, okArc t down n fr a = (upB down a && transitB t (yOf t fr a) n) := fun _ => rfl
  have hfx : ∀ D a, fixAt t down n fr D a ↔ (okArc t down n fr a = true → 0 ≤ gt D (yOf t fr a) → 0 ≤ gt D (xOf t fr a) ∧ gt D (xOf t fr a) ≤ gt D (yOf t fr a) + costT t a) := fun _ _ => Iff.rfl
  generalize fitsB t down = fb at *
  generalize validT t = v at *
  generalize distS t down n fr = ds at *
  generalize tailT t = tt at *
  generalize headT t = ht at *
  generalize costT t = ct at *
  generalize transitB t = tb at *
  generalize upB down = ub at *
  generalize xOf t fr = xo at *
  generalize yOf t fr = yo at *
  generalize okArc t down n fr = oa at *
  generalize fixAt t down n fr = fx at *
  generalize Mid t down n fr = md at *
  generalize IsDist t down n fr = isd at *
  simp only [boolsA, boolsD] at *
  generalize hdl : down.map encB = dl at *
  have hdn : Λ dl = down.length := by rw [Λo, ← hdl]; simp
  obtain ⟨nodes, ov, links⟩ := t
  simp only [topA, boolsD, linksD] at *
  generalize hol : ov.map encB = ol at *
  generalize hll : links.map encLk = ll at *
  have hlo : Λ ol = ov.length := by rw [Λo, ← hol]; simp
  have hls : Λ ll = links.length := by rw [Λo, ← hll]; simp
  simp only [intsA, intsD, List.map_nil] at k1 k2 k3
  cases fb
  · conv => cbv
    repeat' first | refine call_b hfits rfl rfl ?_ ?_ | (intro hc; cases hc; done) | exact gu | exact trivial | refine And.intro ?_ ?_ | (intro hc; exact absurd hc (by decide)) | (intro hc; exfalso; omega) | (intro hc; (first | rw [wrap_small (by omega) (by omega)] at hc | rw [nI_eq] at hc | skip); try (conv => cbv))
    exact k1 rfl
  obtain ⟨hv, hdo⟩ := hfb rfl
  subst hv
  simp only [forall_const] at *
  conv => cbv
  repeat' first | refine call_b hfits rfl rfl ?_ ?_ | (intro hc; cases hc; done) | (intro (_ : Unit); refine ⟨?_, ?_, ?_, ?_⟩; omega; omega; omega; omega) | exact gu | exact trivial | refine And.intro ?_ ?_ | (intro hc; exact absurd hc (by decide)) | (intro hc; exfalso; omega) | (intro hc; (first | rw [wrap_small (by omega) (by omega)] at hc | rw [nI_eq] at hc | skip); try (conv => cbv))
  · exact k2 (by omega)
  · exact k2 (by omega)
  rename_i m0 es0 hm0
  subst hc hm0
  refine loop_upx nodes.toNat (fun (s : Int × List Int) => (11, iA s.1) :: srL dl n fr nodes.toNat) (fun s => srH nodes ol ll s.2) (fun k s => s.1 = k ∧ k ≤ nodes.toNat ∧ s.2 = List.replicate k (-1) ++ List.replicate (nodes.toNat - k) 0) (0, List.replicate nodes.toNat 0)
    0 (fun (_ : Unit) => srL dl n fr nodes.toNat) (fun _ => srH nodes ol ll (List.replicate nodes.toNat (-1))) (fun _ => True) (by rw [srH, List.map_replicate]; exact Wk.cw) ⟨rfl, by omega, by simp⟩ (fun k s h => h.2.1) ?_ ?_
  · rintro k ⟨i, D⟩ Q' ⟨hi, hk, hD⟩ norm jn ex rt
    simp only at hi hD
    have hDl : D.length = nodes.toNat := by rw [hD]; simp; omega
    generalize hN : nodes.toNat = N at *
    simp only [srH, srL]
    generalize hes : D.map encI = es at *
    have hesl : es.length = N := by rw [← hes, List.length_map]; exact hDl
    conv => cbv
    repeat' first | exact gu | exact trivial | refine And.intro ?_ ?_ | (intro hc; exact absurd hc (by decide)) | (intro hc; exfalso; omega) | (intro hc; (first | rw [wrap_small (by omega) (by omega)] at hc | rw [nI_eq] at hc | skip); try (conv => cbv))
    · rename_i p hp e hpe es' he' i'
      have hee : e = [iD 0] := by
        rw [← hes, List.getElem?_map, hp, hD] at hpe
        simp only [Nat.zero_add, hi, Int.toNat_natCast] at hpe
        rw [List.getElem?_append_right (by simp), List.getElem?_replicate] at hpe
        simp only [List.length_replicate] at hpe
        split at hpe
        · cases hpe; rfl
        · cases hpe
      have e2 : es' = ((List.replicate (k + 1) (-1) ++ List.replicate (N - (k + 1)) 0).map encI) := by
        rw [he', hee, hp, ← hes, hD]
        simp only [Nat.zero_add, hi, Int.toNat_natCast]
        rw [show N - k = N - (k + 1) + 1 by omega, ← fill_set, List.map_set]
        rfl
      subst e2
      refine norm _ _ (_, _) ?_ (Wk.cw)
      exact ⟨by simp only; omega, by omega, rfl⟩
    · have e2 : es = ((List.replicate N (-1)).map encI) := by
        rw [← hes, hD, show k = N by omega, Nat.sub_self]; simp
      subst e2
      refine jn _ _ () trivial (Wk.cw)
  rintro _ -
  have hm0 := hst (by omega) (by omega)
  clear hst
  generalize hN : nodes.toNat = N at *
  generalize hD0 : List.replicate N (-1) = D0 at *
  have hD0l : D0.length = N := by rw [← hD0]; simp
  simp only [srH, srL]
  generalize hes : D0.map encI = es at *
  have hesl : es.length = N := by rw [← hes, List.length_map]; exact hD0l
  conv => cbv
  repeat' first | exact gu | exact trivial | refine And.intro ?_ ?_ | (intro hc; exact absurd hc (by decide)) | (intro hc; exfalso; omega) | (intro hc; (first | rw [wrap_small (by omega) (by omega)] at hc | rw [nI_eq] at hc | skip); try (conv => cbv))
  rename_i p hp e hpe es1
  have e1 : es1 = (D0.set n.toNat 0).map encI := by rw [hc, enc_set hes hpe, hp, Nat.zero_add]
  subst e1
  clear hc hpe hes hesl es
  generalize D0.set n.toNat 0 = D1 at *
  clear hD0 hD0l D0
  refine loop_up (msr D1 + 1) (fun (s : Bool × List Int) => (12, bA s.1) :: srL dl n fr N) (fun s => srH nodes ol ll s.2) (fun k s => md s.2 ∧ (s.1 = false → ∀ a : Int, 0 ≤ a → a < 2 * links.length → fx s.2 a) ∧ k + msr s.2 ≤ msr D1 + (if s.1 then 0 else 1)) (true, D1) (Wk.cw) ⟨hm0, by simp, by simp⟩ (fun k s h => by have := h.2.2; split at this <;> omega) ?_
  rintro k ⟨ch, D⟩ Q' ⟨hD, hfix, hkm⟩ normo exo rto
  simp only at hD hfix hkm
  simp only [srH, srL]
  cases ch with
  | false =>
    have hds := hk4 D (hmd D hD (hfix rfl))
    have hDl := hlen D hD
    rw [hds] at k3
    generalize hes : D.map encI = es at *
    have hesl : es.length = N := by rw [← hes, List.length_map]; omega
    conv => cbv
    repeat' first | (refine exo _ _ _ ?_; (conv => cbv)) | (refine rto _ _ ?_; (conv => cbv)) | exact gu | exact trivial | refine And.intro ?_ ?_ | (intro hc; exact absurd hc (by decide)) | (intro hc; exfalso; omega) | (intro hc; (first | rw [wrap_small (by omega) (by omega)] at hc | rw [nI_eq] at hc | skip); try (conv => cbv))
    rename_i ls
    have e : ls = es := by rw [hc, List.drop_zero, ← hesl, List.take_length]
    subst e
    exact k3 (by omega)
  | true =>
    generalize hes : D.map encI = es at *
    conv => cbv
    repeat' first | exact gu | exact trivial | refine And.intro ?_ ?_ | (intro hc; exact absurd hc (by decide)) | (intro hc; exfalso; omega) | (intro hc; (first | rw [wrap_small (by omega) (by omega)] at hc | rw [nI_eq] at hc | skip); try (conv => cbv))
    subst hes
    refine loop_up (2 * links.length) (fun (s : Int × Bool × List Int) => (13, iA s.1) :: (12, bA s.2.1) :: srL dl n fr N) (fun s => srH nodes ol ll s.2.2) (fun k s => s.1 = k ∧ k ≤ 2 * links.length ∧ md s.2.2 ∧ (s.2.1 = false → s.2.2 = D ∧ ∀ a : Int, 0 ≤ a → a < k → fx D a) ∧ (s.2.1 = true → msr s.2.2 < msr D)) (0, false, D) (Wk.cw) ⟨rfl, by omega, hD, fun _ => ⟨rfl, fun a h0 h1 => by omega⟩, by simp⟩ (fun k s h => h.2.1) ?_
    rintro k' ⟨a, ch, D'⟩ Q' ⟨ha, hk', hD', hf', ht'⟩ norm ex rt
    simp only at ha hD' hf' ht'
    simp only [srH, srL]
    have hDl := hlen D' hD'
    generalize hes : D'.map encI = es at *
    have hesl : es.length = N := by rw [← hes, List.length_map]; omega
    by_cases hlt : k' < 2 * links.length
    · obtain ⟨⟨x0, x1⟩, ⟨y0, y1⟩, hne⟩ := hxy a (by omega) (by omega)
      have hxle := hml D' hD' (xo a) x0 x1
      have hyle := hml D' hD' (yo a) y0 y1
      have hcl := hcs a (by omega) (by omega)
      have hxa := hxe a
      have hya := hye a
      have hra := hoa a
      have hrx := hfx D' a
      have hta := htail a
      have hha := hhead a
      have hua := hup a (by omega)
      have hya2 := htr (yo a)
      have hca := hcost a
      have hms' := hms D' hD' a (by omega) (by omega)
      have hcnt : ∀ D2 ch2, md D2 → (ch2 = false → ch = false ∧ D2 = D' ∧ fx D' a) → (ch2 = true → ch = true ∧ D2 = D' ∨ msr D2 < msr D') → ∀ L' h' a', a' = a + 1 → Wk 0 L' h' ((13, iA a') :: (12, bA ch2) :: srL dl n fr N) (srH nodes ol ll D2) → Q' .normal L' h' := by
        intro D2 ch2 q1 q2 q3 L' h' a' q4 q5
        refine norm L' h' (a', ch2, D2) ⟨by simp only; omega, by omega, q1, fun hc2 => ?_, fun hc2 => ?_⟩ q5
        · obtain ⟨e1, e2, e3⟩ := q2 hc2
          obtain ⟨e4, e5⟩ := hf' e1
          subst e2
          refine ⟨e4, fun b b0 b1 => ?_⟩
          rcases Int.lt_or_le b k' with h | h
          · exact e5 b b0 h
          · obtain rfl : b = a := by omega
            rw [← e4]; exact e3
        · have hmm : msr D' ≤ msr D := by
            cases ch
            · rw [(hf' rfl).1]; exact Nat.le_refl _
            · exact Nat.le_of_lt (ht' rfl)
          rcases q3 hc2 with ⟨e1, e2⟩ | e1
          · rw [e2]; exact ht' e1
          · simp only; omega
      clear norm hf' ht' hfx hoa hxe hye htail hhead hup htr hcost hms hml hcs normo exo rto hxy hmd hlen
      cases fr
      · simp only [Bool.false_eq_true, if_false] at hxa hya
        rw [← hxa] at hta
        rw [← hya] at hha
        generalize xo a = X at *
        generalize yo a = Y at *
        generalize ct a = C at *
        conv => cbv
        repeat' first | (refine ex _ _ _ ?_; (conv => cbv)) | (refine rt _ _ ?_; (conv => cbv)) | (intro e he; obtain ⟨x, hx, rfl⟩ := map_get' hes he; have hgY := gt_of (i := Y) hx; have hgX := gt_of (i := X) hx; (conv => cbv)) | (refine call_r hta rfl rfl ?_; conv => cbv) | (refine call_r hha rfl rfl ?_; conv => cbv) | refine call_b hua rfl rfl ?_ ?_ | refine call_b hya2 rfl rfl ?_ ?_ | (refine call_r hca rfl rfl ?_; conv => cbv) | exact gu | exact trivial | refine And.intro ?_ ?_ | (intro hc; exact absurd hc (by decide)) | (intro hc; exfalso; omega) | (intro hc; (first | rw [wrap_small (by omega) (by omega)] at hc | rw [nI_eq] at hc | skip); try (conv => cbv))
        all_goals clear hta hha hua hya2 hca
        all_goals first
          | (refine hcnt D' ch hD' (fun h => ⟨h, rfl, hrx.2 fun ho hy => ?_⟩) (fun h => .inl ⟨h, rfl⟩) _ _ _ hc (by subst hes; exact Wk.cw)
             first
             | (exfalso; omega)
             | (exact ⟨by omega, by omega⟩)
             | (exfalso; rw [hra] at ho; simp_all; done))
          | (rename_i es' hes' _
             have hoa : oa a = true := by rw [hra, ‹ub a = true›, ‹tb Y n = true›]; rfl
             have hst := hms' hoa (by omega) (by omega)
             have e3 : es' = (D'.set X.toNat (gt D' Y + C)).map encI := by
               refine hes'.trans ((enc_set hes he).trans ?_)
               congr 1
               congr 1 <;> omega
             subst e3
             exact hcnt _ true hst.1 (by simp) (fun _ => .inr hst.2) _ _ _ hc (Wk.cw))
          | trace_state
      · simp only [if_true] at hxa hya
        rw [← hya] at hta
        rw [← hxa] at hha
        generalize xo a = X at *
        generalize yo a = Y at *
        generalize ct a = C at *
        conv => cbv
        repeat' first | (refine ex _ _ _ ?_; (conv => cbv)) | (refine rt _ _ ?_; (conv => cbv)) | (intro e he; obtain ⟨x, hx, rfl⟩ := map_get' hes he; have hgY := gt_of (i := Y) hx; have hgX := gt_of (i := X) hx; (conv => cbv)) | (refine call_r hta rfl rfl ?_; conv => cbv) | (refine call_r hha rfl rfl ?_; conv => cbv) | refine call_b hua rfl rfl ?_ ?_ | refine call_b hya2 rfl rfl ?_ ?_ | (refine call_r hca rfl rfl ?_; conv => cbv) | exact gu | exact trivial | refine And.intro ?_ ?_ | (intro hc; exact absurd hc (by decide)) | (intro hc; exfalso; omega) | (intro hc; (first | rw [wrap_small (by omega) (by omega)] at hc | rw [nI_eq] at hc | skip); try (conv => cbv))
        all_goals clear hta hha hua hya2 hca
        all_goals first
          | (refine hcnt D' ch hD' (fun h => ⟨h, rfl, hrx.2 fun ho hy => ?_⟩) (fun h => .inl ⟨h, rfl⟩) _ _ _ hc (by subst hes; exact Wk.cw)
             first
             | (exfalso; omega)
             | (exact ⟨by omega, by omega⟩)
             | (exfalso; rw [hra] at ho; simp_all; done))
          | (rename_i es' hes' _
             have hoa : oa a = true := by rw [hra, ‹ub a = true›, ‹tb Y n = true›]; rfl
             have hst := hms' hoa (by omega) (by omega)
             have e3 : es' = (D'.set X.toNat (gt D' Y + C)).map encI := by
               refine hes'.trans ((enc_set hes he).trans ?_)
               congr 1
               congr 1 <;> omega
             subst e3
             exact hcnt _ true hst.1 (by simp) (fun _ => .inr hst.2) _ _ _ hc (Wk.cw))
          | trace_state
    · conv => cbv
      repeat' first | (refine ex _ _ _ ?_; (conv => cbv)) | (refine rt _ _ ?_; (conv => cbv)) | exact gu | exact trivial | refine And.intro ?_ ?_ | (intro hc; exact absurd hc (by decide)) | (intro hc; exfalso; omega) | (intro hc; (first | rw [wrap_small (by omega) (by omega)] at hc | rw [nI_eq] at hc | skip); try (conv => cbv))
      subst hes
      refine normo _ _ (_, _) ?_ (Wk.cw)
      simp only
      simp only [if_true, Nat.add_zero] at hkm
      cases ch
      · obtain ⟨h1, h2⟩ := hf' rfl
        subst h1
        exact ⟨hD', fun _ b b0 b1 => h2 b b0 (by omega), by simp only [Bool.false_eq_true, if_false]; omega⟩
      · have := ht' rfl
        exact ⟨hD', by simp, by simp only [if_true]; omega⟩
end Go.Ab

/-
  The distances with a queue are those of the reference.
-/
namespace Go.Ab
open Go.Proofs
def chkS (t : Top) (down : List Bool) (n : Int) : Int := if fitsB t down = true then (if 0 ≤ n ∧ n < t.nodes then 0 else 2) else 1
theorem check_ok (P : Program) (hP : P = Try.prog) (t : Top) (down : List Bool) (n : Int) : Ret P n_spf_check [topA t, boolsA down, intsA [n]] (iA (chkS t down n)) := by
 refine ret_start (hP ▸ mixed) (hP ▸ fn_spf_check) (hP ▸ c_spf_check) (Nat.le_of_ble_eq_true rfl) fun Λ Λo K hK => ?_
 have hval := tvalid_ok P hP t
 have hfits := fun h => gfits_ok P hP t down (validT_spec.1 h).2.2.1
 have hnode := gnode_ok P hP t n
 clear hP
 have k1 : validT t = false → K (iA 1) := fun h => by rw [chkS, if_neg (by simp [fitsB, h])] at hK; exact hK
 have k2 : decide (down.length = 0 ∨ down.length = 2 * t.links.length) = false → K (iA 1) := fun h => by
  rw [chkS, if_neg (by simp [fitsB, Bool.decide_or, -decide_eq_true_eq] at h ⊢; intro _; simpa using h)] at hK; exact hK
 have k3 : validT t = true → decide (down.length = 0 ∨ down.length = 2 * t.links.length) = true → decide (0 ≤ n ∧ n < t.nodes) = true → K (iA 0) := fun h h1 h2 => by
  rw [chkS, if_pos (by rw [fitsB, h, ← Bool.decide_or, h1]; rfl), if_pos (of_decide_eq_true h2)] at hK; exact hK
 have k4 : validT t = true → decide (down.length = 0 ∨ down.length = 2 * t.links.length) = true → decide (0 ≤ n ∧ n < t.nodes) = false → K (iA 2) := fun h h1 h2 => by
  rw [chkS, if_pos (by rw [fitsB, h, ← Bool.decide_or, h1]; rfl), if_neg (of_decide_eq_false h2)] at hK; exact hK
 clear hK
 generalize validT t = va at *
 generalize decide (down.length = 0 ∨ down.length = 2 * t.links.length) = fb at *
 generalize decide (0 ≤ n ∧ n < t.nodes) = nb at *
 obtain ⟨nodes, ov, links⟩ := t
 simp only [topA, boolsD, linksD] at *
 generalize hol : ov.map encB = ol at *
 generalize hll : links.map encLk = ll at *
 have hlo : Λ ol = ov.length := by rw [Λo, ← hol]; simp
 have hls : Λ ll = links.length := by rw [Λo, ← hll]; simp
 simp only [boolsA, boolsD, intsA, intsD] at *
 generalize hdl : down.map encB = dl at *
 generalize hnl : List.map encI [n] = nl at *
 have lnl : Λ nl = 1 := by rw [Λo, ← hnl]; rfl
 conv => cbv
 repeat' first | refine call_b hval rfl rfl ?_ ?_ | refine call_b (hfits (by assumption)) rfl rfl ?_ ?_ | exact gu | exact trivial | refine And.intro ?_ ?_ | (intro hc; exact absurd hc (by decide)) | (intro hc; exfalso; omega) | (intro hc; (first | rw [wrap_small (by omega) (by omega)] at hc | rw [nI_eq] at hc | skip); try (conv => cbv))
 all_goals first | exact k1 (by assumption) | exact k2 (by assumption) | skip
 rename_i hva hfb
 have k3 := k3 hva hfb
 have k4 := k4 hva hfb
 clear hval hfits k1 k2
 refine loop_up 1 (fun (i : Int) => [(3, .c (.ptr 0 0 0 0)), (18, .c (.d (.list false 1 nl))), (19, iA (Λ nl)), (20, iA i)]) (fun _ => [.bx [.d (iD nodes), .d (.list false 1 ol), .d (.list false 7 ll)]]) (fun k i => i = k ∧ k ≤ 1 ∧ (k = 1 → nb = true)) 0 (Wk.ch) ⟨rfl, by omega, fun h => by omega⟩ (fun k s h => h.2.1) ?_
 rintro k i Q' ⟨hi, hk, hd⟩ nrm ex rt
 by_cases hlt : k < 1
 ·have hx : nl[i.toNat]? = some [iD n] := by rw [hi, show k = 0 by omega, ← hnl]; rfl
  conv => cbv
  repeat' first | (refine ex _ _ _ ?_; (conv => cbv)) | (refine rt _ _ ?_; (conv => cbv)) | (intro (e : List D) he; cases Option.some.inj (he.symm.trans hx); (conv => cbv)) | refine call_b hnode rfl rfl ?_ ?_ | exact gu | exact trivial | refine And.intro ?_ ?_ | (intro hc; exact absurd hc (by decide)) | (intro hc; exfalso; omega) | (intro hc; (first | rw [wrap_small (by omega) (by omega)] at hc | rw [nI_eq] at hc | skip); try (conv => cbv))
  ·rename_i i'
   exact nrm _ _ i' ⟨by omega, by omega, fun _ => by assumption⟩ (Wk.ch)
  ·exact k4 (by assumption)
 have hn := hd (by omega)
 conv => cbv
 repeat' first | (refine ex _ _ _ ?_; (conv => cbv)) | (refine rt _ _ ?_; (conv => cbv)) | exact gu | exact trivial | refine And.intro ?_ ?_ | (intro hc; exact absurd hc (by decide)) | (intro hc; exfalso; omega) | (intro hc; (first | rw [wrap_small (by omega) (by omega)] at hc | rw [nI_eq] at hc | skip); try (conv => cbv))
 exact k3 hn
theorem rowsD_at {t : Top} {fr : Bool} {k : Nat} {n : Int} (h0 : 0 ≤ n) (h1 : n < t.nodes) : (((List.range t.nodes.toNat).map fun (n : Nat) => rowG t fr (n : Int) k).map encRow)[n.toNat]? = some [intsD (rowG t fr n k)] := by
 rw [List.getElem?_map, List.getElem?_map, List.getElem?_range (by omega)]
 simp only [Option.map_some, encRow]
 rw [Int.toNat_of_nonneg h0]
theorem dist1_ok (P : Program) (hP : P = Try.prog) (t : Top) (fr : Bool) (n : Int) (h0 : 0 ≤ n) (h1 : n < t.nodes) :
  FnS P n_spf_Dist_1 [iA n, .c (.ptr 1 0 0 0)] (h2H t (.list false 1 (((List.range t.nodes.toNat).map fun (n : Nat) => rowG t fr (n : Int) (2 * t.links.length)).map encRow))) fun r h' =>
   r = intsA (rowG t fr n (2 * t.links.length)) ∧ h' = h2H t (.list false 1 (((List.range t.nodes.toNat).map fun (n : Nat) => rowG t fr (n : Int) (2 * t.links.length)).map encRow)) := by
 refine heap_start (hP ▸ mixed) (hP ▸ fn_spf_Dist_1) (hP ▸ c_spf_Dist_1) (Nat.le_of_ble_eq_true rfl) fun Λ Λo K hK => ?_
 clear hP
 have hx := rowsD_at (t := t) (fr := fr) (k := 2 * t.links.length) h0 h1
 have hl : Λ (((List.range t.nodes.toNat).map fun (n : Nat) => rowG t fr (n : Int) (2 * t.links.length)).map encRow) = t.nodes.toNat := by rw [Λo]; simp
 generalize ((List.range t.nodes.toNat).map fun (n : Nat) => rowG t fr (n : Int) (2 * t.links.length)).map encRow = rl at *
 obtain ⟨w, hw⟩ : ∃ w, w = rowG t fr n (2 * t.links.length) := ⟨_, rfl⟩
 obtain ⟨wl, hwl⟩ : ∃ l, l = w.map encI := ⟨_, rfl⟩
 rw [← hw] at hx hK
 obtain ⟨nodes, hN⟩ : ∃ x, x = t.nodes := ⟨_, rfl⟩
 obtain ⟨ol, hol⟩ : ∃ x, x = t.ov.map encB := ⟨_, rfl⟩
 obtain ⟨ll, hll⟩ : ∃ x, x = t.links.map encLk := ⟨_, rfl⟩
 simp only [h2H, intsA, intsD, boolsD, linksD, ← hN, ← hol, ← hll, ← hwl] at hK hx ⊢
 conv => cbv
 repeat' first | (intro (e : List D) he; cases Option.some.inj (he.symm.trans hx); (conv => cbv)) | exact gu | exact trivial | refine And.intro ?_ ?_ | (intro hc; exact absurd hc (by decide)) | (intro hc; exfalso; omega) | (intro hc; (first | rw [wrap_small (by omega) (by omega)] at hc | rw [nI_eq] at hc | skip); try (conv => cbv))
 exact hK _ _ ⟨rfl, rfl⟩
theorem dist2_ok (P : Program) (hP : P = Try.prog) (t : Top) (hv : validT t = true) (rD : D) (a : Int) (h0 : 0 ≤ a) (h1 : a < 2 * t.links.length) : FnS P n_spf_Dist_2 [iA a, .c (.ptr 0 0 0 0)] (h2H t rD) fun r h' => r = iA (xOf t false a) ∧ h' = h2H t rD := by
 refine heap_start (hP ▸ mixed) (hP ▸ fn_spf_Dist_2) (hP ▸ c_spf_Dist_2) (Nat.le_of_ble_eq_true rfl) fun Λ Λo K hK => ?_
 have ht := gtail_ok P hP t a h0 h1 (validT_spec.1 hv).2.2.1
 have ha : arcsT t = 2 * t.links.length := by rw [arcsT, if_pos hv]
 have hx : xOf t false a = tailG t a := by
  rw [xOf, if_neg (by decide), tailT, tailG, if_pos ⟨h0, by omega⟩]
 rw [hx] at hK
 clear hP
 generalize tailG t a = v at *
 obtain ⟨nodes, hN⟩ : ∃ x, x = t.nodes := ⟨_, rfl⟩
 obtain ⟨ol, hol⟩ : ∃ x, x = t.ov.map encB := ⟨_, rfl⟩
 obtain ⟨ll, hll⟩ : ∃ x, x = t.links.map encLk := ⟨_, rfl⟩
 simp only [h2H, topA, boolsD, linksD, ← hN, ← hol, ← hll] at hK ht ⊢
 conv => cbv
 repeat' first | refine call_i ht rfl rfl ?_ | exact gu | exact trivial | refine And.intro ?_ ?_ | (intro hc; exact absurd hc (by decide)) | (intro hc; exfalso; omega) | (intro hc; (first | rw [wrap_small (by omega) (by omega)] at hc | rw [nI_eq] at hc | skip); try (conv => cbv))
 exact hK _ _ ⟨by (first | rfl | (simp only [*]; rfl)), rfl⟩
theorem sdist_ok (P : Program) (hP : P = Try.prog) (t : Top) (down : List Bool) (n : Int) : Ret P n_spf_Dist [topA t, boolsA down, iA n] (.tup [intsA (searchS t down n false).1, iA (searchS t down n false).2]) := by
 refine ret_start (hP ▸ mixed) (hP ▸ fn_spf_Dist) (hP ▸ c_spf_Dist) (Nat.le_of_ble_eq_true rfl) fun Λ Λo K hK => ?_
 have hchk := check_ok P hP t down n
 have hent := entering_ok P hP t
 have hrun := fun (hv : validT t = true) hd r0 r1 => srun_ok P hP t hv down hd n r0 r1 false n_spf_Dist_1 n_spf_Dist_2 (.list false 1 (((List.range t.nodes.toNat).map fun (n : Nat) => rowG t true (n : Int) (2 * t.links.length)).map encRow)) (hP ▸ ⟨_, fn_spf_Dist_1, rfl, by decide⟩) (hP ▸ ⟨_, fn_spf_Dist_2, rfl, by decide⟩) (dist1_ok P hP t true) (dist2_ok P hP t hv _)
 clear hP
 by_cases hf : fitsB t down = true
 ·obtain ⟨hv, hd⟩ : validT t = true ∧ (down.length = 0 ∨ down.length = 2 * t.links.length) := by
   simpa [fitsB] using hf
  by_cases hn : 0 ≤ n ∧ n < t.nodes
  ·have hrun := hrun hv hd hn.1 hn.2
   have hent := hent hv
   rw [chkS, if_pos hf, if_pos hn] at hchk
   have k1 : ∀ D, IsDist t down n false D → K (.tup [intsA D, iA 0]) := fun D h => by
    rw [searchS, if_pos hf, if_pos hn, distS_eq hv h] at hK; exact hK
   clear hK
   generalize ((List.range t.nodes.toNat).map fun (n : Nat) => rowG t true (n : Int) (2 * t.links.length)) = rws at *
   obtain ⟨nn, hnn⟩ : ∃ x : Nat, x = t.nodes.toNat := ⟨_, rfl⟩
   obtain ⟨nodes, hN⟩ : ∃ x, x = t.nodes := ⟨_, rfl⟩
   obtain ⟨ol, hol⟩ : ∃ x, x = t.ov.map encB := ⟨_, rfl⟩
   obtain ⟨ll, hll⟩ : ∃ x, x = t.links.map encLk := ⟨_, rfl⟩
   obtain ⟨dl, hdl⟩ : ∃ x, x = down.map encB := ⟨_, rfl⟩
   obtain ⟨wl, hwl⟩ : ∃ x, x = rws.map encRow := ⟨_, rfl⟩
   simp only [h2H, topA, boolsA, boolsD, linksD, intsA, intsD, rowsA, ← hN, ← hol, ← hll, ← hdl, ← hwl] at hchk hent hrun k1 ⊢
   simp only [hN, ← hnn] at hrun
   simp only [← hN] at hrun
   clear hol hll hdl hwl
   conv => cbv
   repeat' first | exact gu | exact trivial | refine And.intro ?_ ?_ | (intro hc; exact absurd hc (by decide)) | (intro hc; exfalso; omega) | (intro hc; (first | rw [wrap_small (by omega) (by omega)] at hc | rw [nI_eq] at hc | skip); try (conv => cbv))
   (refine call_z 1 0 1 1 rfl rfl (by repeat' first | exact trivial | refine And.intro ?_ ?_ | rfl) (by repeat' first | exact trivial | refine And.intro ?_ ?_ | rfl) ?_; conv => cbv)
   repeat' first | (refine call_r hchk rfl rfl ?_; conv => cbv) | (refine call_r hent rfl rfl ?_; conv => cbv) | exact gu | exact trivial | refine And.intro ?_ ?_ | (intro hc; exact absurd hc (by decide)) | (intro hc; exfalso; omega) | (intro hc; (first | rw [wrap_small (by omega) (by omega)] at hc | rw [nI_eq] at hc | skip); try (conv => cbv))
   refine call_fr [0, 2] hrun rfl rfl (by decide) (by repeat' first | exact trivial | refine And.intro ?_ ?_ | rfl) rfl rfl ?_
   rintro r hc' ⟨D, q0, q1, q2, q3, q4, hD, rfl, rfl⟩
   have k1 := k1 D hD
   have hl := hD.len
   have hnl : nn = (D.map encI).length := by rw [List.length_map]; omega
   generalize D.map encI = es at *
   conv => cbv
   refine ⟨fun _ => rfl, fun ls hls => ?_⟩
   rw [List.drop_zero, hnl, List.take_length] at hls
   subst hls
   exact k1
  ·rw [chkS, if_pos hf, if_neg hn] at hchk
   rw [searchS, if_pos hf, if_neg hn] at hK
   clear hrun hent
   obtain ⟨nodes, ov, links⟩ := t
   simp only [topA, boolsD, linksD] at *
   generalize hol : ov.map encB = ol at *
   generalize hll : links.map encLk = ll at *
   have hlo : Λ ol = ov.length := by rw [Λo, ← hol]; simp
   have hls : Λ ll = links.length := by rw [Λo, ← hll]; simp
   simp only [boolsA, boolsD, intsA, intsD] at *
   generalize hdl : down.map encB = dl at *
   conv => cbv
   repeat' first | exact gu | exact trivial | refine And.intro ?_ ?_ | (intro hc; exact absurd hc (by decide)) | (intro hc; exfalso; omega) | (intro hc; (first | rw [wrap_small (by omega) (by omega)] at hc | rw [nI_eq] at hc | skip); try (conv => cbv))
   (refine call_z 1 0 1 1 rfl rfl (by repeat' first | exact trivial | refine And.intro ?_ ?_ | rfl) (by repeat' first | exact trivial | refine And.intro ?_ ?_ | rfl) ?_; conv => cbv)
   repeat' first | (refine call_r hchk rfl rfl ?_; conv => cbv) | exact gu | exact trivial | refine And.intro ?_ ?_ | (intro hc; exact absurd hc (by decide)) | (intro hc; exfalso; omega) | (intro hc; (first | rw [wrap_small (by omega) (by omega)] at hc | rw [nI_eq] at hc | skip); try (conv => cbv))
   exact hK
 ·rw [chkS, if_neg hf] at hchk
  rw [searchS, if_neg hf] at hK
  clear hrun hent
  obtain ⟨nodes, ov, links⟩ := t
  simp only [topA, boolsD, linksD] at *
  generalize hol : ov.map encB = ol at *
  generalize hll : links.map encLk = ll at *
  have hlo : Λ ol = ov.length := by rw [Λo, ← hol]; simp
  have hls : Λ ll = links.length := by rw [Λo, ← hll]; simp
  simp only [boolsA, boolsD, intsA, intsD] at *
  generalize hdl : down.map encB = dl at *
  conv => cbv
  repeat' first | exact gu | exact trivial | refine And.intro ?_ ?_ | (intro hc; exact absurd hc (by decide)) | (intro hc; exfalso; omega) | (intro hc; (first | rw [wrap_small (by omega) (by omega)] at hc | rw [nI_eq] at hc | skip); try (conv => cbv))
  (refine call_z 1 0 1 1 rfl rfl (by repeat' first | exact trivial | refine And.intro ?_ ?_ | rfl) (by repeat' first | exact trivial | refine And.intro ?_ ?_ | rfl) ?_; conv => cbv)
  repeat' first | (refine call_r hchk rfl rfl ?_; conv => cbv) | exact gu | exact trivial | refine And.intro ?_ ?_ | (intro hc; exact absurd hc (by decide)) | (intro hc; exfalso; omega) | (intro hc; (first | rw [wrap_small (by omega) (by omega)] at hc | rw [nI_eq] at hc | skip); try (conv => cbv))
  exact hK
end Go.Ab

/-
  Shortest paths, part d: next arcs, routes.
-/
namespace Go.Ab
open Go.Proofs
theorem dist_ok (P : Program) (hP : P = Try.prog) (t : Top) (down : List Bool) (n : Int) : Ret P n_ref11_Dist [topA t, boolsA down, iA n] (.tup [intsA (searchS t down n false).1, iA (searchS t down n false).2]) := by
 have hs := search_ok P hP t down n false
 refine ret_start (hP ▸ mixed) (hP ▸ fn_ref11_Dist) (hP ▸ c_ref11_Dist) (Nat.le_of_ble_eq_true rfl) fun Λ Λo K hK => ?_
 clear hP
 generalize searchS t down n false = r at *
 obtain ⟨D, e⟩ := r
 simp only [intsA, intsD, boolsA, boolsD] at *
 generalize D.map encI = Dl at *
 generalize down.map encB = dl at *
 obtain ⟨nodes, ov, links⟩ := t
 simp only [topA, boolsD, linksD] at *
 generalize hol : ov.map encB = ol at *
 generalize hll : links.map encLk = ll at *
 have hlo : Λ ol = ov.length := by rw [Λo, ← hol]; simp
 have hls : Λ ll = links.length := by rw [Λo, ← hll]; simp
 conv => cbv
 repeat' first | (refine call_r hs rfl rfl ?_; conv => cbv) | exact gu | exact trivial | refine And.intro ?_ ?_ | (intro hc; exact absurd hc (by decide)) | (intro hc; exfalso; omega) | (intro hc; (first | rw [wrap_small (by omega) (by omega)] at hc | rw [nI_eq] at hc | skip); try (conv => cbv))
 exact hK
def onB (t : Top) (down : List Bool) (D : List Int) (a d : Int) : Bool :=
 upB down a && !decide (tailT t a = d) && decide (0 ≤ gt D (headT t a)) && transitB t (headT t a) d && decide (gt D (tailT t a) = gt D (headT t a) + costT t a)
set_option maxHeartbeats 1000000 in
theorem on_ok (P : Program) (hP : P = Try.prog) (t : Top) (down : List Bool) (D : List Int) (a d : Int) (hv : validT t = true) (hd : down.length = 0 ∨ down.length = 2 * t.links.length) (h0 : 0 ≤ a) (h1 : a < 2 * t.links.length) (hl : (D.length : Int) = t.nodes)
  (hb : ∀ i, 0 ≤ i → i < t.nodes → -1 ≤ gt D i ∧ gt D i ≤ 4194240) : Ret P n_ref11_On [topA t, boolsA down, intsA D, iA a, iA d] (bA (onB t down D a d)) := by
 have hta := tail_ok P hP t a
 have hha := head_ok P hP t a
 have hua := up_ok P hP down a (by omega)
 have htr := transit_ok P hP t (headT t a) d
 have hca := cost_ok P hP t a
 refine ret_start (hP ▸ mixed) (hP ▸ fn_ref11_On) (hP ▸ c_ref11_On) (Nat.le_of_ble_eq_true rfl) fun Λ Λo K hK => ?_
 clear hP
 have leaf : ∀ b, onB t down D a d = b → K (bA b) := fun b hb => by rw [← hb]; exact hK
 have hr : onB t down D a d = (upB down a && !decide (tailT t a = d) && decide (0 ≤ gt D (headT t a)) && transitB t (headT t a) d && decide (gt D (tailT t a) = gt D (headT t a) + costT t a)) := rfl
 clear hK
 obtain ⟨⟨x0, x1⟩, ⟨y0, y1⟩, hne, c0, c1⟩ := arc_facts hv h0 h1
 have hbx := hb _ x0 x1
 have hby := hb _ y0 y1
 generalize onB t down D a d = r at *
 generalize tailT t a = X at *
 generalize headT t a = Y at *
 generalize costT t a = C at *
 generalize transitB t Y d = tb at *
 generalize upB down a = ub at *
 simp only [intsA, intsD, boolsA, boolsD] at *
 generalize hes : D.map encI = es at *
 have hesn : Λ es = D.length := by rw [Λo, ← hes]; simp
 generalize hdl : down.map encB = dl at *
 obtain ⟨nodes, ov, links⟩ := t
 simp only [topA, boolsD, linksD] at *
 generalize hol : ov.map encB = ol at *
 generalize hll : links.map encLk = ll at *
 have hlo : Λ ol = ov.length := by rw [Λo, ← hol]; simp
 have hls : Λ ll = links.length := by rw [Λo, ← hll]; simp
 conv => cbv
 repeat' first | (intro e he; obtain ⟨x, hx, rfl⟩ := map_get' hes he; have hgY := gt_of (i := Y) hx; have hgX := gt_of (i := X) hx; (conv => cbv)) | (refine call_r hta rfl rfl ?_; conv => cbv) | (refine call_r hha rfl rfl ?_; conv => cbv) | refine call_b hua rfl rfl ?_ ?_ | refine call_b htr rfl rfl ?_ ?_ | (refine call_r hca rfl rfl ?_; conv => cbv) | exact gu | exact trivial | refine And.intro ?_ ?_ | (intro hc; exact absurd hc (by decide)) | (intro hc; exfalso; omega) | (intro hc; (first | rw [wrap_small (by omega) (by omega)] at hc | rw [nI_eq] at hc | skip); try (conv => cbv))
 all_goals clear hta hha hua htr hca
 ·refine leaf _ (hr.trans ?_)
  rw [‹ub = true›, ‹tb = true›, decide_eq_false (p := X = d) (by assumption), decide_eq_true (p := 0 ≤ gt D Y) (by omega), decide_eq_true (p := gt D X = gt D Y + C) (by omega)]; rfl
 ·refine leaf _ (hr.trans ?_)
  rw [decide_eq_false (p := gt D X = gt D Y + C) (by omega)]; simp
 ·refine leaf _ (hr.trans ?_)
  rw [hc]; simp
 ·refine leaf _ (hr.trans ?_)
  rw [decide_eq_false (p := 0 ≤ gt D Y) (by omega)]; simp
 ·refine leaf _ (hr.trans ?_)
  rw [decide_eq_true hc]; simp
 ·refine leaf _ (hr.trans ?_)
  rw [hc]; simp
def nextL (t : Top) (down : List Bool) (D : List Int) (n d : Int) : List Int := (arcsTo (2 * t.links.length)).filter fun a => decide (tailT t a = n) && onB t down D a d
theorem mid_end {t : Top} (hv : validT t = true) {down : List Bool} {e : Int} {fr : Bool} : ∀ (m : Nat) (D : List Int), msr D = m → Mid t down e fr D → ∃ D', Mid t down e fr D' ∧ ∀ a : Int, 0 ≤ a → a < 2 * t.links.length → fixAt t down e fr D' a := by
 intro m
 induction m using Nat.strongRecOn with
 | _ m ih =>
  intro D hm hD
  by_cases h : ∀ a : Int, 0 ≤ a → a < 2 * t.links.length → fixAt t down e fr D a
  ·exact ⟨D, hD, h⟩
  ·simp only [Classical.not_forall] at h
   obtain ⟨a, a0, a1, ha⟩ := h
   simp only [fixAt, Classical.not_forall] at ha
   obtain ⟨ho, hy, hn⟩ := ha
   obtain ⟨s1, s2⟩ := hD.step hv a0 a1 ho hy (by omega)
   exact ih _ (by omega) _ rfl s1
theorem distS_spec {t : Top} (hv : validT t = true) (down : List Bool) {n : Int} (fr : Bool) (h0 : 0 ≤ n) (h1 : n < t.nodes) : IsDist t down n fr (distS t down n fr) ∧ ∀ i, 0 ≤ i → i < t.nodes → -1 ≤ gt (distS t down n fr) i ∧ gt (distS t down n fr) i ≤ 4194240 := by
 obtain ⟨D, hD, hf⟩ := mid_end hv _ _ rfl (mid_start (t := t) (down := down) (n := n) (fr := fr) h0 h1)
 have hd := hD.dist hf
 rw [distS_eq hv hd]
 exact ⟨hd, fun i i0 i1 => ⟨hd.lo i i0 i1, hD.le hv i0 i1⟩⟩
noncomputable def nextS (t : Top) (down : List Bool) (n d : Int) : List Int × Int :=
 if fitsB t down = true then (if 0 ≤ d ∧ d < t.nodes then (if 0 ≤ n ∧ n < t.nodes then (nextL t down (distS t down d false) n d, 0) else ([], 2)) else ([], 2)) else ([], 1)
end Go.Ab

/-
  The arcs with which shortest paths begin, as the program finds them.
-/
namespace Go.Ab
open Go.Proofs
theorem gout_ok (P : Program) (hP : P = Try.prog) (t : Top) (n : Int) (hv : validT t = true) : Ret P n_graph_Out [topA t, iA n] (intsA (rowG t false n (2 * t.links.length))) := by
 refine ret_start (hP ▸ mixed) (hP ▸ fn_graph_Out) (hP ▸ c_graph_Out) (Nat.le_of_ble_eq_true rfl) fun Λ Λo K hK => ?_
 have hw := garcs_ok P hP t (validT_spec.1 hv).2.2.1
 have ht := fun a h0 h1 => gtail_ok P hP t a h0 h1 (validT_spec.1 hv).2.2.1
 clear hP
 have hl2 := (validT_spec.1 hv).2.2.1
 have ho : rowG t false n (2 * t.links.length) = (arcsTo (2 * t.links.length)).filter fun a => decide (tailG t a = n) := rfl
 rw [ho] at hK
 clear ho
 generalize hf : tailG t = f at *
 generalize hv3 : 2 * t.links.length = v at *
 have hw' : Ret P n_graph_Arcs [topA t] (iA (v : Int)) := by rw [← hv3]; exact hw
 have ht' : ∀ a : Int, 0 ≤ a → a < v → Ret P n_graph_Tail [topA t, iA a] (iA (f a)) := fun a h0 h1 => ht a h0 (by omega)
 clear hw ht
 obtain ⟨nodes, ov, links⟩ := t
 simp only [topA, boolsD, linksD] at *
 generalize hol : ov.map encB = ol at *
 generalize hll : links.map encLk = ll at *
 have hlo : Λ ol = ov.length := by rw [Λo, ← hol]; simp
 have hls : Λ ll = links.length := by rw [Λo, ← hll]; simp
 simp only [intsA, intsD] at hK
 conv => cbv
 repeat' first | refine call_i hw' rfl rfl ?_ | exact gu | exact trivial | refine And.intro ?_ ?_ | (intro hc; exact absurd hc (by decide)) | (intro hc; exfalso; omega) | (intro hc; (first | rw [wrap_small (by omega) (by omega)] at hc | rw [nI_eq] at hc | skip); try (conv => cbv))
 rename_i v'
 refine loop_up v (fun (s : Int × Nat × Nat × Bool × List (List D)) => [(1, iA n), (2, .c (.ptr 0 0 0 0)), (5, .c (.arr 1 s.2.1 0 s.2.2.1)), (8, iA v'), (9, iA s.1)]) (fun s => [.bx [.d (.int .i64 nodes), .d (.list false 1 ol), .d (.list false 7 ll)], .da s.2.2.2.1 s.2.1 1 s.2.2.2.2])
  (fun k s => s.1 = k ∧ k ≤ v ∧ s.2.2.1 = s.2.2.2.2.length ∧ s.2.2.2.2 = (((arcsTo k).filter fun a => decide (f a = n)).map encI)) (0, 0, 0, false, []) (.trans (.nilS 5 1 rfl) (Wk.cw)) ⟨rfl, by omega, rfl, rfl⟩ (fun k s h => h.2.1) ?_
 rintro k ⟨i, ve, m, r, es⟩ Q' ⟨hi, hk, hm, hes⟩ norm ex rt
 simp only at hi hm hes
 have hesl : es.length ≤ k := by
  rw [hes, List.length_map]
  refine Nat.le_trans (List.length_filter_le _ _) ?_
  simp [arcsTo]
 conv => cbv
 repeat' first | (refine ex _ _ _ ?_; (conv => cbv)) | (refine rt _ _ ?_; (conv => cbv)) | refine call_i (ht' _ (by omega) (by omega)) rfl rfl ?_ | (intro (_ : Unit); refine ⟨rfl, ?_⟩; simp only [List.length_cons, List.length_nil]; omega) | exact gu | exact trivial | refine And.intro ?_ ?_ | (intro hc; exact absurd hc (by decide)) | (intro hc; exfalso; omega) | (intro hc; (first | rw [wrap_small (by omega) (by omega)] at hc | rw [nI_eq] at hc | skip); try (conv => cbv))
 ·rename_i hfi hn m' r' es' hm' hr' he' i'
  refine norm _ _ (_, _, _, _, _) ?_ (Wk.cw)
  have e : es' = ((arcsTo (k + 1)).filter fun a => decide (f a = n)).map encI := by
   rw [he', List.drop_zero, hm, List.take_length, hes, arcsTo_succ, List.filter_append, List.map_append]
   rw [← hi, List.filter_cons_of_pos (by simp only [decide_eq_true_eq]; omega)]; rfl
  exact ⟨by simp only; omega, by omega, by simp only; rw [hm', he', List.drop_zero, hm, List.take_length]; simp, e⟩
 ·rename_i hfi hn i'
  refine norm _ _ (_, _, _, _, _) ?_ (Wk.cw)
  have e : es = ((arcsTo (k + 1)).filter fun a => decide (f a = n)).map encI := by
   rw [hes, arcsTo_succ, List.filter_append, List.map_append]
   rw [← hi, List.filter_cons_of_neg (by simp only [decide_eq_true_eq]; omega)]; simp
  exact ⟨by simp only; omega, by omega, hm, e⟩
 ·rename_i ls
  have e : ls = ((arcsTo v).filter fun a => decide (f a = n)).map encI := by
   rw [hc, List.drop_zero, hm, List.take_length, hes, show k = v by omega]
  subst e
  exact hK
def stepB (t : Top) (down : List Bool) (D : List Int) (n d a : Int) : Bool :=
 upB down a && decide (0 ≤ gt D (headT t a)) && transitB t (headT t a) d && decide (gt D (headT t a) + costT t a = gt D n)
def sucL (t : Top) (down : List Bool) (D A : List Int) (n d : Int) : List Int := if n = d ∨ gt D n < 0 then [] else A.filter (stepB t down D n d)
theorem headG_T {t : Top} (hv : validT t = true) {a : Int} (h0 : 0 ≤ a) (h1 : a < 2 * t.links.length) : headG t a = headT t a := by
 rw [headT, headG, arcsT, if_pos hv, if_pos (show 0 ≤ a ∧ a < 2 * (t.links.length : Int) from ⟨h0, h1⟩)]
theorem tailG_T {t : Top} (hv : validT t = true) {a : Int} (h0 : 0 ≤ a) (h1 : a < 2 * t.links.length) : tailG t a = tailT t a := by
 rw [tailT, tailG, arcsT, if_pos hv, if_pos (show 0 ≤ a ∧ a < 2 * (t.links.length : Int) from ⟨h0, h1⟩)]
theorem sucL_next {t : Top} (hv : validT t = true) {down : List Bool} {D : List Int} {n d : Int} : sucL t down D (rowG t false n (2 * t.links.length)) n d = nextL t down D n d := by
 have hc : ∀ a : Int, 0 ≤ a → a < 2 * t.links.length → 1 ≤ costT t a := fun a h0 h1 => (arc_facts hv h0 h1).2.2.2.1
 have hr : ∀ a ∈ arcsTo (2 * t.links.length), 0 ≤ a ∧ a < 2 * t.links.length := fun a ha => by
  simp only [arcsTo, List.mem_map, List.mem_range] at ha
  obtain ⟨k, hk, rfl⟩ := ha
  omega
 rw [sucL, nextL, rowG]
 split
 ·rename_i h
  refine (List.filter_eq_nil_iff.2 fun a ha => ?_).symm
  obtain ⟨h0, h1⟩ := hr a ha
  have := hc a h0 h1
  simp only [onB, Bool.and_eq_true, decide_eq_true_eq, Bool.not_eq_true', decide_eq_false_iff_not]
  rintro ⟨e, ⟨⟨⟨⟨_, h2⟩, h3⟩, _⟩, h5⟩⟩
  rw [e] at h2 h5
  rcases h with h | h
  ·exact h2 h
  ·omega
 ·rename_i h
  rw [List.filter_filter]
  refine List.filter_congr fun a ha => ?_
  obtain ⟨h0, h1⟩ := hr a ha
  rw [endG, if_neg (by decide), tailG_T hv h0 h1, stepB, onB]
  by_cases e : tailT t a = n
  ·rw [e, decide_eq_true rfl, decide_eq_false (p := n = d) (fun h' => h (.inl h'))]
   rw [show decide (gt D n = gt D (headT t a) + costT t a) = decide (gt D (headT t a) + costT t a = gt D n) from decide_eq_decide.2 eq_comm]
   cases upB down a <;> simp
  ·rw [decide_eq_false e]; simp
set_option maxHeartbeats 2000000 in
theorem dnext_ok (P : Program) (hP : P = Try.prog) (t : Top) (down : List Bool) (E A : List Int) (n d : Int) (hv : validT t = true) (hd : down.length = 0 ∨ down.length = 2 * t.links.length) (hl : (E.length : Int) = t.nodes)
  (hb : ∀ i, 0 ≤ i → i < t.nodes → -1 ≤ gt E i ∧ gt E i ≤ 4194240) (n0 : 0 ≤ n) (n1 : n < t.nodes) (hA : ∀ a ∈ A, 0 ≤ a ∧ a < 2 * t.links.length) (hAl : A.length ≤ 512) : Ret P n_dag_next [topA t, boolsA down, intsA E, intsA A, iA n, iA d] (intsA (sucL t down E A n d)) := by
 refine ret_start (hP ▸ mixed) (hP ▸ fn_dag_next) (hP ▸ c_dag_next) (Nat.le_of_ble_eq_true rfl) fun Λ Λo K hK => ?_
 have hhead := fun a h0 h1 => ghead_ok P hP t a h0 h1 (validT_spec.1 hv).2.2.1
 have hdown := fun a h => gdown_ok P hP down a h
 have hover := fun x h0 h1 => gover_ok P hP t x hv h0 h1
 have hcost := fun a h0 h1 => gcost_ok P hP t a hv h0 h1
 clear hP
 obtain ⟨nodes, hN⟩ : ∃ x, x = t.nodes := ⟨_, rfl⟩
 obtain ⟨ol, hol⟩ : ∃ x, x = t.ov.map encB := ⟨_, rfl⟩
 obtain ⟨ll, hll⟩ : ∃ x, x = t.links.map encLk := ⟨_, rfl⟩
 obtain ⟨dl, hdl⟩ : ∃ x, x = down.map encB := ⟨_, rfl⟩
 obtain ⟨es, hes⟩ : ∃ x, x = E.map encI := ⟨_, rfl⟩
 obtain ⟨al, hal⟩ : ∃ x, x = A.map encI := ⟨_, rfl⟩
 have lal : Λ al = A.length := by rw [Λo, hal]; simp
 have les : Λ es = E.length := by rw [Λo, hes]; simp
 have eat : ∀ x : Int, 0 ≤ x → x < t.nodes → es[x.toNat]? = some [iD (gt E x)] := fun x hx hlt => by
  rw [hes, encI_at (by omega), Int.toNat_of_nonneg hx]
 have hen := eat n n0 n1
 have hbn := hb n n0 n1
 have k1 : (n = d ∨ gt E n < 0) → K (intsA []) := fun h => by rw [sucL, if_pos h] at hK; exact hK
 have k2 : ¬ (n = d ∨ gt E n < 0) → K (intsA (A.filter (stepB t down E n d))) := fun h => by rw [sucL, if_neg h] at hK; exact hK
 clear hK
 simp only [topA, boolsA, boolsD, linksD, intsA, intsD, ← hN, ← hol, ← hll, ← hdl, ← hes, ← hal] at hhead hdown hover hcost k1 k2 ⊢
 clear hol hll hdl
 obtain ⟨dn, hdn⟩ : ∃ x, x = gt E n := ⟨_, rfl⟩
 rw [← hdn] at hbn k1 k2 hen
 conv => cbv
 repeat' first | (intro (e : List D) he; cases Option.some.inj (he.symm.trans hen); (conv => cbv)) | exact gu | exact trivial | refine And.intro ?_ ?_ | (intro hc; exact absurd hc (by decide)) | (intro hc; exfalso; omega) | (intro hc; (first | rw [wrap_small (by omega) (by omega)] at hc | rw [nI_eq] at hc | skip); try (conv => cbv))
 ·exact k1 (.inl (by assumption))
 ·exact k1 (.inr (by assumption))
 rename_i hnd hdn0
 have k2 := k2 (by omega)
 clear k1
 refine loop_up A.length (fun (s : Int × Nat × Nat × Bool × List (List D)) => [(1, .c (.d (.list false 1 dl))), (2, .c (.d (.list false 1 es))), (4, iA n), (5, iA d), (6, .c (.ptr 0 0 0 0)), (13, .c (.arr 1 s.2.1 0 s.2.2.1)), (28, .c (.d (.list false 1 al))), (29, iA (Λ al)), (30, iA s.1)]) (fun s => [.bx [.d (.int .i64 nodes), .d (.list false 1 ol), .d (.list false 7 ll)], .da s.2.2.2.1 s.2.1 1 s.2.2.2.2])
  (fun k s => s.1 = k ∧ k ≤ A.length ∧ s.2.2.1 = s.2.2.2.2.length ∧ s.2.2.2.2 = ((A.take k).filter (stepB t down E n d)).map encI) (0, 0, 0, false, []) (.trans (.nilS 13 1 rfl) (Wk.cw)) ⟨rfl, by omega, rfl, rfl⟩ (fun k s h => h.2.1) ?_
 rintro k ⟨i, ve, m, r, es'⟩ Q' ⟨hi, hk, hm, hes'⟩ norm ex rt
 simp only at hi hm hes'
 have hesl : es'.length ≤ k := by
  rw [hes', List.length_map]
  refine Nat.le_trans (List.length_filter_le _ _) ?_
  simp; omega
 by_cases hlt : k < A.length
 ·obtain ⟨a, ha⟩ : ∃ a, A[k]? = some a := ⟨_, List.getElem?_eq_getElem hlt⟩
  have hra : al[i.toNat]? = some [iD a] := by rw [hi, Int.toNat_natCast, hal, List.getElem?_map, ha]; rfl
  obtain ⟨a0, a1⟩ := hA a (List.mem_of_getElem? ha)
  have af := arc_facts hv a0 a1
  have hha := hhead a a0 a1
  have hda := hdown a (hd.imp id fun h => ⟨a0, by omega⟩)
  have hca := hcost a a0 a1
  rw [headG_T hv a0 a1] at hha
  have hoa := hover (headT t a) af.2.1.1 (by omega)
  have hxa := eat (headT t a)
  have hbx := hb (headT t a) af.2.1.1 (by omega)
  have hst : stepB t down E n d a = (upB down a && decide (0 ≤ gt E (headT t a)) && (decide (headT t a = d) || !ovT t (headT t a)) && decide (gt E (headT t a) + costT t a = gt E n)) := rfl
  rw [← hdn] at hst
  obtain ⟨x, hx⟩ : ∃ x, x = headT t a := ⟨_, rfl⟩
  obtain ⟨cs, hcs⟩ : ∃ x, x = costT t a := ⟨_, rfl⟩
  obtain ⟨up, hup⟩ : ∃ x, x = upB down a := ⟨_, rfl⟩
  rw [← hx] at hha hoa hxa hst af hbx
  obtain ⟨ov, hov⟩ : ∃ b, b = ovT t x := ⟨_, rfl⟩
  obtain ⟨dx, hdx⟩ : ∃ d, d = gt E x := ⟨_, rfl⟩
  rw [← hov] at hoa hst
  rw [← hcs] at hca hst af
  rw [← hup] at hda hst
  rw [← hdx] at hst hxa hbx
  have hDx := hxa af.2.1.1 (by omega)
  have tk : (A.take (k + 1)).filter (stepB t down E n d) = (A.take k).filter (stepB t down E n d) ++ if stepB t down E n d a = true then [a] else [] := by
   rw [take_succ_get ha, List.filter_append, List.filter_cons]; rfl
  have skip : ∀ L h i', i' = i + 1 → stepB t down E n d a = false → Wk 0 L h [(1, .c (.d (.list false 1 dl))), (2, .c (.d (.list false 1 es))), (4, iA n), (5, iA d), (6, .c (.ptr 0 0 0 0)), (13, .c (.arr 1 ve 0 m)), (28, .c (.d (.list false 1 al))), (29, iA (Λ al)), (30, iA i')] [.bx [.d (.int .i64 nodes), .d (.list false 1 ol), .d (.list false 7 ll)], .da r ve 1 es'] → Q' .normal L h := fun L h i' h1 h2 hw => by
   refine norm _ _ (i', ve, m, r, es') ⟨by simp only; omega, by omega, hm, ?_⟩ hw
   simp only; rw [tk, h2, hes']; simp
  clear hhead hdown hover hcost
  conv => cbv
  repeat' first | (refine ex _ _ _ ?_; (conv => cbv)) | (refine rt _ _ ?_; (conv => cbv)) | (intro (e : List D) he; cases Option.some.inj (he.symm.trans hra); (conv => cbv)) | (intro (e : List D) he; cases Option.some.inj (he.symm.trans hDx); (conv => cbv)) | (intro (e : List D) he; cases Option.some.inj (he.symm.trans hen); (conv => cbv)) | refine call_b hda rfl rfl ?_ ?_ | refine call_b hoa rfl rfl ?_ ?_ | (refine call_r hha rfl rfl ?_; conv => cbv) | (refine call_r hca rfl rfl ?_; conv => cbv) | (intro (_ : Unit); refine ⟨rfl, ?_⟩; simp only [List.length_cons, List.length_nil]; omega) | exact gu | exact trivial | refine And.intro ?_ ?_ | (intro hc; exact absurd hc (by decide)) | (intro hc; exfalso; omega) | (intro hc; (first | rw [wrap_small (by omega) (by omega)] at hc | rw [nI_eq] at hc | skip); try (conv => cbv))
  all_goals first | (rename_i i'; refine skip _ _ i' (by assumption) ?_ (Wk.cw); rw [hst, Bool.eq_false_iff]; simp only [ne_eq, Bool.and_eq_true, Bool.or_eq_true, decide_eq_true_eq, Bool.not_eq_true']; rintro ⟨⟨⟨h1, h2⟩, h3⟩, h4⟩; first | omega | (simp_all; done) | (rcases h3 with h3 | h3; exact absurd h3 (by assumption); simp_all; done)) | skip
  all_goals
   rename_i m' r' es2 hm' hr' he' i'
   have hb : stepB t down E n d a = true := by
    rw [hst]
    simp only [Bool.and_eq_true, Bool.or_eq_true, decide_eq_true_eq, Bool.not_eq_true']
    refine ⟨⟨⟨by cases up <;> simp_all, by omega⟩, by first | exact .inl (by assumption) | exact .inr (by assumption)⟩, by omega⟩
   have e : es2 = ((A.take (k + 1)).filter (stepB t down E n d)).map encI := by
    rw [tk, if_pos hb, he', List.drop_zero, hm, List.take_length, hes', List.map_append]; rfl
   refine norm _ _ (_, _, _, _, _) ?_ (Wk.cw)
   exact ⟨by simp only; omega, by omega, by simp only; rw [hm', he', List.drop_zero, hm, List.take_length]; simp, e⟩
 ·conv => cbv
  repeat' first | (refine ex _ _ _ ?_; (conv => cbv)) | (refine rt _ _ ?_; (conv => cbv)) | exact gu | exact trivial | refine And.intro ?_ ?_ | (intro hc; exact absurd hc (by decide)) | (intro hc; exfalso; omega) | (intro hc; (first | rw [wrap_small (by omega) (by omega)] at hc | rw [nI_eq] at hc | skip); try (conv => cbv))
  rename_i ls
  have e : ls = (A.filter (stepB t down E n d)).map encI := by
   rw [hc, List.drop_zero, hm, List.take_length, hes', List.take_of_length_le (by omega)]
  subst e
  exact k2
theorem ddists_ok (P : Program) (hP : P = Try.prog) (t : Top) (down : List Bool) (n d : Int) : Ret P n_dag_dists [topA t, boolsA down, iA n, iA d]
  (if (searchS t down d false).2 ≠ 0 then .tup [intsA [], iA (searchS t down d false).2] else if 0 ≤ n ∧ n < t.nodes then .tup [intsA (searchS t down d false).1, iA 0] else .tup [intsA [], iA 2]) := by
 refine ret_start (hP ▸ mixed) (hP ▸ fn_dag_dists) (hP ▸ c_dag_dists) (Nat.le_of_ble_eq_true rfl) fun Λ Λo K hK => ?_
 have hs := sdist_ok P hP t down d
 have hn := gnode_ok P hP t n
 clear hP
 generalize searchS t down d false = sr at *
 obtain ⟨s1, s2⟩ := sr
 simp only at *
 obtain ⟨nodes, hN⟩ : ∃ x, x = t.nodes := ⟨_, rfl⟩
 obtain ⟨ol, hol⟩ : ∃ x, x = t.ov.map encB := ⟨_, rfl⟩
 obtain ⟨ll, hll⟩ : ∃ x, x = t.links.map encLk := ⟨_, rfl⟩
 obtain ⟨dl, hdl⟩ : ∃ x, x = down.map encB := ⟨_, rfl⟩
 obtain ⟨sl, hsl⟩ : ∃ x, x = s1.map encI := ⟨_, rfl⟩
 have k1 : s2 ≠ 0 → K (.tup [intsA [], iA s2]) := fun h => by rw [if_pos h] at hK; exact hK
 have k2 : s2 = 0 → decide (0 ≤ n ∧ n < nodes) = true → K (.tup [.c (.d (.list false 1 sl)), iA 0]) := fun h h' => by rw [if_neg (by omega), if_pos (by rw [← hN]; exact of_decide_eq_true h'), intsA, intsD, ← hsl] at hK; exact hK
 have k3 : s2 = 0 → decide (0 ≤ n ∧ n < nodes) = false → K (.tup [intsA [], iA 2]) := fun h h' => by rw [if_neg (by omega), if_neg (by rw [← hN]; exact of_decide_eq_false h')] at hK; exact hK
 clear hK
 simp only [topA, boolsA, boolsD, linksD, intsA, intsD, ← hN, ← hol, ← hll, ← hdl, ← hsl] at hs hn k1 k2 k3 ⊢
 clear hol hll hdl hsl hN
 generalize decide (0 ≤ n ∧ n < nodes) = nb at *
 conv => cbv
 repeat' first | (refine call_r hs rfl rfl ?_; conv => cbv) | refine call_b hn rfl rfl ?_ ?_ | exact gu | exact trivial | refine And.intro ?_ ?_ | (intro hc; exact absurd hc (by decide)) | (intro hc; exfalso; omega) | (intro hc; (first | rw [wrap_small (by omega) (by omega)] at hc | rw [nI_eq] at hc | skip); try (conv => cbv))
 all_goals first | exact k1 (by assumption) | exact k2 (by omega) (by assumption) | exact k3 (by omega) (by assumption)
theorem dNext_ok (P : Program) (hP : P = Try.prog) (t : Top) (down : List Bool) (n d : Int) : Ret P n_dag_Next [topA t, boolsA down, iA n, iA d] (.tup [intsA (nextS t down n d).1, iA (nextS t down n d).2]) := by
 refine ret_start (hP ▸ mixed) (hP ▸ fn_dag_Next) (hP ▸ c_dag_Next) (Nat.le_of_ble_eq_true rfl) fun Λ Λo K hK => ?_
 have hs := ddists_ok P hP t down n d
 have hout := gout_ok P hP t n
 have hnx := fun E hv hd hl hb n0 n1 => dnext_ok P hP t down E (rowG t false n (2 * t.links.length)) n d hv hd hl hb n0 n1 (fun a ha => ⟨(row_mem hv ha).1, (row_mem hv ha).2.1⟩)
 clear hP
 by_cases hf : fitsB t down = true
 ·obtain ⟨hv, hd⟩ : validT t = true ∧ (down.length = 0 ∨ down.length = 2 * t.links.length) := by simpa [fitsB] using hf
  by_cases hdd : 0 ≤ d ∧ d < t.nodes
  ·have hsp := distS_spec hv down false hdd.1 hdd.2
   by_cases hnn : 0 ≤ n ∧ n < t.nodes
   ·rw [searchS, if_pos hf, if_pos hdd, if_pos hnn, if_neg (by simp)] at hs
    rw [nextS, if_pos hf, if_pos hdd, if_pos hnn] at hK
    have hx := hnx (distS t down d false) hv hd hsp.1.len hsp.2 hnn.1 hnn.2 (Nat.le_trans (rowG_len ..) (by have := (validT_spec.1 hv).2.2.1; omega))
    rw [sucL_next hv] at hx
    have hout := hout hv
    clear hsp hnx
    simp only [intsA, intsD, boolsA, boolsD] at hs hx hK hout ⊢
    generalize (rowG t false n (2 * t.links.length)).map encI = rl at *
    generalize (nextL t down (distS t down d false) n d).map encI = nl at *
    generalize (distS t down d false).map encI = ds at *
    generalize down.map encB = dl at *
    clear hv hd hdd hnn hf
    obtain ⟨nodes, ov, links⟩ := t
    simp only [topA, boolsD, linksD] at *
    generalize hol : ov.map encB = ol at *
    generalize hll : links.map encLk = ll at *
    have hlo : Λ ol = ov.length := by rw [Λo, ← hol]; simp
    have hls : Λ ll = links.length := by rw [Λo, ← hll]; simp
    conv => cbv
    repeat' first | (refine call_r hs rfl rfl ?_; conv => cbv) | (refine call_r hout rfl rfl ?_; conv => cbv) | (refine call_r hx rfl rfl ?_; conv => cbv) | exact gu | exact trivial | refine And.intro ?_ ?_ | (intro hc; exact absurd hc (by decide)) | (intro hc; exfalso; omega) | (intro hc; (first | rw [wrap_small (by omega) (by omega)] at hc | rw [nI_eq] at hc | skip); try (conv => cbv))
    exact hK
   ·rw [searchS, if_pos hf, if_pos hdd, if_neg hnn, if_neg (by simp)] at hs
    rw [nextS, if_pos hf, if_pos hdd, if_neg hnn] at hK
    clear hsp hnx hout hf hv
    simp only [intsA, intsD, boolsA, boolsD, List.map_nil] at *
    generalize down.map encB = dl at *
    obtain ⟨nodes, ov, links⟩ := t
    simp only [topA, boolsD, linksD] at *
    generalize hol : ov.map encB = ol at *
    generalize hll : links.map encLk = ll at *
    have hlo : Λ ol = ov.length := by rw [Λo, ← hol]; simp
    have hls : Λ ll = links.length := by rw [Λo, ← hll]; simp
    conv => cbv
    repeat' first | (refine call_r hs rfl rfl ?_; conv => cbv) | exact gu | exact trivial | refine And.intro ?_ ?_ | (intro hc; exact absurd hc (by decide)) | (intro hc; exfalso; omega) | (intro hc; (first | rw [wrap_small (by omega) (by omega)] at hc | rw [nI_eq] at hc | skip); try (conv => cbv))
    exact hK
  ·rw [searchS, if_pos hf, if_neg hdd, if_pos (by simp)] at hs
   rw [nextS, if_pos hf, if_neg hdd] at hK
   clear hnx hout hf hv
   simp only [intsA, intsD, boolsA, boolsD, List.map_nil] at *
   generalize down.map encB = dl at *
   obtain ⟨nodes, ov, links⟩ := t
   simp only [topA, boolsD, linksD] at *
   generalize hol : ov.map encB = ol at *
   generalize hll : links.map encLk = ll at *
   have hlo : Λ ol = ov.length := by rw [Λo, ← hol]; simp
   have hls : Λ ll = links.length := by rw [Λo, ← hll]; simp
   conv => cbv
   repeat' first | (refine call_r hs rfl rfl ?_; conv => cbv) | exact gu | exact trivial | refine And.intro ?_ ?_ | (intro hc; exact absurd hc (by decide)) | (intro hc; exfalso; omega) | (intro hc; (first | rw [wrap_small (by omega) (by omega)] at hc | rw [nI_eq] at hc | skip); try (conv => cbv))
   exact hK
 ·rw [searchS, if_neg hf, if_pos (by simp)] at hs
  rw [nextS, if_neg hf] at hK
  clear hnx hout hf
  simp only [intsA, intsD, boolsA, boolsD, List.map_nil] at *
  generalize down.map encB = dl at *
  obtain ⟨nodes, ov, links⟩ := t
  simp only [topA, boolsD, linksD] at *
  generalize hol : ov.map encB = ol at *
  generalize hll : links.map encLk = ll at *
  have hlo : Λ ol = ov.length := by rw [Λo, ← hol]; simp
  have hls : Λ ll = links.length := by rw [Λo, ← hll]; simp
  conv => cbv
  repeat' first | (refine call_r hs rfl rfl ?_; conv => cbv) | exact gu | exact trivial | refine And.intro ?_ ?_ | (intro hc; exact absurd hc (by decide)) | (intro hc; exfalso; omega) | (intro hc; (first | rw [wrap_small (by omega) (by omega)] at hc | rw [nI_eq] at hc | skip); try (conv => cbv))
  exact hK
end Go.Ab

/-
  Groups: which lists are valid.
-/
namespace Go.Ab
open Go.Proofs
def okAt (t : Top) (A : List Int) (k : Nat) : Prop := 0 ≤ A.getD k 0 ∧ A.getD k 0 < t.nodes ∧ (1 ≤ k → A.getD (k - 1) 0 < A.getD k 0)
instance (t : Top) (A : List Int) (k : Nat) : Decidable (okAt t A k) := by unfold okAt; infer_instance
theorem list_at (A : List Int) {k : Nat} (h : k < A.length) : (A.map encI)[k]? = some [iD (A.getD k 0)] := by
 rw [List.getElem?_map, List.getElem?_eq_getElem h]
 simp [List.getD_eq_getElem?_getD, h, encI]
end Go.Ab

