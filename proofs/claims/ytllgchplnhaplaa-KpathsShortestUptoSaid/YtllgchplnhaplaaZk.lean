/-
  Merged texts, part k.
-/
import Derived.Test.YtllgchplnhaplaaZj
/-
  The engine, part y: a function's contract out of its text's condition.
-/
namespace Go.Ab
structure AF where
 nt : Nat
 res : List (Nat × Option (Option Nat))
 body : AC
def resC (P : Program) : List ResultVar → Option (List (Nat × Option (Option Nat)))
 | [] => some []
 | .tmp t :: r => match resC P r with
  | some l => some ((t, none) :: l)
  | none => none
 | .cell t ty :: r => match ldk P ty, resC P r with
  | some k, some l => some ((t, some k) :: l)
  | _, _ => none
def compF (P : Program) (fn : Func) : Option AF :=
 match fn.body with
 | some c => match compC P fn.ntmps c, resC P fn.results.toList with
  | some ac, some r => some ⟨fn.ntmps, r, ac⟩
  | _, _ => none
 | none => none
def resA (e : Env) (h : Hp) : List (Nat × Option (Option Nat)) → Option (List AV)
 | [] => some []
 | (s, k) :: r => match resA e h r with
  | some l => (match k with
   | none => some (e s :: l)
   | some none => match rd h (e s) with
    | some (c :: _) => some (.c c :: l)
    | _ => none
   | some (some n) => match rd h (e s) with
    | some cs => if n ≤ cs.length then some (.agg (cs.take n) :: l) else none
    | none => none)
  | none => none
def pack : List AV → AV
 | [x] => x
 | l => .tup l
def frzC (h : Hp) : CV → Option (CV × Hp)
 | .d x => some (.d (fgD x), h)
 | .cl _ sz l => some (.d (.list false sz l), h)
 | .arr l v i n => match h[l]? with
  | some (.da _ v' sz es) => (match Nat.beq v' v with
   | true => some (.d (.list false sz ((es.drop i).take n)), h.set l .dead)
   | false => none)
  | _ => none
 | .u => some (.u, h)
 | .rp cs => some (.rp cs, h)
 | .fn b f [] => some (.fn b f [], h)
 | .ptr l _ i j => match Nat.beq (i + j) 0, h[l]? with
  | true, some (.bx cs) => (match frzs h cs with
   | some (ds, h2) => some (.rp ds, h2.set l .dead)
   | none => none)
  | _, _ => none
 | _ => none
def frzCs (h : Hp) : List CV → Option (List CV × Hp)
 | [] => some ([], h)
 | x :: r => match frzC h x with
  | some (y, h1) => (match frzCs h1 r with
   | some (l, h2) => some (y :: l, h2)
   | none => none)
  | none => none
def frzA1 (h : Hp) : AV → Option (AV × Hp)
 | .c x => match frzC h x with
  | some (y, h1) => some (.c y, h1)
  | none => none
 | .agg l => match frzCs h l with
  | some (y, h1) => some (.agg y, h1)
  | none => none
 | .tup _ => none
def frzAs (h : Hp) : List AV → Option (List AV × Hp)
 | [] => some ([], h)
 | x :: r => match frzA1 h x with
  | some (y, h1) => (match frzAs h1 r with
   | some (l, h2) => some (y :: l, h2)
   | none => none)
  | none => none
def vFrzD (h : Hp) (x : CV) (K : D → Hp → Prop) : Prop :=
 match x with
 | .d x => K (fgD x) h
 | .arr l v i n => match h[l]? with
  | some (.da _ v' sz es) => (Unit → v' = v) ∧ ∀ ls, ls = (es.drop i).take n → K (.list false sz ls) (h.set l .dead)
  | _ => False
 | .rp cs => K (.rp cs) h
 | .mp l => match h[l]? with
  | some (.mp _ es) => ∃ ds, toDD es = some ds ∧ K (.mpf ds) (h.set l .dead)
  | _ => False
 | _ => False
def vFrzDs (h : Hp) : List CV → (List D → Hp → Prop) → Prop
 | [], K => K [] h
 | x :: r, K => vFrzD h x fun d h1 => vFrzDs h1 r fun l h2 => K (d :: l) h2
theorem vFrzD_sound {h : Hp} {x : CV} {K : D → Hp → Prop} (hv : vFrzD h x K) : ∃ y h1, frz h x = some (y, h1) ∧ K y h1 := by
 unfold vFrzD at hv
 split at hv
 ·exact ⟨_, _, rfl, hv⟩
 ·split at hv
  ·rename_i hes
   have hb := hv.1 ()
   subst hb
   exact ⟨_, _, by simp [frz, hes], hv.2 _ rfl⟩
  ·exact hv.elim
 ·exact ⟨_, _, rfl, hv⟩
 ·split at hv
  ·rename_i hes
   obtain ⟨ds, hd, hv⟩ := hv
   exact ⟨_, _, by simp [frz, hes, hd], hv⟩
  ·exact hv.elim
 ·exact hv.elim
theorem vFrzDs_sound : ∀ {l : List CV} {h : Hp} {K : List D → Hp → Prop}, vFrzDs h l K → ∃ y h1, frzs h l = some (y, h1) ∧ K y h1 := by
 intro l
 induction l with
 | nil => intro h K hv; exact ⟨_, _, rfl, hv⟩
 | cons x r ih =>
  intro h K hv
  obtain ⟨y, h1, e1, hv⟩ := vFrzD_sound hv
  obtain ⟨z, h2, e2, hv⟩ := ih hv
  exact ⟨_, _, by simp only [frzs, e1, e2], hv⟩
def vFrzC (h : Hp) (x : CV) (K : CV → Hp → Prop) : Prop :=
 match x with
 | .d x => K (.d (fgD x)) h
 | .arr l v i n => match h[l]? with
  | some (.da _ v' sz es) => (Unit → v' = v) ∧ ∀ ls, ls = (es.drop i).take n → K (.d (.list false sz ls)) (h.set l .dead)
  | _ => False
 | .ptr l _ i j => match Nat.beq (i + j) 0, h[l]? with
  | true, some (.bx cs) => vFrzDs h cs fun ds h2 => K (.rp ds) (h2.set l .dead)
  | _, _ => False
 | x => match frzC h x with
  | some (y, h1) => K y h1
  | none => False
def vFrzCs (h : Hp) : List CV → (List CV → Hp → Prop) → Prop
 | [], K => K [] h
 | x :: r, K => vFrzC h x fun y h1 => vFrzCs h1 r fun l h2 => K (y :: l) h2
def vFrzA1 (h : Hp) (x : AV) (K : AV → Hp → Prop) : Prop :=
 match x with
 | .c x => vFrzC h x fun y h1 => K (.c y) h1
 | .agg l => vFrzCs h l fun y h1 => K (.agg y) h1
 | .tup _ => False
def vFrzAs (h : Hp) : List AV → (List AV → Hp → Prop) → Prop
 | [], K => K [] h
 | x :: r, K => vFrzA1 h x fun y h1 => vFrzAs h1 r fun l h2 => K (y :: l) h2
theorem vFrzC_sound {h : Hp} {x : CV} {K : CV → Hp → Prop} (hv : vFrzC h x K) : ∃ y h1, frzC h x = some (y, h1) ∧ K y h1 := by
 unfold vFrzC at hv
 split at hv
 ·exact ⟨_, _, rfl, hv⟩
 ·split at hv
  ·rename_i hes
   have hb := hv.1 ()
   subst hb
   exact ⟨_, _, by simp only [frzC, hes, Nat.beq_refl], hv.2 _ rfl⟩
  ·exact hv.elim
 ·split at hv
  ·rename_i cs hb hes
   obtain ⟨ds, h2, e, hk⟩ := vFrzDs_sound hv
   exact ⟨_, _, by simp only [frzC, hb, hes, e], hk⟩
  ·exact hv.elim
 ·split at hv
  ·rename_i y h1 hy; exact ⟨y, h1, hy, hv⟩
  ·exact hv.elim
theorem vFrzCs_sound : ∀ {l : List CV} {h : Hp} {K : List CV → Hp → Prop}, vFrzCs h l K → ∃ y h1, frzCs h l = some (y, h1) ∧ K y h1 := by
 intro l
 induction l with
 | nil => intro h K hv; exact ⟨_, _, rfl, hv⟩
 | cons x r ih =>
  intro h K hv
  obtain ⟨y, h1, e1, hv⟩ := vFrzC_sound hv
  obtain ⟨z, h2, e2, hv⟩ := ih hv
  exact ⟨_, _, by simp only [frzCs, e1, e2], hv⟩
theorem vFrzA1_sound {h : Hp} {x : AV} {K : AV → Hp → Prop} (hv : vFrzA1 h x K) : ∃ y h1, frzA1 h x = some (y, h1) ∧ K y h1 := by
 unfold vFrzA1 at hv
 split at hv
 ·obtain ⟨y, h1, e1, hv⟩ := vFrzC_sound hv
  exact ⟨_, _, by simp only [frzA1, e1], hv⟩
 ·obtain ⟨y, h1, e1, hv⟩ := vFrzCs_sound hv
  exact ⟨_, _, by simp only [frzA1, e1], hv⟩
 ·exact hv.elim
theorem vFrzAs_sound : ∀ {l : List AV} {h : Hp} {K : List AV → Hp → Prop}, vFrzAs h l K → ∃ y h1, frzAs h l = some (y, h1) ∧ K y h1 := by
 intro l
 induction l with
 | nil => intro h K hv; exact ⟨_, _, rfl, hv⟩
 | cons x r ih =>
  intro h K hv
  obtain ⟨y, h1, e1, hv⟩ := vFrzA1_sound hv
  obtain ⟨z, h2, e2, hv⟩ := ih hv
  exact ⟨_, _, by simp only [frzAs, e1, e2], hv⟩
def RetP (res : List (Nat × Option (Option Nat))) (L : Lv) (h : Hp) (K : AV → Prop) : Prop :=
 match resA (lkN L) h res with
 | some vs => (match frzAs h vs with
  | some (rs, _) => K (pack rs)
  | none => False)
 | none => False
def RetQ (res : List (Nat × Option (Option Nat))) (L : Lv) (h : Hp) (K : AV → Prop) : Prop :=
 match resA (lkN L) h res with
 | some vs => vFrzAs h vs fun rs _ => K (pack rs)
 | none => False
theorem RetQ.ret {res : List (Nat × Option (Option Nat))} {L : Lv} {h : Hp} {K : AV → Prop} (hq : RetQ res L h K) : RetP res L h K := by
 unfold RetQ at hq
 unfold RetP
 split at hq
 ·rename_i vs hvs
  obtain ⟨y, h1, e1, hk⟩ := vFrzAs_sound hq
  simp only [e1]; exact hk
 ·exact hq.elim
def RetH (res : List (Nat × Option (Option Nat))) (L : Lv) (h : Hp) (K : AV → Hp → Prop) : Prop :=
 match resA (lkN L) h res with
 | some vs => K (pack vs) h
 | none => False
def argL : Nat → List AV → Lv
 | _, [] => []
 | n, v :: r => (n, v) :: argL (n + 1) r
def vcFE (res : List (Nat × Option (Option Nat))) (K : AV → Prop) : Post := fun x L h => match x with
 | .exit _ => False
 | _ => RetQ res L h K
def vcF (P : Program) (Λ : Len) (af : AF) (args : List AV) (K : AV → Prop) : Prop :=
 match af with
 | ⟨_, res, body⟩ => vcC P Λ 0 body (argL 0 args) [] (vcFE res K)
def vcH (P : Program) (Λ : Len) (af : AF) (args : List AV) (h : Hp) (K : AV → Hp → Prop) : Prop :=
 match af with
 | ⟨_, res, body⟩ => vcC P Λ h.length body (argL 0 args) h fun x L h => match x with
  | .exit _ => False
  | _ => RetH res L h K
section
variable {P : Program} {G : Nat → Prop} {ι : Io} {h : Hp} {w : World}
theorem argL_get : ∀ (args : List AV) (n i : Nat), lkL (argL n args) i = if n ≤ i then (args[i - n]?).getD (.c .u) else .c .u := by
 intro args
 induction args with
 | nil => intro n i; simp [argL, lkL]
 | cons v r ih =>
  intro n i
  simp only [argL, lkL, upd]
  by_cases h1 : n = i
  ·subst h1; simp
  ·rw [if_neg h1, ih]
   by_cases h2 : n ≤ i
   ·rw [if_pos (by omega), if_pos h2, show i - n = (i - (n + 1)) + 1 by omega]; simp
   ·rw [if_neg (by omega), if_neg h2]
theorem frz_bx {h h' : Hp} {x : CV} {d : D} {l : Nat} {cs : List CV} (hf : frz h x = some (d, h')) (hl : h[l]? = some (.bx cs)) : h'[l]? = some (.bx cs) := by
 unfold frz at hf
 split at hf
 ·cases hf; exact hl
 ·cases hf; exact hl
 ·split at hf
  ·rename_i hes
   split at hf
   ·cases hf
    rw [List.getElem?_set_ne]
    ·exact hl
    ·intro e; subst e; rw [hes] at hl; cases hl
   ·cases hf
  ·cases hf
 ·cases hf; exact hl
 ·split at hf
  ·rename_i hes
   split at hf
   ·cases hf
    rw [List.getElem?_set_ne]
    ·exact hl
    ·intro e; subst e; rw [hes] at hl; cases hl
   ·cases hf
  ·cases hf
 ·cases hf
theorem frzs_bx {l : Nat} {cs : List CV} : ∀ {xs : List CV} {h h' : Hp} {ds : List D}, frzs h xs = some (ds, h') → h[l]? = some (.bx cs) → h'[l]? = some (.bx cs) := by
 intro xs
 induction xs with
 | nil => intro h h' ds hf hl; simp only [frzs, osi, pmi] at hf; obtain ⟨_, rfl⟩ := hf; exact hl
 | cons x xs ih =>
  intro h h' ds hf hl
  simp only [frzs] at hf
  split at hf
  ·rename_i d h1 hd
   split at hf
   ·rename_i ds' h2 hds
    simp only [osi, pmi] at hf
    obtain ⟨_, rfl⟩ := hf
    exact ih hds (frz_bx hd hl)
   ·cases hf
  ·cases hf
theorem frzC_sound {v : Value} {x y : CV} {h' : Hp} (hr : HR G ι h w) (hx : CR G w ι h v x) (hf : frzC h x = some (y, h')) :
  ∃ G', HR G' ι h' w ∧ CR G' w ι h' v y ∧ Ext G ι h w G' ι h' w ∧ pureC y = true := by
 unfold frzC at hf
 split at hf
 ·cases hf; exact ⟨G, hr, hx.fg, Ext.refl _ _ _ _, rfl⟩
 ·cases hf; exact ⟨G, hr, hx.fg, Ext.refl _ _ _ _, rfl⟩
 ·rename_i l ver i n
  split at hf
  ·rename_i v' sz es hes
   split at hf
   ·rename_i hv
    have hv : v' = ver := Nat.eq_of_beq_eq_true hv
    subst hv
    cases hf
    obtain ⟨G', k1, k2, k3⟩ := frz_sound (h' := h.set l .dead) (d := .list false sz ((es.drop i).take n)) hr hx (by simp [frz, hes])
    exact ⟨G', k1, .d _ _ k2, k3, rfl⟩
   ·cases hf
  ·cases hf
 ·cases hf; exact ⟨G, hr, hx, Ext.refl _ _ _ _, rfl⟩
 ·cases hf; exact ⟨G, hr, hx, Ext.refl _ _ _ _, rfl⟩
 ·cases hf; exact ⟨G, hr, hx, Ext.refl _ _ _ _, rfl⟩
 ·rename_i l ver i j
  split at hf
  ·rename_i cs hij hes
   have hij : i + j = 0 := Nat.eq_of_beq_eq_true hij
   obtain ⟨rfl, rfl⟩ : i = 0 ∧ j = 0 := by omega
   split at hf
   ·rename_i ds h2 hfs
    cases hf
    cases hx with
    | ptr _ _ _ _ _ blk hb ha hk =>
     rw [hes] at hb; cases hb
     obtain ⟨b, o, hi, rfl⟩ := hk 0 rfl
     obtain ⟨b', o', c, t, fr, h1, h2', h3, h4, h5⟩ := hr.blk l _ hes
     rw [hi] at h1; cases h1
     obtain ⟨vs, hvs⟩ : ∃ vs : List Value, vs = (c.toList.drop o).take cs.length := ⟨_, rfl⟩
     have hvl : vs.length = cs.length := by rw [hvs]; simp; omega
     have hvg : ∀ i, i < cs.length → vs[i]? = c[o + i]? := fun i hi => by
      rw [hvs, List.getElem?_take_of_lt hi, List.getElem?_drop]; simp
     obtain ⟨G', q1, q2, q3, q4⟩ := frzs_sound hr hvl (fun i v x hv hx => by
      rw [hvg i (get_lt hx)] at hv
      obtain ⟨v', hv', hc⟩ := h5 i x hx
      rw [hv] at hv'; cases hv'
      exact hc) hfs
     have hbx := frzs_bx hfs hes
     have hfz := HR.freeze q1 hbx hi rfl
     have hef := Ext.freeze (G := G') (w := w) hbx hi rfl
     refine ⟨_, hfz, .rp b (o + 0) ds (.inr rfl) (fun k x hx => ?_), q2.trans hef, rfl⟩
     have hk : k < cs.length := by rw [← q3]; exact get_lt hx
     have hv : c[o + k]? = some (c[o + k]'(by omega)) := Array.getElem?_eq_getElem _
     refine ⟨_, by rw [cell_of h2', Nat.add_zero]; exact hv, ?_⟩
     exact (q4 k _ x (by rw [hvg k hk]; exact hv) hx).ext hef q1
   ·cases hf
  ·cases hf
 ·cases hf
theorem frzCs_sound : ∀ {xs ys : List CV} {vs : List Value} {G : Nat → Prop} {h h' : Hp}, HR G ι h w → vs.length = xs.length →
  (∀ (i : Nat) (v : Value) (x : CV), vs[i]? = some v → xs[i]? = some x → CR G w ι h v x) → frzCs h xs = some (ys, h') →
  ∃ G', HR G' ι h' w ∧ Ext G ι h w G' ι h' w ∧ vs.length = ys.length ∧ ys.all pureC = true ∧ ∀ (i : Nat) (v : Value) (y : CV), vs[i]? = some v → ys[i]? = some y → CR G' w ι h' v y := by
 intro xs
 induction xs with
 | nil =>
  intro ys vs G h h' hr hl _ hf
  simp only [frzCs, osi, pmi] at hf
  obtain ⟨rfl, rfl⟩ := hf
  exact ⟨G, hr, Ext.refl _ _ _ _, hl, rfl, by simp⟩
 | cons x xs ih =>
  intro ys vs G h h' hr hl hc hf
  cases vs with
  | nil => simp at hl
  | cons v vs =>
   simp only [frzCs] at hf
   split at hf
   ·rename_i y h1 hy
    split at hf
    ·rename_i l h2 hl2
     cases hf
     obtain ⟨G1, k1, k2, k3, k4⟩ := frzC_sound hr (hc 0 v x rfl rfl) hy
     obtain ⟨G2, q1, q2, q3, q4, q5⟩ := ih k1 (by simpa using hl) (fun i v x hv hx => (hc (i + 1) v x (by simpa using hv) (by simpa using hx)).ext k3 hr) hl2
     refine ⟨G2, q1, k3.trans q2, by simp [q3], by simp [k4, q4], fun i v' y' hv hy' => ?_⟩
     cases i with
     | zero => simp at hv hy'; subst hv hy'; exact k2.ext q2 k1
     | succ i => simp at hv hy'; exact q5 i v' y' hv hy'
    ·cases hf
   ·cases hf
theorem frzA1_sound {v : Value} {x y : AV} {h' : Hp} (hr : HR G ι h w) (hx : VR G w ι h v x) (hf : frzA1 h x = some (y, h')) :
  ∃ G', HR G' ι h' w ∧ VR G' w ι h' v y ∧ Ext G ι h w G' ι h' w ∧ pureA y = true := by
 cases hx with
 | c _ x hc =>
  simp only [frzA1] at hf
  split at hf
  ·rename_i z h1 hz
   cases hf
   obtain ⟨G', k1, k2, k3, k4⟩ := frzC_sound hr hc hz
   exact ⟨G', k1, .c _ _ k2, k3, k4⟩
  ·cases hf
 | agg cs l hn hc =>
  simp only [frzA1] at hf
  split at hf
  ·rename_i z h1 hz
   cases hf
   obtain ⟨G', k1, k2, k3, k4, k5⟩ := frzCs_sound hr (vs := cs.toList) (by simpa using hn) (fun i v x hv hx => hc i v x (by simpa using hv) hx) hz
   exact ⟨G', k1, .agg _ _ (by simpa using k3) (fun i v x hv hx => k5 i v x (by simpa using hv) hx), k2, k4⟩
  ·cases hf
 | tup => simp [frzA1] at hf
theorem frzAs_sound : ∀ {xs ys : List AV} {vs : List Value} {G : Nat → Prop} {h h' : Hp}, HR G ι h w → VRs G w ι h vs xs → frzAs h xs = some (ys, h') →
  ∃ G', HR G' ι h' w ∧ Ext G ι h w G' ι h' w ∧ VRs G' w ι h' vs ys ∧ pureA.pureAs ys = true := by
 intro xs
 induction xs with
 | nil =>
  intro ys vs G h h' hr hv hf
  simp only [frzAs, osi, pmi] at hf
  obtain ⟨rfl, rfl⟩ := hf
  exact ⟨G, hr, Ext.refl _ _ _ _, hv, rfl⟩
 | cons x xs ih =>
  intro ys vs G h h' hr hv hf
  obtain ⟨hl, hc⟩ := hv
  cases vs with
  | nil => simp at hl
  | cons v vs =>
   simp only [frzAs] at hf
   split at hf
   ·rename_i y h1 hy
    split at hf
    ·rename_i l h2 hl2
     cases hf
     obtain ⟨G1, k1, k2, k3, k4⟩ := frzA1_sound hr (hc 0 v x rfl rfl) hy
     obtain ⟨G2, q1, q2, q3, q4⟩ := ih k1 ⟨by simpa using hl, fun i v x hv hx => (hc (i + 1) v x (by simpa using hv) (by simpa using hx)).ext k3 hr⟩ hl2
     refine ⟨G2, q1, k3.trans q2, ⟨by simp [q3.1], fun i v' y' hv hy' => ?_⟩, by simp [pureA.pureAs, k4, q4]⟩
     cases i with
     | zero => simp at hv hy'; subst hv hy'; exact k2.ext q2 k1
     | succ i => simp at hv hy'; exact q3.2 i v' y' hv hy'
    ·cases hf
   ·cases hf
theorem asAddr_some {b o : Nat} : (asAddr (.pointer (some ⟨b, o, none⟩))).run P w = .ok ⟨b, o, none⟩ w := rfl
theorem results_run {tmps : Array Value} {e : Env} (hr : HR G ι h w) (he : ∀ i, VR G w ι h (tmps.getD i undef) (e i)) : ∀ (rs : List ResultVar) (res : List (Nat × Option (Option Nat))) (vs : List AV), resC P rs = some res → resA e h res = some vs →
  ∃ us : List Value, (rs.mapM fun (r : ResultVar) => (match r with | .tmp t => (pure (tmps.getD t undef) : Sem Value) | .cell a t => do loadVar t (← asAddr (tmps.getD a undef)))).run P w = .ok us w ∧ VRs G w ι h us vs := by
 intro rs
 induction rs with
 | nil =>
  intro res vs h1 h2
  simp only [resC, osi] at h1; subst h1
  simp only [resA, osi] at h2; subst h2
  exact ⟨[], by simp, rfl, by simp⟩
 | cons r rs ih =>
  intro res vs h1 h2
  have fin : ∀ (l : List (Nat × Option (Option Nat))) (l2 : List AV) (u : Value) (x : AV), resC P rs = some l → resA e h l = some l2 → vs = x :: l2 → VR G w ι h u x →
    ((match r with | .tmp t => (pure (tmps.getD t undef) : Sem Value) | .cell a t => do loadVar t (← asAddr (tmps.getD a undef)))).run P w = .ok u w →
    ∃ us : List Value, ((r :: rs).mapM fun (r : ResultVar) => (match r with | .tmp t => (pure (tmps.getD t undef) : Sem Value) | .cell a t => do loadVar t (← asAddr (tmps.getD a undef)))).run P w = .ok us w ∧ VRs G w ι h us vs := by
   intro l l2 u x a1 a2 a3 a4 a5
   obtain ⟨us, q1, q2, q3⟩ := ih l l2 a1 a2
   subst a3
   refine ⟨u :: us, ?_, by simp [q2], fun i v y hv hy => ?_⟩
   ·simp only [List.mapM_cons, Sem.run_bind, a5, Result.andThen_ok, q1, Sem.run_pure]
   ·cases i with
    | zero => simp at hv hy; subst hv hy; exact a4
    | succ i => simp at hv hy; exact q3 i v y hv hy
  cases r with
  | tmp t =>
   simp only [resC] at h1
   split at h1
   ·rename_i l hl
    cases h1
    simp only [resA] at h2
    split at h2
    ·rename_i l2 hl2
     cases h2
     exact fin l l2 _ _ hl hl2 rfl (he t) rfl
    ·cases h2
   ·cases h1
  | cell t ty =>
   simp only [resC] at h1
   split at h1
   ·rename_i k l hk hl
    cases h1
    simp only [resA] at h2
    split at h2
    ·rename_i l2 hl2
     cases k with
     | none =>
      simp only at h2
      split at h2
      ·rename_i c cs hrd
       cases h2
       obtain ⟨b, o, hv, hc⟩ := rd_sound hr (he t) hrd
       obtain ⟨v, k1, k2⟩ := s_ld1 (P := P) hr (he t) hk hrd
       rw [hv] at k1
       refine fin l l2 v _ hl hl2 rfl k2 ?_
       simp only [hv, Sem.run_bind, asAddr_some, Result.andThen_ok]
       simpa [Instr.loadAt, Instr.sureAddr] using k1
      ·cases h2
     | some n =>
      simp only at h2
      split at h2
      ·rename_i cs hrd
       split at h2
       ·rename_i hn
        cases h2
        obtain ⟨b, o, hv, hc⟩ := rd_sound hr (he t) hrd
        obtain ⟨v, k1, k2⟩ := s_ldn (P := P) hr (he t) hk hrd hn
        rw [hv] at k1
        refine fin l l2 v _ hl hl2 rfl k2 ?_
        simp only [hv, Sem.run_bind, asAddr_some, Result.andThen_ok]
        simpa [Instr.loadAt, Instr.sureAddr] using k1
       ·cases h2
      ·cases h2
    ·cases h2
   ·cases h1
theorem pack_sound {us : List Value} {vs : List AV} (hv : VRs G w ι h us vs) : VR G w ι h (if hs : us.toArray.size = 1 then us.toArray[0] else .tuple us.toArray) (pack vs) := by
 obtain ⟨h1, h2⟩ := hv
 cases us with
 | nil =>
  cases vs with
  | nil => exact .tup _ _ rfl (by simp)
  | cons => simp at h1
 | cons u us =>
  cases vs with
  | nil => simp at h1
  | cons v vs =>
   cases us with
   | nil =>
    cases vs with
    | nil => exact h2 0 u v rfl rfl
    | cons => simp at h1
   | cons u2 us =>
    cases vs with
    | nil => simp at h1
    | cons v2 vs =>
     refine .tup _ _ (by simpa using h1) fun i x y hx hy => h2 i x y (by simpa using hx) hy
theorem results_all {fn : Func} {af : AF} {tmps : Array Value} {e : Env} {vs : List AV} (hc : resC P fn.results.toList = some af.res) (hr : HR G ι h w) (he : ∀ i, VR G w ι h (tmps.getD i undef) (e i)) (hv : resA e h af.res = some vs) :
  ∃ us : List Value, (results fn tmps).run P w = .ok (if hs : us.toArray.size = 1 then us.toArray[0] else .tuple us.toArray) w ∧ VRs G w ι h us vs := by
 obtain ⟨us, q1, q2⟩ := results_run (P := P) hr he fn.results.toList af.res vs hc hv
 refine ⟨us, ?_, q2⟩
 simp only [results, Sem.run_bind]
 rw [Array.mapM_eq_mapM_toList, Sem.run_map]
 erw [q1]
 simp only [Result.andThen_ok, Sem.run_pure]
theorem enter_fits {fn : Func} {af : AF} {args : List AV} {vs : List Value} (_hn : af.nt = fn.ntmps) (hl : args.length ≤ fn.ntmps) (hr : HR G ι h w) (hv : VRs G w ι h vs args) :
  Fits fn.ntmps G ι h w (lkL (argL 0 args)) h { tmps := vs.toArray ++ Array.replicate (fn.ntmps - vs.toArray.size) undef, defers := [] } w := by
 refine ⟨G, ι, ⟨hr, rfl, ?_, fun i => ?_⟩, Ext.refl _ _ _ _⟩
 ·have := hv.1; simp; omega
 ·simp only [lk]
  rw [argL_get]
  simp only [Nat.zero_le, if_true, Nat.sub_zero]
  cases hi : args[i]? with
  | none => exact .c _ _ (.u _)
  | some x =>
   have hil := get_lt hi
   have hlt : i < vs.length := by rw [hv.1]; exact hil
   have hvi : vs[i]? = some vs[i] := lgE hlt
   have : (vs.toArray ++ Array.replicate (fn.ntmps - vs.toArray.size) undef).getD i undef = vs[i] := by
    rw [Array.getD_eq_getD_getElem?, Array.getElem?_append_left (by simpa using hlt)]
    simp [hlt]
   rw [this]
   exact hv.2 i _ x hvi hi
def postP (res : List (Nat × Option (Option Nat))) (K : AV → Prop) : Post := fun x L h => match x with
 | .exit _ => False
 | _ => RetP res L h K
def postH (res : List (Nat × Option (Option Nat))) (K : AV → Hp → Prop) : Post := fun x L h => match x with
 | .exit _ => False
 | _ => RetH res L h K
theorem fn_pure_wp {f : Nat} {fn : Func} {c : Code} {res : List (Nat × Option (Option Nat))} {args : List AV} {K : AV → Prop} (hf : P.funcs[f]? = some fn) (hb : fn.body = some c) (hres : resC P fn.results.toList = some res) (hl : args.length ≤ fn.ntmps)
  (hwp : ∀ (G : Nat → Prop) (ι : Io) (w : World) (a : Act), Fits fn.ntmps G ι [] w (lkL (argL 0 args)) [] a w → c.wp P (out fn.ntmps G ι [] w (postP res K)) a w) :
  FnS P f args [] fun r _ => pureA r = true ∧ K r := by
 refine ⟨fun G ι w vs hr hvs => ?_⟩
 refine calls_of_wp hf hb (wp_mono (hwp G ι w _ (enter_fits (af := ⟨fn.ntmps, res, .skip⟩) rfl hl hr hvs)) fun x a w' ⟨L, h', hq, hfit⟩ => ?_)
 have fin : RetP res L h' K → a.defers = [] ∧ ∃ v, (results fn a.tmps).run P w' = .ok v w' ∧ ∃ v' r G' ι' h'', Ending.returned v = .returned v' ∧ (pureA r = true ∧ K r) ∧ HR G' ι' h'' w' ∧ VR G' w' ι' h'' v' r ∧ Ext G ι [] w G' ι' h'' w' := by
  intro hret
  obtain ⟨G1, ι1, st⟩ := hfit
  refine ⟨st.rel.dfr, ?_⟩
  unfold RetP at hret
  split at hret
  ·rename_i vs' hvs'
   split at hret
   ·rename_i rs h2 hrs
    rw [lkN_fun] at hvs'
    obtain ⟨us, q1, q2⟩ := results_all (P := P) (fn := fn) (af := ⟨fn.ntmps, res, .skip⟩) hres st.rel.hr st.rel.env hvs'
    obtain ⟨G2, k1, k2, k3, k4⟩ := frzAs_sound st.rel.hr q2 hrs
    refine ⟨_, q1, _, pack rs, G2, ι1, h2, rfl, ⟨?_, hret⟩, k1, pack_sound k3, st.ext.trans k2⟩
    cases rs with
    | nil => rfl
    | cons x rs =>
     cases rs with
     | nil => simp only [pureA.pureAs, Bool.and_true] at k4; exact k4
     | cons y rs => exact k4
   ·exact hret.elim
  ·exact hret.elim
 cases x with
 | normal => exact fin hq
 | ret => exact fin hq
 | exit i => exact hq.elim
 | goto => exact hq.elim
 | panic => exact hq.elim
 | outgrown => exact hq.elim
theorem fn_heap_wp {f : Nat} {fn : Func} {c : Code} {res : List (Nat × Option (Option Nat))} {args : List AV} {h : Hp} {K : AV → Hp → Prop} (hf : P.funcs[f]? = some fn) (hb : fn.body = some c) (hres : resC P fn.results.toList = some res) (hl : args.length ≤ fn.ntmps)
  (hwp : ∀ (G : Nat → Prop) (ι : Io) (w : World) (a : Act), Fits fn.ntmps G ι h w (lkL (argL 0 args)) h a w → c.wp P (out fn.ntmps G ι h w (postH res K)) a w) :
  FnS P f args h K := by
 refine ⟨fun G ι w vs hr hvs => ?_⟩
 refine calls_of_wp hf hb (wp_mono (hwp G ι w _ (enter_fits (af := ⟨fn.ntmps, res, .skip⟩) rfl hl hr hvs)) fun x a w' ⟨L, h', hq, hfit⟩ => ?_)
 have fin : RetH res L h' K → a.defers = [] ∧ ∃ v, (results fn a.tmps).run P w' = .ok v w' ∧ ∃ v' r G' ι' h'', Ending.returned v = .returned v' ∧ K r h'' ∧ HR G' ι' h'' w' ∧ VR G' w' ι' h'' v' r ∧ Ext G ι h w G' ι' h'' w' := by
  intro hret
  obtain ⟨G1, ι1, st⟩ := hfit
  refine ⟨st.rel.dfr, ?_⟩
  unfold RetH at hret
  split at hret
  ·rename_i vs' hvs'
   rw [lkN_fun] at hvs'
   obtain ⟨us, q1, q2⟩ := results_all (P := P) (fn := fn) (af := ⟨fn.ntmps, res, .skip⟩) hres st.rel.hr st.rel.env hvs'
   exact ⟨_, q1, _, pack vs', G1, ι1, h', rfl, hret, st.rel.hr, pack_sound q2, st.ext⟩
  ·exact hret.elim
 cases x with
 | normal => exact fin hq
 | ret => exact fin hq
 | exit i => exact hq.elim
 | goto => exact hq.elim
 | panic => exact hq.elim
 | outgrown => exact hq.elim
theorem compF_spec {fn : Func} {af : AF} (hc : compF P fn = some af) : ∃ c, fn.body = some c ∧ compC P fn.ntmps c = some af.body ∧ resC P fn.results.toList = some af.res ∧ af.nt = fn.ntmps := by
 unfold compF at hc
 split at hc
 ·rename_i c hb
  split at hc
  ·rename_i ac res hac hres
   cases hc
   exact ⟨c, hb, hac, hres, rfl⟩
  ·cases hc
 ·cases hc
theorem fn_pure {f : Nat} {fn : Func} {af : AF} {args : List AV} {K : AV → Prop} (hm : P.follows .mixedOrders = true) (hf : P.funcs[f]? = some fn) (hc : compF P fn = some af) (hl : args.length ≤ af.nt) (hv : ∀ Λ : Len, (∀ l, Λ l = (l.length : Int)) → vcF P Λ af args K) :
  FnS P f args [] fun r _ => pureA r = true ∧ K r := by
 obtain ⟨c, hb, hac, hres, hn⟩ := compF_spec hc
 refine fn_pure_wp hf hb hres (by omega) fun G ι w a hfit => ?_
 refine wp_mono (vcC_sound (Λ := fun l => l.length) (fun _ => rfl) (m := 0) hm (by simp) c af.body _ _ _ _ _ hac (hv (fun l => l.length) fun _ => rfl) hfit) fun x a' w' ⟨L', h', hq, hf'⟩ => ⟨L', h', ?_, hf'⟩
 cases x <;> first | exact hq.elim | exact RetQ.ret hq
theorem fn_heap {f : Nat} {fn : Func} {af : AF} {args : List AV} {h : Hp} {K : AV → Hp → Prop} (hm : P.follows .mixedOrders = true) (hf : P.funcs[f]? = some fn) (hc : compF P fn = some af) (hl : args.length ≤ af.nt) (hv : ∀ Λ : Len, (∀ l, Λ l = (l.length : Int)) → vcH P Λ af args h K) :
  FnS P f args h K := by
 obtain ⟨c, hb, hac, hres, hn⟩ := compF_spec hc
 exact fn_heap_wp hf hb hres (by omega) fun G ι w a hfit => vcC_sound (Λ := fun l => l.length) (fun _ => rfl) (m := h.length) hm (Nat.le_refl _) c af.body _ _ _ _ _ hac (hv (fun l => l.length) fun _ => rfl) hfit
end
end Go.Ab

/-
  The engine, part z: running a closed call.
-/
namespace Go.Ab
def zC (l v sz : Nat) (es : List (List D)) : CV → CV
 | .arr l' v' i n => match Nat.beq l' l, Nat.beq v' v with
  | true, true => .d (.list false sz es)
  | _, _ => .arr l' v' i n
 | x => x
def zCs (l v sz : Nat) (es : List (List D)) : List CV → List CV
 | [] => []
 | x :: r => zC l v sz es x :: zCs l v sz es r
def zA (l v sz : Nat) (es : List (List D)) : AV → AV
 | .c (.fn b f cs) => .c (.fn b f (zCs l v sz es cs))
 | .c x => .c (zC l v sz es x)
 | .agg xs => .agg (zCs l v sz es xs)
 | x => x
def zB (l v sz : Nat) (es : List (List D)) : Blk → Blk
 | .bx cs => .bx (zCs l v sz es cs)
 | b => b
def zH (l v sz : Nat) (es : List (List D)) : Nat → Hp → Hp
 | _, [] => []
 | n, b :: r => (match Nat.beq n l with
  | true => .dead
  | false => zB l v sz es b) :: zH l v sz es (n + 1) r
def zL (l v sz : Nat) (es : List (List D)) : Lv → Lv
 | [] => []
 | (i, x) :: r => (i, zA l v sz es x) :: zL l v sz es r
def okC (l v k : Nat) : CV → Prop
 | .arr l' v' i n => match Nat.beq l' l, Nat.beq v' v with
  | true, true => i = 0 ∧ n = k
  | _, _ => True
 | _ => True
def okCs (l v k : Nat) : List CV → Prop
 | [] => True
 | x :: r => okC l v k x ∧ okCs l v k r
def okA (l v k : Nat) : AV → Prop
 | .c (.fn _ _ cs) => okCs l v k cs
 | .c x => okC l v k x
 | .agg xs => okCs l v k xs
 | _ => True
def okB (l v k : Nat) : Blk → Prop
 | .bx cs => okCs l v k cs
 | _ => True
def okH (l v k : Nat) : Hp → Prop
 | [] => True
 | b :: r => okB l v k b ∧ okH l v k r
def okL (l v k : Nat) : Lv → Prop
 | [] => True
 | (_, x) :: r => okA l v k x ∧ okL l v k r
theorem zC_ok {l v sz k : Nat} {es : List (List D)} (hk : k = es.length) {x : CV} (h : okC l v k x) : FzC l v sz es x (zC l v sz es x) := by
 cases x with
 | arr l' v' i n =>
  simp only [okC] at h
  simp only [zC]
  split at h
  ·rename_i hl hv
   obtain ⟨rfl, rfl⟩ := h
   have hl : l' = l := Nat.eq_of_beq_eq_true hl
   have hv : v' = v := Nat.eq_of_beq_eq_true hv
   subst hl hv
   exact .arr _ hk
  ·exact .keep _
 | _ => exact .keep _
theorem zCs_ok {l v sz k : Nat} {es : List (List D)} (hk : k = es.length) : ∀ {xs : List CV}, okCs l v k xs → FzCs l v sz es xs (zCs l v sz es xs) := by
 intro xs
 induction xs with
 | nil => intro _; trivial
 | cons x r ih => intro h; exact ⟨zC_ok hk h.1, ih h.2⟩
theorem zA_ok {l v sz k : Nat} {es : List (List D)} (hk : k = es.length) {x : AV} (h : okA l v k x) : FzA l v sz es x (zA l v sz es x) := by
 cases x with
 | c x =>
  cases x with
  | fn b f cs => exact .fn _ _ _ _ (zCs_ok hk h)
  | _ => exact .c _ _ (zC_ok hk h)
 | agg xs => exact .agg _ _ (zCs_ok hk h)
 | tup => exact .same _
theorem lkN_z {l v sz : Nat} {es : List (List D)} : ∀ (L : Lv) (i : Nat), lkN (zL l v sz es L) i = zA l v sz es (lkN L i) := by
 intro L
 induction L with
 | nil => intro i; rfl
 | cons p r ih =>
  intro i
  obtain ⟨j, x⟩ := p
  simp only [zL, lkN]
  split <;> simp_all
theorem okL_get {l v k : Nat} : ∀ {L : Lv}, okL l v k L → ∀ i, okA l v k (lkN L i) := by
 intro L
 induction L with
 | nil => intro _ i; trivial
 | cons p r ih =>
  intro h i
  obtain ⟨j, x⟩ := p
  simp only [lkN]
  split
  ·exact h.1
  ·exact ih h.2 i
theorem zH_ok {l v sz k : Nat} {es : List (List D)} (hk : k = es.length) : ∀ {h : Hp} {n : Nat}, okH l v k h → FzH l v sz es n h (zH l v sz es n h) := by
 intro h
 induction h with
 | nil => intro n _; trivial
 | cons b r ih =>
  intro n ho
  refine ⟨?_, ih ho.2⟩
  cases hb : Nat.beq n l with
  | true => exact .inl ⟨Nat.eq_of_beq_eq_true hb, rfl⟩
  | false =>
   refine .inr ⟨(fun e => by subst e; rw [Nat.beq_refl] at hb; cases hb), ?_⟩
   cases b with
   | bx cs => exact .bx _ _ (zCs_ok hk ho.1)
   | _ => exact .same _
theorem runO.mono {P : Program} {m : Nat} {d : Bool} {K K' : Lv → Hp → Prop} (hK : ∀ L h, K L h → K' L h) : ∀ {ops : List AO} {L : Lv} {h : Hp}, runO P m d ops L h K → runO P m d ops L h K' := by
 intro ops
 induction ops with
 | nil => intro L h hr; exact hK _ _ hr
 | cons o r ih =>
  intro L h hr
  rcases hr with ⟨h1, h2⟩ | ⟨h1, h2⟩
  ·exact .inl ⟨h1, h2.mono fun L' v h' hr => ih hr⟩
  ·exact .inr ⟨h1, ih h2⟩
end Go.Ab

