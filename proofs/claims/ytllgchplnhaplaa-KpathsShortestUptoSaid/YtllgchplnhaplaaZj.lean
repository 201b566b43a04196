/-
  Merged texts, part j.
-/
import Derived.Test.YtllgchplnhaplaaZi
/-
  The engine: regions that make memory, part e: what makes a new block does so alike in every heap that agrees on what it looks at.
-/
namespace Go.Ab
def deadN : Hp → Nat
 | [] => 0
 | .dead :: r => deadN r + 1
 | _ :: r => deadN r
theorem deadN_set : ∀ {h : Hp} {l : Nat} {r : Bool} {v sz : Nat} {es : List (List D)}, h[l]? = some (.da r v sz es) → deadN h < deadN (h.set l .dead)
 | [], _, _, _, _, _, hl => by simp at hl
 |k :: h, 0, r, v, sz, es, hl => by
  simp only [List.getElem?_cons_zero, osi] at hl
  subst hl
  simp [deadN]
 |k :: h, l + 1, r, v, sz, es, hl => by
  simp only [List.getElem?_cons_succ] at hl
  have := deadN_set hl
  cases k <;> simp only [List.set_cons_succ, deadN] <;> omega
theorem deadN_mp : ∀ {h : Hp} {l : Nat} {v : Nat} {es : List (DV × DV)}, h[l]? = some (.mp v es) → deadN h < deadN (h.set l .dead)
 | [], _, _, _, hl => by simp at hl
 |k :: h, 0, v, es, hl => by
  simp only [List.getElem?_cons_zero, osi] at hl
  subst hl
  simp [deadN]
 |k :: h, l + 1, v, es, hl => by
  simp only [List.getElem?_cons_succ] at hl
  have := deadN_mp hl
  cases k <;> simp only [List.set_cons_succ, deadN] <;> omega
theorem frz_alike {h h1 : Hp} {x : CV} {d : D} (hx : frz h x = some (d, h1)) : (h1 = h ∧ ∀ h2, frz h2 x = some (d, h2)) ∨ deadN h < deadN h1 := by
 cases x with
 | d y => simp only [frz, osi, pmi] at hx; obtain ⟨rfl, rfl⟩ := hx; exact .inl ⟨rfl, fun _ => rfl⟩
 | cl nl sz l => simp only [frz, osi, pmi] at hx; obtain ⟨rfl, rfl⟩ := hx; exact .inl ⟨rfl, fun _ => rfl⟩
 | arr l v i n =>
  simp only [frz] at hx
  split at hx
  ·rename_i hl
   split at hx
   ·cases hx; exact .inr (deadN_set hl)
   ·cases hx
  ·cases hx
 | rp cs => simp only [frz, osi, pmi] at hx; obtain ⟨rfl, rfl⟩ := hx; exact .inl ⟨rfl, fun _ => rfl⟩
 | mp l =>
  simp only [frz] at hx
  split at hx
  ·rename_i hl
   split at hx
   ·cases hx; exact .inr (deadN_mp hl)
   ·cases hx
  ·cases hx
 | _ => simp [frz] at hx
theorem frzs_alike : ∀ {cs : List CV} {h h1 : Hp} {ds : List D}, frzs h cs = some (ds, h1) → (h1 = h ∧ ∀ h2, frzs h2 cs = some (ds, h2)) ∨ deadN h < deadN h1
 | [], h, h1, ds, hx => by simp only [frzs, osi, pmi] at hx; obtain ⟨rfl, rfl⟩ := hx; exact .inl ⟨rfl, fun _ => rfl⟩
 |x :: r, h, h1, ds, hx => by
  simp only [frzs] at hx
  split at hx
  ·rename_i d ha h1' 
   split at hx
   ·rename_i ds2 hb h2'
    cases hx
    rcases frz_alike h1' with ⟨rfl, g1⟩ | g1
    ·rcases frzs_alike h2' with ⟨rfl, g2⟩ | g2
     ·exact .inl ⟨rfl, fun h2 => by simp only [frzs, g1 h2, g2 h2]⟩
     ·exact .inr g2
    ·rcases frzs_alike h2' with ⟨rfl, g2⟩ | g2
     ·exact .inr g1
     ·exact .inr (Nat.lt_trans g1 g2)
   ·cases hx
  ·cases hx
theorem elemsOf_alike {e : Env} : ∀ {ps : List (Nat × X)} {h h1 : Hp} {as : List (Nat × List D)}, elemsOf h e ps = some (as, h1) → (h1 = h ∧ ∀ h2, elemsOf h2 e ps = some (as, h2)) ∨ deadN h < deadN h1
 | [], h, h1, as, hx => by simp only [elemsOf, osi, pmi] at hx; obtain ⟨rfl, rfl⟩ := hx; exact .inl ⟨rfl, fun _ => rfl⟩
 |(i, x) :: r, h, h1, as, hx => by
  simp only [elemsOf] at hx
  split at hx
  ·rename_i cs hcs
   split at hx
   ·rename_i ds ha g1'
    split at hx
    ·rename_i as2 hb g2'
     cases hx
     rcases frzs_alike g1' with ⟨rfl, g1⟩ | g1
     ·rcases elemsOf_alike g2' with ⟨rfl, g2⟩ | g2
      ·exact .inl ⟨rfl, fun h2 => by simp only [elemsOf, hcs, g1 h2, g2 h2]⟩
      ·exact .inr g2
     ·rcases elemsOf_alike g2' with ⟨rfl, g2⟩ | g2
      ·exact .inr g1
      ·exact .inr (Nat.lt_trans g1 g2)
    ·cases hx
   ·cases hx
  ·cases hx
def opRf (e : Env) (op : AOp) : List Nat := (xsOf op).flatMap fun x => rfA (ev e x)
theorem opRf_agree {e : Env} {op : AOp} {h h' : Hp} (hh : ∀ l ∈ opRf e op, h'[l]? = h[l]?) : ∀ x ∈ xsOf op, agreeA h h' (ev e x) :=
 fun x hx => rf_agree fun l hl => hh l (List.mem_flatMap.2 ⟨x, hx, hl⟩)
def amHd : Hp → List Nat
 | .am _ :: _ => [0]
 | _ => []
theorem amHd_lt {h : Hp} {l : Nat} (hl : l ∈ amHd h) : l < h.length := by
 unfold amHd at hl
 split at hl
 ·simp at hl; subst hl; simp
 ·cases hl
def tOf (e : Env) (h : Hp) (op : AOp) : List Nat := opRf e op ++ (match op with
 | .st x _ _ => match ev e x with
  | .c (.ptr l _ _ _) => match h[l]? with
   | some k => rfB k
   | none => []
  | _ => []
 | .ld x _ => match ev e x with
  | .c (.d (.adr _ _)) => amHd h
  | _ => []
 | _ => [])
theorem tOf_agree {e : Env} {h0 h h' : Hp} {op : AOp} (hh : ∀ l ∈ tOf e h0 op, h'[l]? = h[l]?) : ∀ x ∈ xsOf op, agreeA h h' (ev e x) :=
 opRf_agree fun l hl => hh l (List.mem_append_left _ hl)
def wtOf (e : Env) (n : Nat) : AOp → Option (Option Nat × Bool)
 | .box _ => some (some n, true)
 | .bsl _ _ _ _ => some (some n, true)
 | .mks _ _ _ _ _ => some (some n, true)
 | .mo .mkm _ => some (some n, true)
 | .app _ _ _ x _ => match ev e x with
  | .c (.arr l _ _ _) => some (some l, false)
  | .c (.d (.list true _ _)) => some (some n, true)
  | _ => none
 | .st x _ _ => match ev e x with
  | .c (.ptr l _ _ _) => some (some l, false)
  | _ => none
 | op => match cls op with
  | 0 => some (none, false)
  | _ => none
theorem cells_rf {x : AV} {cs : List CV} (h : cells x = some cs) : rfCs cs = rfA x := by
 cases x with
 | c x =>
  have : cs = [x] := by cases x <;> simp_all [cells]
  subst this
  show rfC x ++ [] = _
  simp [rfA]
 | agg l => simp only [cells, osi] at h; subst h; rfl
 | tup l => simp [cells] at h
theorem al_alike {e : Env} {h h' : Hp} {op : AOp} {v : AV} {w : Nat} (hw : wtOf e h.length op = some (some w, true)) (hs : astep e h op = some (v, h')) (h1 : cls op = 1 → ∃ k, h' = h ++ [k]) :
  w = h.length ∧ ∃ f k, AlF f ∧ v = f h.length ∧ h' = h ++ [k] ∧ (∀ l ∈ rfB k, l ∈ tOf e h op) ∧ ∀ h2, (∀ l ∈ tOf e h op, h2[l]? = h[l]?) → astep e h2 op = some (f h2.length, h2 ++ [k]) := by
 cases op
 case box x =>
  simp only [wtOf, osi, pmi, and_true] at hw
  simp only [astep] at hs
  split at hs
  ·rename_i cs hcs
   split at hs
   ·rename_i hok
    cases hs
    refine ⟨hw.symm, _, _, .inr (.inl rfl), rfl, rfl, fun l hl => ?_, fun h2 hag => ?_⟩
    ·have : l ∈ rfA (ev e x) := by rw [← cells_rf hcs]; exact hl
     exact List.mem_append_left _ (List.mem_flatMap.2 ⟨x, by simp [xsOf], this⟩)
    ·have hag' := tOf_agree hag x (by simp [xsOf])
     simp only [astep, hcs]
     rw [cellsOk_agree (cells_agree hag' hcs), if_pos hok]
   ·cases hs
  ·cases hs
 case bsl sz z n ps =>
  simp only [wtOf, osi, pmi, and_true] at hw
  obtain ⟨k, hk⟩ := h1 rfl
  simp only [astep] at hs
  split at hs
  ·rename_i as ha hel
   split at hs
   ·rename_i es hes
    split at hs
    ·rename_i hlim
     simp only [osi, pmi] at hs
     obtain ⟨rfl, rfl⟩ := hs
     obtain ⟨hh1, hh2⟩ := List.append_inj' hk (by simp)
     subst hh1
     simp only [List.cons.injEq, and_true] at hh2
     subst hh2
     have hall : ∀ h2, elemsOf h2 e ps = some (as, h2) := by
      rcases elemsOf_alike hel with ⟨_, g⟩ | g
      ·exact g
      ·omega
     refine ⟨hw.symm, fun m => .c (.arr m 0 0 n), _, .inl ⟨n, rfl⟩, rfl, rfl, fun l hl => by simp [rfB] at hl, fun h2 _ => ?_⟩
     simp only [astep, hall h2, hes, if_pos hlim]
    ·cases hs
   ·cases hs
  ·cases hs
 case mks sz bytes z l c =>
  simp only [wtOf, osi, pmi, and_true] at hw
  simp only [astep] at hs
  split at hs
  ·rename_i k1 n k2 m hl hc
   split at hs
   ·rename_i hlim
    cases hs
    refine ⟨hw.symm, fun q => .c (.arr q 0 0 n.toNat), _, .inl ⟨_, rfl⟩, rfl, rfl, fun l hl => by simp [rfB] at hl, fun h2 _ => ?_⟩
    simp only [astep, hl, hc, if_pos hlim]
   ·cases hs
  ·cases hs
 case mo o xs =>
  cases o
  case mkm =>
   simp only [wtOf, osi, pmi, and_true] at hw
   simp only [astep] at hs
   cases hxs : evs e xs with
   | nil =>
    rw [hxs] at hs
    simp only [mstep, osi, pmi] at hs
    obtain ⟨rfl, rfl⟩ := hs
    refine ⟨hw.symm, fun q => .c (.mp q), _, .inr (.inr rfl), rfl, rfl, fun l hl => by simp [rfB] at hl, fun h2 _ => ?_⟩
    simp only [astep, hxs, mstep]
   | cons a r => rw [hxs] at hs; simp [mstep] at hs
  all_goals (simp [wtOf, cls] at hw)
 case app sz bytes z x y =>
  simp only [wtOf] at hw
  simp only [astep] at hs
  split at hs
  ·rename_i sz' ys hy
   split at hs
   ·rename_i hsz
    have hvy : ∀ h2, (∀ l ∈ tOf e h (.app sz bytes z x y), h2[l]? = h[l]?) → view h2 (ev e y) = view h (ev e y) := fun h2 hag => view_agree (tOf_agree hag y (by simp [xsOf]))
    split at hw
    ·simp at hw
    ·rename_i s2 l2 hx
     simp only [osi, pmi, and_true] at hw
     simp only [hx, appv] at hs
     split at hs
     ·rename_i hlim
      cases hs
      refine ⟨hw.symm, fun q => .c (.arr q 0 0 ys.length), _, .inl ⟨_, rfl⟩, rfl, rfl, fun l hl => by simp [rfB] at hl, fun h2 hag => ?_⟩
      simp only [astep, hvy h2 hag, hy, if_pos hsz, hx, appv, if_pos hlim]
     ·cases hs
    ·cases hw
   ·cases hs
  ·cases hs
 case st x y n =>
  simp only [wtOf] at hw
  split at hw <;> simp at hw
 all_goals (simp [wtOf, cls] at hw)
theorem up_alike {e : Env} {h h' : Hp} {op : AOp} {v : AV} {w : Nat} (hw : wtOf e h.length op = some (some w, false)) (hs : astep e h op = some (v, h')) :
  ∃ k, h' = h.set w k ∧ (∀ l ∈ rfB k, l ∈ tOf e h op) ∧ ∀ h2, (∀ l ∈ tOf e h op, h2[l]? = h[l]?) → astep e h2 op = some (v, h2.set w k) := by
 cases op
 case app sz bytes z x y =>
  simp only [wtOf] at hw
  simp only [astep] at hs
  split at hs
  ·rename_i sz' ys hy
   split at hs
   ·rename_i hsz
    have hvy : ∀ h2, (∀ l ∈ tOf e h (.app sz bytes z x y), h2[l]? = h[l]?) → view h2 (ev e y) = view h (ev e y) := fun h2 hag => view_agree (tOf_agree hag y (by simp [xsOf]))
    split at hw
    ·rename_i l v0 i n hx
     simp only [osi, pmi, and_true] at hw
     subst hw
     have hmem : l ∈ tOf e h (.app sz bytes z x y) := List.mem_append_left _ (List.mem_flatMap.2 ⟨x, by simp [xsOf], by rw [hx]; simp [rfA, rfC]⟩)
     simp only [hx, appv] at hs
     split at hs
     ·rename_i r v' s3 es hl
      split at hs
      ·rename_i hlim
       cases hs
       refine ⟨_, rfl, fun l hl => by simp [rfB] at hl, fun h2 hag => ?_⟩
       simp only [astep, hvy h2 hag, hy, if_pos hsz, hx, appv, hag l hmem, hl, if_pos hlim]
      ·cases hs
     ·cases hs
    ·simp at hw
    ·cases hw
   ·cases hs
  ·cases hs
 case mo o xs => cases o <;> simp [wtOf, cls] at hw
 case st x y n =>
  simp only [wtOf] at hw
  split at hw
  ·rename_i l ver i j hx
   simp only [osi, pmi, and_true] at hw
   subst hw
   have hmem : l ∈ tOf e h (.st x y n) := List.mem_append_left _ (List.mem_flatMap.2 ⟨x, by simp [xsOf], by rw [hx]; simp [rfA, rfC]⟩)
   simp only [astep] at hs
   split at hs
   ·rename_i cs hcs
    split at hs
    ·rename_i hok
     have hcy : ∀ h2, (∀ l ∈ tOf e h (.st x y n), h2[l]? = h[l]?) → cellsOk h2 cs = cellsOk h cs := fun h2 hag => cellsOk_agree (cells_agree (tOf_agree hag y (by simp [xsOf])) hcs)
     have hold : ∀ k, h[l]? = some k → ∀ q ∈ rfB k, q ∈ tOf e h (.st x y n) := fun k hk q hq => by
      refine List.mem_append_right _ ?_
      simp only [hx, hk]
      exact hq
     have hnew : ∀ q ∈ rfCs cs, q ∈ tOf e h (.st x y n) := fun q hq => by
      rw [cells_rf hcs] at hq
      exact List.mem_append_left _ (List.mem_flatMap.2 ⟨y, by simp [xsOf], hq⟩)
     rw [hx] at hs
     cases hl : h[l]? with
     | none => simp only [wr, wrd, hl] at hs; simp at hs
     | some k =>
      cases k with
      | bx bs =>
       by_cases hc : i = 0 ∧ j + cs.length ≤ bs.length
       ·have hw1 : wr h (.c (.ptr l ver i j)) cs = some (h.set l (.bx (bs.take j ++ (cs ++ bs.drop (j + cs.length))))) := by simp only [wr, hl, if_pos hc]
        rw [hw1] at hs
        simp only [osi, pmi] at hs
        obtain ⟨rfl, rfl⟩ := hs
        refine ⟨_, rfl, fun q hq => ?_, fun h2 hag => ?_⟩
        ·obtain ⟨c, hc1, hc2⟩ := rfCs_mem.1 hq
         have hb : ∀ c ∈ bs, q ∈ rfC c → q ∈ tOf e h (.st x y n) := fun c h1 h2 => hold _ hl q (rfCs_mem.2 ⟨c, h1, h2⟩)
         rcases List.mem_append.1 hc1 with h1 | h1
         ·exact hb c (List.mem_of_mem_take h1) hc2
         ·rcases List.mem_append.1 h1 with h1 | h1
          ·exact hnew q (rfCs_mem.2 ⟨c, h1, hc2⟩)
          ·exact hb c (List.mem_of_mem_drop h1) hc2
        ·have hw2 : wr h2 (.c (.ptr l ver i j)) cs = some (h2.set l (.bx (bs.take j ++ (cs ++ bs.drop (j + cs.length))))) := by simp only [wr, hag l hmem, hl, if_pos hc]
         simp only [astep, hcs, hcy h2 hag, if_pos hok, hx, hw2]
       ·simp only [wr, wrd, hl, if_neg hc] at hs; simp at hs
      | da r v' sz es =>
       have hw1 : wr h (.c (.ptr l ver i j)) cs = none := by simp only [wr, hl]
       rw [hw1] at hs
       simp only [omi, pmi] at hs
       obtain ⟨h1, hs1, rfl, rfl⟩ := hs
       simp only [wrd, hl] at hs1
       split at hs1
       ·rename_i hv
        split at hs1
        ·rename_i el ds he hds
         split at hs1
         ·rename_i hj
          cases hs1
          refine ⟨_, rfl, fun q hq => by simp [rfB] at hq, fun h2 hag => ?_⟩
          have hw2 : wr h2 (.c (.ptr l ver i j)) cs = none := by simp only [wr, hag l hmem, hl]
          simp only [astep, hcs, hcy h2 hag, if_pos hok, hx, hw2, wrd, hag l hmem, hl, if_pos hv, he, hds, if_pos hj, Option.map_some]
         ·cases hs1
        ·cases hs1
       ·cases hs1
      | mp v es => simp only [wr, wrd, hl] at hs; simp at hs
      | mi a b c => simp only [wr, wrd, hl] at hs; simp at hs
      | dead => simp only [wr, wrd, hl] at hs; simp at hs
      | am m => simp only [wr, wrd, hl] at hs; simp at hs
    ·cases hs
   ·cases hs
  ·cases hw
 all_goals (simp [wtOf, cls] at hw)
theorem no_alike {e : Env} {h h' : Hp} {op : AOp} {v : AV} {b : Bool} (hw : wtOf e h.length op = some (none, b)) (hs : astep e h op = some (v, h')) :
  h' = h ∧ ∀ h2, (∀ l ∈ tOf e h op, h2[l]? = h[l]?) → astep e h2 op = some (v, h2) := by
 have hc : cls op = 0 := by
  cases op
  case app sz bytes z x y =>
   simp only [wtOf] at hw
   split at hw <;> simp at hw
  case st x y n =>
   simp only [wtOf] at hw
   split at hw <;> simp at hw
  case mo o xs => cases o <;> first | rfl | simp [wtOf, cls] at hw
  all_goals first | rfl | simp [wtOf, cls] at hw
 have key : ∀ h2, (∀ l ∈ tOf e h op, h2[l]? = h[l]?) → h' = h ∧ astep e h2 op = some (v, h2) := fun h2 hag => astep_agree hc (tOf_agree hag) (fun x n hop => by
  subst hop
  by_cases hia : isAdr (ev e x)
  ·right
   obtain ⟨b, o, he⟩ : ∃ b o, ev e x = .c (.d (.adr b o)) := by
    revert hia
    generalize ev e x = xv
    intro hia
    unfold isAdr at hia
    split at hia
    ·exact ⟨_, _, rfl⟩
    ·exact hia.elim
   have hm : ∃ m r, h = .am m :: r := by
    cases n <;> simp only [astep, he, rd, amRd] at hs <;> (cases h with
     | nil => simp at hs
     | cons k r => cases k <;> first | exact ⟨_, _, rfl⟩ | (simp at hs))
   obtain ⟨m, r, rfl⟩ := hm
   refine sameAm.of0 (hag 0 ?_)
   simp [tOf, he, amHd]
  ·exact .inl hia) hs
 exact ⟨(key h fun _ _ => rfl).1, fun h2 hag => (key h2 hag).2⟩
end Go.Ab

/-
  The engine: regions that make memory, part f: the condition, and that it suffices.
-/
namespace Go.Ab
structure Ft where
 (i : Nat) (T : List Nat) (w : Option Nat) (al : Bool)
def hasN : List Nat → Nat → Bool
 | [], _ => false
 | x :: r, n => match Nat.beq x n with
  | true => true
  | false => hasN r n
theorem hasN_mem {l : List Nat} {n : Nat} : hasN l n = true ↔ n ∈ l := by
 induction l with
 | nil => simp [hasN]
 | cons x r ih =>
  simp only [hasN, List.mem_cons]
  split
  ·rename_i h; have := Nat.eq_of_beq_eq_true h; simp [this]
  ·rename_i h
   rw [ih]
   constructor
   ·exact .inr
   ·rintro (h' | h')
    ·subst h'; simp at h
    ·exact h'
def okW : Option Nat → List Nat → Bool
 | none, _ => true
 | some l, T => match hasN T l with
  | true => false
  | false => true
theorem okW_spec {w : Option Nat} {T : List Nat} (h : okW w T = true) : ∀ l, w = some l → l ∉ T := by
 intro l hl hm
 subst hl
 simp only [okW] at h
 rw [hasN_mem.2 hm] at h
 cases h
def neW : Option Nat → Option Nat → Bool
 | some a, some b => match Nat.beq a b with
  | true => false
  | false => true
 | _, _ => true
theorem neW_spec {a b : Option Nat} (h : neW a b = true) : ∀ l, a = some l → b ≠ some l := by
 intro l hl hb
 subst hl hb
 simp [neW] at h
def chk1 (pre T : List Nat) (w : Option Nat) (vr : List Nat) (f : Ft) : Bool :=
 match hasN pre f.i with
 | true => true
 | false => match okW f.w T with
  | false => false
  | true => match okW w f.T with
   | false => false
   | true => match neW f.w w with
    | false => false
    | true => match f.al with
     | true => okW f.w vr
     | false => true
def chkF (pre T : List Nat) (w : Option Nat) (vr : List Nat) : List Ft → Bool
 | [] => true
 | f :: r => match chk1 pre T w vr f with
  | true => chkF pre T w vr r
  | false => false
theorem chkF_get {pre T : List Nat} {w : Option Nat} {vr : List Nat} : ∀ {F : List Ft}, chkF pre T w vr F = true → ∀ f ∈ F, chk1 pre T w vr f = true
 | [], _, f, hf => by cases hf
 |g :: r, h, f, hf => by
  simp only [chkF] at h
  split at h
  ·rename_i hg
   rcases List.mem_cons.1 hf with rfl | hf
   ·exact hg
   ·exact chkF_get h f hf
  ·cases h
theorem chk1_spec {pre T : List Nat} {w : Option Nat} {vr : List Nat} {f : Ft} (h : chk1 pre T w vr f = true) : f.i ∈ pre ∨ ((∀ l, f.w = some l → l ∉ T ∧ w ≠ some l) ∧ (∀ l, w = some l → l ∉ f.T) ∧ (f.al = true → ∀ l, f.w = some l → l ∉ vr)) := by
 simp only [chk1] at h
 split at h
 ·rename_i hp; exact .inl (hasN_mem.1 hp)
 ·split at h
  ·cases h
  ·rename_i h1
   split at h
   ·cases h
   ·rename_i h2
    split at h
    ·cases h
    ·rename_i h3
     refine .inr ⟨fun l hl => ⟨okW_spec h1 l hl, neW_spec h3 l hl⟩, okW_spec h2, fun ha l hl => ?_⟩
     rw [ha] at h
     exact okW_spec h l hl
def vcG (P : Program) (Λ : Len) (m : Nat) (pre : List Nat) (i : Nat) (F : List Ft) (o : AO) (L : Lv) (h : Hp) (K : List Ft → Lv → AV → Hp → Prop) : Prop :=
 match wtOf (lkN L) h.length o.op with
 | some (w, al) => vcOp P Λ 0 true o.op L h fun L' v h' => match chkF pre (tOf (lkN L) h o.op) w (rfA v) F with
  | true => K (F ++ [⟨i, tOf (lkN L) h o.op, w, al⟩]) L' v h'
  | false => False
 | none => False
def getP : List (List Nat) → Nat → List Nat
 | [], _ => []
 | x :: _, 0 => x
 | _ :: r, n + 1 => getP r n
def vcF3 (P : Program) (Λ : Len) (m : Nat) (pre : List (List Nat)) : Nat → List Ft → List AO → Lv → Hp → (Lv → Hp → Prop) → Prop
 | _, _, [], L, h, K => K L h
 | i, F, o :: r, L, h, K => match o.g with
  | none => vcG P Λ m (getP pre i) i F o L h fun F' L' v h' => vcF3 P Λ m pre (i + 1) F' r (putL L' o.dst v) h' K
  | some (s, want) => match lkN L s with
   | .c (.d (.bool b)) => (match b, want with
    | true, true => vcG P Λ m (getP pre i) i F o L h fun F' L' v h' => vcF3 P Λ m pre (i + 1) F' r (putL L' o.dst v) h' K
    | false, false => vcG P Λ m (getP pre i) i F o L h fun F' L' v h' => vcF3 P Λ m pre (i + 1) F' r (putL L' o.dst v) h' K
    | true, false => vcF3 P Λ m pre (i + 1) F r (putL L o.dst (.tup [])) h K
    | false, true => vcF3 P Λ m pre (i + 1) F r (putL L o.dst (.tup [])) h K)
   | .tup [] => vcF3 P Λ m pre (i + 1) F r (putL L o.dst (.tup [])) h K
   | _ => False
theorem vcF3_cons {P : Program} {Λ : Len} {m : Nat} {pre : List (List Nat)} {i : Nat} {F : List Ft} {o : AO} {r : List AO} {L : Lv} {h : Hp} {K : Lv → Hp → Prop} (hv : vcF3 P Λ m pre i F (o :: r) L h K) :
  (gv (lkL L) o.g = some true ∧ vcG P Λ m (getP pre i) i F o L h fun F' L' v h' => vcF3 P Λ m pre (i + 1) F' r (putL L' o.dst v) h' K) ∨ (gv (lkL L) o.g = some false ∧ vcF3 P Λ m pre (i + 1) F r (putL L o.dst (.tup [])) h K) := by
 simp only [vcF3] at hv
 split at hv
 ·rename_i hg; exact .inl ⟨by simp [hg, gv], hv⟩
 ·rename_i s want hg
  split at hv
  ·rename_i b hb
   rw [lkN_eq] at hb
   have hgv : gv (lkL L) o.g = some (b == want) := by simp [hg, gv, lk, hb]
   split at hv
   ·exact .inl ⟨hgv, hv⟩
   ·exact .inl ⟨hgv, hv⟩
   ·exact .inr ⟨hgv, hv⟩
   ·exact .inr ⟨hgv, hv⟩
  ·rename_i hb
   rw [lkN_eq] at hb
   exact .inr ⟨by simp [hg, gv, lk, hb], hv⟩
  ·exact hv.elim
def runF (P : Program) (m : Nat) (pre : List (List Nat)) : Nat → List Ft → List AO → Lv → Hp → (Lv → Hp → Prop) → Prop
 | _, _, [], L, h, K => K L h
 | i, F, o :: r, L, h, K => (gv (lkL L) o.g = some true ∧ ∃ w al, wtOf (lkL L) h.length o.op = some (w, al) ∧ Did P 0 true o.op L h fun L' v h' => chkF (getP pre i) (tOf (lkL L) h o.op) w (rfA v) F = true ∧
   runF P m pre (i + 1) (F ++ [⟨i, tOf (lkL L) h o.op, w, al⟩]) r (putL L' o.dst v) h' K) ∨ (gv (lkL L) o.g = some false ∧ runF P m pre (i + 1) F r (putL L o.dst (.tup [])) h K)
theorem vcF3_runF {P : Program} {Λ : Len} (hΛ : ∀ l, Λ l = (l.length : Int)) {m : Nat} {pre : List (List Nat)} {K : Lv → Hp → Prop} : ∀ {ops : List AO} {i : Nat} {F : List Ft} {L : Lv} {h : Hp}, vcF3 P Λ m pre i F ops L h K → runF P m pre i F ops L h K := by
 intro ops
 induction ops with
 | nil => intro i F L h hv; exact hv
 | cons o r ih =>
  intro i F L h hv
  have eN : lkN L = lkL L := funext fun n => lkN_eq L n
  rcases vcF3_cons hv with ⟨h1, h2⟩ | ⟨h1, h2⟩
  ·left
   refine ⟨h1, ?_⟩
   unfold vcG at h2
   rw [eN] at h2
   split at h2
   ·rename_i w al hw
    refine ⟨w, al, hw, (vcOp_sound hΛ h2).mono fun L' v h' hk => ?_⟩
    split at hk
    ·rename_i hc; exact ⟨hc, ih hk⟩
    ·exact hk.elim
   ·exact h2.elim
  ·exact .inr ⟨h1, ih h2⟩
theorem runF.mono {P : Program} {m : Nat} {pre : List (List Nat)} {K K' : Lv → Hp → Prop} (hK : ∀ L h, K L h → K' L h) : ∀ {ops : List AO} {i : Nat} {F : List Ft} {L : Lv} {h : Hp}, runF P m pre i F ops L h K → runF P m pre i F ops L h K' := by
 intro ops
 induction ops with
 | nil => intro i F L h hr; exact hK _ _ hr
 | cons o r ih =>
  intro i F L h hr
  rcases hr with ⟨h1, w, al, h2, h3⟩ | ⟨h1, h2⟩
  ·exact .inl ⟨h1, w, al, h2, h3.mono fun L' v h' hr => ⟨hr.1, ih hr.2⟩⟩
  ·exact .inr ⟨h1, ih h2⟩
def FOk (ops : Array Oper) (f : Ft) (q : Tr) (i : Nat) : Prop :=
 bitM ops i f.i = true ∨ ((∀ l, f.w = some l → l ∉ q.T ∧ q.t.tgt ≠ some l) ∧ (∀ l, q.t.tgt = some l → l ∉ f.T) ∧ (f.al = true → ∀ l, f.w = some l → l ∉ rfA q.v ∧ l ∉ q.t.rf))
theorem RunT.congr {P : Program} {aops : List AO} {tr tr' : Nat → Tr} : ∀ {l : List Nat} {e : Env} {h : Hp} {e' : Env} {h' : Hp}, (∀ i ∈ l, tr i = tr' i) → RunT P aops tr l e h e' h' → RunT P aops tr' l e h e' h'
 | [], _, _, _, _, _, hr => hr
 | i :: r, _, _, _, _, hc, ⟨o, e1, h1, ho, hs, hr⟩ => ⟨o, e1, h1, ho, by rw [← hc i (by simp)]; exact hs, hr.congr fun j hj => hc j (by simp [hj])⟩
section
variable {P : Program} {N : Nat} {G0 : Nat → Prop} {ι0 : Io} {h0 : Hp} {w0 : World}
theorem step_val {ops : Array Oper} {o : Oper} {ao : AO} {e : Env} {h h' : Hp} {v : AV} {a : Act} {w : World} (hc : compO P ops N o = some ao)
  (hs : astep e h ao.op = some (v, h') ∨ (∃ f xs, ao.op = .call f xs ∧ PureR P h f (evs e xs) v ∧ h' = h)) (hf : Fits N G0 ι0 h0 w0 e h a w) : (∃ a' w', Fits N G0 ι0 h0 w0 (putE e ao.dst v) h' a' w') ∧ ∀ l ∈ rfA v, l < h'.length := by
 obtain ⟨G, ι, st⟩ := hf
 obtain ⟨hd, hdN, hop, hg⟩ := compO_dst hc
 rcases hs with hs | ⟨f, xs, h1, h2, rfl⟩
 ·rw [hop] at hs
  obtain ⟨v', w', G', ι', _, k1, k2, k3⟩ := op_sound st.rel hs
  rw [hd]; exact ⟨⟨_, w', G', ι', st.step hdN k1 k2 k3⟩, k2.lt⟩
 ·rw [hop] at h1
  obtain ⟨c, hoo⟩ := compOp_call h1
  obtain ⟨_, q2⟩ := call_exec (a := a) (w := w) hoo h1
  obtain ⟨t1, t2⟩ := args_sound st.rel q2
  obtain ⟨en, w', fr, ⟨v', r, G', ι', h', k0, k1, k2, k3, k4⟩, _⟩ := (h2.fn).out G ι w _ st.rel.hr ⟨t1, t2⟩ []
  obtain ⟨rfl, rfl⟩ := k1
  rw [hd]; exact ⟨⟨_, w', G', ι', st.step hdN k2 k3 k4⟩, k3.lt⟩
theorem skip_fits {ops : Array Oper} {o : Oper} {ao : AO} {e : Env} {h : Hp} {a : Act} {w : World} (hc : compO P ops N o = some ao) (hf : Fits N G0 ι0 h0 w0 e h a w) : ∃ a' w', Fits N G0 ι0 h0 w0 (putE e ao.dst (.tup [])) h a' w' := by
 obtain ⟨G, ι, st⟩ := hf
 obtain ⟨hd, hdN, hop, hg⟩ := compO_dst hc
 rw [hd]; exact ⟨_, w, G, ι, st.step (v := undef) hdN st.rel.hr (.tup #[] [] rfl (by simp)) (Ext.refl _ _ _ _)⟩
theorem gv_congr {o : AO} {e e' : Env} (he : ∀ n ∈ slotsOf o, e' n = e n) : gv e' o.g = gv e o.g := by
 cases hgo : o.g with
 | none => rfl
 | some p =>
  obtain ⟨s, q⟩ := p
  have : e' s = e s := he s (by simp [slotsOf, hgo])
  simp only [gv, lk, this]
theorem ev_congr {o : AO} {e e' : Env} (he : ∀ n ∈ slotsOf o, e' n = e n) : ∀ x ∈ xsOf o.op, ev e' x = ev e x :=
 fun x hx => ev_of_slots fun n hn => he n (by simp only [slotsOf, List.mem_append, List.mem_flatMap]; exact .inr ⟨x, hx, hn⟩)
theorem dead_set {h : Hp} {k : Blk} {m : Nat} : (h ++ List.replicate (m + 1) Blk.dead).set h.length k = (h ++ [k]) ++ List.replicate m Blk.dead := by
 rw [List.set_append_right _ _ (Nat.le_refl _), Nat.sub_self, List.replicate_succ]
 simp
def constRf (o : AO) : Bool := (xsOf o.op).all fun
 | .k v => (rfA v).isEmpty
 | .t _ => true
theorem runF_seg {m : Nat} {ops : Array Oper} {aops : List AO} {pre : List (List Nat)} (hcomp : compOs P ops N ops.toList = some aops) (hpre : ∀ i j, j ∈ getP pre i → bitM ops i j = true) (hcon : aops.all constRf = true) :
    ∀ (aos : List AO) (k : Nat) (F : List Ft) (L : Lv) (h : Hp) (K : Lv → Hp → Prop), (∀ i, i < aos.length → aos[i]? = aops[k + i]?) → runF P m pre k F aos L h K → (∃ a w, Fits N G0 ι0 h0 w0 (lkL L) h a w) →
    ∃ mm tr L' h', RunT P aops tr (List.range' k aos.length) (lkL L) (h ++ List.replicate mm .dead) (lkL L') h' ∧ K L' h' ∧ (∀ i ∈ List.range' k aos.length, ∀ f ∈ F, FOk ops f (tr i) i) ∧
      (∀ i ∈ List.range' k aos.length, ∀ l b, (tr i).t = .al l b → h.length ≤ l ∧ l < h.length + mm ∧ ∀ x ∈ rfB b, x < l) ∧ TC ops tr (List.range' k aos.length) := by
  intro aos
  induction aos with
  | nil =>
    intro k F L h K _ hv _
    refine ⟨0, fun _ => ⟨.tup [], .no, []⟩, L, h, ⟨rfl, by simp⟩, hv, by simp, by simp, ⟨by simp, by simp⟩⟩
  | cons o aos ih =>
    intro k F L h K hk hv hfit
    have hok : aops[k]? = some o := by have := hk 0 (by simp); simpa using this.symm
    obtain ⟨oo, hoo⟩ : ∃ oo, ops.toList[k]? = some oo := ⟨_, lgE (by have := get_lt hok; have := (compOs_get hcomp).1; omega)⟩
    have hao := (compOs_get hcomp).2 k oo o hoo hok
    have hk' : ∀ i, i < aos.length → aos[i]? = aops[k + 1 + i]? := fun i hi => by
      have := hk (i + 1) (by simp; omega); simp only [List.getElem?_cons_succ] at this; rw [this]; congr 1; omega
    obtain ⟨a, w, hf⟩ := hfit
    have hlt : ∀ l ∈ tOf (lkL L) h o.op, l < h.length := by
      intro l hl
      obtain ⟨G, ι, st⟩ := hf
      rcases List.mem_append.1 hl with hl | hl
      · obtain ⟨x, hx, hxl⟩ := List.mem_flatMap.1 hl
        cases x with
        | t n => exact (st.rel.env n).lt l hxl
        | k v =>
          rw [List.all_eq_true] at hcon
          have hc := hcon o (List.mem_of_getElem? hok)
          simp only [constRf, List.all_eq_true] at hc
          have := hc _ hx
          simp only [List.isEmpty_iff] at this
          simp only [ev, this] at hxl
          cases hxl
      · split at hl
        · split at hl
          · split at hl
            · rename_i kb hkb; exact (st.rel.hr.blk _ kb hkb).lt l hl
            · cases hl
          · cases hl
        · split at hl
          · exact amHd_lt hl
          · cases hl
        · cases hl
    -- what is put together
    have fin : ∀ (q : Tr) (h1 : Hp) (F' : List Ft) (mm mm' : Nat) (L1 : Lv), (∀ i, lkL L1 i = putE (lkL L) o.dst q.v i) → S3 P o q (lkL L) (h ++ List.replicate mm .dead) (putE (lkL L) o.dst q.v) (h1 ++ List.replicate mm' .dead) →
        (h1.length + mm' = h.length + mm) → h.length ≤ h1.length → (∀ f ∈ F, FOk ops f q k) → (∀ l b, q.t = .al l b → h.length ≤ l ∧ l < h1.length ∧ (⟨k, q.T, some l, true⟩ : Ft) ∈ F' ∧ ∀ x ∈ rfB b, x < l) → (∀ l ∈ rfA q.v, l < h1.length) → (∀ l ∈ q.t.rf, l < h1.length) → (∀ f ∈ F, f ∈ F') →
        (∃ f ∈ F', f.i = k ∧ f.w = q.t.tgt ∧ f.T = q.T) ∨ (q.t = .no ∧ q.T = []) →
        (∃ tr L' h', RunT P aops tr (List.range' (k + 1) aos.length) (lkL L1) (h1 ++ List.replicate mm' .dead) (lkL L') h' ∧ K L' h' ∧ (∀ i ∈ List.range' (k + 1) aos.length, ∀ f ∈ F', FOk ops f (tr i) i) ∧
          (∀ i ∈ List.range' (k + 1) aos.length, ∀ l b, (tr i).t = .al l b → h1.length ≤ l ∧ l < h1.length + mm' ∧ ∀ x ∈ rfB b, x < l) ∧ TC ops tr (List.range' (k + 1) aos.length)) →
        ∃ mm tr L' h', RunT P aops tr (List.range' k (o :: aos).length) (lkL L) (h ++ List.replicate mm .dead) (lkL L') h' ∧ K L' h' ∧ (∀ i ∈ List.range' k (o :: aos).length, ∀ f ∈ F, FOk ops f (tr i) i) ∧
          (∀ i ∈ List.range' k (o :: aos).length, ∀ l b, (tr i).t = .al l b → h.length ≤ l ∧ l < h.length + mm ∧ ∀ x ∈ rfB b, x < l) ∧ TC ops tr (List.range' k (o :: aos).length) := by
      intro q h1 F' mm mm' L1 hL hS hlen hle hF hal hv1 hrf hsub hrec ⟨tr, L', h', r1, r2, r3, r4, r5⟩
      have hrange : List.range' k (o :: aos).length = k :: List.range' (k + 1) aos.length := by simp [List.range'_succ]
      rw [hrange]
      have hgt : ∀ i ∈ List.range' (k + 1) aos.length, k < i := fun i hi => by have := List.mem_range'_1.1 hi; omega
      have htr : ∀ i ∈ List.range' (k + 1) aos.length, (if i = k then q else tr i) = tr i := fun i hi => by rw [if_neg (by have := hgt i hi; omega)]
      refine ⟨mm, fun i => if i = k then q else tr i, L', h', ?_, r2, ?_, ?_, ?_, ?_⟩
      · refine ⟨o, _, _, hok, by simp only [if_true]; exact hS, ?_⟩
        rw [show putE (lkL L) o.dst q.v = lkL L1 from (funext hL).symm]
        exact r1.congr fun i hi => (htr i hi).symm
      · intro i hi f hf
        rcases List.mem_cons.1 hi with rfl | hi
        · simp only [if_true]; exact hF f hf
        · simp only [htr i hi]; exact r3 i hi f (hsub f hf)
      · intro i hi l b hq
        rcases List.mem_cons.1 hi with rfl | hi
        · simp only [if_true] at hq
          obtain ⟨g1, g2, _, g4⟩ := hal l b hq
          exact ⟨g1, by omega, g4⟩
        · simp only [htr i hi] at hq
          obtain ⟨g1, g2, g3⟩ := r4 i hi l b hq
          exact ⟨by omega, by omega, g3⟩
      · intro i hi j hj hji hb
        rcases List.mem_cons.1 hi with rfl | hi
        · rcases List.mem_cons.1 hj with rfl | hj
          · omega
          · have := hgt j hj; omega
        · simp only [htr i hi]
          rcases List.mem_cons.1 hj with rfl | hj
          · simp only [if_true]
            rcases hrec with ⟨f, hf', f1, f2, f3⟩ | ⟨f1, f2⟩
            · rcases r3 i hi f hf' with h | ⟨h1, h2, _⟩
              · rw [f1, hb] at h; cases h
              · exact ⟨fun l hl => h1 l (by rw [f2]; exact hl), fun l hl => by rw [← f3]; exact h2 l hl⟩
            · exact ⟨(fun l hl => by rw [f1] at hl; cases hl), fun l _ => by rw [f2]; simp⟩
          · simp only [htr j hj]; exact r5.dis i hi j hj hji hb
      · intro i hi j hj hji hb l b hq
        rcases List.mem_cons.1 hj with rfl | hj
        · simp only [if_true] at hq
          rcases List.mem_cons.1 hi with rfl | hi
          · exact absurd rfl hji
          · simp only [htr i hi]
            obtain ⟨_, _, g3, _⟩ := hal l b hq
            rcases r3 i hi _ g3 with h | ⟨_, _, h3⟩
            · simp only at h; rw [hb] at h; cases h
            · exact h3 rfl l rfl
        · simp only [htr j hj] at hq
          rcases List.mem_cons.1 hi with rfl | hi
          · simp only [if_true]
            have := (r4 j hj l b hq).1
            exact ⟨fun h => by have := hv1 l h; omega, fun h => by have := hrf l h; omega⟩
          · simp only [htr i hi]; exact r5.new i hi j hj hji hb l b hq
    rcases hv with ⟨hgv, w, al, hw, hv⟩ | ⟨hgv, hv⟩
    · · have rec1 : ∀ (v : AV) (q : Tr) (h1 : Hp) (L1 : Lv), q.v = v → q.T = tOf (lkL L) h o.op → q.t.tgt = w → (∀ l ∈ q.t.rf, l ∈ q.T) → chkF (getP pre k) (tOf (lkL L) h o.op) w (rfA v) F = true → ∀ f ∈ F, FOk ops f q k := by
          intro v q h1 L1 e1 e2 e3 e4 hchk f hf'
          rcases chk1_spec (chkF_get hchk f hf') with h | ⟨c1, c2, c3⟩
          · exact .inl (hpre k f.i h)
          · refine .inr ⟨fun l hl => ⟨by rw [e2]; exact (c1 l hl).1, by rw [e3]; exact (c1 l hl).2⟩, fun l hl => c2 l (by rw [← e3]; exact hl), fun ha l hl => ⟨by rw [e1]; exact c3 ha l hl, fun hm => (c1 l hl).1 (by rw [← e2]; exact e4 l hm)⟩⟩
        cases hv with
        | wk hd => cases hd
        | step v h1 hs hcl hk1 =>
          · obtain ⟨hchk, hk1⟩ := hk1
            obtain ⟨hfit1, hvl⟩ := step_val hao (.inl hs) hf
            obtain ⟨mm', tr, L', h', r1, r2, r3, r4, r5⟩ := ih (k + 1) _ (putL L o.dst v) h1 K hk' hk1 (by rw [putL_eq]; exact hfit1)
            have hst : ∀ (e' : Env) (hx : ∀ n ∈ slotsOf o, e' n = lkL L n) (h2 : Hp), astep e' h2 o.op = astep (lkL L) h2 o.op := fun e' hx h2 => astep_congr (ev_congr hx)
            cases w with
            | none =>
              obtain ⟨he, hall⟩ := no_alike hw hs
              obtain rfl : h = h1 := he.symm
              refine fin ⟨v, .no, tOf (lkL L) h o.op⟩ h _ mm' mm' (putL L o.dst v) (fun i => by rw [putL_eq]) ⟨fun e' h2 hx hh => .inr ⟨by rw [gv_congr hx]; exact hgv, .inl ?_⟩, rfl, rfl, fun l k hq => by cases hq⟩ rfl (Nat.le_refl _)
                (rec1 v _ h L rfl rfl rfl (fun l hl => by cases hl) hchk) (fun l b hq => by cases hq) hvl (fun l hl => by cases hl) (fun f hf => List.mem_append_left _ hf) (.inl ⟨_, List.mem_append_right _ (List.mem_singleton.2 rfl), rfl, rfl, rfl⟩) ⟨tr, L', h', r1, r2, r3, r4, r5⟩
              rw [hst e' hx h2]
              exact hall h2 fun l hl => by rw [hh l hl, List.getElem?_append_left (hlt l hl)]
            | some l =>
              cases al with
              | false =>
                obtain ⟨b, rfl, hb, hall⟩ := up_alike hw hs
                have hll : l < h.length := by
                  rcases Nat.lt_or_ge l h.length with hx | hx
                  · exact hx
                  · exfalso
                    have hmem : l ∈ tOf (lkL L) h o.op := by
                      cases hop : o.op
                      case app sz bytes z x y =>
                        rw [hop] at hw
                        simp only [wtOf] at hw
                        split at hw
                        · rename_i l0 v0 i0 n0 hxv
                          simp only [osi, pmi, and_true] at hw
                          subst hw
                          exact List.mem_append_left _ (List.mem_flatMap.2 ⟨x, by simp [xsOf], by rw [hxv]; simp [rfA, rfC]⟩)
                        · simp at hw
                        · cases hw
                      case st x y n =>
                        rw [hop] at hw
                        simp only [wtOf] at hw
                        split at hw
                        · rename_i l0 v0 i0 n0 hxv
                          simp only [osi, pmi, and_true] at hw
                          subst hw
                          exact List.mem_append_left _ (List.mem_flatMap.2 ⟨x, by simp [xsOf], by rw [hxv]; simp [rfA, rfC]⟩)
                        · cases hw
                      case mo oo xs => rw [hop] at hw; cases oo <;> simp [wtOf, cls] at hw
                      all_goals (rw [hop] at hw; simp [wtOf, cls] at hw)
                    have := hlt l hmem
                    omega
                refine fin ⟨v, .up l b, tOf (lkL L) h o.op⟩ (h.set l b) _ mm' mm' (putL L o.dst v) (fun i => by rw [putL_eq]) ⟨fun e' h2 hx hh => .inr ⟨by rw [gv_congr hx]; exact hgv, ?_⟩, rfl, by simp only [Wt.ap]; rw [List.set_append_left _ _ hll], fun l k hq => by cases hq⟩ (by simp) (by simp)
                  (rec1 v _ h L rfl rfl rfl (fun l hl => hb l hl) hchk) (fun l b hq => by cases hq) hvl (fun l hl => by have := hlt l (hb l hl); simp; omega) (fun f hf => List.mem_append_left _ hf) (.inl ⟨_, List.mem_append_right _ (List.mem_singleton.2 rfl), rfl, rfl, rfl⟩) ⟨tr, L', h', r1, r2, r3, r4, r5⟩
                show astep e' h2 o.op = some (v, h2.set l b)
                rw [hst e' hx h2]
                exact hall h2 fun l hl => by rw [hh l hl, List.getElem?_append_left (hlt l hl)]
              | true =>
                obtain ⟨rfl, f, b, hfo, rfl, rfl, hbr, hall⟩ := al_alike hw hs fun hc => hcl rfl hc
                have hbl : ∀ x ∈ rfB b, x < h.length := fun x hx => hlt x (hbr x hx)
                refine fin ⟨f h.length, .al h.length b, tOf (lkL L) h o.op⟩ (h ++ [b]) _ (mm' + 1) mm' (putL L o.dst (f h.length)) (fun i => by rw [putL_eq]) ⟨fun e' h2 hx hh => .inr ⟨by rw [gv_congr hx]; exact hgv, f, hfo, rfl, ?_⟩, rfl, by simp only [Wt.ap]; rw [dead_set], fun l k hq => by cases hq; rw [List.getElem?_append_right (Nat.le_refl _)]; simp⟩ (by simp; omega) (by simp)
                  (rec1 _ _ h L rfl rfl rfl (fun l hl => hbr l hl) hchk) (fun l c hq => by cases hq; exact ⟨Nat.le_refl _, by simp, List.mem_append_right _ (List.mem_singleton.2 rfl), hbl⟩) hvl (fun l hl => by have := hbl l hl; simp; omega) (fun f hf => List.mem_append_left _ hf) (.inl ⟨_, List.mem_append_right _ (List.mem_singleton.2 rfl), rfl, rfl, rfl⟩) ⟨tr, L', h', r1, r2, r3, r4, r5⟩
                rw [hst e' hx h2]
                exact hall h2 fun l hl => by rw [hh l hl, List.getElem?_append_left (hlt l hl)]
        | call f xs ho hc =>
          cases hc with
          | ro h0 => exact absurd h0 (Nat.lt_irrefl _)
          | pure hp hk1 =>
            rename_i r
            rw [evsN_eq] at hp
            · obtain ⟨hchk, hk1⟩ := hk1
              have hw' : w = none := by rw [ho] at hw; simp only [wtOf, cls, osi, pmi] at hw; exact hw.1.symm
              subst hw'
              obtain ⟨hfit1, hvl⟩ := step_val hao (.inr ⟨f, xs, ho, hp, rfl⟩) hf
              obtain ⟨mm', tr, L', h', r1, r2, r3, r4, r5⟩ := ih (k + 1) _ (putL L o.dst r) h K hk' hk1 (by rw [putL_eq]; exact hfit1)
              refine fin ⟨r, .no, tOf (lkL L) h o.op⟩ h _ mm' mm' (putL L o.dst r) (fun i => by rw [putL_eq]) ⟨fun e' h2 hx hh => .inr ⟨by rw [gv_congr hx]; exact hgv, .inr ⟨f, xs, ho, ?_⟩⟩, rfl, rfl, fun l k hq => by cases hq⟩ rfl (Nat.le_refl _)
                (rec1 r _ h L rfl rfl rfl (fun l hl => by cases hl) hchk) (fun l b hq => by cases hq) hvl (fun l hl => by cases hl) (fun f hf => List.mem_append_left _ hf) (.inl ⟨_, List.mem_append_right _ (List.mem_singleton.2 rfl), rfl, rfl, rfl⟩) ⟨tr, L', h', r1, r2, r3, r4, r5⟩
              have hev := ev_congr hx
              rw [ho] at hev hh
              rw [evs_congr (xs := xs) (e := e') (e' := lkL L) hev]
              refine hp.agree fun y hy => ?_
              obtain ⟨i, hi⟩ := List.mem_iff_getElem?.1 hy
              obtain ⟨x, hx1, rfl⟩ := (evs_get (e := lkL L) (xs := xs)).2 i y hi
              refine tOf_agree (h0 := h) (op := .call f xs) (fun l hl => ?_) x (List.mem_of_getElem? hx1)
              rw [hh l hl, List.getElem?_append_left (hlt l (by rw [ho]; exact hl))]
        | callv x xs b f caps ho hd => cases hd
        | ivk rows x xs b t caps g k pv rv ho hd => cases hd
        | ar K0 hd => cases hd
        | nil ne x nl sz l ho hd => cases hd
        | len x sz l ho hd => cases hd
        | lenA x l v i n ho hd => cases hd
    · obtain ⟨mm', tr, L', h', r1, r2, r3, r4, r5⟩ := ih (k + 1) F (putL L o.dst (.tup [])) h K hk' hv (by rw [putL_eq]; exact skip_fits hao hf)
      exact fin ⟨.tup [], .no, []⟩ h F mm' mm' (putL L o.dst (.tup [])) (fun i => by rw [putL_eq]) ⟨fun e' h2 hx _ => .inl ⟨by rw [gv_congr hx]; exact hgv, rfl, rfl⟩, rfl, rfl, fun l k hq => by cases hq⟩ rfl (Nat.le_refl _)
        (fun f _ => .inr ⟨fun l _ => ⟨by simp, by simp [Wt.tgt]⟩, (fun l hl => by cases hl), fun _ l _ => ⟨by simp [rfA, rfA.rfAs], by simp [Wt.rf]⟩⟩) (fun l b hq => by cases hq) (fun l hl => by simp [rfA, rfA.rfAs] at hl) (fun l hl => by cases hl) (fun f hf => hf) (.inr ⟨rfl, rfl⟩) ⟨tr, L', h', r1, r2, r3, r4, r5⟩
theorem Fits.len0 {e : Env} {h : Hp} {a : Act} {w : World} (hf : Fits N G0 ι0 h0 w0 e h a w) : h0.length ≤ h.length := by
 obtain ⟨G, ι, st⟩ := hf
 rcases Nat.lt_or_ge h.length h0.length with hlt | hge
 ·obtain ⟨k', h1, _⟩ := st.ext.keep h.length _ (lgE hlt)
  have := get_lt h1
  omega
 ·exact hge
theorem runF_seg3 {m : Nat} {ops : Array Oper} {aops : List AO} {pre : List (List Nat)} (hcomp : compOs P ops N ops.toList = some aops) (hpre : ∀ i j, j ∈ getP pre i → bitM ops i j = true) (hcon : aops.all constRf = true)
  {aos : List AO} {k : Nat} {L : Lv} {h : Hp} {K : Lv → Hp → Prop} (hk : ∀ i, i < aos.length → aos[i]? = aops[k + i]?) (hv : runF P m pre k [] aos L h K) {a : Act} {w : World} (hf : Fits N G0 ι0 h0 w0 (lkL L) h a w) :
  Seg3 P h0.length ops aops (List.range' k aos.length) (lkL L) h fun e h => ∃ L', e = lkL L' ∧ K L' h := by
 obtain ⟨mm, tr, L', h', r1, r2, _, r4, r5⟩ := runF_seg hcomp hpre hcon aos k [] L h K hk hv ⟨a, w, hf⟩
 have hl0 := hf.len0
 obtain ⟨G, ι, st⟩ := hf
 refine ⟨mm, tr, _, h', r1, r5, fun i hi l b hq => ?_, L', rfl, r2⟩
 obtain ⟨g1, g2, g3⟩ := r4 i hi l b hq
 refine ⟨⟨fun n hm => ?_, fun j kb hj hm => ?_⟩, by omega, fun hm => by have := g3 l hm; omega, fun x hx => ?_⟩
 ·have := (st.rel.env n).lt l hm; omega
 ·rcases Nat.lt_or_ge j h.length with hjl | hjl
  ·rw [List.getElem?_append_left hjl] at hj
   have := (st.rel.hr.blk j kb hj).lt l hm
   omega
  ·rw [List.getElem?_append_right hjl] at hj
   have := List.mem_of_getElem? hj
   rw [List.mem_replicate] at this
   rw [this.2] at hm
   cases hm
 ·have := g3 x hx
  simp only [List.length_append, List.length_replicate]
  omega
end
end Go.Ab

/-
  The engine: regions whose order is drawn, with one call that changes memory: what may run on either side of it does not look at what it changes.
-/
namespace Go.Ab
def delC : Code → Bool
 | .region _ ops _ => ops.toList.any fun o => match o.op with
  | .call c => (match c.callee with
   | .builtin .delete => true
   | _ => false)
  | _ => false
 | .seq a b => delC a || delC b
 | .cond _ a b => delC a || delC b
 | .block _ c => delC c
 | .loop c => delC c
 | .scope c => delC c
 | _ => false
def selfR (f : Nat) (ops : List Oper) : Bool := (ops.any fun o => match o.op with
  | .call c => (match c.callee with
   | .value (.func g) => g == f
   | _ => false)
  | _ => false) && ops.any fun o => match o.op with
  | .store .. => true
  | _ => false
def selfC (f : Nat) : Code → Bool
 | .region _ ops _ => selfR f ops.toList
 | .seq a b => selfC f a || selfC f b
 | .cond _ a b => selfC f a || selfC f b
 | .block _ c => selfC f c
 | .loop c => selfC f c
 | .scope c => selfC f c
 | _ => false
def wrF (P : Program) (f : Nat) : Bool := match P.funcs[f]? with
 | some fn => (match fn.body with
  | some c => delC c
  | none => false)
 | none => false
def selfF (P : Program) (f : Nat) : Bool := match P.funcs[f]? with
 | some fn => (match fn.body with
  | some c => selfC f c
  | none => false)
 | none => false
def findW (P : Program) (bar : Nat → Bool) : Nat → List AO → Option Nat
 | _, [] => none
 | k, o :: r => match o.op, o.g with
  | .call f _, none => (match wrF P f && !bar k with
   | true => some k
   | false => findW P bar (k + 1) r)
  | _, _ => findW P bar (k + 1) r
def dstsOf (os : List AO) : List Nat := os.filterMap (·.dst)
def lateB (ds : List Nat) (o : AO) : Bool := hfree o.op || (match o.op with
 | .ld (.t s) _ => !ds.contains s
 | _ => false)
def lateS (o : AO) : List Nat := match o.op with
 | .ld (.t s) _ => [s]
 | _ => []
def lateB2 (o : AO) : Bool := hfree o.op || (match o.op with
 | .call .. => false
 | .callv .. => false
 | .ivk .. => false
 | .ld (.k _) _ => false
 | _ => constOk o)
def lateS2 (o : AO) : List Nat := match hfree o.op with
 | true => []
 | false => (xsOf o.op).flatMap slotX
def isLdO : AOp → Bool
 | .ld _ _ => true
 | _ => false
def lateT (o : AO) : List (Nat × Bool) := (lateS2 o).map fun s => (s, isLdO o.op)
def freeN (ms : List Nat) (b : Nat) : Nat → Nat → Nat
 | 0, _ => 0
 | n + 1, i => match (ms.getD i 0).testBit b with
  | true => 0
  | false => freeN ms b n (i + 1) + 1
def wrOk (ms : List Nat) (n b e2 : Nat) (aos : List AO) : Bool :=
 let es := aos.take b ++ (aos.drop (b + 1)).take e2
 (es.all fun o => cls o.op == 0) && ((List.range n).all fun i => decide (i < b + 1 + e2) || (ms.getD i 0).testBit b) && ((List.range b).all fun j => (ms.getD b 0).testBit j || (match aos[j]? with
  | some o => lateB (dstsOf es) o
  | none => false)) && ((List.range e2).all fun j => !(ms.getD (b + 1 + j) 0).testBit b && (match aos[b + 1 + j]? with
  | some o => lateB (dstsOf es) o
  | none => false)) && decide (b + 1 + e2 ≤ n)
section
variable {P : Program} {N : Nat} {G0 : Nat → Prop} {ι0 : Io} {h0 : Hp} {w0 : World}
theorem RunI.slot {aops : List AO} {n : Nat} : ∀ {l : List Nat} {e : Env} {h : Hp} {e' : Env} {h' : Hp}, (∀ j ∈ l, ∀ o, aops[j]? = some o → o.dst ≠ some n) → RunI P aops l e h e' h' → e' n = e n := by
 intro l
 induction l with
 | nil => intro e h e' h' _ hr; obtain ⟨rfl, rfl⟩ := hr; rfl
 | cons i l ih =>
  intro e h e' h' hd hr
  obtain ⟨o, e1, h1, ho, hs, hr⟩ := hr
  rw [ih (fun j hj => hd j (by simp [hj])) hr]
  obtain ⟨v, _, rfl⟩ := hs.1.eff
  exact putE_other (hd i (by simp) o ho)
theorem RunI.append {aops : List AO} {l2 : List Nat} {e2 : Env} {h2 : Hp} {e3 : Env} {h3 : Hp} : ∀ {l1 : List Nat} {e : Env} {h : Hp}, RunI P aops l1 e h e2 h2 → RunI P aops l2 e2 h2 e3 h3 → RunI P aops (l1 ++ l2) e h e3 h3 := by
 intro l1
 induction l1 with
 | nil => intro e h h1 h4; obtain ⟨rfl, rfl⟩ := h1; exact h4
 | cons i l1 ih =>
  intro e h h1 h4
  obtain ⟨o, e1, h1', ho, hs, hr⟩ := h1
  exact ⟨o, e1, h1', ho, hs, ih hr h4⟩
theorem RunI.late {aops : List AO} {d : Option Nat} {v : AV} {hx h2 : Hp} {eL : Env} {ds : List Nat} : ∀ {l : List Nat} {e : Env} {e' : Env}, (∀ j ∈ l, ∀ o, aops[j]? = some o → cls o.op = 0 ∧ (lateB ds o = true ∨ h2 = hx) ∧ (∀ x, d = some x → x ∉ slotsOf o) ∧ (∀ x, o.dst = some x → d ≠ some x) ∧
      ∀ s ∈ lateS o, s ∉ ds → agreeA hx h2 (eL s) ∧ ¬ isAdr (eL s)) → (∀ s, s ∉ ds → e s = eL s) → (∀ j ∈ l, ∀ o, aops[j]? = some o → ∀ x, o.dst = some x → x ∈ ds) → RunI P aops l e hx e' hx → RunI P aops l (putE e d v) h2 (putE e' d v) h2 := by
  intro l
  induction l with
  | nil => intro e e' _ _ _ hr; obtain ⟨rfl, _⟩ := hr; exact ⟨rfl, rfl⟩
  | cons i l ih =>
    intro e e' hl he hds hr
    obtain ⟨o, e1, h1, ho, hs, hr⟩ := hr
    obtain ⟨q1, q2, q3, q4, q5⟩ := hl i (by simp) o ho
    obtain ⟨va, ea, rfl⟩ := hs.1.eff
    have := ea.same q1
    subst this
    have ea2 : Eff P o e h2 va h2 := by
      rcases q2 with q2 | q2
      rotate_left
      · rw [q2]; exact ea
      simp only [lateB, Bool.or_eq_true] at q2
      rcases q2 with q2 | q2
      · exact (ea.hfree q2).2 h2
      · split at q2
        · rename_i s k hop
          have hsd : s ∉ ds := by simpa using q2
          have hag := q5 s (by simp [lateS, hop]) hsd
          rcases ea with ⟨h0, h1, _⟩ | ⟨h0, h1 | ⟨f, xs, h2', _⟩⟩
          · exact .inl ⟨h0, h1, rfl⟩
          · refine .inr ⟨h0, .inl (astep_agree q1 (fun x hx => ?_) (fun x n ho => ?_) h1).2⟩
            · rw [hop] at hx
              simp only [xsOf, List.mem_singleton] at hx
              subst hx
              show agreeA _ _ (e s)
              rw [he s hsd]; exact hag.1
            · rw [hop] at ho
              cases ho
              left
              show ¬ isAdr (e s)
              rw [he s hsd]; exact hag.2
          · rw [hop] at h2'; cases h2'
        · cases q2
    have ea3 : Eff P o (putE e d v) h2 va h2 := ea2.congr fun n hn => (putE_other fun hd => q3 n hd hn).symm
    have hc : putE (putE e d v) o.dst va = putE (putE e o.dst va) d v := putE_comm fun x hx hox => q4 x hox hx
    refine ⟨o, putE (putE e o.dst va) d v, h2, ho, ⟨by rw [← hc]; exact ea3.step, fun hc => by omega⟩, ih (fun j hj => hl j (by simp [hj])) (fun s hs => ?_) (fun j hj => hds j (by simp [hj])) hr⟩
    rw [putE_other fun hd => hs (hds i (by simp) o ho s hd)]
    exact he s hs
theorem RunI.late2 {aops : List AO} {d : Option Nat} {v : AV} {hx h2 : Hp} : ∀ {l : List Nat} {e : Env} {e' : Env}, (∀ j ∈ l, ∀ o, aops[j]? = some o → cls o.op = 0 ∧ (lateB2 o = true ∨ h2 = hx) ∧ (∀ x, d = some x → x ∉ slotsOf o) ∧ (∀ x, o.dst = some x → d ≠ some x) ∧
      ∀ s ∈ lateS2 o, agreeA hx h2 (e' s) ∧ (isLdO o.op = true → ¬ isAdr (e' s))) → l.Pairwise (· < ·) → (∀ i ∈ l, ∀ o, aops[i]? = some o → ∀ s ∈ lateS2 o, ∀ j ∈ l, i ≤ j → ∀ o', aops[j]? = some o' → o'.dst ≠ some s) → RunI P aops l e hx e' hx → RunI P aops l (putE e d v) h2 (putE e' d v) h2 := by
  intro l
  induction l with
  | nil => intro e e' _ _ _ hr; obtain ⟨rfl, _⟩ := hr; exact ⟨rfl, rfl⟩
  | cons i l ih =>
    intro e e' hl hsrt hord hr
    have hr0 := hr
    obtain ⟨o, e1, h1, ho, hs, hr⟩ := hr
    obtain ⟨q1, q2, q3, q4, q5⟩ := hl i (by simp) o ho
    obtain ⟨va, ea, rfl⟩ := hs.1.eff
    have := ea.same q1
    subst this
    have hsl : ∀ s ∈ lateS2 o, e' s = e s := fun s hs => RunI.slot (fun j hj o' ho' => hord i (by simp) o ho s hs j hj (by
      rcases List.mem_cons.1 hj with rfl | hj
      · exact Nat.le_refl _
      · exact Nat.le_of_lt ((List.pairwise_cons.1 hsrt).1 j hj)) o' ho') hr0
    have ea2 : Eff P o e h2 va h2 := by
      rcases q2 with q2 | q2
      rotate_left
      · rw [q2]; exact ea
      cases hh : hfree o.op with
      | true => exact (ea.hfree hh).2 h2
      | false =>
        simp only [lateB2, hh, Bool.false_or] at q2
        rcases ea with ⟨h0, h1, _⟩ | ⟨h0, h1 | ⟨f, xs, h2', _⟩⟩
        · exact .inl ⟨h0, h1, rfl⟩
        · have hk : constOk o = true := by
            split at q2
            · cases q2
            · cases q2
            · cases q2
            · cases q2
            · exact q2
          simp only [constOk, List.all_eq_true] at hk
          refine .inr ⟨h0, .inl (astep_agree q1 (fun x hx => ?_) (fun x n ho => ?_) h1).2⟩
          · cases x with
            | t s =>
              have hs : s ∈ lateS2 o := by
                simp only [lateS2, hh, List.mem_flatMap]
                exact ⟨_, hx, by simp [slotX]⟩
              show agreeA _ _ (e s)
              rw [← hsl s hs]; exact (q5 s hs).1
            | k v => exact flatA_agree (hk _ hx)
          · left
            cases x with
            | t s =>
              have hs : s ∈ lateS2 o := by
                simp only [lateS2, hh, List.mem_flatMap]
                exact ⟨.t s, by rw [ho]; simp [xsOf], by simp [slotX]⟩
              show ¬ isAdr (e s)
              rw [← hsl s hs]; exact (q5 s hs).2 (by rw [ho]; rfl)
            | k v => rw [ho] at q2; cases q2
        · rw [h2'] at q2; cases q2
    have ea3 : Eff P o (putE e d v) h2 va h2 := ea2.congr fun n hn => (putE_other fun hd => q3 n hd hn).symm
    have hc : putE (putE e d v) o.dst va = putE (putE e o.dst va) d v := putE_comm fun x hx hox => q4 x hox hx
    exact ⟨o, putE (putE e o.dst va) d v, h2, ho, ⟨by rw [← hc]; exact ea3.step, fun hc => by omega⟩, ih (fun j hj => hl j (by simp [hj])) (List.pairwise_cons.1 hsrt).2 (fun i2 hi2 o2 ho2 s hs j hj => hord i2 (by simp [hi2]) o2 ho2 s hs j (by simp [hj])) hr⟩
theorem region_wr {id : Nat} {ops : Array Oper} {aops : List AO} {Q : Exit → Act → World → Prop} {L L1 : Lv} {h : Hp} {a : Act} {w : World} {b e2 f : Nat} {xs : List X} {ob : AO} {R : AV → Hp → Prop} (hmo : P.follows .mixedOrders = true)
  (hcomp : compOs P ops N ops.toList = some aops) (hg : aops.all (gOk N) = true) (hk : aops.all constOk = true) (hd : drawOk ops.toList aops = true) (hf : Fits N G0 ι0 h0 w0 (lkL L) h a w)
  (hb : aops[b]? = some ob) (hop : ob.op = .call f xs) (hgn : ob.g = none) (hw : wrOk (masks ops.toList []) ops.size b e2 aops = true)
  (hE : RunI P aops (List.range' 0 b ++ List.range' (b + 1) e2) (lkL L) h (lkL L1) h) (hfn : FnS P f (evsN L1 xs) h R)
  (hR : ∀ r h2, R r h2 → (∀ o ∈ aops.take b ++ (aops.drop (b + 1)).take e2, ∀ s ∈ lateS o, s ∉ dstsOf (aops.take b ++ (aops.drop (b + 1)).take e2) → agreeA h h2 (lkL L1 s) ∧ ¬ isAdr (lkL L1 s)) ∧
   ∃ e3 h3, RunI P aops (List.range' (b + 1 + e2) (ops.size - (b + 1 + e2))) (lkL (putL L1 ob.dst r)) h2 e3 h3 ∧ ∀ a w, Fits N G0 ι0 h0 w0 e3 h3 a w → Q .normal a w) : (Code.region id ops true).wp P Q a w := by
 simp only [wrOk, Bool.and_eq_true, List.all_eq_true, List.mem_range, Bool.or_eq_true, decide_eq_true_eq, beq_iff_eq, Bool.not_eq_true'] at hw
 obtain ⟨⟨⟨⟨w1, w2⟩, w3⟩, w4⟩, w5⟩ := hw
 generalize hes : aops.take b ++ (aops.drop (b + 1)).take e2 = es at *
 have hd' : ∀ i o, ops.toList[i]? = some o → (∀ j ∈ direct o, j < i) ∧ ∀ j, j < i → ((masks ops.toList []).getD i 0).testBit j = true ∨ ∃ x y, aops[j]? = some x ∧ aops[i]? = some y ∧ compat x y = true := by
  intro i o ho
  have hd := hd
  simp only [drawOk, List.all_eq_true, List.mem_range, Bool.and_eq_true, Bool.or_eq_true] at hd
  obtain ⟨h1, h2⟩ := hd i (get_lt ho)
  rw [ho] at h1
  simp only [List.all_eq_true, decide_eq_true_eq] at h1
  refine ⟨h1, fun j hj => ?_⟩
  rcases h2 j hj with h3 | h3
  ·exact .inl h3
  ·right
   split at h3
   ·rename_i x y hx hy; exact ⟨x, y, hx, hy, h3⟩
   ·cases h3
 have hd1 : ∀ i o, ops.toList[i]? = some o → ∀ j ∈ direct o, j < i := fun i o ho => (hd' i o ho).1
 have hempty : ∀ listed rem, Rem ops listed rem → Region.ready .any ops listed = [] → rem = [] := by
  intro listed rem hr hready
  cases rem with
  | nil => rfl
  | cons i rem =>
   exfalso
   have hi := (hr.mem i).1 (by simp)
   have ho : ops.toList[i]? = some (ops.toList[i]'(by simpa using hi.1)) := lgE _
   have : i ∈ Region.ready .any ops listed := by
    rw [ready_mem]
    refine ⟨hi.1, hi.2, _, ho, fun m hm => ?_⟩
    have hmi := (hd' i _ ho).1 m hm
    have hnot : m ∉ i :: rem := by
     intro hmem
     simp only [List.mem_cons] at hmem
     rcases hmem with h | h
     ·omega
     ·have := (List.pairwise_cons.1 hr.sorted).1 m h; omega
    have hms : m < ops.size := by omega
    have : ¬ (listed.getD m true = false) := fun hf => hnot ((hr.mem m).2 ⟨hms, hf⟩)
    simp only [Array.getD_eq_getD_getElem?, Array.getElem?_eq_getElem (show m < listed.size by rw [hr.size]; exact hms), Option.getD_some] at this ⊢
    simpa using this
   rw [hready] at this
   cases this
 have hdone : ∀ listed rem i o j, Rem ops listed rem → Closed ops listed → ops.toList[i]? = some o → (∀ m ∈ direct o, listed.getD m false = true) → ((masks ops.toList []).getD i 0).testBit j = true → j ∈ rem → False := by
  intro listed rem i o j hr hc ho hdir hb hj
  have := before_listed hr.size hc i o j ho hdir hb
  have hj' := (hr.mem j).1 hj
  simp only [Array.getD_eq_getD_getElem?, Array.getElem?_eq_getElem (show j < listed.size by rw [hr.size]; exact hj'.1), Option.getD_some] at this hj'
  rw [this] at hj'; simp at hj'
 have hlen := (compOs_get hcomp).1
 have hmem : ∀ j o, (j < b ∨ (b + 1 ≤ j ∧ j < b + 1 + e2)) → aops[j]? = some o → o ∈ es := by
  intro j o hj ho
  rw [← hes]
  rcases hj with hj | hj
  ·exact List.mem_append_left _ (List.mem_of_getElem? (i := j) (by rw [List.getElem?_take_of_lt hj]; exact ho))
  ·refine List.mem_append_right _ (List.mem_of_getElem? (i := j - (b + 1)) ?_)
   rw [List.getElem?_take_of_lt (by omega), List.getElem?_drop, show b + 1 + (j - (b + 1)) = j by omega]; exact ho
 have claim : ∀ (fuel : Nat) (listed : Array Bool) (l1 l2 : List Nat) (e : Env) (a : Act) (w : World), Rem ops listed (l1 ++ b :: (l2 ++ List.range' (b + 1 + e2) (ops.size - (b + 1 + e2)))) → (l1 ++ b :: (l2 ++ List.range' (b + 1 + e2) (ops.size - (b + 1 + e2)))).length ≤ fuel → Closed ops listed →
   Fits N G0 ι0 h0 w0 e h a w → RunI P aops (l1 ++ l2) e h (lkL L1) h → (∀ j ∈ l1, j < b) → (∀ j ∈ l2, b + 1 ≤ j ∧ j < b + 1 + e2) → (∀ s, s ∉ dstsOf es → e s = lkL L1 s) → wpAny P .any ops Q fuel listed a w := by
  intro fuel
  induction fuel with
  | zero => intro listed l1 l2 e a w _ hl; simp at hl
  | succ fuel ih =>
   intro listed l1 l2 e a w hr hl hc hf hrun hl1 hl2 hee
   refine ⟨fun hready => ?_, fun i hi => ?_⟩
   ·have := hempty listed _ hr hready
    simp at this
   ·rw [ready_mem] at hi
    obtain ⟨hin, hil, o, ho, hdir⟩ := hi
    have himem := (hr.mem i).2 ⟨hin, hil⟩
    have hoi : ops[i]? = some o := by simpa using ho
    have hpair := hr.sorted
    have hcl : ∀ j o, (j ∈ l1 ∨ j ∈ l2) → aops[j]? = some o → cls o.op = 0 ∧ o ∈ es := fun j o hj hoj => by
     have hm := hmem j o (hj.imp (hl1 j) (hl2 j)) hoj
     exact ⟨w1 o hm, hm⟩
    rcases List.mem_append.1 himem with hi1 | hi2
    ·-- ahead of the call
     obtain ⟨x1, x2, rfl⟩ := List.append_of_mem hi1
     have hx : ∀ j ∈ x1, j < i := fun j hj => by
      rw [List.append_assoc, List.pairwise_append] at hpair
      exact hpair.2.2 j hj i (by simp)
     have hcompat : ∀ j ∈ x1, ∀ x y, aops[j]? = some x → aops[i]? = some y → compat x y = true := by
      intro j hj x y hx' hy
      rcases (hd' i o ho).2 j (hx j hj) with hb' | ⟨x', y', hx'', hy', hcc⟩
      ·exact (hdone listed _ i o j hr hc ho hdir hb' (by simp [hj])).elim
      ·rw [hx'] at hx''; rw [hy] at hy'; cases hx''; cases hy'; exact hcc
     obtain ⟨ao, e1, h1, hao, hstep, hrest⟩ := front hcomp hk x1 i (x2 ++ l2) e h _ _ a w hf hcompat (by simpa using hrun)
     have hco := (compOs_get hcomp).2 i o ao ho hao
     have hgo := gOk_spec (N := N) (by rw [List.all_eq_true] at hg; exact hg ao (List.mem_of_getElem? hao))
     obtain ⟨hz, hes'⟩ := hcl i ao (.inl hi1) hao
     obtain ⟨va, ea, rfl⟩ := hstep.1.eff
     have := ea.same hz
     subst this
     have hr' : Rem ops listed (x1 ++ i :: (x2 ++ b :: (l2 ++ List.range' (b + 1 + e2) (ops.size - (b + 1 + e2))))) := by simpa using hr
     obtain ⟨hr2, hc2⟩ := rem_step hr' hc hin ho hdir hd1
     unfold wpOp
     simp only [hoi]
     exact step_sound hco hgo hstep.1 hf fun a' w' hf' => ih (listed.setIfInBounds i true) (x1 ++ x2) l2 _ a' w' (by simpa using hr2) (by simp at hl ⊢; omega) hc2 hf' (by simpa using hrest) (fun j hj => hl1 j (by simp at hj ⊢; rcases hj with h | h <;> simp [h])) hl2
      fun s hs => by rw [putE_other fun hd => hs (by simp only [dstsOf, List.mem_filterMap]; exact ⟨ao, hes', hd⟩)]; exact hee s hs
    ·rcases List.mem_cons.1 hi2 with rfl | hi3
     ·-- the call
      have hco := (compOs_get hcomp).2 i o ob ho hb
      obtain ⟨hdst, hdN, hopo, hgo⟩ := compO_dst hco
      have hcp : ∀ j ∈ l1 ++ l2, ∀ oj, aops[j]? = some oj → (∀ x, oj.dst = some x → x ∉ slotsOf ob ∧ ob.dst ≠ some x) ∧ (∀ x, ob.dst = some x → x ∉ slotsOf oj) ∧ lateB (dstsOf es) oj = true := by
       intro j hj oj hoj
       rcases List.mem_append.1 hj with hj | hj
       ·have hjb := hl1 j hj
        have hnb : ¬ ((masks ops.toList []).getD i 0).testBit j = true := fun hbit => hdone listed _ i o j hr hc ho hdir hbit (by simp [hj])
        rcases (hd' i o ho).2 j hjb with hb' | ⟨x', y', hx'', hy', hcc⟩
        ·exact (hnb hb').elim
        ·rw [hoj] at hx''; rw [hb] at hy'; cases hx''; cases hy'
         obtain ⟨c1, c2, _⟩ := compat_spec hcc
         refine ⟨c1, c2, ?_⟩
         rcases w3 j hjb with h | h
         ·exact (hnb h).elim
         ·rw [hoj] at h; exact h
       ·have hjb := hl2 j hj
        have hjn : j < ops.toList.length := by simp; omega
        have hoj' : ops.toList[j]? = some (ops.toList[j]'hjn) := lgE _
        obtain ⟨w4a, w4b⟩ := w4 (j - (i + 1)) (by omega)
        rw [show i + 1 + (j - (i + 1)) = j by omega] at w4a w4b
        rcases (hd' j _ hoj').2 i (by omega) with hb' | ⟨x', y', hx'', hy', hcc⟩
        ·rw [hb'] at w4a; cases w4a
        ·rw [hb] at hx''; rw [hoj] at hy'; cases hx''; cases hy'
         obtain ⟨c1, c2, _⟩ := compat_spec hcc
         refine ⟨fun x hx => ⟨c2 x hx, fun hx' => (c1 x hx').2 hx⟩, fun x hx => (c1 x hx).1, ?_⟩
         rw [hoj] at w4b; exact w4b
      have hargs : evs e xs = evs (lkL L1) xs := by
       refine evs_congr fun x hx => ev_of_slots fun n hn => ?_
       refine (RunI.slot (fun j hj oj hoj hd => ?_) hrun).symm
       have := (hcp j hj oj hoj).1 n hd
       refine this.1 ?_
       simp only [slotsOf, List.mem_append, List.mem_flatMap]
       exact .inr ⟨x, by rw [hop]; exact hx, hn⟩
      rw [hop] at hopo
      obtain ⟨c, hoo⟩ := compOp_call hopo.symm
      have hf0 := hf
      obtain ⟨G, ι, st⟩ := hf
      obtain ⟨q1, q2⟩ := call_exec (a := a) (w := w) hoo hopo.symm
      have ha2 : c.args.map a.eval = (c.args.toList.map a.eval).toArray := by apply Array.ext'; simp
      rw [ha2] at q1
      rw [evsN_eq, ← hargs] at hfn
      obtain ⟨hr2, hc2⟩ := rem_step hr hc hin ho hdir hd1
      have hgv : gv e ob.g = some true := by rw [hgn]; rfl
      unfold wpOp
      simp only [hoi]
      rw [gv_wanted st.rel hgo hgv (fun s q hsq => by rw [hgn] at hsq; cases hsq)]
      simp only [if_true]
      left
      refine fn_enter st hdN hfn (args_sound st.rel q2) q1 fun v h' a' w' hk' hf' => ?_
      obtain ⟨hl', e3, h3, hr3, hq⟩ := hR v h' hk'
      rw [← hdst] at hf'
      have hlate : RunI P aops (l1 ++ l2) (putE e ob.dst v) h' (putE (lkL L1) ob.dst v) h' := by
       refine RunI.late (ds := dstsOf es) (eL := lkL L1) (fun j hj oj hoj => ?_) hee (fun j hj oj hoj x hx => ?_) hrun
       ·have hj' := List.mem_append.1 hj
        obtain ⟨z1, z2⟩ := hcl j oj hj' hoj
        obtain ⟨p1, p2, p3⟩ := hcp j hj oj hoj
        exact ⟨z1, .inl p3, p2, fun x hx => (p1 x hx).2, fun s hs hsd => hl' oj z2 s hs hsd⟩
       ·obtain ⟨_, z2⟩ := hcl j oj (List.mem_append.1 hj) hoj
        simp only [dstsOf, List.mem_filterMap]; exact ⟨oj, z2, hx⟩
      rw [putL_eq] at hr3
      refine any_sound hcomp hg hk hd fuel _ (l1 ++ (l2 ++ List.range' (i + 1 + e2) (ops.size - (i + 1 + e2)))) [] _ _ e3 h3 a' w' (by simpa [flatP] using hr2) (by simp [flatP] at hl ⊢; omega) hc2 hf' ?_ hq
      rw [← List.append_assoc]
      exact hlate.append hr3
     ·rcases List.mem_append.1 hi3 with hi4 | hi4
      ·-- behind the call in the text, but free of it
       obtain ⟨y1, y2, rfl⟩ := List.append_of_mem hi4
       have hx : ∀ j ∈ l1 ++ y1, j < i := fun j hj => by
        rcases List.mem_append.1 hj with hj | hj
        ·have := hl1 j hj; have := hl2 i (by simp); omega
        ·have hp2 := (List.pairwise_append.1 hpair).2.1
         rw [List.pairwise_cons, List.append_assoc, List.pairwise_append] at hp2
         exact hp2.2.2.2 j hj i (by simp)
       have hcompat : ∀ j ∈ l1 ++ y1, ∀ x y, aops[j]? = some x → aops[i]? = some y → compat x y = true := by
        intro j hj x y hx' hy
        rcases (hd' i o ho).2 j (hx j hj) with hb' | ⟨x', y', hx'', hy', hcc⟩
        ·exact (hdone listed _ i o j hr hc ho hdir hb' (by simp at hj ⊢; rcases hj with h | h <;> simp [h])).elim
        ·rw [hx'] at hx''; rw [hy] at hy'; cases hx''; cases hy'; exact hcc
       obtain ⟨ao, e1, h1, hao, hstep, hrest⟩ := front hcomp hk (l1 ++ y1) i y2 e h _ _ a w hf hcompat (by simpa using hrun)
       have hco := (compOs_get hcomp).2 i o ao ho hao
       have hgo := gOk_spec (N := N) (by rw [List.all_eq_true] at hg; exact hg ao (List.mem_of_getElem? hao))
       obtain ⟨hz, hes'⟩ := hcl i ao (.inr hi4) hao
       obtain ⟨va, ea, rfl⟩ := hstep.1.eff
       have := ea.same hz
       subst this
       have hr' : Rem ops listed ((l1 ++ b :: y1) ++ i :: (y2 ++ List.range' (b + 1 + e2) (ops.size - (b + 1 + e2)))) := by simpa using hr
       obtain ⟨hr2, hc2⟩ := rem_step hr' hc hin ho hdir hd1
       unfold wpOp
       simp only [hoi]
       exact step_sound hco hgo hstep.1 hf fun a' w' hf' => ih (listed.setIfInBounds i true) l1 (y1 ++ y2) _ a' w' (by simpa using hr2) (by simp at hl ⊢; omega) hc2 hf' (by simpa using hrest) hl1 (fun j hj => hl2 j (by simp at hj ⊢; rcases hj with h | h <;> simp [h]))
        fun s hs => by rw [putE_other fun hd => hs (by simp only [dstsOf, List.mem_filterMap]; exact ⟨ao, hes', hd⟩)]; exact hee s hs
      ·-- what waits for the call
       exfalso
       rw [List.mem_range'_1] at hi4
       rcases w2 i hin with h | h
       ·omega
       ·exact hdone listed _ i o b hr hc ho hdir h (by simp)
 refine wp_region_any hmo (claim ops.size (Array.replicate ops.size false) (List.range' 0 b) (List.range' (b + 1) e2) (lkL L) a _ ?_ ?_ ?_ (hf.same_heap rfl) hE ?_ ?_ ?_)
 ·have hall : List.range' 0 b ++ b :: (List.range' (b + 1) e2 ++ List.range' (b + 1 + e2) (ops.size - (b + 1 + e2))) = List.range ops.size := by
   rw [List.range'_append_1, ← List.range'_succ, List.range_eq_range']
   have := List.range'_append_1 (s := 0) (m := b) (n := e2 + (ops.size - (b + 1 + e2)) + 1)
   rw [Nat.zero_add] at this
   rw [this]; congr 1; omega
  rw [hall]
  refine ⟨by simp, fun i => ?_, List.pairwise_lt_range⟩
  simp only [List.mem_range, Array.getD_eq_getD_getElem?, Array.getElem?_replicate]
  constructor
  ·intro hi; exact ⟨hi, by simp [hi]⟩
  ·exact fun hi => hi.1
 ·simp; omega
 ·intro i o ho hl
  have hi : i < ops.size := by simpa using get_lt ho
  simp [Array.getD_eq_getD_getElem?, hi] at hl
 ·intro j hj; rw [List.mem_range'_1] at hj; omega
 ·intro j hj; rw [List.mem_range'_1] at hj; omega
 ·intro s hs
  refine (RunI.slot (fun j hj oj hoj hd => hs ?_) hE).symm
  simp only [dstsOf, List.mem_filterMap]
  refine ⟨oj, hmem j oj ?_ hoj, hd⟩
  rcases List.mem_append.1 hj with hj | hj <;> rw [List.mem_range'_1] at hj <;> omega
end
end Go.Ab

/-
  The engine, part x: the condition of a text, and that it suffices; functions.
-/
namespace Go.Ab
inductive Ex where
 | normal
 | exit (id : Nat)
 | ret
 deriving DecidableEq
abbrev Post := Ex → Lv → Hp → Prop
inductive LoopI (m : Nat) (body : Lv → Hp → Post → Prop) (L : Lv) (h : Hp) (Q : Post) : Prop
 | mk (I : Nat → Lv → Hp → Prop) (n : Nat) (L1 : Lv) (h1 : Hp) (wk : Wk m L h L1 h1) (start : I n L1 h1)
   (round : ∀ n L h, I n L h → body L h fun x L' h' => match x with
    | .normal => ∃ n' L1 h1, n' < n ∧ Wk m L' h' L1 h1 ∧ I n' L1 h1
    | .exit i => ∃ L1 h1, Wk m L' h' L1 h1 ∧ Q (.exit i) L1 h1
    | .ret => Q .ret L' h')
def lateOk (h h' : Hp) (L : Lv) : List Nat → Prop
 | [] => True
 | s :: r => agreeA h h' (lkN L s) ∧ (match lkN L s with
  | .c (.d (.adr _ _)) => False
  | _ => True) ∧ lateOk h h' L r
def lateOT (h h' : Hp) (L : Lv) : List (Nat × Bool) → Prop
 | [] => True
 | (s, b) :: r => agreeA h h' (lkN L s) ∧ (match b, lkN L s with
  | true, .c (.d (.adr _ _)) => False
  | _, _ => True) ∧ lateOT h h' L r
def vcWr (P : Program) (o : AO) (late : List Nat) (L : Lv) (h : Hp) (K : Lv → Hp → Prop) : Prop := match o.op with
 | .call f xs => ∃ R : AV → Hp → Prop, FnS P f (evsN L xs) h R ∧ ∀ r h', R r h' → lateOk h h' L late ∧ K (putL L o.dst r) h'
 | _ => False
def arW (L : Lv) : AOp → Bool
 | .nilc x => isA (evN L x)
 | .iaa _ _ x _ => isA (evN L x)
 | .ias _ x _ => isA (evN L x)
 | .fa x _ => isA (evN L x)
 | .ld x _ => isA (evN L x)
 | .st x _ _ => isA (evN L x)
 | _ => false
def readW : AOp → Bool
 | .ias .. => true
 | _ => false
def vcW1 (P : Program) (Λ : Len) (o : AO) (L : Lv) (h : Hp) (K : AV → Hp → Prop) : Prop := match o.op with
 | .call f xs => ∃ R : AV → Hp → Prop, FnS P f (evsN L xs) h R ∧ ∀ r h', R r h' → K r h'
 | .callv x xs => (match evN L x with
  | .c (.fn b f caps) => (match Nat.blt f 4294967296 with
   | true => FnOk P f ∧ ∃ R : AV → Hp → Prop, FnS P f (bArgs b (evsN L xs) (caps.map .c)) h R ∧ ∀ r h', R r h' → K r h'
   | false => False)
  | _ => False)
 | .bsl sz z n ps => vcOp0 P Λ 0 false (.bsl sz z n ps) L h fun _ v h' => K v h'
 | op => match arW L op with
  | true => vAr op L h K
  | false => vcOp0 P Λ 0 true op L h fun _ v h' => K v h'
def vcWs (P : Program) (Λ : Len) (late : List (Nat × Bool)) : List AO → Lv → Hp → (Lv → Hp → Prop) → Prop
 | [], L, h, K => K L h
 | o :: r, L, h, K => vcW1 P Λ o L h fun v h' => lateOT h h' L late ∧ vcWs P Λ late r (putL L o.dst v) h' K
def vcC (P : Program) (Λ : Len) (m : Nat) : AC → Lv → Hp → Post → Prop
 | .skip, L, h, Q => Q .normal L h
 | .reg d ops, L, h, Q => vcOps P Λ m d ops L h fun L h => Q .normal L h
 | .rgf pre k ops, L, h, Q => vcF3 P Λ m pre k [] ops L h fun L h => Q .normal L h
 | .rgw e1 o e2 cs late, L, h, Q => vcOps P Λ m true e1 L h fun L h => vcOps P Λ m true e2 L h fun L h => vcWr P o late L h fun L h => vcOps P Λ m true cs L h fun L h => Q .normal L h
 | .rgc es ws late, L, h, Q => vcOps P Λ m true es L h fun L h => vcWs P Λ late ws L h fun L h => Q .normal L h
 | .seq a b, L, h, Q => vcC P Λ m a L h fun x L h => match x with
  | .normal => vcC P Λ m b L h Q
  | x => Q x L h
 | .cond c a b, L, h, Q => match evN L c with
  | .c (.d (.bool t)) => (match t with
   | true => vcC P Λ m a L h Q
   | false => vcC P Λ m b L h Q)
  | _ => False
 | .block id c, L, h, Q => vcC P Λ m c L h fun x L h => match x with
  | .exit i => (match Nat.beq i id with
   | true => Q .normal L h
   | false => Q (.exit i) L h)
  | x => Q x L h
 | .loop c, L, h, Q => LoopI m (vcC P Λ m c) L h Q
 | .exit id, L, h, Q => Q (.exit id) L h
 | .ret, L, h, Q => Q .ret L h
def barB (ms : List Nat) (n b : Nat) : Bool := ((List.range b).all fun j => (ms.getD b 0).testBit j) && (List.range n).all fun i => decide (i ≤ b) || (ms.getD i 0).testBit b
def isCall : AOp → Bool
 | .call .. => true
 | .callv .. => true
 | .ivk .. => true
 | _ => false
def splitD (ms : List Nat) (n : Nat) : Nat → List AO → List AO × List (AO × List AO)
 | _, [] => ([], [])
 | k, o :: r => match splitD ms n (k + 1) r with
  | (c, bs) => match isCall o.op && barB ms n k with
   | true => ([], (o, c) :: bs)
   | false => (o :: c, bs)
def acSegs : List AO → List (AO × List AO) → AC
 | c, [] => .reg true c
 | c, (o, c') :: r => .seq (.reg true c) (.seq (.reg false [o]) (acSegs c' r))
def acDraw (ops : Array Oper) (aos : List AO) : AC := match splitD (masks ops.toList []) ops.size 0 aos with
 | (c, bs) => acSegs c bs
def acDrawW (P : Program) (ops : Array Oper) (aos : List AO) : AC := match findW P (barB (masks ops.toList []) ops.size) 0 aos with
 | some b => (match aos[b]? with
  | some o => let e2 := freeN (masks ops.toList []) b (ops.size - (b + 1)) (b + 1)
   if wrOk (masks ops.toList []) ops.size b e2 aos = true then .rgw (aos.take b) o ((aos.drop (b + 1)).take e2) (aos.drop (b + 1 + e2)) (((aos.take b ++ (aos.drop (b + 1)).take e2).flatMap lateS).filter fun s => !(dstsOf (aos.take b ++ (aos.drop (b + 1)).take e2)).contains s) else acDraw ops aos
  | none => acDraw ops aos)
 | none => acDraw ops aos
theorem findW_spec {P : Program} {bar : Nat → Bool} : ∀ {l : List AO} {k b : Nat}, findW P bar k l = some b → k ≤ b ∧ ∃ o f xs, l[b - k]? = some o ∧ o.op = .call f xs ∧ o.g = none := by
 intro l
 induction l with
 | nil => intro k b h; cases h
 | cons o r ih =>
  intro k b h
  have next : findW P bar (k + 1) r = some b → k ≤ b ∧ ∃ o' f xs, (o :: r)[b - k]? = some o' ∧ o'.op = .call f xs ∧ o'.g = none := fun h => by
   obtain ⟨h1, o', f, xs, h2, h3⟩ := ih h
   exact ⟨by omega, o', f, xs, by rw [show b - k = (b - (k + 1)) + 1 by omega, List.getElem?_cons_succ]; exact h2, h3⟩
  simp only [findW] at h
  split at h
  ·rename_i f xs hop hg
   split at h
   ·cases h
    exact ⟨Nat.le_refl _, o, f, xs, by simp, hop, hg⟩
   ·exact next h
  ·exact next h
def acSegs3 (pre : List (List Nat)) : Nat → List AO → List (AO × List AO) → AC
 | k, c, [] => .rgf pre k c
 | k, c, (o, c') :: r => .seq (.rgf pre k c) (.seq (.reg false [o]) (acSegs3 pre (k + c.length + 1) c' r))
def preOf (ms : List Nat) (n : Nat) : List (List Nat) := (List.range n).map fun i => (List.range i).filter fun j => (ms.getD i 0).testBit j
def acDraw3 (ops : Array Oper) (aos : List AO) : AC := match splitD (masks ops.toList []) ops.size 0 aos with
 | (c, bs) => acSegs3 (preOf (masks ops.toList []) ops.size) 0 c bs
def isW (ms : List Nat) (c i : Nat) : Bool := Nat.beq i c || (ms.getD i 0).testBit c
def idxE (ms : List Nat) (n c : Nat) : List Nat := (List.range n).filter fun i => !isW ms c i
def idxW (ms : List Nat) (n c : Nat) : List Nat := (List.range n).filter fun i => isW ms c i
def getA (aos : List AO) (l : List Nat) : List AO := l.filterMap fun i => aos[i]?
def indepB (a b : AO) : Bool := (match a.dst with
 | some d => !(slotsOf b).contains d && b.dst != some d
 | none => true) && (match b.dst with
 | some d => !(slotsOf a).contains d
 | none => true)
def dirOk (os : List Oper) : Bool := (List.range os.length).all fun i => match os[i]? with
 | some o => (direct o).all fun j => decide (j < i)
 | none => true
def chOk (ms : List Nat) (n c : Nat) (aos : List AO) : Bool :=
 ((idxW ms n c).all fun b => ((idxW ms n c).all fun k => decide (b ≤ k) || (ms.getD b 0).testBit k) && (match aos[b]? with
  | some o => o.g.isNone
  | none => false)) &&
 ((idxE ms n c).all fun j => match aos[j]? with
  | some o => cls o.op == 0
  | none => false) &&
 ((idxE ms n c).all fun j => (idxE ms n c).all fun i => decide (i ≤ j) || (ms.getD i 0).testBit j || (match aos[j]?, aos[i]? with
  | some x, some y => compat x y
  | _, _ => false)) &&
 ((idxE ms n c).all fun j => (idxW ms n c).all fun b => (decide (j < b) && (ms.getD b 0).testBit j) || (match aos[j]?, aos[b]? with
  | some x, some y => indepB x y && (lateB2 x || readW y.op)
  | _, _ => false))
def idxL (ms : List Nat) (n c : Nat) : List Nat := (idxE ms n c).filter fun j => !((idxW ms n c).all fun b => decide (j < b) && (ms.getD b 0).testBit j)
def ordE (ms : List Nat) (n c : Nat) (aos : List AO) : Bool := (idxE ms n c).all fun i => (idxE ms n c).all fun j => decide (j < i) || (match aos[i]?, aos[j]? with
 | some x, some y => (lateS2 x).all fun s => y.dst != some s
 | _, _ => false)
def findV (bar : Nat → Bool) : Nat → List AO → Option Nat
 | _, [] => none
 | k, o :: r => match o.op with
  | .callv _ _ => (match bar k with
   | true => findV bar (k + 1) r
   | false => some k)
  | _ => findV bar (k + 1) r
def dstIs (aos : List AO) (s : Nat) (p : AOp → Bool) : Bool := aos.any fun o => (match o.dst with
 | some d => Nat.beq d s
 | none => false) && p o.op
def isApp : AOp → Bool
 | .app .. => true
 | _ => false
def isRec (aos : List AO) : AOp → Bool
 | .build _ ps => ps.any fun p => match p.2.2 with
  | .t y => dstIs aos y isApp
  | _ => false
 | _ => false
def isNest (aos : List AO) : AOp → Bool
 | .bsl _ _ _ ps => ps.any fun p => match p.2 with
  | .t x => dstIs aos x (isRec aos)
  | _ => false
 | _ => false
def isBsl : AOp → Bool
 | .bsl .. => true
 | _ => false
def findB (k : Nat) : List AO → Option Nat
 | [] => none
 | o :: r => match isBsl o.op with
  | true => some k
  | false => findB (k + 1) r
def findVB (bar : Nat → Bool) (aos : List AO) : Option Nat := match aos.any fun o => isNest aos o.op with
 | true => findB 0 aos
 | false => findV bar 0 aos
def acDraw4 (ops : Array Oper) (aos : List AO) : AC := match findVB (barB (masks ops.toList []) ops.size) aos with
 | some c => if (chOk (masks ops.toList []) ops.size c aos && ordE (masks ops.toList []) ops.size c aos) = true ∧ dirOk ops.toList = true ∧ aos.all constOk = true then
   .rgc (getA aos (idxE (masks ops.toList []) ops.size c)) (getA aos (idxW (masks ops.toList []) ops.size c)) ((getA aos (idxL (masks ops.toList []) ops.size c)).flatMap lateT)
  else acDraw3 ops aos
 | none => acDraw3 ops aos
def isSt : AOp → Bool
 | .st .. => true
 | _ => false
def isLdIas (aos : List AO) : AOp → Bool
 | .ld (.t y) none => dstIs aos y readW
 | _ => false
def stTo (aos : List AO) (d : Option Nat) : Bool := match d with
 | some z => aos.any fun o => match o.op with
  | .st (.t y) _ _ => Nat.beq y z
  | _ => false
 | none => false
def nestAt (aos : List AO) (k : Nat) : List AO → Option Nat
 | [] => none
 | o :: r => match (match o.op with
   | .ias _ (.t x) _ => dstIs aos x (isLdIas aos) && stTo aos o.dst
   | _ => false) with
  | true => some k
  | false => nestAt aos (k + 1) r
def isLd1 : AOp → Bool
 | .ld _ none => true
 | _ => false
def findS (P : Program) (aos : List AO) : Nat → List AO → Option Nat
 | _, [] => none
 | k, o :: r => match o.op with
  | .call f xs => (match selfF P f && xs.any fun x => match x with
    | .t s => dstIs aos s isLd1
    | _ => false with
   | true => some k
   | false => findS P aos (k + 1) r)
  | _ => findS P aos (k + 1) r
def placeC (P : Program) (aos : List AO) : Option Nat := match nestAt aos 0 aos with
 | some c => some c
 | none => findS P aos 0 aos
def acDraw5 (P : Program) (ops : Array Oper) (aos : List AO) : AC := match aos.any fun o => isSt o.op with
 | true => (match placeC P aos with
  | some c => if (chOk (masks ops.toList []) ops.size c aos && ordE (masks ops.toList []) ops.size c aos) = true ∧ dirOk ops.toList = true ∧ aos.all constOk = true then
    .rgc (getA aos (idxE (masks ops.toList []) ops.size c)) (getA aos (idxW (masks ops.toList []) ops.size c)) ((getA aos (idxL (masks ops.toList []) ops.size c)).flatMap lateT)
   else acDrawW P ops aos
  | none => acDrawW P ops aos)
 | false => acDrawW P ops aos
def compC (P : Program) (N : Nat) : Code → Option AC
 | .skip => some .skip
 | .label _ => some .skip
 | .region _ ops draw => match compOs P ops N ops.toList with
  | some aos => if aos.all (gOk N) = true ∧ (draw = true → aos.all constOk = true ∧ drawOk ops.toList aos = true) then some (match draw with | true => acDraw5 P ops aos | false => .reg false aos)
   else if draw = true ∧ aos.all (gOk N) = true ∧ aos.all constRf = true ∧ drawOk2 ops.toList aos = true then some (acDraw4 ops aos) else none
  | none => none
 | .seq a b => match compC P N a, compC P N b with
  | some x, some y => some (.seq x y)
  | _, _ => none
 | .cond c a b => match cx P 0 c, compC P N a, compC P N b with
  | some c, some x, some y => some (.cond c x y)
  | _, _, _ => none
 | .block id c => match compC P N c with
  | some x => some (.block id x)
  | none => none
 | .loop c => match compC P N c with
  | some x => some (.loop x)
  | none => none
 | .scope c => compC P N c
 | .exit id => some (.exit id)
 | .ret => some .ret
 | _ => none
section
variable {P : Program} {N : Nat} {G0 : Nat → Prop} {ι0 : Io} {h0 : Hp} {w0 : World}
def exq (Q : Post) : Exit → Lv → Hp → Prop
 | .normal => Q .normal
 | .exit i => Q (.exit i)
 | .ret => Q .ret
 | _ => fun _ _ => False
def out (N : Nat) (G0 : Nat → Prop) (ι0 : Io) (h0 : Hp) (w0 : World) (Q : Post) : Exit → Act → World → Prop :=
 fun x a w => ∃ L h, exq Q x L h ∧ Fits N G0 ι0 h0 w0 (lkL L) h a w
theorem least {p : Nat → Prop} : ∀ n, p n → ∃ m, p m ∧ ∀ k, p k → m ≤ k := by
 intro n
 induction n using Nat.strongRecOn with
 | _ n ih =>
  intro hn
  by_cases h : ∃ k, k < n ∧ p k
  ·obtain ⟨k, hk, hpk⟩ := h; exact ih k hk hpk
  ·exact ⟨n, hn, fun k hk => by
    rcases Nat.lt_or_ge k n with h' | h'
    ·exact absurd ⟨k, h', hk⟩ h
    ·exact h'⟩
theorem wp_loop_ghost {c : Code} {Q : Exit → Act → World → Prop} (I : Nat → Act → World → Prop)
  (round : ∀ n a w, I n a w → c.wp P (Exit.then (fun a' w' => ∃ n', n' < n ∧ I n' a' w') Q) a w) : ∀ n a w, I n a w → (Code.loop c).wp P Q a w := by
 intro n a w h
 classical
 have hex : ∀ a w, (∃ n, I n a w) → ∃ m, I m a w ∧ ∀ k, I k a w → m ≤ k := fun a w ⟨n, hn⟩ => least n hn
 let μ : Act → World → Nat := fun a w => if h : ∃ n, I n a w then Classical.choose (hex a w h) else 0
 have hμ : ∀ a w, (∃ n, I n a w) → I (μ a w) a w := fun a w h => by simp only [μ, dif_pos h]; exact (Classical.choose_spec (hex a w h)).1
 have hμ' : ∀ a w n, I n a w → μ a w ≤ n := fun a w n h => by
  have h0 : ∃ n, I n a w := ⟨n, h⟩
  simp only [μ, dif_pos h0]; exact (Classical.choose_spec (hex a w h0)).2 n h
 refine wp_loop (fun a w => ∃ n, I n a w) μ ⟨n, h⟩ fun a w hI => ?_
 refine wp_mono (round _ a w (hμ a w hI)) fun x a' w' hx => ?_
 cases x with
 | normal => obtain ⟨n', h1, h2⟩ := hx; exact ⟨⟨n', h2⟩, Nat.lt_of_le_of_lt (hμ' a' w' n' h2) h1⟩
 | _ => exact hx
def BarsOk (ms : List Nat) (n : Nat) : Nat → List (AO × List AO) → Prop
 | _, [] => True
 | k, (_, c) :: r => barB ms n k = true ∧ BarsOk ms n (k + 1 + c.length) r
def flatB : List (AO × List AO) → List AO
 | [] => []
 | (o, c) :: r => o :: (c ++ flatB r)
def idxP : Nat → List (AO × List AO) → List (Nat × List Nat)
 | _, [] => []
 | k, (_, c) :: r => (k, List.range' (k + 1) c.length) :: idxP (k + 1 + c.length) r
theorem splitD_spec {ms : List Nat} {n : Nat} : ∀ (aos : List AO) (k : Nat) (c : List AO) (bs : List (AO × List AO)), splitD ms n k aos = (c, bs) → aos = c ++ flatB bs ∧ BarsOk ms n (k + c.length) bs := by
 intro aos
 induction aos with
 | nil => intro k c bs h; cases h; exact ⟨rfl, trivial⟩
 | cons o r ih =>
  intro k c bs h
  simp only [splitD] at h
  generalize hs : splitD ms n (k + 1) r = p at h
  obtain ⟨c', bs'⟩ := p
  obtain ⟨h1, h2⟩ := ih (k + 1) c' bs' hs
  simp only at h
  split at h
  ·rename_i hb
   simp only [Bool.and_eq_true] at hb
   cases h
   exact ⟨by simp [flatB, h1], hb.2, h2⟩
  ·cases h
   refine ⟨by simp [h1], ?_⟩
   simp only [List.length_cons]
   rw [show k + (c'.length + 1) = k + 1 + c'.length by omega]; exact h2
theorem flat_idx : ∀ (bs : List (AO × List AO)) (k : Nat), flatP (idxP k bs) = List.range' k (flatB bs).length := by
 intro bs
 induction bs with
 | nil => intro k; rfl
 | cons q r ih =>
  intro k
  obtain ⟨o, c⟩ := q
  simp only [idxP, flatP, flatB, List.length_cons, List.length_append, List.range'_succ, ih]
  congr 1
  rw [List.range'_append_1]
theorem op_wp {ops : Array Oper} {m b : Nat} (hm : h0.length ≤ m) {Q : Exit → Act → World → Prop} {o : Oper} {ao : AO} {L : Lv} {h : Hp} {K : Lv → Hp → Prop} {K' : Act → World → Prop} {a : Act} {w : World} (hok : ops[b]? = some o) (hao : compO P ops N o = some ao) (hg : gOk N ao = true)
  (hv : runO P m false [ao] L h K) (hf : Fits N G0 ι0 h0 w0 (lkL L) h a w) (hK : ∀ L' h' a' w', K L' h' → Fits N G0 ι0 h0 w0 (lkL L') h' a' w' → K' a' w') : wpOp P ops Q b K' a w := by
 unfold wpOp
 simp only [hok]
 obtain ⟨G, ι, st⟩ := hf
 obtain ⟨hd, hdN, hop, hgs⟩ := compO_dst hao
 have hgN := gOk_spec hg
 rcases hv with ⟨hgv, hv⟩ | ⟨hgv, hv⟩
 ·rw [gv_wanted st.rel hgs hgv hgN]
  simp only [if_true]
  left
  refine did_sound hm hao hv ⟨G, ι, st⟩ fun L' v h' a' w' hk' hf' => ?_
  exact hK _ _ _ _ hk' (by rw [putL_eq]; exact hf')
 ·rw [gv_wanted st.rel hgs hgv hgN]
  simp only [Bool.false_eq_true, if_false]
  refine hK _ _ _ _ hv ⟨G, ι, ?_⟩
  rw [putL_eq, hd]
  exact st.step hdN st.rel.hr (.tup #[] [] rfl (by simp)) (Ext.refl _ _ _ _)
theorem RunI.of_take {aops : List AO} {n : Nat} : ∀ {l : List Nat} {e : Env} {h : Hp} {e' : Env} {h' : Hp}, RunI P (aops.take n) l e h e' h' → RunI P aops l e h e' h' := by
 intro l
 induction l with
 | nil => intro e h e' h' hr; exact hr
 | cons i r ih =>
  intro e h e' h' ⟨o, e1, h1, ho, hs, hr⟩
  refine ⟨o, e1, h1, ?_, hs, ih hr⟩
  rw [List.getElem?_take] at ho
  split at ho
  ·exact ho
  ·cases ho
theorem segs_plan {S : AC → Lv → Hp → Post → Prop} {m : Nat} {ops : Array Oper} {aops : List AO} {Q : Post} (hm : h0.length ≤ m)
  (hseq : ∀ a b L h Q, S (.seq a b) L h Q → S a L h fun x L h => match x with | .normal => S b L h Q | x => Q x L h) (hreg : ∀ d ops L h Q, S (.reg d ops) L h Q → runO P m d ops L h fun L h => Q .normal L h)
  (hcomp : compOs P ops N ops.toList = some aops) (hg : aops.all (gOk N) = true) : ∀ (bs : List (AO × List AO)) (c : List AO) (k : Nat) (L : Lv) (h : Hp), (∀ i, (c ++ flatB bs)[i]? = aops[k + i]?) → BarsOk (masks ops.toList []) ops.size (k + c.length) bs → S (acSegs c bs) L h Q →
  ∃ e' h', RunI P aops (List.range' k c.length) (lkL L) h e' h' ∧ PlanK P N G0 ι0 h0 w0 ops aops (out N G0 ι0 h0 w0 Q) (idxP (k + c.length) bs) e' h' := by
 intro bs
 induction bs with
 | nil =>
  intro c k L h hi _ hs
  obtain ⟨L', h', h1, h2⟩ := runO_run (aops := aops) c k L h _ (by simpa [flatB] using hi) (hreg _ _ _ _ _ hs)
  exact ⟨_, _, h1, fun a w hf => ⟨L', h', h2, hf⟩⟩
 | cons q r ih =>
  intro c k L h hi hb hs
  obtain ⟨o, c'⟩ := q
  obtain ⟨hb1, hb2⟩ := hb
  have hci : ∀ i, c[i]? = aops[k + i]? ∨ c.length ≤ i := fun i => by
   rcases Nat.lt_or_ge i c.length with hlt | hge
   ·left; rw [← hi i, List.getElem?_append_left hlt]
   ·exact .inr hge
  have hrun : runO P m true c L h fun L h => S (.seq (.reg false [o]) (acSegs c' r)) L h Q := hreg _ _ _ _ _ (hseq _ _ _ _ _ hs)
  obtain ⟨L1, h1, q1, q2⟩ : ∃ L' h', RunI P aops (List.range' k c.length) (lkL L) h (lkL L') h' ∧ S (.seq (.reg false [o]) (acSegs c' r)) L' h' Q := by
   have hc2 : ∀ i, c[i]? = ((aops.take (k + c.length)))[k + i]? := fun i => by
    rcases hci i with h | h
    ·rcases Nat.lt_or_ge i c.length with hlt | hge
     ·rw [List.getElem?_take_of_lt (by omega), h]
     ·rw [List.getElem?_eq_none hge, List.getElem?_eq_none (by simp; omega)]
    ·rw [List.getElem?_eq_none h, List.getElem?_eq_none (by simp; omega)]
   obtain ⟨L', h', q1, q2⟩ := runO_run (aops := aops.take (k + c.length)) c k L h _ hc2 hrun
   exact ⟨L', h', RunI.of_take q1, q2⟩
  refine ⟨_, _, q1, ?_⟩
  have hob : aops[k + c.length]? = some o := by rw [← hi c.length]; simp [flatB]
  have hlen := (compOs_get hcomp).1
  obtain ⟨oo, hoo⟩ : ∃ oo, ops.toList[k + c.length]? = some oo := ⟨_, lgE (by have := get_lt hob; omega)⟩
  have hao := (compOs_get hcomp).2 _ oo o hoo hob
  have hgo : gOk N o = true := by rw [List.all_eq_true] at hg; exact hg o (List.mem_of_getElem? hob)
  have hone : runO P m false [o] L1 h1 fun L h => S (acSegs c' r) L h Q := hreg _ _ _ _ _ (hseq _ _ _ _ _ q2)
  refine ⟨?_, fun a w K hf hK => ?_⟩
  ·simp only [barB, Bool.and_eq_true, List.all_eq_true, List.mem_range, Bool.or_eq_true, decide_eq_true_eq] at hb1
   exact ⟨hb1.1, fun i h1 h2 => (hb1.2 i h2).resolve_left (by omega)⟩
  ·refine op_wp hm (by simpa using hoo) hao hgo hone hf fun L' h' a' w' hk hf' => ?_
   obtain ⟨e3, h3, p1, p2⟩ := ih c' (k + c.length + 1) L' h' (fun i => by
    have := hi (c.length + 1 + i)
    rw [List.getElem?_append_right (by omega)] at this
    rw [show c.length + 1 + i - c.length = i + 1 by omega] at this
    simp only [flatB, List.getElem?_cons_succ] at this
    rw [this]; congr 1; omega) hb2 hk
   exact hK _ _ _ _ _ _ hf' p1 p2
theorem region_segs {S : AC → Lv → Hp → Post → Prop} {m id : Nat} {ops : Array Oper} {aops : List AO} {Q : Post} {L : Lv} {h : Hp} {a : Act} {w : World} (hmo : P.follows .mixedOrders = true) (hm : h0.length ≤ m)
  (hseq : ∀ a b L h Q, S (.seq a b) L h Q → S a L h fun x L h => match x with | .normal => S b L h Q | x => Q x L h) (hreg : ∀ d ops L h Q, S (.reg d ops) L h Q → runO P m d ops L h fun L h => Q .normal L h)
  (hcomp : compOs P ops N ops.toList = some aops) (hg : aops.all (gOk N) = true) (hk : aops.all constOk = true) (hd : drawOk ops.toList aops = true) (hf : Fits N G0 ι0 h0 w0 (lkL L) h a w) (hs : S (acDraw ops aops) L h Q) : (Code.region id ops true).wp P (out N G0 ι0 h0 w0 Q) a w := by
 unfold acDraw at hs
 generalize hsp : splitD (masks ops.toList []) ops.size 0 aops = p at hs
 obtain ⟨c, bs⟩ := p
 obtain ⟨h1, h2⟩ := splitD_spec aops 0 c bs hsp
 obtain ⟨e', h', q1, q2⟩ := segs_plan hm hseq hreg hcomp hg bs c 0 L h (fun i => by rw [← h1]; simp) h2 hs
 refine region_draw hmo hcomp hg hk hd hf ?_ q1 q2
 rw [flat_idx, Nat.zero_add]
 have hlen := (compOs_get hcomp).1
 have : ops.size = c.length + (flatB bs).length := by
  rw [← List.length_append, ← h1, ← hlen]; simp
 rw [this, List.range_eq_range']
 have := List.range'_append_1 (s := 0) (m := c.length) (n := (flatB bs).length)
 simpa using this
theorem getP_get : ∀ {l : List (List Nat)} {i : Nat} {x : List Nat}, l[i]? = some x → getP l i = x
 | [], _, _, h => by simp at h
 | y :: r, 0, x, h => by simpa [getP] using h
 | y :: r, i + 1, x, h => by simp only [List.getElem?_cons_succ] at h; simp only [getP]; exact getP_get h
theorem getP_none : ∀ {l : List (List Nat)} {i : Nat}, l.length ≤ i → getP l i = []
 | [], _, _ => rfl
 | y :: r, 0, h => by simp at h
 | y :: r, i + 1, h => by simp only [getP]; exact getP_none (by simpa using h)
theorem preOf_bit {ops : Array Oper} {i j : Nat} (h : j ∈ getP (preOf (masks ops.toList []) ops.size) i) : bitM ops i j = true := by
 rcases Nat.lt_or_ge i ops.size with hi | hi
 ·rw [getP_get (x := (List.range i).filter fun j => ((masks ops.toList []).getD i 0).testBit j) (by simp [preOf, hi])] at h
  exact (List.mem_filter.1 h).2
 ·rw [getP_none (by simp [preOf]; exact hi)] at h; cases h
theorem segs_plan3 {S : AC → Lv → Hp → Post → Prop} {m : Nat} {ops : Array Oper} {aops : List AO} {Q : Post} (hm : h0.length ≤ m)
  (hseq : ∀ a b L h Q, S (.seq a b) L h Q → S a L h fun x L h => match x with | .normal => S b L h Q | x => Q x L h) (hreg : ∀ d ops L h Q, S (.reg d ops) L h Q → runO P m d ops L h fun L h => Q .normal L h)
  (hrgf : ∀ pre k ops L h Q, S (.rgf pre k ops) L h Q → runF P m pre k [] ops L h fun L h => Q .normal L h)
  (hcomp : compOs P ops N ops.toList = some aops) (hg : aops.all (gOk N) = true) (hcon : aops.all constRf = true) : ∀ (bs : List (AO × List AO)) (c : List AO) (k : Nat) (L : Lv) (h : Hp) (a : Act) (w : World), (∀ i, (c ++ flatB bs)[i]? = aops[k + i]?) → BarsOk (masks ops.toList []) ops.size (k + c.length) bs →
   S (acSegs3 (preOf (masks ops.toList []) ops.size) k c bs) L h Q → Fits N G0 ι0 h0 w0 (lkL L) h a w →
  Seg3 P h0.length ops aops (List.range' k c.length) (lkL L) h (PlanK3 P N G0 ι0 h0 w0 ops aops (out N G0 ι0 h0 w0 Q) (idxP (k + c.length) bs)) := by
 intro bs
 have hci : ∀ (bs : List (AO × List AO)) (c : List AO) (k : Nat), (∀ i, (c ++ flatB bs)[i]? = aops[k + i]?) → ∀ i, i < c.length → c[i]? = aops[k + i]? := fun bs c k hi i hlt => by rw [← hi i, List.getElem?_append_left hlt]
 induction bs with
 | nil =>
  intro c k L h a w hi _ hs hf
  obtain ⟨mm, tr, e', h', q1, q2, q3, L', rfl, q4⟩ := runF_seg3 hcomp (fun i j => preOf_bit) hcon (hci [] c k hi) (hrgf _ _ _ _ _ _ hs) hf
  exact ⟨mm, tr, _, h', q1, q2, q3, fun a w hf => ⟨L', h', q4, hf⟩⟩
 | cons q r ih =>
  intro c k L h a w hi hb hs hf
  obtain ⟨o, c'⟩ := q
  obtain ⟨hb1, hb2⟩ := hb
  obtain ⟨mm, tr, e', h', q1, q2, q3, L1, rfl, q4⟩ := runF_seg3 hcomp (fun i j => preOf_bit) hcon (hci ((o, c') :: r) c k hi) (hrgf _ _ _ _ _ _ (hseq _ _ _ _ _ hs)) hf
  refine ⟨mm, tr, _, h', q1, q2, q3, ?_⟩
  have hob : aops[k + c.length]? = some o := by rw [← hi c.length]; simp [flatB]
  have hlen := (compOs_get hcomp).1
  obtain ⟨oo, hoo⟩ : ∃ oo, ops.toList[k + c.length]? = some oo := ⟨_, lgE (by have := get_lt hob; omega)⟩
  have hao := (compOs_get hcomp).2 _ oo o hoo hob
  have hgo : gOk N o = true := by rw [List.all_eq_true] at hg; exact hg o (List.mem_of_getElem? hob)
  have hone : runO P m false [o] L1 h' fun L h => S (acSegs3 (preOf (masks ops.toList []) ops.size) (k + c.length + 1) c' r) L h Q := hreg _ _ _ _ _ (hseq _ _ _ _ _ q4)
  refine ⟨?_, fun a w K hf hK => ?_⟩
  ·simp only [barB, Bool.and_eq_true, List.all_eq_true, List.mem_range, Bool.or_eq_true, decide_eq_true_eq] at hb1
   exact ⟨hb1.1, fun i h1 h2 => (hb1.2 i h2).resolve_left (by omega)⟩
  ·refine op_wp hm (by simpa using hoo) hao hgo hone hf fun L' h' a' w' hk hf' => ?_
   exact hK _ _ _ _ hf' (ih c' (k + c.length + 1) L' h' a' w' (fun i => by
    have := hi (c.length + 1 + i)
    rw [List.getElem?_append_right (by omega)] at this
    rw [show c.length + 1 + i - c.length = i + 1 by omega] at this
    simp only [flatB, List.getElem?_cons_succ] at this
    rw [this]; congr 1; omega) hb2 hk hf')
theorem region_segs3 {S : AC → Lv → Hp → Post → Prop} {m id : Nat} {ops : Array Oper} {aops : List AO} {Q : Post} {L : Lv} {h : Hp} {a : Act} {w : World} (hmo : P.follows .mixedOrders = true) (hm : h0.length ≤ m)
  (hseq : ∀ a b L h Q, S (.seq a b) L h Q → S a L h fun x L h => match x with | .normal => S b L h Q | x => Q x L h) (hreg : ∀ d ops L h Q, S (.reg d ops) L h Q → runO P m d ops L h fun L h => Q .normal L h)
  (hrgf : ∀ pre k ops L h Q, S (.rgf pre k ops) L h Q → runF P m pre k [] ops L h fun L h => Q .normal L h)
  (hcomp : compOs P ops N ops.toList = some aops) (hg : aops.all (gOk N) = true) (hcon : aops.all constRf = true) (hd : drawOk2 ops.toList aops = true) (hf : Fits N G0 ι0 h0 w0 (lkL L) h a w) (hs : S (acDraw3 ops aops) L h Q) : (Code.region id ops true).wp P (out N G0 ι0 h0 w0 Q) a w := by
 unfold acDraw3 at hs
 generalize hsp : splitD (masks ops.toList []) ops.size 0 aops = p at hs
 obtain ⟨c, bs⟩ := p
 obtain ⟨h1, h2⟩ := splitD_spec aops 0 c bs hsp
 have hseg := segs_plan3 hm hseq hreg hrgf hcomp hg hcon bs c 0 L h a w (fun i => by rw [← h1]; simp) h2 hs hf
 refine region3 hmo hcomp hg hd hf ?_ hseg
 rw [flat_idx, Nat.zero_add]
 have hlen := (compOs_get hcomp).1
 have : ops.size = c.length + (flatB bs).length := by
  rw [← List.length_append, ← h1, ← hlen]; simp
 rw [this, List.range_eq_range']
 have := List.range'_append_1 (s := 0) (m := c.length) (n := (flatB bs).length)
 simpa using this
theorem lateOk_mem {h h' : Hp} {L : Lv} : ∀ {l : List Nat}, lateOk h h' L l → ∀ s ∈ l, agreeA h h' (lkN L s) ∧ ¬ isAdr (lkN L s) := by
 intro l
 induction l with
 | nil => intro _ s hs; cases hs
 | cons x r ih =>
  intro hl s hs
  rcases List.mem_cons.1 hs with rfl | hs
  ·refine ⟨hl.1, fun hi => ?_⟩
   have h2 := hl.2.1
   revert hi h2
   generalize lkN L s = v
   intro hi h2
   unfold isAdr at hi
   split at hi
   ·exact h2
   ·exact hi
  ·exact ih hl.2.2 s hs
theorem lateOT_mem {h h' : Hp} {L : Lv} : ∀ {l : List (Nat × Bool)}, lateOT h h' L l → ∀ s b, (s, b) ∈ l → agreeA h h' (lkN L s) ∧ (b = true → ¬ isAdr (lkN L s)) := by
 intro l
 induction l with
 | nil => intro _ s b hs; cases hs
 | cons x r ih =>
  intro hl s b hs
  rcases List.mem_cons.1 hs with rfl | hs
  ·refine ⟨hl.1, fun hb hi => ?_⟩
   have h2 := hl.2.1
   subst hb
   revert hi h2
   generalize lkN L s = v
   intro hi h2
   unfold isAdr at hi
   split at hi
   ·exact h2
   ·exact hi
  ·exact ih hl.2.2 s b hs
theorem RunI.heap {aops : List AO} : ∀ {l : List Nat} {e : Env} {h : Hp} {e' : Env} {h' : Hp}, (∀ j ∈ l, ∀ o, aops[j]? = some o → cls o.op = 0) → RunI P aops l e h e' h' → h' = h := by
 intro l
 induction l with
 | nil => intro e h e' h' _ hr; exact hr.2
 | cons i l ih =>
  intro e h e' h' hc hr
  obtain ⟨o, e1, h1, ho, hs, hr⟩ := hr
  obtain ⟨v, ea, rfl⟩ := hs.1.eff
  have h2 := ea.same (hc i (by simp) o ho)
  subst h2
  exact ih (fun j hj => hc j (by simp [hj])) hr
theorem region_w {Λ : Len} (hΛ : ∀ l, Λ l = (l.length : Int)) {m id b e2 f : Nat} {ops : Array Oper} {aops : List AO} {Q : Post} {L : Lv} {h : Hp} {a : Act} {w : World} {ob : AO} {xs : List X} (hmo : P.follows .mixedOrders = true)
  (hcomp : compOs P ops N ops.toList = some aops) (hg : aops.all (gOk N) = true) (hk : aops.all constOk = true) (hd : drawOk ops.toList aops = true) (hf : Fits N G0 ι0 h0 w0 (lkL L) h a w)
  (hb : aops[b]? = some ob) (hop : ob.op = .call f xs) (hgn : ob.g = none) (hw : wrOk (masks ops.toList []) ops.size b e2 aops = true)
  (hv : vcC P Λ m (.rgw (aops.take b) ob ((aops.drop (b + 1)).take e2) (aops.drop (b + 1 + e2)) (((aops.take b ++ (aops.drop (b + 1)).take e2).flatMap lateS).filter fun s => !(dstsOf (aops.take b ++ (aops.drop (b + 1)).take e2)).contains s)) L h Q) :
  (Code.region id ops true).wp P (out N G0 ι0 h0 w0 Q) a w := by
 have hlen := (compOs_get hcomp).1
 have hbl := get_lt hb
 have hw' := hw
 simp only [wrOk, Bool.and_eq_true, List.all_eq_true, List.mem_range, Bool.or_eq_true, decide_eq_true_eq, beq_iff_eq, Bool.not_eq_true'] at hw'
 obtain ⟨⟨⟨⟨w1, _⟩, _⟩, _⟩, w5⟩ := hw'
 have hsz : ops.size = aops.length := by rw [← hlen]; simp
 have l1 : (aops.take b).length = b := by rw [List.length_take]; omega
 have l2 : ((aops.drop (b + 1)).take e2).length = e2 := by rw [List.length_take, List.length_drop]; omega
 simp only [vcC] at hv
 have take_run : ∀ (xs ys : List AO) (k : Nat) (L : Lv) (h : Hp) (K : Lv → Hp → Prop), (∀ i, i < xs.length → xs[i]? = aops[k + i]?) → k + xs.length ≤ aops.length → runO P m true xs L h K → ∃ L' h', RunI P aops (List.range' k xs.length) (lkL L) h (lkL L') h' ∧ K L' h' := by
  intro xs ys k L h K hx hk hr
  have hx2 : ∀ i, xs[i]? = ((aops.take (k + xs.length)))[k + i]? := fun i => by
   rcases Nat.lt_or_ge i xs.length with hlt | hge
   ·rw [List.getElem?_take_of_lt (by omega), hx i hlt]
   ·rw [List.getElem?_eq_none hge, List.getElem?_eq_none (by simp; omega)]
  obtain ⟨L', h', q1, q2⟩ := runO_run (aops := aops.take (k + xs.length)) xs k L h _ hx2 hr
  exact ⟨L', h', RunI.of_take q1, q2⟩
 obtain ⟨La, ha, r1, hv1⟩ := take_run _ [] 0 L h _ (fun i hi => by rw [l1] at hi; rw [List.getElem?_take_of_lt hi, Nat.zero_add]) (by rw [l1]; omega) (vcOps_runO hΛ hv)
 obtain ⟨Lb, hb', r2, hv2⟩ := take_run _ [] (b + 1) La ha _ (fun i hi => by rw [l2] at hi; rw [List.getElem?_take_of_lt hi, List.getElem?_drop]) (by rw [l2]; omega) (vcOps_runO hΛ hv1)
 rw [l1] at r1
 rw [l2] at r2
 have hmem : ∀ j ∈ List.range' 0 b ++ List.range' (b + 1) e2, ∀ o, aops[j]? = some o → cls o.op = 0 := by
  intro j hj o ho
  refine w1 o ?_
  rcases List.mem_append.1 hj with hj | hj
  ·rw [List.mem_range'_1] at hj
   exact List.mem_append_left _ (List.mem_of_getElem? (i := j) (by rw [List.getElem?_take_of_lt (by omega)]; exact ho))
  ·rw [List.mem_range'_1] at hj
   refine List.mem_append_right _ (List.mem_of_getElem? (i := j - (b + 1)) ?_)
   rw [List.getElem?_take_of_lt (by omega), List.getElem?_drop, show b + 1 + (j - (b + 1)) = j by omega]; exact ho
 have hE := r1.append r2
 have hh := RunI.heap hmem hE
 subst hh
 simp only [vcWr, hop] at hv2
 obtain ⟨R, hfn, hv3⟩ := hv2
 refine region_wr hmo hcomp hg hk hd hf hb hop hgn hw hE hfn fun r h2 hr => ?_
 obtain ⟨hl, hv4⟩ := hv3 r h2 hr
 refine ⟨fun o ho s hs hsd => ?_, ?_⟩
 ·have := lateOk_mem hl s (List.mem_filter.2 ⟨List.mem_flatMap.2 ⟨o, ho, hs⟩, by simpa using hsd⟩)
  rwa [lkN_eq] at this
 ·obtain ⟨Lc, hc, r3, hv5⟩ := take_run _ [] (b + 1 + e2) _ h2 _ (fun i hi => by rw [List.getElem?_drop]) (by rw [List.length_drop]; omega) (vcOps_runO hΛ hv4)
  rw [List.length_drop, ← hsz] at r3
  exact ⟨_, _, r3, fun a w hf => ⟨Lc, hc, hv5, hf⟩⟩
def ChainW (P : Program) (aops : List AO) (late : List (Nat × Bool)) (Q : Lv → Hp → Prop) : List Nat → Lv → Hp → Prop
 | [], L, h => Q L h
 | b :: r, L, h => ∃ ob, aops[b]? = some ob ∧ ∃ K : AV → Hp → Prop, (∀ (m : Nat) (Le : Lv), (∀ n ∈ slotsOf ob, lkL Le n = lkL L n) → Did P m false ob.op Le h fun L' v h' => L' = Le ∧ K v h') ∧ ∀ v h', K v h' → (readW ob.op = true → h' = h) ∧ lateOT h h' L late ∧ ChainW P aops late Q r (putL L ob.dst v) h'
theorem vcW1_did {Λ : Len} (hΛ : ∀ l, Λ l = (l.length : Int)) {o : AO} {L : Lv} {h : Hp} {K : AV → Hp → Prop} (hv : vcW1 P Λ o L h K) : ∀ (m : Nat) (Le : Lv), (∀ n ∈ slotsOf o, lkL Le n = lkL L n) → Did P m false o.op Le h fun L' v h' => L' = Le ∧ K v h' ∧ (readW o.op = true → h' = h) := by
 intro m Le hs
 have hx : ∀ x ∈ xsOf o.op, ev (lkL L) x = ev (lkL Le) x := fun x hx => ev_of_slots fun n hn => (hs n (by
  simp only [slotsOf, List.mem_append, List.mem_flatMap]; exact .inr ⟨x, hx, hn⟩)).symm
 have main : ∀ (op : AOp), o.op = op → (∀ f xs, op ≠ .call f xs) → (∀ x xs, op ≠ .callv x xs) → vcOp0 P Λ 0 true op L h (fun _ v h' => K v h') → Did P m false op Le h fun L' v h' => L' = Le ∧ K v h' ∧ (readW op = true → h' = h) := by
  intro op hop n1 n2 hv
  rw [hop] at hx
  have hd := vcOp0_sound hΛ hv
  cases hd with
  | wk hd => cases hd
  | step v h' hst _ hk =>
   refine .step v h' ?_ (fun h => by cases h) ⟨rfl, hk, fun hrd => ?_⟩
   rotate_left
   ·have hc0 : cls op = 0 := by cases op <;> first | rfl | cases hrd
    exact (astep_agree (h' := h) hc0 (fun x _ => by
     cases ev (lkL L) x with
     | c y => exact agreeC_refl _ y
     | agg l => exact fun y _ => agreeC_refl _ y
     | tup => trivial) (fun _ _ _ => .inr (sameAm.refl _)) hst).1
   rw [← astep_congr (op := op) hx]; exact hst
  | call f xs ho => exact absurd ho (n1 f xs)
  | len x sz l ho hd => cases hd
  | lenA x l v i n ho hd => cases hd
  | nil ne x nl sz l ho hd => cases hd
  | callv x xs b f caps ho => exact absurd ho (n2 x xs)
  | ivk rows x xs b t caps g k pv rv ho hd => cases hd
  | ar K0 hd => cases hd
 have arena : ∀ (op : AOp), o.op = op → arW L op = true → vAr op L h K → Did P m false op Le h fun L' v h' => L' = Le ∧ K v h' ∧ (readW op = true → h' = h) := by
  intro op hop har hv
  rw [hop] at hx
  have hxn : ∀ x ∈ xsOf op, evN L x = evN Le x := fun x hx' => by rw [evN_eq, evN_eq]; exact hx x hx'
  cases op with
  | ias sz x i =>
   refine .ar (fun v h' => h' = h ∧ K v h') rfl ?_ fun v h' hk => ⟨rfl, hk.2, fun _ => hk.1⟩
   simp only [vAr] at hv ⊢
   rw [← hxn x (by simp [xsOf]), ← hxn i (by simp [xsOf])]
   split at hv
   ·split at hv
    ·exact ⟨hv.1, fun p hp => ⟨by trivial, hv.2 p hp⟩⟩
    ·exact hv
   ·exact hv
  | fa x n =>
   refine .ar K rfl ?_ fun v h' hk => ⟨rfl, hk, fun hrd => by cases hrd⟩
   simp only [vAr] at hv ⊢
   rw [← hxn x (by simp [xsOf])]; exact hv
  | nilc x =>
   refine .ar K rfl ?_ fun v h' hk => ⟨rfl, hk, fun hrd => by cases hrd⟩
   simp only [vAr] at hv ⊢
   rw [← hxn x (by simp [xsOf])]; exact hv
  | iaa n sz x i =>
   refine .ar K rfl ?_ fun v h' hk => ⟨rfl, hk, fun hrd => by cases hrd⟩
   cases i with
   | t i =>
    simp only [vAr] at hv ⊢
    have hi : lkN L i = lkN Le i := hxn (.t i) (by simp [xsOf])
    rw [← hxn x (by simp [xsOf]), ← hi]; exact hv
   | k c => exact hv.elim
  | ld x n =>
   refine .ar K rfl ?_ fun v h' hk => ⟨rfl, hk, fun hrd => by cases hrd⟩
   simp only [vAr] at hv ⊢
   rw [← hxn x (by simp [xsOf])]; exact hv
  | st x v n =>
   refine .ar K rfl ?_ fun v h' hk => ⟨rfl, hk, fun hrd => by cases hrd⟩
   simp only [vAr] at hv ⊢
   rw [← hxn x (by simp [xsOf]), ← hxn v (by simp [xsOf])]; exact hv
  | _ => cases har
 have bslD : ∀ sz z n ps, o.op = .bsl sz z n ps → vcOp0 P Λ 0 false (.bsl sz z n ps) L h (fun _ v h' => K v h') → Did P m false (.bsl sz z n ps) Le h fun L' v h' => L' = Le ∧ K v h' ∧ (readW (.bsl sz z n ps) = true → h' = h) := by
  intro sz z n ps hop hv
  rw [hop] at hx
  simp only [vcOp0] at hv
  split at hv
  ·rename_i as h1 he
   split at hv
   ·rename_i es hf
    refine .step _ _ ?_ (fun h => by cases h) ⟨rfl, hv.2.2, fun hrd => by cases hrd⟩
    rw [← astep_congr (op := .bsl sz z n ps) hx]
    rw [lkN_fun] at he
    simp only [astep, he, hf]
    rw [if_pos hv.2.1]
   ·exact hv.elim
  ·exact hv.elim
 unfold vcW1 at hv
 split at hv
 ·rename_i f xs hop
  obtain ⟨R, h1, h2⟩ := hv
  rw [hop] at hx ⊢
  refine .call f xs rfl (.fn ?_)
  rw [evsN_eq] at h1 ⊢
  rw [← evs_congr (e := lkL L) (xs := xs) hx]
  exact h1.mono fun r h' hr => ⟨rfl, h2 r h' hr, fun hrd => by cases hrd⟩
 ·rename_i x xs hop
  split at hv
  ·rename_i b f caps hxv
   split at hv
   rotate_left
   ·exact hv.elim
   rename_i hlt
   obtain ⟨hfo, R, h1, h2⟩ := hv
   rw [hop] at hx ⊢
   refine .callv x xs b f caps rfl rfl ?_ hlt hfo (.fn ?_)
   ·rw [← hx x (by simp [xsOf]), ← evN_eq]; exact hxv
   ·rw [evsN_eq] at h1 ⊢
    rw [← evs_congr (e := lkL L) (xs := xs) fun y hy => hx y (by simp [xsOf, hy])]
    exact h1.mono fun r h' hr => ⟨rfl, h2 r h' hr, fun hrd => by cases hrd⟩
  ·exact hv.elim
 ·rename_i sz z n ps hop
  rw [hop]
  exact bslD sz z n ps hop hv
 ·rename_i n1 n2 n3
  split at hv
  ·rename_i har
   exact arena _ rfl har hv
  ·exact main _ rfl (fun f xs e => n1 f xs e) (fun x xs e => n2 x xs e) hv
theorem getA_get {aops : List AO} : ∀ {is : List Nat}, (∀ i ∈ is, i < aops.length) → ∀ {i : Nat} {r : List Nat}, is = i :: r → ∃ o, aops[i]? = some o ∧ getA aops is = o :: getA aops r := by
 rintro is hl i r rfl
 have := hl i (by simp)
 refine ⟨_, lgE this, ?_⟩
 simp [getA, lgE this]
theorem vcWs_chain {Λ : Len} (hΛ : ∀ l, Λ l = (l.length : Int)) {aops : List AO} {late : List (Nat × Bool)} {Q : Lv → Hp → Prop} : ∀ (is : List Nat) (L : Lv) (h : Hp), (∀ i ∈ is, i < aops.length) → vcWs P Λ late (getA aops is) L h Q → ChainW P aops late Q is L h := by
 intro is
 induction is with
 | nil => intro L h _ hv; exact hv
 | cons b r ih =>
  intro L h hl hv
  obtain ⟨ob, h1, h2⟩ := getA_get hl rfl
  rw [h2] at hv
  exact ⟨ob, h1, _, vcW1_did hΛ hv, fun v h' hk => ⟨hk.2, hk.1.1, ih _ _ (fun i hi => hl i (by simp [hi])) hk.1.2⟩⟩
theorem runO_idx {aops : List AO} {m : Nat} : ∀ (is : List Nat) (L : Lv) (h : Hp) (K : Lv → Hp → Prop), (∀ i ∈ is, i < aops.length) → runO P m true (getA aops is) L h K →
  ∃ L' h', RunI P aops is (lkL L) h (lkL L') h' ∧ K L' h' := by
 intro is
 induction is with
 | nil => intro L h K _ hv; exact ⟨L, h, ⟨rfl, rfl⟩, hv⟩
 | cons i is ih =>
  intro L h K hl hv
  obtain ⟨o, hoi, hg⟩ := getA_get hl rfl
  rw [hg] at hv
  obtain ⟨L1, h1, hr1, hk1⟩ := runO_run (aops := [o]) (m := m) [o] 0 L h (fun L' h' => runO P m true (getA aops is) L' h' K) (fun i => by simp) (by
   rcases hv with ⟨g, hd⟩ | ⟨g, hd⟩
   ·exact .inl ⟨g, hd⟩
   ·exact .inr ⟨g, hd⟩)
  obtain ⟨L2, h2, hr2, hk2⟩ := ih L1 h1 K (fun i hi => hl i (by simp [hi])) hk1
  obtain ⟨o', e1, h1', ho', hs, he⟩ := hr1
  obtain ⟨e, e'⟩ := he
  simp only [List.getElem?_cons_zero, osi] at ho'
  subst ho' e'
  rw [← e] at hs
  exact ⟨L2, h2, ⟨o, _, _, hoi, hs, hr2⟩, hk2⟩
theorem region_ch {id c : Nat} {ops : Array Oper} {aops : List AO} {Q : Exit → Act → World → Prop} {L L1 : Lv} {h : Hp} {a : Act} {w : World} {QL : Lv → Hp → Prop} (hmo : P.follows .mixedOrders = true)
  (hcomp : compOs P ops N ops.toList = some aops) (hg : aops.all (gOk N) = true) (hk : aops.all constOk = true) (hch : chOk (masks ops.toList []) ops.size c aops = true) (hore : ordE (masks ops.toList []) ops.size c aops = true) (hdir : dirOk ops.toList = true) (hf : Fits N G0 ι0 h0 w0 (lkL L) h a w)
  (hE : RunI P aops (idxE (masks ops.toList []) ops.size c) (lkL L) h (lkL L1) h)
  (hW : ChainW P aops ((getA aops (idxL (masks ops.toList []) ops.size c)).flatMap lateT) QL (idxW (masks ops.toList []) ops.size c) L1 h)
  (hQ : ∀ L h a w, QL L h → Fits N G0 ι0 h0 w0 (lkL L) h a w → Q .normal a w) : (Code.region id ops true).wp P Q a w := by
 simp only [chOk, Bool.and_eq_true, List.all_eq_true, Bool.or_eq_true, decide_eq_true_eq] at hch
 obtain ⟨⟨⟨c1, c2⟩, c3⟩, c4⟩ := hch
 generalize hlt0 : (getA aops (idxL (masks ops.toList []) ops.size c)).flatMap lateT = lt at *
 generalize hes : getA aops (idxE (masks ops.toList []) ops.size c) = es at *
 have hlen := (compOs_get hcomp).1
 have hsz : ops.size = aops.length := by rw [← hlen]; simp
 have memE : ∀ i, i ∈ idxE (masks ops.toList []) ops.size c ↔ i < ops.size ∧ isW (masks ops.toList []) c i = false := fun i => by simp [idxE]
 have memW : ∀ i, i ∈ idxW (masks ops.toList []) ops.size c ↔ i < ops.size ∧ isW (masks ops.toList []) c i = true := fun i => by simp [idxW]
 have hes' : ∀ i o, i ∈ idxE (masks ops.toList []) ops.size c → aops[i]? = some o → o ∈ es := fun i o hi ho => by
  rw [← hes]; exact List.mem_filterMap.2 ⟨i, hi, ho⟩
 have hd1 : ∀ i o, ops.toList[i]? = some o → ∀ j ∈ direct o, j < i := by
  intro i o ho j hj
  simp only [dirOk, List.all_eq_true, List.mem_range] at hdir
  have := hdir i (get_lt ho)
  rw [ho] at this
  simp only [List.all_eq_true, decide_eq_true_eq] at this
  exact this j hj
 have hempty : ∀ listed rem, Rem ops listed rem → Region.ready .any ops listed = [] → rem = [] := by
  intro listed rem hr hready
  cases rem with
  | nil => rfl
  | cons i rem =>
   exfalso
   have hi := (hr.mem i).1 (by simp)
   have ho : ops.toList[i]? = some (ops.toList[i]'(by simpa using hi.1)) := lgE _
   have : i ∈ Region.ready .any ops listed := by
    rw [ready_mem]
    refine ⟨hi.1, hi.2, _, ho, fun m hm => ?_⟩
    have hmi := hd1 i _ ho m hm
    have hnot : m ∉ i :: rem := by
     intro hmem
     simp only [List.mem_cons] at hmem
     rcases hmem with h | h
     ·omega
     ·have := (List.pairwise_cons.1 hr.sorted).1 m h; omega
    have hms : m < ops.size := by omega
    have : ¬ (listed.getD m true = false) := fun hf => hnot ((hr.mem m).2 ⟨hms, hf⟩)
    simp only [Array.getD_eq_getD_getElem?, Array.getElem?_eq_getElem (show m < listed.size by rw [hr.size]; exact hms), Option.getD_some] at this ⊢
    simpa using this
   rw [hready] at this
   cases this
 have hdone : ∀ listed rem i o j, Rem ops listed rem → Closed ops listed → ops.toList[i]? = some o → (∀ m ∈ direct o, listed.getD m false = true) → ((masks ops.toList []).getD i 0).testBit j = true → j ∈ rem → False := by
  intro listed rem i o j hr hc ho hdir hb hj
  have := before_listed hr.size hc i o j ho hdir hb
  have hj' := (hr.mem j).1 hj
  simp only [Array.getD_eq_getD_getElem?, Array.getElem?_eq_getElem (show j < listed.size by rw [hr.size]; exact hj'.1), Option.getD_some] at this hj'
  rw [this] at hj'; simp at hj'
 have claim : ∀ (fuel : Nat) (listed : Array Bool) (rem : List Nat) (Le L : Lv) (h : Hp) (a : Act) (w : World), Rem ops listed rem → rem.length ≤ fuel → Closed ops listed → Fits N G0 ι0 h0 w0 (lkL Le) h a w →
   RunI P aops (rem.filter fun i => !isW (masks ops.toList []) c i) (lkL Le) h (lkL L) h → (∀ s, s ∉ dstsOf es → lkL Le s = lkL L s) →
   ChainW P aops lt QL (rem.filter fun i => isW (masks ops.toList []) c i) L h → wpAny P .any ops Q fuel listed a w := by
  intro fuel
  have stop : ∀ (listed : Array Bool) (Le L : Lv) (h : Hp) (a : Act) (w : World), Fits N G0 ι0 h0 w0 (lkL Le) h a w → RunI P aops (List.filter (fun i => !isW (masks ops.toList []) c i) []) (lkL Le) h (lkL L) h →
    ChainW P aops lt QL (List.filter (fun i => isW (masks ops.toList []) c i) []) L h → Q .normal a w := by
   intro listed Le L h a w hf hrun hw
   obtain ⟨e, _⟩ := hrun
   exact hQ L h a w hw (by rw [e]; exact hf)
  induction fuel with
  | zero =>
   intro listed rem Le L h a w hr hl hc hf hrun hee hw
   obtain rfl : rem = [] := List.eq_nil_of_length_eq_zero (by omega)
   refine ⟨?_, stop listed Le L h a w hf hrun hw⟩
   apply List.eq_nil_iff_forall_not_mem.2
   intro i hi
   rw [ready_mem] at hi
   have := (hr.mem i).2 ⟨hi.1, hi.2.1⟩
   cases this
  | succ fuel ih =>
   intro listed rem Le L h a w hr hl hc hf hrun hee hw
   refine ⟨fun hready => ?_, fun i hi => ?_⟩
   ·obtain rfl := hempty listed _ hr hready
    exact stop listed Le L h a w hf hrun hw
   ·rw [ready_mem] at hi
    obtain ⟨hin, hil, o, ho, hdr⟩ := hi
    have himem := (hr.mem i).2 ⟨hin, hil⟩
    have hoi : ops[i]? = some o := by simpa using ho
    obtain ⟨l1, l2, rfl⟩ := List.append_of_mem himem
    have hpair := hr.sorted
    rw [List.pairwise_append] at hpair
    have hl1 : ∀ j ∈ l1, j < i := fun j hj => hpair.2.2 j hj i (by simp)
    have hrm : ∀ j, j ∈ l1 ++ i :: l2 → j < ops.size := fun j hj => ((hr.mem j).1 hj).1
    have hnb : ∀ j, j ∈ l1 ++ i :: l2 → ¬ ((masks ops.toList []).getD i 0).testBit j = true := fun j hj hb => hdone listed _ i o j hr hc ho hdr hb hj
    obtain ⟨hr2, hc2⟩ := rem_step hr hc hin ho hdr hd1
    cases hwi : isW (masks ops.toList []) c i with
    | false =>
     have fe : List.filter (fun i => !isW (masks ops.toList []) c i) (l1 ++ i :: l2) = List.filter (fun i => !isW (masks ops.toList []) c i) l1 ++ i :: List.filter (fun i => !isW (masks ops.toList []) c i) l2 := by
      rw [List.filter_append, List.filter_cons]; simp [hwi]
     have fw : List.filter (fun i => isW (masks ops.toList []) c i) (l1 ++ i :: l2) = List.filter (fun i => isW (masks ops.toList []) c i) (l1 ++ l2) := by
      rw [List.filter_append, List.filter_cons, List.filter_append]; simp [hwi]
     have hiE := (memE i).2 ⟨hin, hwi⟩
     have hcompat : ∀ j ∈ List.filter (fun i => !isW (masks ops.toList []) c i) l1, ∀ x y, aops[j]? = some x → aops[i]? = some y → compat x y = true := by
      intro j hj x y hx hy
      obtain ⟨hj1, hj2⟩ := List.mem_filter.1 hj
      have hjE := (memE j).2 ⟨hrm j (by simp [hj1]), by simpa using hj2⟩
      rcases c3 j hjE i hiE with (h1 | h1) | h1
      ·have := hl1 j hj1; omega
      ·exact (hnb j (by simp [hj1]) h1).elim
      ·rw [hx, hy] at h1; exact h1
     rw [fe] at hrun
     rw [fw] at hw
     obtain ⟨ao, e1, h1, hao, hstep, hrest⟩ := front hcomp hk _ i _ _ h _ _ a w hf hcompat hrun
     have hco := (compOs_get hcomp).2 i o ao ho hao
     have hgo := gOk_spec (N := N) (by rw [List.all_eq_true] at hg; exact hg ao (List.mem_of_getElem? hao))
     have hz : cls ao.op = 0 := by have := c2 i hiE; rw [hao] at this; simpa using this
     obtain ⟨va, ea, rfl⟩ := hstep.1.eff
     have := ea.same hz
     subst this
     unfold wpOp
     simp only [hoi]
     refine step_sound hco hgo hstep.1 hf fun a' w' hf' => ih (listed.setIfInBounds i true) (l1 ++ l2) (putL Le ao.dst va) L _ a' w' hr2 (by simp at hl ⊢; omega) hc2 (by rw [putL_eq]; exact hf') ?_ (fun s hs => ?_) hw
     ·rw [putL_eq, List.filter_append]; exact hrest
     ·rw [putL_eq, putE_other fun hd => hs (by simp only [dstsOf, List.mem_filterMap]; exact ⟨ao, hes' i ao hiE hao, hd⟩)]; exact hee s hs
    | true =>
     have fe : List.filter (fun i => !isW (masks ops.toList []) c i) (l1 ++ i :: l2) = List.filter (fun i => !isW (masks ops.toList []) c i) (l1 ++ l2) := by
      rw [List.filter_append, List.filter_cons, List.filter_append]; simp [hwi]
     have hiW := (memW i).2 ⟨hin, hwi⟩
     have fw : List.filter (fun i => isW (masks ops.toList []) c i) (l1 ++ i :: l2) = i :: List.filter (fun i => isW (masks ops.toList []) c i) (l1 ++ l2) := by
      have : List.filter (fun i => isW (masks ops.toList []) c i) l1 = [] := by
       rw [List.filter_eq_nil_iff]
       intro j hj hwj
       have hjW := (memW j).2 ⟨hrm j (by simp [hj]), hwj⟩
       rcases (c1 i hiW).1 j hjW with h1 | h1
       ·have := hl1 j hj; omega
       ·exact hnb j (by simp [hj]) h1
      rw [List.filter_append, List.filter_cons, List.filter_append, this]; simp [hwi]
     rw [fe] at hrun
     rw [fw] at hw
     obtain ⟨ob, hob, K, hdid, hnext⟩ := hw
     have hgn : ob.g = none := by have := (c1 i hiW).2; rw [hob] at this; simpa using this
     have hco := (compOs_get hcomp).2 i o ob ho hob
     have hgo : gOk N ob = true := by rw [List.all_eq_true] at hg; exact hg ob (List.mem_of_getElem? hob)
     have hpend : ∀ j ∈ List.filter (fun i => !isW (masks ops.toList []) c i) (l1 ++ l2), ∀ oj, aops[j]? = some oj → oj ∈ es ∧ cls oj.op = 0 ∧ ((∀ x, oj.dst = some x → x ∉ slotsOf ob ∧ ob.dst ≠ some x) ∧ (∀ x, ob.dst = some x → x ∉ slotsOf oj)) ∧ (lateB2 oj = true ∨ readW ob.op = true) ∧ ∀ s ∈ lateS2 oj, (s, isLdO oj.op) ∈ lt := by
      intro j hj oj hoj
      obtain ⟨hj1, hj2⟩ := List.mem_filter.1 hj
      have hjr : j ∈ l1 ++ i :: l2 := by
       rcases List.mem_append.1 hj1 with h | h
       ·exact List.mem_append_left _ h
       ·exact List.mem_append_right _ (List.mem_cons_of_mem _ h)
      have hjE := (memE j).2 ⟨hrm j hjr, by simpa using hj2⟩
      refine ⟨hes' j oj hjE hoj, by have := c2 j hjE; rw [hoj] at this; simpa using this, ?_⟩
      rcases c4 j hjE i hiW with h1 | h1
      ·exact (hnb j hjr h1.2).elim
      ·have hlts : ∀ s ∈ lateS2 oj, (s, isLdO oj.op) ∈ lt := fun s hs => by
        rw [← hlt0]
        refine List.mem_flatMap.2 ⟨oj, List.mem_filterMap.2 ⟨j, List.mem_filter.2 ⟨hjE, ?_⟩, hoj⟩, List.mem_map.2 ⟨s, hs, rfl⟩⟩
        simp only [Bool.not_eq_true', Bool.eq_false_iff, ne_eq, List.all_eq_true, Bool.and_eq_true, decide_eq_true_eq]
        exact fun hall => hnb j hjr (hall i hiW).2
       rw [hoj, hob] at h1
       simp only [indepB, Bool.and_eq_true, Bool.or_eq_true] at h1
       obtain ⟨⟨h2, h3⟩, h4⟩ := h1
       refine ⟨⟨fun x hx => ?_, fun x hx => ?_⟩, h4, hlts⟩
       ·rw [hx] at h2
        simp only [Bool.and_eq_true, Bool.not_eq_true', bne_iff_ne] at h2
        exact ⟨by simpa using h2.1, h2.2⟩
       ·rw [hx] at h3
        simpa using h3
     have hslots : ∀ n ∈ slotsOf ob, lkL Le n = lkL L n := fun n hn => by
      refine (RunI.slot (fun j hj oj hoj hd => ?_) hrun).symm
      exact ((hpend j hj oj hoj).2.2.1.1 n hd).1 hn
     have hone : runO P h0.length false [ob] Le h fun L' h' => ∃ v, L' = putL Le ob.dst v ∧ K v h' := by
      refine .inl ⟨by rw [hgn]; rfl, ?_⟩
      refine (hdid _ Le hslots).mono fun L' v h' hk => ?_
      obtain ⟨rfl, hk⟩ := hk
      exact ⟨v, rfl, hk⟩
     refine op_wp (Nat.le_refl _) hoi hco hgo hone hf fun L' h' a' w' ⟨v, e, hk⟩ hf' => ?_
     subst e
     obtain ⟨hsm, hlt, hrest⟩ := hnext v h' hk
     refine ih (listed.setIfInBounds i true) (l1 ++ l2) (putL Le ob.dst v) (putL L ob.dst v) h' a' w' hr2 (by simp at hl ⊢; omega) hc2 hf' ?_ (fun s hs => ?_) hrest
     ·rw [putL_eq, putL_eq]
      refine RunI.late2 (fun j hj oj hoj => ?_) (List.Pairwise.filter _ hr2.sorted) (fun i2 hi2 o2 ho2 s hs2 j2 hj2 hle o3 ho3 => ?_) hrun
      ·obtain ⟨z1, z2, z3, z4⟩ := hpend j hj oj hoj
       refine ⟨z2, z4.1.imp (fun h => h) hsm, z3.2, fun x hx => (z3.1 x hx).2, fun s hs => ?_⟩
       have := lateOT_mem hlt s _ (z4.2 s hs)
       rwa [lkN_eq] at this
      ·obtain ⟨m1, m2⟩ := List.mem_filter.1 hi2
       obtain ⟨n1, n2⟩ := List.mem_filter.1 hj2
       have hmr : ∀ x, x ∈ l1 ++ l2 → x ∈ l1 ++ i :: l2 := fun x hx => by
        rcases List.mem_append.1 hx with h | h
        ·exact List.mem_append_left _ h
        ·exact List.mem_append_right _ (List.mem_cons_of_mem _ h)
       have hiE := (memE i2).2 ⟨hrm i2 (hmr i2 m1), by simpa using m2⟩
       have hjE := (memE j2).2 ⟨hrm j2 (hmr j2 n1), by simpa using n2⟩
       simp only [ordE, List.all_eq_true, Bool.or_eq_true, decide_eq_true_eq] at hore
       rcases hore i2 hiE j2 hjE with h | h
       ·omega
       ·rw [ho2, ho3] at h
        simp only [List.all_eq_true, bne_iff_ne, ne_eq] at h
        exact h s hs2
     ·rw [putL_eq, putL_eq]
      cases hd : ob.dst with
      | none => exact hee s hs
      | some d =>
       by_cases e : d = s
       ·subst e; simp [putE, upd]
       ·rw [putE_other (by simpa using e), putE_other (by simpa using e)]; exact hee s hs
 refine wp_region_any hmo (claim ops.size (Array.replicate ops.size false) (List.range ops.size) L L1 h a _ ?_ ?_ ?_ (hf.same_heap rfl) hE ?_ hW)
 ·refine ⟨by simp, fun i => ?_, List.pairwise_lt_range⟩
  simp only [List.mem_range, Array.getD_eq_getD_getElem?, Array.getElem?_replicate]
  constructor
  ·intro hi; exact ⟨hi, by simp [hi]⟩
  ·exact fun hi => hi.1
 ·simp
 ·intro i o ho hl
  have hi : i < ops.size := by simpa using get_lt ho
  simp [Array.getD_eq_getD_getElem?, hi] at hl
 ·intro s hs
  refine (RunI.slot (fun j hj oj hoj hd => hs ?_) hE).symm
  simp only [dstsOf, List.mem_filterMap]
  exact ⟨oj, hes' j oj hj hoj, hd⟩
theorem region_rgc {Λ : Len} (hΛ : ∀ l, Λ l = (l.length : Int)) {m id c : Nat} {ops : Array Oper} {aos : List AO} {Q : Post} {L : Lv} {h : Hp} {a : Act} {w : World} (hm : P.follows .mixedOrders = true)
  (haos : compOs P ops N ops.toList = some aos) (k1 : aos.all (gOk N) = true) (hcc : (chOk (masks ops.toList []) ops.size c aos && ordE (masks ops.toList []) ops.size c aos) = true ∧ dirOk ops.toList = true ∧ aos.all constOk = true) (hf : Fits N G0 ι0 h0 w0 (lkL L) h a w)
  (hv : vcC P Λ m (.rgc (getA aos (idxE (masks ops.toList []) ops.size c)) (getA aos (idxW (masks ops.toList []) ops.size c)) ((getA aos (idxL (masks ops.toList []) ops.size c)).flatMap lateT)) L h Q) :
  (Code.region id ops true).wp P (out N G0 ι0 h0 w0 Q) a w := by
 obtain ⟨hc1, hc2⟩ := Bool.and_eq_true _ _ ▸ hcc.1
 have hlen := (compOs_get haos).1
 have hsz : ops.size = aos.length := by rw [← hlen]; simp
 simp only [vcC] at hv
 obtain ⟨L1, h1, hr, hv2⟩ := runO_idx (aops := aos) _ L h _ (fun i hi => by
  have := (List.mem_filter.1 hi).1; rw [List.mem_range] at this; omega) (vcOps_runO hΛ hv)
 have hh := RunI.heap (fun j hj o ho => by
  have := hc1
  simp only [chOk, Bool.and_eq_true, List.all_eq_true] at this
  have := this.1.1.2 j hj
  rw [ho] at this
  simpa using this) hr
 subst hh
 exact region_ch hm haos k1 hcc.2.2 hc1 hc2 hcc.2.1 hf hr (vcWs_chain hΛ _ _ _ (fun i hi => by
  have := (List.mem_filter.1 hi).1; rw [List.mem_range] at this; omega) hv2) fun L h a w hq hf => ⟨L, h, hq, hf⟩
theorem vcC_sound {Λ : Len} (hΛ : ∀ l, Λ l = (l.length : Int)) {m : Nat} (hm : P.follows .mixedOrders = true) (hm0 : h0.length ≤ m) : ∀ (c : Code) (ac : AC) (L : Lv) (h : Hp) (Q : Post) (a : Act) (w : World), compC P N c = some ac → vcC P Λ m ac L h Q →
  Fits N G0 ι0 h0 w0 (lkL L) h a w → c.wp P (out N G0 ι0 h0 w0 Q) a w := by
 intro c
 induction c with
 | skip =>
  intro ac L h Q a w hc hv hf
  simp only [compC, osi] at hc; subst hc
  exact wp_skip ⟨L, h, hv, hf⟩
 | label l =>
  intro ac L h Q a w hc hv hf
  simp only [compC, osi] at hc; subst hc
  exact wp_label ⟨L, h, hv, hf⟩
 | region id ops draw =>
  intro ac L h Q a w hc hv hf
  simp only [compC] at hc
  split at hc
  ·rename_i aos haos
   split at hc
   ·rename_i hcond
    cases hc
    cases draw with
    | false =>
     refine wp_region ?_
     rw [List.range_eq_range']
     have := region_seq (ops := ops) (Q := out N G0 ι0 h0 w0 Q) hm0 ops.toList aos 0 L h _ a w (by simp) haos hcond.1 (vcOps_runO hΛ hv) hf (fun L' h' a' w' hk hf' => ⟨L', h', hk, hf'⟩)
     simpa using this
    | true =>
     have old : vcC P Λ m (acDraw ops aos) L h Q → (Code.region id ops true).wp P (out N G0 ι0 h0 w0 Q) a w := fun hv =>
      region_segs (S := fun ac L h Q => vcC P Λ m ac L h Q) hm hm0 (fun _ _ _ _ _ h => h) (fun _ _ _ _ _ h => vcOps_runO hΛ h) haos hcond.1 (hcond.2 rfl).1 (hcond.2 rfl).2 hf hv
     suffices hold : vcC P Λ m (acDrawW P ops aos) L h Q → (Code.region id ops true).wp P (out N G0 ι0 h0 w0 Q) a w by
      simp only [acDraw5] at hv
      split at hv
      ·split at hv
       ·rename_i c hc
        split at hv
        ·rename_i hcc
         exact region_rgc hΛ hm haos hcond.1 hcc hf hv
        ·exact hold hv
       ·exact hold hv
      ·exact hold hv
     intro hv
     simp only [acDrawW] at hv
     split at hv
     ·rename_i b hfw
      split at hv
      ·rename_i o ho
       split at hv
       ·rename_i hwr
        obtain ⟨_, o', f, xs, p1, p2, p3⟩ := findW_spec hfw
        rw [Nat.sub_zero, ho] at p1
        cases p1
        exact region_w hΛ hm haos hcond.1 (hcond.2 rfl).1 (hcond.2 rfl).2 hf ho p2 p3 hwr hv
       ·exact old hv
      ·exact old hv
     ·exact old hv
   ·split at hc
    ·rename_i hcond
     cases hc
     obtain ⟨rfl, k1, k2, k3⟩ := hcond
     have old : vcC P Λ m (acDraw3 ops aos) L h Q → (Code.region id ops true).wp P (out N G0 ι0 h0 w0 Q) a w := fun hv =>
      region_segs3 (S := fun ac L h Q => vcC P Λ m ac L h Q) hm hm0 (fun _ _ _ _ _ h => h) (fun _ _ _ _ _ h => vcOps_runO hΛ h) (fun _ _ _ _ _ _ h => vcF3_runF hΛ h) haos k1 k2 k3 hf hv
     unfold acDraw4 at hv
     split at hv
     ·rename_i c hc
      split at hv
      ·rename_i hcc
       exact region_rgc hΛ hm haos k1 hcc hf hv
      ·exact old hv
     ·exact old hv
    ·cases hc
  ·cases hc
 | seq x y ihx ihy =>
  intro ac L h Q a w hc hv hf
  simp only [compC] at hc
  split at hc
  ·rename_i cx' cy' hx hy
   cases hc
   refine wp_seq (wp_mono (ihx cx' L h _ a w hx hv hf) fun e a' w' ⟨L', h', hq, hf'⟩ => ?_)
   cases e with
   | normal => exact ihy cy' L' h' Q a' w' hy hq hf'
   | exit i => exact ⟨L', h', hq, hf'⟩
   | ret => exact ⟨L', h', hq, hf'⟩
   | goto => exact hq.elim
   | panic => exact hq.elim
   | outgrown => exact hq.elim
  ·cases hc
 | cond c x y ihx ihy =>
  intro ac L h Q a w hc hv hf
  simp only [compC] at hc
  split at hc
  ·rename_i c' cx' cy' hcc hx hy
   cases hc
   simp only [vcC] at hv
   split at hv
   ·rename_i t ht
    obtain ⟨G, ι, st⟩ := hf
    have hr := cx_sound hcc st.rel
    rw [evN_eq] at ht
    rw [ht] at hr
    have he := inv_bool hr
    cases t with
    | true => exact wp_cond_true he (ihx cx' L h Q a w hx hv ⟨G, ι, st⟩)
    | false => exact wp_cond_false he (ihy cy' L h Q a w hy hv ⟨G, ι, st⟩)
   ·exact hv.elim
  ·cases hc
 | block id c ih =>
  intro ac L h Q a w hc hv hf
  simp only [compC] at hc
  split at hc
  ·rename_i c' hcc
   cases hc
   refine wp_block (wp_mono (ih c' L h _ a w hcc hv hf) fun e a' w' ⟨L', h', hq, hf'⟩ => ?_)
   cases e with
   | normal => exact ⟨L', h', hq, hf'⟩
   | ret => exact ⟨L', h', hq, hf'⟩
   | exit i =>
    simp only [exq] at hq
    simp only [Exit.inBlock]
    split at hq
    ·rename_i hb
     have : i = id := Nat.eq_of_beq_eq_true hb
     rw [if_pos this]; exact ⟨L', h', hq, hf'⟩
    ·rename_i hb
     have : ¬ i = id := fun e => by subst e; simp at hb
     rw [if_neg this]; exact ⟨L', h', hq, hf'⟩
   | goto => exact hq.elim
   | panic => exact hq.elim
   | outgrown => exact hq.elim
  ·cases hc
 | loop c ih =>
  intro ac L h Q a w hc hv hf
  simp only [compC] at hc
  split at hc
  ·rename_i c' hcc
   cases hc
   simp only [vcC] at hv
   obtain ⟨I, n, L1, h1, hwk, hstart, hround⟩ := hv
   refine wp_loop_ghost (fun n a w => ∃ L h, I n L h ∧ Fits N G0 ι0 h0 w0 (lkL L) h a w) ?_ n a w ⟨L1, h1, hstart, hwk.fits hm0 hf⟩
   intro n a w ⟨L2, h2, hI, hf2⟩
   refine wp_mono (ih c' L2 h2 _ a w hcc (hround n L2 h2 hI) hf2) fun e a' w' ⟨L', h', hq, hf'⟩ => ?_
   cases e with
   | normal =>
    obtain ⟨n', L3, h3, h4, h5, h6⟩ := hq
    exact ⟨n', h4, L3, h3, h6, h5.fits hm0 hf'⟩
   | exit i =>
    obtain ⟨L3, h3, h4, h5⟩ := hq
    exact ⟨L3, h3, h5, h4.fits hm0 hf'⟩
   | ret => exact ⟨L', h', hq, hf'⟩
   | goto => exact hq.elim
   | panic => exact hq.elim
   | outgrown => exact hq.elim
  ·cases hc
 | scope c ih =>
  intro ac L h Q a w hc hv hf
  simp only [compC] at hc
  refine wp_scope_straight (wp_mono (ih ac L h Q a w hc hv hf) fun e a' w' hq => ?_)
  obtain ⟨L', h', hq, hf'⟩ := hq
  cases e with
  | normal => exact ⟨L', h', hq, hf'⟩
  | exit i => exact ⟨L', h', hq, hf'⟩
  | ret => exact ⟨L', h', hq, hf'⟩
  | goto => exact hq.elim
  | panic => exact hq.elim
  | outgrown => exact hq.elim
 | exit id =>
  intro ac L h Q a w hc hv hf
  simp only [compC, osi] at hc; subst hc
  exact wp_exit ⟨L, h, hv, hf⟩
 | ret =>
  intro ac L h Q a w hc hv hf
  simp only [compC, osi] at hc; subst hc
  exact wp_ret ⟨L, h, hv, hf⟩
 | goto l => intro ac L h Q a w hc; simp [compC] at hc
 | rangeFunc => intro ac L h Q a w hc; simp [compC] at hc
 | refuse => intro ac L h Q a w hc; simp [compC] at hc
end
end Go.Ab

