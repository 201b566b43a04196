/-
  Merged texts, part j.
-/
import Derived.Test.YtollegfnkaomeaaZi
/-
  The engine: regions that make memory, part e: what makes a new block does so alike in every heap that agrees on what it looks at.
-/
namespace Go.Ab
def deadN : Hp → Nat
 | [] => 0
 | .dead :: r => deadN r + 1
 | _ :: r => deadN r
theorem deadN_set : ∀ {h : Hp} {l : Nat} {r : Bool} {v sz : Nat} {es : List (List D)}, h[l]? = some (.da r v sz es) → deadN h < deadN (h.set l .dead)
 | [], _, _, _, _, _, hl => by simp at hl
 |k :: h, 0, r, v, sz, es, hl => by
  simp only [List.getElem?_cons_zero, Option.some.injEq] at hl
  subst hl
  simp [deadN]
 |k :: h, l + 1, r, v, sz, es, hl => by
  simp only [List.getElem?_cons_succ] at hl
  have := deadN_set hl
  cases k <;> simp only [List.set_cons_succ, deadN] <;> omega
theorem deadN_mp : ∀ {h : Hp} {l : Nat} {v : Nat} {es : List (DV × DV)}, h[l]? = some (.mp v es) → deadN h < deadN (h.set l .dead)
 | [], _, _, _, hl => by simp at hl
 |k :: h, 0, v, es, hl => by
  simp only [List.getElem?_cons_zero, Option.some.injEq] at hl
  subst hl
  simp [deadN]
 |k :: h, l + 1, v, es, hl => by
  simp only [List.getElem?_cons_succ] at hl
  have := deadN_mp hl
  cases k <;> simp only [List.set_cons_succ, deadN] <;> omega
theorem frz_alike {h h1 : Hp} {x : CV} {d : D} (hx : frz h x = some (d, h1)) : (h1 = h ∧ ∀ h2, frz h2 x = some (d, h2)) ∨ deadN h < deadN h1 := by
 cases x with
 | d y => simp only [frz, Option.some.injEq, Prod.mk.injEq] at hx; obtain ⟨rfl, rfl⟩ := hx; exact .inl ⟨rfl, fun _ => rfl⟩
 | cl nl sz l => simp only [frz, Option.some.injEq, Prod.mk.injEq] at hx; obtain ⟨rfl, rfl⟩ := hx; exact .inl ⟨rfl, fun _ => rfl⟩
 | arr l v i n =>
  simp only [frz] at hx
  split at hx
  ·rename_i hl
   split at hx
   ·cases hx; exact .inr (deadN_set hl)
   ·cases hx
  ·cases hx
 | rp cs => simp only [frz, Option.some.injEq, Prod.mk.injEq] at hx; obtain ⟨rfl, rfl⟩ := hx; exact .inl ⟨rfl, fun _ => rfl⟩
 | mp l =>
  simp only [frz] at hx
  split at hx
  ·rename_i hl
   split at hx
   ·cases hx; exact .inr (deadN_mp hl)
   ·cases hx
  ·cases hx
 | _ => simp [frz] at hx
theorem frzs_alike : ∀ {cs : List CV} {h h1 : Hp} {ds : List D}, frzs h cs = some (ds, h1) → (h1 = h ∧ ∀ h2, frzs h2 cs = some (ds, h2)) ∨ deadN h < deadN h1
 | [], h, h1, ds, hx => by simp only [frzs, Option.some.injEq, Prod.mk.injEq] at hx; obtain ⟨rfl, rfl⟩ := hx; exact .inl ⟨rfl, fun _ => rfl⟩
 |x :: r, h, h1, ds, hx => by
  simp only [frzs] at hx
  split at hx
  ·rename_i d ha h1' 
   split at hx
   ·rename_i ds2 hb h2'
    cases hx
    rcases frz_alike h1' with ⟨rfl, g1⟩ | g1
    ·rcases frzs_alike h2' with ⟨rfl, g2⟩ | g2
     ·exact .inl ⟨rfl, fun h2 => by simp only [frzs, g1 h2, g2 h2]⟩
     ·exact .inr g2
    ·rcases frzs_alike h2' with ⟨rfl, g2⟩ | g2
     ·exact .inr g1
     ·exact .inr (Nat.lt_trans g1 g2)
   ·cases hx
  ·cases hx
theorem frzK_alike {h h1 : Hp} {x : CV} {d : D} (hx : frzK h x = some (d, h1)) : (h1 = h ∧ ∀ h2, frzK h2 x = some (d, h2)) ∨ deadN h < deadN h1 := by
 unfold frzK at hx ⊢
 split at hx
 ·cases hx; exact .inl ⟨rfl, fun _ => rfl⟩
 ·exact frz_alike hx
theorem frzsK_alike : ∀ {cs : List CV} {h h1 : Hp} {ds : List D}, frzsK h cs = some (ds, h1) → (h1 = h ∧ ∀ h2, frzsK h2 cs = some (ds, h2)) ∨ deadN h < deadN h1
 | [], h, h1, ds, hx => by simp only [frzsK, Option.some.injEq, Prod.mk.injEq] at hx; obtain ⟨rfl, rfl⟩ := hx; exact .inl ⟨rfl, fun _ => rfl⟩
 |x :: r, h, h1, ds, hx => by
  simp only [frzsK] at hx
  split at hx
  ·rename_i d ha h1' 
   split at hx
   ·rename_i ds2 hb h2'
    cases hx
    rcases frzK_alike h1' with ⟨rfl, g1⟩ | g1
    ·rcases frzsK_alike h2' with ⟨rfl, g2⟩ | g2
     ·exact .inl ⟨rfl, fun h2 => by simp only [frzsK, g1 h2, g2 h2]⟩
     ·exact .inr g2
    ·rcases frzsK_alike h2' with ⟨rfl, g2⟩ | g2
     ·exact .inr g1
     ·exact .inr (Nat.lt_trans g1 g2)
   ·cases hx
  ·cases hx
theorem frzsM_alike {cs : List CV} {h h1 : Hp} {ds : List D} (hx : frzsM h cs = some (ds, h1)) : (h1 = h ∧ ∀ h2, frzsM h2 cs = some (ds, h2)) ∨ deadN h < deadN h1 := by
 unfold frzsM at hx ⊢
 split at hx
 ·rcases frzsK_alike hx with ⟨g1, g2⟩ | g
  ·exact .inl ⟨g1, g2⟩
  ·exact .inr g
 ·rcases frzs_alike hx with ⟨g1, g2⟩ | g
  ·exact .inl ⟨g1, g2⟩
  ·exact .inr g
theorem elemsOf_alike {e : Env} : ∀ {ps : List (Nat × X)} {h h1 : Hp} {as : List (Nat × List D)}, elemsOf h e ps = some (as, h1) → (h1 = h ∧ ∀ h2, elemsOf h2 e ps = some (as, h2)) ∨ deadN h < deadN h1
 | [], h, h1, as, hx => by simp only [elemsOf, Option.some.injEq, Prod.mk.injEq] at hx; obtain ⟨rfl, rfl⟩ := hx; exact .inl ⟨rfl, fun _ => rfl⟩
 |(i, x) :: r, h, h1, as, hx => by
  simp only [elemsOf] at hx
  split at hx
  ·rename_i cs hcs
   split at hx
   ·rename_i ds ha g1'
    split at hx
    ·rename_i as2 hb g2'
     cases hx
     rcases frzsM_alike g1' with ⟨rfl, g1⟩ | g1
     ·rcases elemsOf_alike g2' with ⟨rfl, g2⟩ | g2
      ·exact .inl ⟨rfl, fun h2 => by simp only [elemsOf, hcs, g1 h2, g2 h2]⟩
      ·exact .inr g2
     ·rcases elemsOf_alike g2' with ⟨rfl, g2⟩ | g2
      ·exact .inr g1
      ·exact .inr (Nat.lt_trans g1 g2)
    ·cases hx
   ·cases hx
  ·cases hx
def opRf (e : Env) (op : AOp) : List Nat := (xsOf op).flatMap fun x => rfA (ev e x)
theorem opRf_agree {e : Env} {op : AOp} {h h' : Hp} (hh : ∀ l ∈ opRf e op, h'[l]? = h[l]?) : ∀ x ∈ xsOf op, agreeA h h' (ev e x) :=
 fun x hx => rf_agree fun l hl => hh l (List.mem_flatMap.2 ⟨x, hx, hl⟩)
def amHd : Hp → List Nat
 | .am _ :: _ => [0]
 | _ => []
theorem amHd_lt {h : Hp} {l : Nat} (hl : l ∈ amHd h) : l < h.length := by
 unfold amHd at hl
 split at hl
 ·simp at hl; subst hl; simp
 ·cases hl
def tOf (e : Env) (h : Hp) (op : AOp) : List Nat := opRf e op ++ (match op with
 | .st x _ _ => match ev e x with
  | .c (.ptr l _ _ _) => match h[l]? with
   | some k => rfB k
   | none => []
  | _ => []
 | .ld x _ => match ev e x with
  | .c (.d (.adr _ _)) => amHd h
  | _ => []
 | _ => [])
theorem tOf_agree {e : Env} {h0 h h' : Hp} {op : AOp} (hh : ∀ l ∈ tOf e h0 op, h'[l]? = h[l]?) : ∀ x ∈ xsOf op, agreeA h h' (ev e x) :=
 opRf_agree fun l hl => hh l (List.mem_append_left _ hl)
def wtOf (e : Env) (n : Nat) : AOp → Option (Option Nat × Bool)
 | .box _ => some (some n, true)
 | .bsl _ _ _ _ => some (some n, true)
 | .mks _ _ _ _ _ => some (some n, true)
 | .mo .mkm _ => some (some n, true)
 | .app _ _ _ x _ => match ev e x with
  | .c (.arr l _ _ _) => some (some l, false)
  | .c (.d (.list true _ _)) => some (some n, true)
  | _ => none
 | .st x _ _ => match ev e x with
  | .c (.ptr l _ _ _) => some (some l, false)
  | _ => none
 | op => match cls op with
  | 0 => some (none, false)
  | _ => none
theorem cells_rf {x : AV} {cs : List CV} (h : cells x = some cs) : rfCs cs = rfA x := by
 cases x with
 | c x =>
  have : cs = [x] := by cases x <;> simp_all [cells]
  subst this
  show rfC x ++ [] = _
  simp [rfA]
 | agg l => simp only [cells, Option.some.injEq] at h; subst h; rfl
 | tup l => simp [cells] at h
theorem al_alike {e : Env} {h h' : Hp} {op : AOp} {v : AV} {w : Nat} (hw : wtOf e h.length op = some (some w, true)) (hs : astep e h op = some (v, h')) (h1 : cls op = 1 → ∃ k, h' = h ++ [k]) :
  w = h.length ∧ ∃ f k, AlF f ∧ v = f h.length ∧ h' = h ++ [k] ∧ (∀ l ∈ rfB k, l ∈ tOf e h op) ∧ ∀ h2, (∀ l ∈ tOf e h op, h2[l]? = h[l]?) → astep e h2 op = some (f h2.length, h2 ++ [k]) := by
 cases op
 case box x =>
  simp only [wtOf, Option.some.injEq, Prod.mk.injEq, and_true] at hw
  simp only [astep] at hs
  split at hs
  ·rename_i cs hcs
   split at hs
   ·rename_i hok
    cases hs
    refine ⟨hw.symm, _, _, .inr (.inl rfl), rfl, rfl, fun l hl => ?_, fun h2 hag => ?_⟩
    ·have : l ∈ rfA (ev e x) := by rw [← cells_rf hcs]; exact hl
     exact List.mem_append_left _ (List.mem_flatMap.2 ⟨x, by simp [xsOf], this⟩)
    ·have hag' := tOf_agree hag x (by simp [xsOf])
     simp only [astep, hcs]
     rw [cellsOk_agree (cells_agree hag' hcs), if_pos hok]
   ·cases hs
  ·cases hs
 case bsl sz z n ps =>
  simp only [wtOf, Option.some.injEq, Prod.mk.injEq, and_true] at hw
  obtain ⟨k, hk⟩ := h1 rfl
  simp only [astep] at hs
  split at hs
  ·rename_i as ha hel
   split at hs
   ·rename_i es hes
    split at hs
    ·rename_i hlim
     simp only [Option.some.injEq, Prod.mk.injEq] at hs
     obtain ⟨rfl, rfl⟩ := hs
     obtain ⟨hh1, hh2⟩ := List.append_inj' hk (by simp)
     subst hh1
     simp only [List.cons.injEq, and_true] at hh2
     subst hh2
     have hall : ∀ h2, elemsOf h2 e ps = some (as, h2) := by
      rcases elemsOf_alike hel with ⟨_, g⟩ | g
      ·exact g
      ·omega
     refine ⟨hw.symm, fun m => .c (.arr m 0 0 n), _, .inl ⟨n, 0, rfl⟩, rfl, rfl, fun l hl => by simp [rfB] at hl, fun h2 _ => ?_⟩
     simp only [astep, hall h2, hes, if_pos hlim]
    ·cases hs
   ·cases hs
  ·cases hs
 case mks sz bytes z l c =>
  simp only [wtOf, Option.some.injEq, Prod.mk.injEq, and_true] at hw
  simp only [astep] at hs
  split at hs
  ·rename_i k1 n k2 m hl hc
   split at hs
   ·rename_i hlim
    cases hs
    refine ⟨hw.symm, fun q => .c (.arr q 0 0 n.toNat), _, .inl ⟨_, 0, rfl⟩, rfl, rfl, fun l hl => by simp [rfB] at hl, fun h2 _ => ?_⟩
    simp only [astep, hl, hc, if_pos hlim]
   ·cases hs
  ·cases hs
 case mo o xs =>
  cases o
  case mkm =>
   simp only [wtOf, Option.some.injEq, Prod.mk.injEq, and_true] at hw
   simp only [astep] at hs
   cases hxs : evs e xs with
   | nil =>
    rw [hxs] at hs
    simp only [mstep, Option.some.injEq, Prod.mk.injEq] at hs
    obtain ⟨rfl, rfl⟩ := hs
    refine ⟨hw.symm, fun q => .c (.mp q), _, .inr (.inr rfl), rfl, rfl, fun l hl => by simp [rfB] at hl, fun h2 _ => ?_⟩
    simp only [astep, hxs, mstep]
   | cons a r => rw [hxs] at hs; simp [mstep] at hs
  all_goals (simp [wtOf, cls] at hw)
 case app sz bytes z x y =>
  simp only [wtOf] at hw
  simp only [astep] at hs
  split at hs
  ·rename_i sz' ys hy
   split at hs
   ·rename_i hsz
    have hvy : ∀ h2, (∀ l ∈ tOf e h (.app sz bytes z x y), h2[l]? = h[l]?) → view h2 (ev e y) = view h (ev e y) := fun h2 hag => view_agree (tOf_agree hag y (by simp [xsOf]))
    split at hw
    ·simp at hw
    ·rename_i s2 l2 hx
     simp only [Option.some.injEq, Prod.mk.injEq, and_true] at hw
     simp only [hx, appv] at hs
     split at hs
     ·rename_i hlim
      cases hs
      refine ⟨hw.symm, fun q => .c (.arr q 0 0 ys.length), _, .inl ⟨_, 0, rfl⟩, rfl, rfl, fun l hl => by simp [rfB] at hl, fun h2 hag => ?_⟩
      simp only [astep, hvy h2 hag, hy, if_pos hsz, hx, appv, if_pos hlim]
     ·cases hs
    ·cases hw
   ·cases hs
  ·cases hs
 case st x y n =>
  simp only [wtOf] at hw
  split at hw <;> simp at hw
 all_goals (simp [wtOf, cls] at hw)
theorem up_alike {e : Env} {h h' : Hp} {op : AOp} {v : AV} {w : Nat} (hw : wtOf e h.length op = some (some w, false)) (hs : astep e h op = some (v, h')) :
  ∃ k, h' = h.set w k ∧ (∀ l ∈ rfB k, l ∈ tOf e h op) ∧ ∀ h2, (∀ l ∈ tOf e h op, h2[l]? = h[l]?) → astep e h2 op = some (v, h2.set w k) := by
 cases op
 case app sz bytes z x y =>
  simp only [wtOf] at hw
  simp only [astep] at hs
  split at hs
  ·rename_i sz' ys hy
   split at hs
   ·rename_i hsz
    have hvy : ∀ h2, (∀ l ∈ tOf e h (.app sz bytes z x y), h2[l]? = h[l]?) → view h2 (ev e y) = view h (ev e y) := fun h2 hag => view_agree (tOf_agree hag y (by simp [xsOf]))
    split at hw
    ·rename_i l v0 i n hx
     simp only [Option.some.injEq, Prod.mk.injEq, and_true] at hw
     subst hw
     have hmem : l ∈ tOf e h (.app sz bytes z x y) := List.mem_append_left _ (List.mem_flatMap.2 ⟨x, by simp [xsOf], by rw [hx]; simp [rfA, rfC]⟩)
     simp only [hx, appv] at hs
     split at hs
     ·rename_i r v' s3 es hl
      split at hs
      ·rename_i hlim
       cases hs
       refine ⟨_, rfl, fun l hl => by simp [rfB] at hl, fun h2 hag => ?_⟩
       simp only [astep, hvy h2 hag, hy, if_pos hsz, hx, appv, hag l hmem, hl, if_pos hlim]
      ·cases hs
     ·cases hs
    ·simp at hw
    ·cases hw
   ·cases hs
  ·cases hs
 case mo o xs => cases o <;> simp [wtOf, cls] at hw
 case st x y n =>
  simp only [wtOf] at hw
  split at hw
  ·rename_i l ver i j hx
   simp only [Option.some.injEq, Prod.mk.injEq, and_true] at hw
   subst hw
   have hmem : l ∈ tOf e h (.st x y n) := List.mem_append_left _ (List.mem_flatMap.2 ⟨x, by simp [xsOf], by rw [hx]; simp [rfA, rfC]⟩)
   simp only [astep] at hs
   split at hs
   ·rename_i cs hcs
    split at hs
    ·rename_i hok
     have hcy : ∀ h2, (∀ l ∈ tOf e h (.st x y n), h2[l]? = h[l]?) → cellsOk h2 cs = cellsOk h cs := fun h2 hag => cellsOk_agree (cells_agree (tOf_agree hag y (by simp [xsOf])) hcs)
     have hold : ∀ k, h[l]? = some k → ∀ q ∈ rfB k, q ∈ tOf e h (.st x y n) := fun k hk q hq => by
      refine List.mem_append_right _ ?_
      simp only [hx, hk]
      exact hq
     have hnew : ∀ q ∈ rfCs cs, q ∈ tOf e h (.st x y n) := fun q hq => by
      rw [cells_rf hcs] at hq
      exact List.mem_append_left _ (List.mem_flatMap.2 ⟨y, by simp [xsOf], hq⟩)
     rw [hx] at hs
     cases hl : h[l]? with
     | none => simp only [wr, wrd, hl] at hs; simp at hs
     | some k =>
      cases k with
      | bx bs =>
       by_cases hc : i = 0 ∧ j + cs.length ≤ bs.length
       ·have hw1 : wr h (.c (.ptr l ver i j)) cs = some (h.set l (.bx (bs.take j ++ (cs ++ bs.drop (j + cs.length))))) := by simp only [wr, hl, if_pos hc]
        rw [hw1] at hs
        simp only [Option.some.injEq, Prod.mk.injEq] at hs
        obtain ⟨rfl, rfl⟩ := hs
        refine ⟨_, rfl, fun q hq => ?_, fun h2 hag => ?_⟩
        ·obtain ⟨c, hc1, hc2⟩ := rfCs_mem.1 hq
         have hb : ∀ c ∈ bs, q ∈ rfC c → q ∈ tOf e h (.st x y n) := fun c h1 h2 => hold _ hl q (rfCs_mem.2 ⟨c, h1, h2⟩)
         rcases List.mem_append.1 hc1 with h1 | h1
         ·exact hb c (List.mem_of_mem_take h1) hc2
         ·rcases List.mem_append.1 h1 with h1 | h1
          ·exact hnew q (rfCs_mem.2 ⟨c, h1, hc2⟩)
          ·exact hb c (List.mem_of_mem_drop h1) hc2
        ·have hw2 : wr h2 (.c (.ptr l ver i j)) cs = some (h2.set l (.bx (bs.take j ++ (cs ++ bs.drop (j + cs.length))))) := by simp only [wr, hag l hmem, hl, if_pos hc]
         simp only [astep, hcs, hcy h2 hag, if_pos hok, hx, hw2]
       ·simp only [wr, wrd, hl, if_neg hc] at hs; simp at hs
      | da r v' sz es =>
       have hw1 : wr h (.c (.ptr l ver i j)) cs = none := by simp only [wr, hl]
       rw [hw1] at hs
       simp only [Option.map_eq_some_iff, Prod.mk.injEq] at hs
       obtain ⟨h1, hs1, rfl, rfl⟩ := hs
       simp only [wrd, hl] at hs1
       split at hs1
       ·rename_i hv
        split at hs1
        ·rename_i el ds he hds
         split at hs1
         ·rename_i hj
          cases hs1
          refine ⟨_, rfl, fun q hq => by simp [rfB] at hq, fun h2 hag => ?_⟩
          have hw2 : wr h2 (.c (.ptr l ver i j)) cs = none := by simp only [wr, hag l hmem, hl]
          simp only [astep, hcs, hcy h2 hag, if_pos hok, hx, hw2, wrd, hag l hmem, hl, if_pos hv, he, hds, if_pos hj, Option.map_some]
         ·cases hs1
        ·cases hs1
       ·cases hs1
      | mp v es => simp only [wr, wrd, hl] at hs; simp at hs
      | mi a b c => simp only [wr, wrd, hl] at hs; simp at hs
      | dead => simp only [wr, wrd, hl] at hs; simp at hs
      | am m => simp only [wr, wrd, hl] at hs; simp at hs
    ·cases hs
   ·cases hs
  ·cases hw
 all_goals (simp [wtOf, cls] at hw)
theorem no_alike {e : Env} {h h' : Hp} {op : AOp} {v : AV} {b : Bool} (hw : wtOf e h.length op = some (none, b)) (hs : astep e h op = some (v, h')) :
  h' = h ∧ ∀ h2, (∀ l ∈ tOf e h op, h2[l]? = h[l]?) → astep e h2 op = some (v, h2) := by
 have hc : cls op = 0 := by
  cases op
  case app sz bytes z x y =>
   simp only [wtOf] at hw
   split at hw <;> simp at hw
  case st x y n =>
   simp only [wtOf] at hw
   split at hw <;> simp at hw
  case mo o xs => cases o <;> first | rfl | simp [wtOf, cls] at hw
  all_goals first | rfl | simp [wtOf, cls] at hw
 have key : ∀ h2, (∀ l ∈ tOf e h op, h2[l]? = h[l]?) → h' = h ∧ astep e h2 op = some (v, h2) := fun h2 hag => astep_agree hc (tOf_agree hag) (fun x n hop => by
  subst hop
  by_cases hia : isAdr (ev e x)
  ·right
   obtain ⟨b, o, he⟩ : ∃ b o, ev e x = .c (.d (.adr b o)) := by
    revert hia
    generalize ev e x = xv
    intro hia
    unfold isAdr at hia
    split at hia
    ·exact ⟨_, _, rfl⟩
    ·exact hia.elim
   have hm : ∃ m r, h = .am m :: r := by
    cases n <;> simp only [astep, he, rd, amRd] at hs <;> (cases h with
     | nil => simp at hs
     | cons k r => cases k <;> first | exact ⟨_, _, rfl⟩ | (simp at hs))
   obtain ⟨m, r, rfl⟩ := hm
   refine sameAm.of0 (hag 0 ?_)
   simp [tOf, he, amHd]
  ·exact .inl hia) hs
 exact ⟨(key h fun _ _ => rfl).1, fun h2 hag => (key h2 hag).2⟩
end Go.Ab

/-
  The engine: regions that make memory, part f: the condition, and that it suffices.
-/
namespace Go.Ab
structure Ft where
 (i : Nat) (T : List Nat) (w : Option Nat) (al : Bool)
def hasN : List Nat → Nat → Bool
 | [], _ => false
 | x :: r, n => match Nat.beq x n with
  | true => true
  | false => hasN r n
theorem hasN_mem {l : List Nat} {n : Nat} : hasN l n = true ↔ n ∈ l := by
 induction l with
 | nil => simp [hasN]
 | cons x r ih =>
  simp only [hasN, List.mem_cons]
  split
  ·rename_i h; have := Nat.eq_of_beq_eq_true h; simp [this]
  ·rename_i h
   rw [ih]
   constructor
   ·exact .inr
   ·rintro (h' | h')
    ·subst h'; simp at h
    ·exact h'
def okW : Option Nat → List Nat → Bool
 | none, _ => true
 | some l, T => match hasN T l with
  | true => false
  | false => true
theorem okW_spec {w : Option Nat} {T : List Nat} (h : okW w T = true) : ∀ l, w = some l → l ∉ T := by
 intro l hl hm
 subst hl
 simp only [okW] at h
 rw [hasN_mem.2 hm] at h
 cases h
def neW : Option Nat → Option Nat → Bool
 | some a, some b => match Nat.beq a b with
  | true => false
  | false => true
 | _, _ => true
theorem neW_spec {a b : Option Nat} (h : neW a b = true) : ∀ l, a = some l → b ≠ some l := by
 intro l hl hb
 subst hl hb
 simp [neW] at h
def chk1 (pre T : List Nat) (w : Option Nat) (vr : List Nat) (f : Ft) : Bool :=
 match hasN pre f.i with
 | true => true
 | false => match okW f.w T with
  | false => false
  | true => match okW w f.T with
   | false => false
   | true => match neW f.w w with
    | false => false
    | true => match f.al with
     | true => okW f.w vr
     | false => true
def chkF (pre T : List Nat) (w : Option Nat) (vr : List Nat) : List Ft → Bool
 | [] => true
 | f :: r => match chk1 pre T w vr f with
  | true => chkF pre T w vr r
  | false => false
theorem chkF_get {pre T : List Nat} {w : Option Nat} {vr : List Nat} : ∀ {F : List Ft}, chkF pre T w vr F = true → ∀ f ∈ F, chk1 pre T w vr f = true
 | [], _, f, hf => by cases hf
 |g :: r, h, f, hf => by
  simp only [chkF] at h
  split at h
  ·rename_i hg
   rcases List.mem_cons.1 hf with rfl | hf
   ·exact hg
   ·exact chkF_get h f hf
  ·cases h
theorem chk1_spec {pre T : List Nat} {w : Option Nat} {vr : List Nat} {f : Ft} (h : chk1 pre T w vr f = true) : f.i ∈ pre ∨ ((∀ l, f.w = some l → l ∉ T ∧ w ≠ some l) ∧ (∀ l, w = some l → l ∉ f.T) ∧ (f.al = true → ∀ l, f.w = some l → l ∉ vr)) := by
 simp only [chk1] at h
 split at h
 ·rename_i hp; exact .inl (hasN_mem.1 hp)
 ·split at h
  ·cases h
  ·rename_i h1
   split at h
   ·cases h
   ·rename_i h2
    split at h
    ·cases h
    ·rename_i h3
     refine .inr ⟨fun l hl => ⟨okW_spec h1 l hl, neW_spec h3 l hl⟩, okW_spec h2, fun ha l hl => ?_⟩
     rw [ha] at h
     exact okW_spec h l hl
def NewS (P : Program) (h : Hp) (f : Nat) (args : List AV) (fF : Nat → AV) (k : Blk) : Prop := ∀ h', (∀ x ∈ args, agreeA h h' x) → FnS P f args h' fun r h'' => r = fF h'.length ∧ h'' = h' ++ [k]
inductive CallG (P : Program) (pre : List Nat) (i : Nat) (F : List Ft) (L : Lv) (h : Hp) (f : Nat) (xs : List X) (T : List Nat) (K : List Ft → Lv → AV → Hp → Prop) : Prop
 | old (hc : CallS P 0 true L h f xs fun L' v h' => match chkF pre T none (rfA v) F with
   | true => K (F ++ [⟨i, T, none, false⟩]) L' v h'
   | false => False)
 | nw (fF : Nat → AV) (b : Blk) (ha : AlF fF) (hb : rfB b = []) (hn : NewS P h f (evsN L xs) fF b) (hc : chkF pre T (some h.length) (rfA (fF h.length)) F = true) (k : K (F ++ [⟨i, T, some h.length, true⟩]) L (fF h.length) (h ++ [b]))
def vcG (P : Program) (Λ : Len) (m : Nat) (pre : List Nat) (i : Nat) (F : List Ft) (o : AO) (L : Lv) (h : Hp) (K : List Ft → Lv → AV → Hp → Prop) : Prop :=
 match o.op with
 | .call f xs => CallG P pre i F L h f xs (tOf (lkN L) h (.call f xs)) K
 | _ => match wtOf (lkN L) h.length o.op with
 | some (w, al) => vcOp P Λ 0 true o.op L h fun L' v h' => match chkF pre (tOf (lkN L) h o.op) w (rfA v) F with
  | true => K (F ++ [⟨i, tOf (lkN L) h o.op, w, al⟩]) L' v h'
  | false => False
 | none => False
def getP : List (List Nat) → Nat → List Nat
 | [], _ => []
 | x :: _, 0 => x
 | _ :: r, n + 1 => getP r n
def vcF3 (P : Program) (Λ : Len) (m : Nat) (pre : List (List Nat)) : Nat → List Ft → List AO → Lv → Hp → (Lv → Hp → Prop) → Prop
 | _, _, [], L, h, K => K L h
 | i, F, o :: r, L, h, K => match o.g with
  | none => vcG P Λ m (getP pre i) i F o L h fun F' L' v h' => vcF3 P Λ m pre (i + 1) F' r (putL L' o.dst v) h' K
  | some (s, want) => match lkN L s with
   | .c (.d (.bool b)) => (match b, want with
    | true, true => vcG P Λ m (getP pre i) i F o L h fun F' L' v h' => vcF3 P Λ m pre (i + 1) F' r (putL L' o.dst v) h' K
    | false, false => vcG P Λ m (getP pre i) i F o L h fun F' L' v h' => vcF3 P Λ m pre (i + 1) F' r (putL L' o.dst v) h' K
    | true, false => vcF3 P Λ m pre (i + 1) F r (putL L o.dst (.tup [])) h K
    | false, true => vcF3 P Λ m pre (i + 1) F r (putL L o.dst (.tup [])) h K)
   | .tup [] => vcF3 P Λ m pre (i + 1) F r (putL L o.dst (.tup [])) h K
   | _ => False
theorem vcF3_cons {P : Program} {Λ : Len} {m : Nat} {pre : List (List Nat)} {i : Nat} {F : List Ft} {o : AO} {r : List AO} {L : Lv} {h : Hp} {K : Lv → Hp → Prop} (hv : vcF3 P Λ m pre i F (o :: r) L h K) :
  (gv (lkL L) o.g = some true ∧ vcG P Λ m (getP pre i) i F o L h fun F' L' v h' => vcF3 P Λ m pre (i + 1) F' r (putL L' o.dst v) h' K) ∨ (gv (lkL L) o.g = some false ∧ vcF3 P Λ m pre (i + 1) F r (putL L o.dst (.tup [])) h K) := by
 simp only [vcF3] at hv
 split at hv
 ·rename_i hg; exact .inl ⟨by simp [hg, gv], hv⟩
 ·rename_i s want hg
  split at hv
  ·rename_i b hb
   rw [lkN_eq] at hb
   have hgv : gv (lkL L) o.g = some (b == want) := by simp [hg, gv, lk, hb]
   split at hv
   ·exact .inl ⟨hgv, hv⟩
   ·exact .inl ⟨hgv, hv⟩
   ·exact .inr ⟨hgv, hv⟩
   ·exact .inr ⟨hgv, hv⟩
  ·rename_i hb
   rw [lkN_eq] at hb
   exact .inr ⟨by simp [hg, gv, lk, hb], hv⟩
  ·exact hv.elim
def runF (P : Program) (m : Nat) (pre : List (List Nat)) : Nat → List Ft → List AO → Lv → Hp → (Lv → Hp → Prop) → Prop
 | _, _, [], L, h, K => K L h
 | i, F, o :: r, L, h, K => (gv (lkL L) o.g = some true ∧ ∃ w al, wtOf (lkL L) h.length o.op = some (w, al) ∧ Did P 0 true o.op L h fun L' v h' => chkF (getP pre i) (tOf (lkL L) h o.op) w (rfA v) F = true ∧
   runF P m pre (i + 1) (F ++ [⟨i, tOf (lkL L) h o.op, w, al⟩]) r (putL L' o.dst v) h' K) ∨ (gv (lkL L) o.g = some true ∧ ∃ f xs fF b, o.op = .call f xs ∧ AlF fF ∧ rfB b = [] ∧ NewS P h f (evs (lkL L) xs) fF b ∧ chkF (getP pre i) (tOf (lkL L) h o.op) (some h.length) (rfA (fF h.length)) F = true ∧
   runF P m pre (i + 1) (F ++ [⟨i, tOf (lkL L) h o.op, some h.length, true⟩]) r (putL L o.dst (fF h.length)) (h ++ [b]) K) ∨ (gv (lkL L) o.g = some false ∧ runF P m pre (i + 1) F r (putL L o.dst (.tup [])) h K)
theorem vcF3_runF {P : Program} {Λ : Len} (hΛ : ∀ l, Λ l = (l.length : Int)) {m : Nat} {pre : List (List Nat)} {K : Lv → Hp → Prop} : ∀ {ops : List AO} {i : Nat} {F : List Ft} {L : Lv} {h : Hp}, vcF3 P Λ m pre i F ops L h K → runF P m pre i F ops L h K := by
 intro ops
 induction ops with
 | nil => intro i F L h hv; exact hv
 | cons o r ih =>
  intro i F L h hv
  have eN : lkN L = lkL L := funext fun n => lkN_eq L n
  rcases vcF3_cons hv with ⟨h1, h2⟩ | ⟨h1, h2⟩
  ·unfold vcG at h2
   rw [eN] at h2
   split at h2
   ·rename_i f xs hop
    cases h2 with
    | old hc =>
     refine .inl ⟨h1, none, false, by rw [hop]; rfl, .call f xs hop (hc.mono fun L' v h' hk => ?_)⟩
     split at hk
     ·rename_i hc; exact ⟨by rw [hop]; exact hc, by rw [hop]; exact ih hk⟩
     ·exact hk.elim
    | nw fF b ha hb hn hc hk =>
     rw [evsN_eq] at hn
     exact .inr (.inl ⟨h1, f, xs, fF, b, hop, ha, hb, hn, by rw [hop]; exact hc, by rw [hop]; exact ih hk⟩)
   ·split at h2
    ·rename_i w al hw
     refine .inl ⟨h1, w, al, hw, (vcOp_sound hΛ h2).mono fun L' v h' hk => ?_⟩
     split at hk
     ·rename_i hc; exact ⟨hc, ih hk⟩
     ·exact hk.elim
    ·exact h2.elim
  ·exact .inr (.inr ⟨h1, ih h2⟩)
theorem runF.mono {P : Program} {m : Nat} {pre : List (List Nat)} {K K' : Lv → Hp → Prop} (hK : ∀ L h, K L h → K' L h) : ∀ {ops : List AO} {i : Nat} {F : List Ft} {L : Lv} {h : Hp}, runF P m pre i F ops L h K → runF P m pre i F ops L h K' := by
 intro ops
 induction ops with
 | nil => intro i F L h hr; exact hK _ _ hr
 | cons o r ih =>
  intro i F L h hr
  rcases hr with ⟨h1, w, al, h2, h3⟩ | ⟨h1, f, xs, fF, b, c1, c2, c3, c4, c5, c6⟩ | ⟨h1, h2⟩
  ·exact .inl ⟨h1, w, al, h2, h3.mono fun L' v h' hr => ⟨hr.1, ih hr.2⟩⟩
  ·exact .inr (.inl ⟨h1, f, xs, fF, b, c1, c2, c3, c4, c5, ih c6⟩)
  ·exact .inr (.inr ⟨h1, ih h2⟩)
def FOk (ops : Array Oper) (f : Ft) (q : Tr) (i : Nat) : Prop :=
 bitM ops i f.i = true ∨ ((∀ l, f.w = some l → l ∉ q.T ∧ q.t.tgt ≠ some l) ∧ (∀ l, q.t.tgt = some l → l ∉ f.T) ∧ (f.al = true → ∀ l, f.w = some l → l ∉ rfA q.v ∧ l ∉ q.t.rf))
theorem RunT.congr {P : Program} {aops : List AO} {tr tr' : Nat → Tr} : ∀ {l : List Nat} {e : Env} {h : Hp} {e' : Env} {h' : Hp}, (∀ i ∈ l, tr i = tr' i) → RunT P aops tr l e h e' h' → RunT P aops tr' l e h e' h'
 | [], _, _, _, _, _, hr => hr
 | i :: r, _, _, _, _, hc, ⟨o, e1, h1, ho, hs, hr⟩ => ⟨o, e1, h1, ho, by rw [← hc i (by simp)]; exact hs, hr.congr fun j hj => hc j (by simp [hj])⟩
section
variable {P : Program} {ro : Option Nat} {N : Nat} {G0 : Nat → Prop} {ι0 : Io} {h0 : Hp} {w0 : World}
theorem step_val {ops : Array Oper} {o : Oper} {ao : AO} {e : Env} {h h' : Hp} {v : AV} {a : Act} {w : World} (hc : compO P ops N o = some ao)
  (hs : astep e h ao.op = some (v, h') ∨ (∃ f xs, ao.op = .call f xs ∧ PureR P h f (evs e xs) v ∧ h' = h)) (hf : Fits N G0 ι0 h0 w0 e h a w) : (∃ a' w', Fits N G0 ι0 h0 w0 (putE e ao.dst v) h' a' w') ∧ ∀ l ∈ rfA v, l < h'.length := by
 obtain ⟨G, ι, st⟩ := hf
 obtain ⟨hd, hdN, hop, hg⟩ := compO_dst hc
 rcases hs with hs | ⟨f, xs, h1, h2, rfl⟩
 ·rw [hop] at hs
  obtain ⟨v', w', G', ι', _, k1, k2, k3⟩ := op_sound st.rel hs
  rw [hd]; exact ⟨⟨_, w', G', ι', st.step hdN k1 k2 k3⟩, k2.lt⟩
 ·rw [hop] at h1
  obtain ⟨c, hoo⟩ := compOp_call h1
  obtain ⟨_, q2⟩ := call_exec (a := a) (w := w) hoo h1
  obtain ⟨t1, t2⟩ := args_sound st.rel q2
  obtain ⟨fn, hfn⟩ := compOp_fn hoo h1
  obtain ⟨en, w', fr, ⟨v', r, G', ι', h', k0, k1, k2, k3, k4⟩, _⟩ := ((h2.fn).out G ι w _ st.rel.hr ⟨t1, t2⟩).calls hfn []
  obtain ⟨rfl, rfl⟩ := k1
  rw [hd]; exact ⟨⟨_, w', G', ι', st.step hdN k2 k3 k4⟩, k3.lt⟩
theorem skip_fits {ops : Array Oper} {o : Oper} {ao : AO} {e : Env} {h : Hp} {a : Act} {w : World} (hc : compO P ops N o = some ao) (hf : Fits N G0 ι0 h0 w0 e h a w) : ∃ a' w', Fits N G0 ι0 h0 w0 (putE e ao.dst (.tup [])) h a' w' := by
 obtain ⟨G, ι, st⟩ := hf
 obtain ⟨hd, hdN, hop, hg⟩ := compO_dst hc
 rw [hd]; exact ⟨_, w, G, ι, st.step (v := undef) hdN st.rel.hr (.tup #[] [] rfl (by simp)) (Ext.refl _ _ _ _)⟩
theorem gv_congr {o : AO} {e e' : Env} (he : ∀ n ∈ slotsOf o, e' n = e n) : gv e' o.g = gv e o.g := by
 cases hgo : o.g with
 | none => rfl
 | some p =>
  obtain ⟨s, q⟩ := p
  have : e' s = e s := he s (by simp [slotsOf, hgo])
  simp only [gv, lk, this]
theorem ev_congr {o : AO} {e e' : Env} (he : ∀ n ∈ slotsOf o, e' n = e n) : ∀ x ∈ xsOf o.op, ev e' x = ev e x :=
 fun x hx => ev_of_slots fun n hn => he n (by simp only [slotsOf, List.mem_append, List.mem_flatMap]; exact .inr ⟨x, hx, hn⟩)
theorem dead_set {h : Hp} {k : Blk} {m : Nat} : (h ++ List.replicate (m + 1) Blk.dead).set h.length k = (h ++ [k]) ++ List.replicate m Blk.dead := by
 rw [List.set_append_right _ _ (Nat.le_refl _), Nat.sub_self, List.replicate_succ]
 simp
def constRf (o : AO) : Bool := (xsOf o.op).all fun
 | .k v => (rfA v).isEmpty
 | .t _ => true
theorem runF_seg {m : Nat} {ops : Array Oper} {aops : List AO} {pre : List (List Nat)} (hcomp : compOs P ops N ops.toList = some aops) (hpre : ∀ i j, j ∈ getP pre i → bitM ops i j = true) (hcon : aops.all constRf = true) :
  ∀ (aos : List AO) (k : Nat) (F : List Ft) (L : Lv) (h : Hp) (K : Lv → Hp → Prop), (∀ i, i < aos.length → aos[i]? = aops[k + i]?) → runF P m pre k F aos L h K → (∃ a w, Fits N G0 ι0 h0 w0 (lkL L) h a w) →
  ∃ mm tr L' h', RunT P aops tr (List.range' k aos.length) (lkL L) (h ++ List.replicate mm .dead) (lkL L') h' ∧ K L' h' ∧ (∀ i ∈ List.range' k aos.length, ∀ f ∈ F, FOk ops f (tr i) i) ∧
   (∀ i ∈ List.range' k aos.length, ∀ l b, (tr i).t = .al l b → h.length ≤ l ∧ l < h.length + mm ∧ ∀ x ∈ rfB b, x < l) ∧ TC ops tr (List.range' k aos.length) := by
 intro aos
 induction aos with
 | nil =>
  intro k F L h K _ hv _
  refine ⟨0, fun _ => ⟨.tup [], .no, []⟩, L, h, ⟨rfl, by simp⟩, hv, by simp, by simp, ⟨by simp, by simp⟩⟩
 | cons o aos ih =>
  intro k F L h K hk hv hfit
  have hok : aops[k]? = some o := by have := hk 0 (by simp); simpa using this.symm
  obtain ⟨oo, hoo⟩ : ∃ oo, ops.toList[k]? = some oo := ⟨_, List.getElem?_eq_getElem (by have := get_lt hok; have := (compOs_get hcomp).1; omega)⟩
  have hao := (compOs_get hcomp).2 k oo o hoo hok
  have hk' : ∀ i, i < aos.length → aos[i]? = aops[k + 1 + i]? := fun i hi => by
   have := hk (i + 1) (by simp; omega); simp only [List.getElem?_cons_succ] at this; rw [this]; congr 1; omega
  obtain ⟨a, w, hf⟩ := hfit
  have hlt : ∀ l ∈ tOf (lkL L) h o.op, l < h.length := by
   intro l hl
   obtain ⟨G, ι, st⟩ := hf
   rcases List.mem_append.1 hl with hl | hl
   ·obtain ⟨x, hx, hxl⟩ := List.mem_flatMap.1 hl
    cases x with
    | t n => exact (st.rel.env n).lt l hxl
    | k v =>
     rw [List.all_eq_true] at hcon
     have hc := hcon o (List.mem_of_getElem? hok)
     simp only [constRf, List.all_eq_true] at hc
     have := hc _ hx
     simp only [List.isEmpty_iff] at this
     simp only [ev, this] at hxl
     cases hxl
   ·split at hl
    ·split at hl
     ·split at hl
      ·rename_i kb hkb; exact (st.rel.hr.blk _ kb hkb).lt l hl
      ·cases hl
     ·cases hl
    ·split at hl
     ·exact amHd_lt hl
     ·cases hl
    ·cases hl
  -- what is put together
  have fin : ∀ (q : Tr) (h1 : Hp) (F' : List Ft) (mm mm' : Nat) (L1 : Lv), (∀ i, lkL L1 i = putE (lkL L) o.dst q.v i) → S3 P o q (lkL L) (h ++ List.replicate mm .dead) (putE (lkL L) o.dst q.v) (h1 ++ List.replicate mm' .dead) →
    (h1.length + mm' = h.length + mm) → h.length ≤ h1.length → (∀ f ∈ F, FOk ops f q k) → (∀ l b, q.t = .al l b → h.length ≤ l ∧ l < h1.length ∧ (⟨k, q.T, some l, true⟩ : Ft) ∈ F' ∧ ∀ x ∈ rfB b, x < l) → (∀ l ∈ rfA q.v, l < h1.length) → (∀ l ∈ q.t.rf, l < h1.length) → (∀ f ∈ F, f ∈ F') →
    (∃ f ∈ F', f.i = k ∧ f.w = q.t.tgt ∧ f.T = q.T) ∨ (q.t = .no ∧ q.T = []) →
    (∃ tr L' h', RunT P aops tr (List.range' (k + 1) aos.length) (lkL L1) (h1 ++ List.replicate mm' .dead) (lkL L') h' ∧ K L' h' ∧ (∀ i ∈ List.range' (k + 1) aos.length, ∀ f ∈ F', FOk ops f (tr i) i) ∧
     (∀ i ∈ List.range' (k + 1) aos.length, ∀ l b, (tr i).t = .al l b → h1.length ≤ l ∧ l < h1.length + mm' ∧ ∀ x ∈ rfB b, x < l) ∧ TC ops tr (List.range' (k + 1) aos.length)) →
    ∃ mm tr L' h', RunT P aops tr (List.range' k (o :: aos).length) (lkL L) (h ++ List.replicate mm .dead) (lkL L') h' ∧ K L' h' ∧ (∀ i ∈ List.range' k (o :: aos).length, ∀ f ∈ F, FOk ops f (tr i) i) ∧
     (∀ i ∈ List.range' k (o :: aos).length, ∀ l b, (tr i).t = .al l b → h.length ≤ l ∧ l < h.length + mm ∧ ∀ x ∈ rfB b, x < l) ∧ TC ops tr (List.range' k (o :: aos).length) := by
   intro q h1 F' mm mm' L1 hL hS hlen hle hF hal hv1 hrf hsub hrec ⟨tr, L', h', r1, r2, r3, r4, r5⟩
   have hrange : List.range' k (o :: aos).length = k :: List.range' (k + 1) aos.length := by simp [List.range'_succ]
   rw [hrange]
   have hgt : ∀ i ∈ List.range' (k + 1) aos.length, k < i := fun i hi => by have := List.mem_range'_1.1 hi; omega
   have htr : ∀ i ∈ List.range' (k + 1) aos.length, (if i = k then q else tr i) = tr i := fun i hi => by rw [if_neg (by have := hgt i hi; omega)]
   refine ⟨mm, fun i => if i = k then q else tr i, L', h', ?_, r2, ?_, ?_, ?_, ?_⟩
   ·refine ⟨o, _, _, hok, by simp only [if_true]; exact hS, ?_⟩
    rw [show putE (lkL L) o.dst q.v = lkL L1 from (funext hL).symm]
    exact r1.congr fun i hi => (htr i hi).symm
   ·intro i hi f hf
    rcases List.mem_cons.1 hi with rfl | hi
    ·simp only [if_true]; exact hF f hf
    ·simp only [htr i hi]; exact r3 i hi f (hsub f hf)
   ·intro i hi l b hq
    rcases List.mem_cons.1 hi with rfl | hi
    ·simp only [if_true] at hq
     obtain ⟨g1, g2, _, g4⟩ := hal l b hq
     exact ⟨g1, by omega, g4⟩
    ·simp only [htr i hi] at hq
     obtain ⟨g1, g2, g3⟩ := r4 i hi l b hq
     exact ⟨by omega, by omega, g3⟩
   ·intro i hi j hj hji hb
    rcases List.mem_cons.1 hi with rfl | hi
    ·rcases List.mem_cons.1 hj with rfl | hj
     ·omega
     ·have := hgt j hj; omega
    ·simp only [htr i hi]
     rcases List.mem_cons.1 hj with rfl | hj
     ·simp only [if_true]
      rcases hrec with ⟨f, hf', f1, f2, f3⟩ | ⟨f1, f2⟩
      ·rcases r3 i hi f hf' with h | ⟨h1, h2, _⟩
       ·rw [f1, hb] at h; cases h
       ·exact ⟨fun l hl => h1 l (by rw [f2]; exact hl), fun l hl => by rw [← f3]; exact h2 l hl⟩
      ·exact ⟨(fun l hl => by rw [f1] at hl; cases hl), fun l _ => by rw [f2]; simp⟩
     ·simp only [htr j hj]; exact r5.dis i hi j hj hji hb
   ·intro i hi j hj hji hb l b hq
    rcases List.mem_cons.1 hj with rfl | hj
    ·simp only [if_true] at hq
     rcases List.mem_cons.1 hi with rfl | hi
     ·exact absurd rfl hji
     ·simp only [htr i hi]
      obtain ⟨_, _, g3, _⟩ := hal l b hq
      rcases r3 i hi _ g3 with h | ⟨_, _, h3⟩
      ·simp only at h; rw [hb] at h; cases h
      ·exact h3 rfl l rfl
    ·simp only [htr j hj] at hq
     rcases List.mem_cons.1 hi with rfl | hi
     ·simp only [if_true]
      have := (r4 j hj l b hq).1
      exact ⟨fun h => by have := hv1 l h; omega, fun h => by have := hrf l h; omega⟩
     ·simp only [htr i hi]; exact r5.new i hi j hj hji hb l b hq
  have rec1 : ∀ (w : Option Nat) (v : AV) (q : Tr) (h1 : Hp) (L1 : Lv), q.v = v → q.T = tOf (lkL L) h o.op → q.t.tgt = w → (∀ l ∈ q.t.rf, l ∈ q.T) → chkF (getP pre k) (tOf (lkL L) h o.op) w (rfA v) F = true → ∀ f ∈ F, FOk ops f q k := by
   intro w v q h1 L1 e1 e2 e3 e4 hchk f hf'
   rcases chk1_spec (chkF_get hchk f hf') with h | ⟨c1, c2, c3⟩
   ·exact .inl (hpre k f.i h)
   ·refine .inr ⟨fun l hl => ⟨by rw [e2]; exact (c1 l hl).1, by rw [e3]; exact (c1 l hl).2⟩, fun l hl => c2 l (by rw [← e3]; exact hl), fun ha l hl => ⟨by rw [e1]; exact c3 ha l hl, fun hm => (c1 l hl).1 (by rw [← e2]; exact e4 l hm)⟩⟩
  rcases hv with ⟨hgv, w, al, hw, hv⟩ | ⟨hgv, fc, xs, fF, bk, ho, hfo, hbk, hns, hchk, hk1⟩ | ⟨hgv, hv⟩
  ··
    have rec1 := rec1 w
    cases hv with
    | wk hd => cases hd
    | step v h1 hs hcl hk1 =>
     ·obtain ⟨hchk, hk1⟩ := hk1
      obtain ⟨hfit1, hvl⟩ := step_val hao (.inl hs) hf
      obtain ⟨mm', tr, L', h', r1, r2, r3, r4, r5⟩ := ih (k + 1) _ (putL L o.dst v) h1 K hk' hk1 (by rw [putL_eq]; exact hfit1)
      have hst : ∀ (e' : Env) (hx : ∀ n ∈ slotsOf o, e' n = lkL L n) (h2 : Hp), astep e' h2 o.op = astep (lkL L) h2 o.op := fun e' hx h2 => astep_congr (ev_congr hx)
      cases w with
      | none =>
       obtain ⟨he, hall⟩ := no_alike hw hs
       obtain rfl : h = h1 := he.symm
       refine fin ⟨v, .no, tOf (lkL L) h o.op⟩ h _ mm' mm' (putL L o.dst v) (fun i => by rw [putL_eq]) ⟨fun e' h2 hx hh => .inr ⟨by rw [gv_congr hx]; exact hgv, .inl ?_⟩, rfl, rfl, fun l k hq => by cases hq⟩ rfl (Nat.le_refl _)
        (rec1 v _ h L rfl rfl rfl (fun l hl => by cases hl) hchk) (fun l b hq => by cases hq) hvl (fun l hl => by cases hl) (fun f hf => List.mem_append_left _ hf) (.inl ⟨_, List.mem_append_right _ (List.mem_singleton.2 rfl), rfl, rfl, rfl⟩) ⟨tr, L', h', r1, r2, r3, r4, r5⟩
       rw [hst e' hx h2]
       exact hall h2 fun l hl => by rw [hh l hl, List.getElem?_append_left (hlt l hl)]
      | some l =>
       cases al with
       | false =>
        obtain ⟨b, rfl, hb, hall⟩ := up_alike hw hs
        have hll : l < h.length := by
         rcases Nat.lt_or_ge l h.length with hx | hx
         ·exact hx
         ·exfalso
          have hmem : l ∈ tOf (lkL L) h o.op := by
           cases hop : o.op
           case app sz bytes z x y =>
            rw [hop] at hw
            simp only [wtOf] at hw
            split at hw
            ·rename_i l0 v0 i0 n0 hxv
             simp only [Option.some.injEq, Prod.mk.injEq, and_true] at hw
             subst hw
             exact List.mem_append_left _ (List.mem_flatMap.2 ⟨x, by simp [xsOf], by rw [hxv]; simp [rfA, rfC]⟩)
            ·simp at hw
            ·cases hw
           case st x y n =>
            rw [hop] at hw
            simp only [wtOf] at hw
            split at hw
            ·rename_i l0 v0 i0 n0 hxv
             simp only [Option.some.injEq, Prod.mk.injEq, and_true] at hw
             subst hw
             exact List.mem_append_left _ (List.mem_flatMap.2 ⟨x, by simp [xsOf], by rw [hxv]; simp [rfA, rfC]⟩)
            ·cases hw
           case mo oo xs => rw [hop] at hw; cases oo <;> simp [wtOf, cls] at hw
           all_goals (rw [hop] at hw; simp [wtOf, cls] at hw)
          have := hlt l hmem
          omega
        refine fin ⟨v, .up l b, tOf (lkL L) h o.op⟩ (h.set l b) _ mm' mm' (putL L o.dst v) (fun i => by rw [putL_eq]) ⟨fun e' h2 hx hh => .inr ⟨by rw [gv_congr hx]; exact hgv, ?_⟩, rfl, by simp only [Wt.ap]; rw [List.set_append_left _ _ hll], fun l k hq => by cases hq⟩ (by simp) (by simp)
         (rec1 v _ h L rfl rfl rfl (fun l hl => hb l hl) hchk) (fun l b hq => by cases hq) hvl (fun l hl => by have := hlt l (hb l hl); simp; omega) (fun f hf => List.mem_append_left _ hf) (.inl ⟨_, List.mem_append_right _ (List.mem_singleton.2 rfl), rfl, rfl, rfl⟩) ⟨tr, L', h', r1, r2, r3, r4, r5⟩
        show astep e' h2 o.op = some (v, h2.set l b)
        rw [hst e' hx h2]
        exact hall h2 fun l hl => by rw [hh l hl, List.getElem?_append_left (hlt l hl)]
       | true =>
        obtain ⟨rfl, f, b, hfo, rfl, rfl, hbr, hall⟩ := al_alike hw hs fun hc => hcl rfl hc
        have hbl : ∀ x ∈ rfB b, x < h.length := fun x hx => hlt x (hbr x hx)
        refine fin ⟨f h.length, .al h.length b, tOf (lkL L) h o.op⟩ (h ++ [b]) _ (mm' + 1) mm' (putL L o.dst (f h.length)) (fun i => by rw [putL_eq]) ⟨fun e' h2 hx hh => .inr ⟨by rw [gv_congr hx]; exact hgv, f, hfo, rfl, .inl ?_⟩, rfl, by simp only [Wt.ap]; rw [dead_set], fun l k hq => by cases hq; rw [List.getElem?_append_right (Nat.le_refl _)]; simp⟩ (by simp; omega) (by simp)
         (rec1 _ _ h L rfl rfl rfl (fun l hl => hbr l hl) hchk) (fun l c hq => by cases hq; exact ⟨Nat.le_refl _, by simp, List.mem_append_right _ (List.mem_singleton.2 rfl), hbl⟩) hvl (fun l hl => by have := hbl l hl; simp; omega) (fun f hf => List.mem_append_left _ hf) (.inl ⟨_, List.mem_append_right _ (List.mem_singleton.2 rfl), rfl, rfl, rfl⟩) ⟨tr, L', h', r1, r2, r3, r4, r5⟩
        rw [hst e' hx h2]
        exact hall h2 fun l hl => by rw [hh l hl, List.getElem?_append_left (hlt l hl)]
    | call f xs ho hc =>
     cases hc with
     | ro h0 => exact absurd h0 (Nat.lt_irrefl _)
     | pure hp hk1 =>
      rename_i r
      rw [evsN_eq] at hp
      ·obtain ⟨hchk, hk1⟩ := hk1
       have hw' : w = none := by rw [ho] at hw; simp only [wtOf, cls, Option.some.injEq, Prod.mk.injEq] at hw; exact hw.1.symm
       subst hw'
       obtain ⟨hfit1, hvl⟩ := step_val hao (.inr ⟨f, xs, ho, hp, rfl⟩) hf
       obtain ⟨mm', tr, L', h', r1, r2, r3, r4, r5⟩ := ih (k + 1) _ (putL L o.dst r) h K hk' hk1 (by rw [putL_eq]; exact hfit1)
       refine fin ⟨r, .no, tOf (lkL L) h o.op⟩ h _ mm' mm' (putL L o.dst r) (fun i => by rw [putL_eq]) ⟨fun e' h2 hx hh => .inr ⟨by rw [gv_congr hx]; exact hgv, .inr ⟨f, xs, ho, ?_⟩⟩, rfl, rfl, fun l k hq => by cases hq⟩ rfl (Nat.le_refl _)
        (rec1 r _ h L rfl rfl rfl (fun l hl => by cases hl) hchk) (fun l b hq => by cases hq) hvl (fun l hl => by cases hl) (fun f hf => List.mem_append_left _ hf) (.inl ⟨_, List.mem_append_right _ (List.mem_singleton.2 rfl), rfl, rfl, rfl⟩) ⟨tr, L', h', r1, r2, r3, r4, r5⟩
       have hev := ev_congr hx
       rw [ho] at hev hh
       rw [evs_congr (xs := xs) (e := e') (e' := lkL L) hev]
       refine hp.agree fun y hy => ?_
       obtain ⟨i, hi⟩ := List.mem_iff_getElem?.1 hy
       obtain ⟨x, hx1, rfl⟩ := (evs_get (e := lkL L) (xs := xs)).2 i y hi
       refine tOf_agree (h0 := h) (op := .call f xs) (fun l hl => ?_) x (List.mem_of_getElem? hx1)
       rw [hh l hl, List.getElem?_append_left (hlt l (by rw [ho]; exact hl))]
    | callv x xs b f caps ho hd => cases hd
    | yl x xs l ho hd => cases hd
    | ivk rows x xs b t caps g k pv rv ho hd => cases hd
    | ar K0 hd => cases hd
    | nil ne x nl sz l ho hd => cases hd
    | len x sz l ho hd => cases hd
    | lenA x l v i n ho hd => cases hd
  ·have rec1 := rec1 (some h.length)
   have hbl : ∀ x ∈ rfB bk, x < h.length := fun x hx => by rw [hbk] at hx; cases hx
   have hbr : ∀ x ∈ rfB bk, x ∈ tOf (lkL L) h o.op := fun x hx => by rw [hbk] at hx; cases hx
   have hfit1 : ∃ a' w', Fits N G0 ι0 h0 w0 (putE (lkL L) o.dst (fF h.length)) (h ++ [bk]) a' w' := by
    obtain ⟨G, ι, st⟩ := hf
    obtain ⟨hd, hdN, hop, hg⟩ := compO_dst hao
    rw [hop] at ho
    obtain ⟨c, hoo⟩ := compOp_call ho
    obtain ⟨_, q2⟩ := call_exec (a := a) (w := w) hoo ho
    obtain ⟨fd, hfd⟩ := compOp_fn hoo ho
    obtain ⟨t1, t2⟩ := args_sound st.rel q2
    obtain ⟨en, w', fr, ⟨v', r, G', ι', h', j0, j1, j2, j3, j4⟩, _⟩ := ((hns h fun x _ => agreeA_refl h x).out G ι w _ st.rel.hr ⟨t1, t2⟩).calls hfd []
    obtain ⟨rfl, rfl⟩ := j1
    rw [hd]; exact ⟨_, w', G', ι', st.step hdN j2 j3 j4⟩
   have hvl : ∀ l ∈ rfA (fF h.length), l < (h ++ [bk]).length := by
    intro l hl
    have : l = h.length := by
     rcases hfo with ⟨q, qv, rfl⟩ | rfl | rfl <;> simpa [rfA, rfC] using hl
    subst this; simp
   obtain ⟨mm', tr, L', h', r1, r2, r3, r4, r5⟩ := ih (k + 1) _ (putL L o.dst (fF h.length)) (h ++ [bk]) K hk' hk1 (by rw [putL_eq]; exact hfit1)
   refine fin ⟨fF h.length, .al h.length bk, tOf (lkL L) h o.op⟩ (h ++ [bk]) _ (mm' + 1) mm' (putL L o.dst (fF h.length)) (fun i => by rw [putL_eq]) ⟨fun e' h2 hx hh => .inr ⟨by rw [gv_congr hx]; exact hgv, fF, hfo, rfl, .inr ⟨fc, xs, ho, ?_⟩⟩, rfl, by simp only [Wt.ap]; rw [dead_set], fun l k hq => by cases hq; rw [List.getElem?_append_right (Nat.le_refl _)]; simp⟩ (by simp; omega) (by simp)
    (rec1 _ _ h L rfl rfl rfl (fun l hl => hbr l hl) hchk) (fun l c hq => by cases hq; exact ⟨Nat.le_refl _, by simp, List.mem_append_right _ (List.mem_singleton.2 rfl), hbl⟩) hvl (fun l hl => by have := hbl l hl; simp; omega) (fun f hf => List.mem_append_left _ hf) (.inl ⟨_, List.mem_append_right _ (List.mem_singleton.2 rfl), rfl, rfl, rfl⟩) ⟨tr, L', h', r1, r2, r3, r4, r5⟩
   have hev := ev_congr hx
   rw [ho] at hev hh
   rw [evs_congr (xs := xs) (e := e') (e' := lkL L) hev]
   refine hns h2 fun y hy => ?_
   obtain ⟨i, hi⟩ := List.mem_iff_getElem?.1 hy
   obtain ⟨x, hx1, rfl⟩ := (evs_get (e := lkL L) (xs := xs)).2 i y hi
   refine tOf_agree (h0 := h) (op := .call fc xs) (fun l hl => ?_) x (List.mem_of_getElem? hx1)
   rw [hh l hl, List.getElem?_append_left (hlt l (by rw [ho]; exact hl))]
  ·obtain ⟨mm', tr, L', h', r1, r2, r3, r4, r5⟩ := ih (k + 1) F (putL L o.dst (.tup [])) h K hk' hv (by rw [putL_eq]; exact skip_fits hao hf)
   exact fin ⟨.tup [], .no, []⟩ h F mm' mm' (putL L o.dst (.tup [])) (fun i => by rw [putL_eq]) ⟨fun e' h2 hx _ => .inl ⟨by rw [gv_congr hx]; exact hgv, rfl, rfl⟩, rfl, rfl, fun l k hq => by cases hq⟩ rfl (Nat.le_refl _)
    (fun f _ => .inr ⟨fun l _ => ⟨by simp, by simp [Wt.tgt]⟩, (fun l hl => by cases hl), fun _ l _ => ⟨by simp [rfA, rfA.rfAs], by simp [Wt.rf]⟩⟩) (fun l b hq => by cases hq) (fun l hl => by simp [rfA, rfA.rfAs] at hl) (fun l hl => by cases hl) (fun f hf => hf) (.inr ⟨rfl, rfl⟩) ⟨tr, L', h', r1, r2, r3, r4, r5⟩
theorem Fits.len0 {e : Env} {h : Hp} {a : Act} {w : World} (hf : Fits N G0 ι0 h0 w0 e h a w) : h0.length ≤ h.length := by
 obtain ⟨G, ι, st⟩ := hf
 rcases Nat.lt_or_ge h.length h0.length with hlt | hge
 ·obtain ⟨k', h1, _⟩ := st.ext.keep h.length _ (List.getElem?_eq_getElem hlt)
  have := get_lt h1
  omega
 ·exact hge
theorem runF_seg3 {m : Nat} {ops : Array Oper} {aops : List AO} {pre : List (List Nat)} (hcomp : compOs P ops N ops.toList = some aops) (hpre : ∀ i j, j ∈ getP pre i → bitM ops i j = true) (hcon : aops.all constRf = true)
  {aos : List AO} {k : Nat} {L : Lv} {h : Hp} {K : Lv → Hp → Prop} (hk : ∀ i, i < aos.length → aos[i]? = aops[k + i]?) (hv : runF P m pre k [] aos L h K) {a : Act} {w : World} (hf : Fits N G0 ι0 h0 w0 (lkL L) h a w) :
  Seg3 P h0.length ops aops (List.range' k aos.length) (lkL L) h fun e h => ∃ L', e = lkL L' ∧ K L' h := by
 obtain ⟨mm, tr, L', h', r1, r2, _, r4, r5⟩ := runF_seg hcomp hpre hcon aos k [] L h K hk hv ⟨a, w, hf⟩
 have hl0 := hf.len0
 obtain ⟨G, ι, st⟩ := hf
 refine ⟨mm, tr, _, h', r1, r5, fun i hi l b hq => ?_, L', rfl, r2⟩
 obtain ⟨g1, g2, g3⟩ := r4 i hi l b hq
 refine ⟨⟨fun n hm => ?_, fun j kb hj hm => ?_⟩, by omega, fun hm => by have := g3 l hm; omega, fun x hx => ?_⟩
 ·have := (st.rel.env n).lt l hm; omega
 ·rcases Nat.lt_or_ge j h.length with hjl | hjl
  ·rw [List.getElem?_append_left hjl] at hj
   have := (st.rel.hr.blk j kb hj).lt l hm
   omega
  ·rw [List.getElem?_append_right hjl] at hj
   have := List.mem_of_getElem? hj
   rw [List.mem_replicate] at this
   rw [this.2] at hm
   cases hm
 ·have := g3 x hx
  simp only [List.length_append, List.length_replicate]
  omega
end
end Go.Ab

/-
  The engine: regions whose order is drawn, with one call that changes memory: what may run on either side of it does not look at what it changes.
-/
namespace Go.Ab
def delC : Code → Bool
 | .region _ ops _ => ops.toList.any fun o => match o.op with
  | .call c => (match c.callee with
   | .builtin .delete => true
   | _ => false)
  | _ => false
 | .seq a b => delC a || delC b
 | .cond _ a b => delC a || delC b
 | .block _ c => delC c
 | .loop c => delC c
 | .scope c => delC c
 | _ => false
def selfR (f : Nat) (ops : List Oper) : Bool := (ops.any fun o => match o.op with
  | .call c => (match c.callee with
   | .value (.func g) => g == f
   | _ => false)
  | _ => false) && ops.any fun o => match o.op with
  | .store .. => true
  | _ => false
def selfC (f : Nat) : Code → Bool
 | .region _ ops _ => selfR f ops.toList
 | .seq a b => selfC f a || selfC f b
 | .cond _ a b => selfC f a || selfC f b
 | .block _ c => selfC f c
 | .loop c => selfC f c
 | .scope c => selfC f c
 | _ => false
def wrF (P : Program) (f : Nat) : Bool := match P.funcs[f]? with
 | some fn => (match fn.body with
  | some c => delC c
  | none => false)
 | none => false
def selfF (P : Program) (f : Nat) : Bool := match P.funcs[f]? with
 | some fn => (match fn.body with
  | some c => selfC f c
  | none => false)
 | none => false
def findW (P : Program) (bar : Nat → Bool) : Nat → List AO → Option Nat
 | _, [] => none
 | k, o :: r => match o.op, o.g with
  | .call f _, none => (match wrF P f && !bar k with
   | true => some k
   | false => findW P bar (k + 1) r)
  | _, _ => findW P bar (k + 1) r
def dstsOf (os : List AO) : List Nat := os.filterMap (·.dst)
def lateB (ds : List Nat) (o : AO) : Bool := hfree o.op || (match o.op with
 | .ld (.t s) _ => !ds.contains s
 | _ => false)
def lateS (o : AO) : List Nat := match o.op with
 | .ld (.t s) _ => [s]
 | _ => []
def lateB2 (o : AO) : Bool := hfree o.op || (match o.op with
 | .call .. => false
 | .callv .. => false
 | .ivk .. => false
 | .ld (.k _) _ => false
 | _ => constOk o)
def lateS2 (o : AO) : List Nat := match hfree o.op with
 | true => []
 | false => (xsOf o.op).flatMap slotX
def isLdO : AOp → Bool
 | .ld _ _ => true
 | _ => false
def lateT (o : AO) : List (Nat × Bool) := (lateS2 o).map fun s => (s, isLdO o.op)
def freeN (ms : List Nat) (b : Nat) : Nat → Nat → Nat
 | 0, _ => 0
 | n + 1, i => match (ms.getD i 0).testBit b with
  | true => 0
  | false => freeN ms b n (i + 1) + 1
def wrOk (ms : List Nat) (n b e2 : Nat) (aos : List AO) : Bool :=
 let es := aos.take b ++ (aos.drop (b + 1)).take e2
 (es.all fun o => cls o.op == 0) && ((List.range n).all fun i => decide (i < b + 1 + e2) || (ms.getD i 0).testBit b) && ((List.range b).all fun j => (ms.getD b 0).testBit j || (match aos[j]? with
  | some o => lateB (dstsOf es) o
  | none => false)) && ((List.range e2).all fun j => !(ms.getD (b + 1 + j) 0).testBit b && (match aos[b + 1 + j]? with
  | some o => lateB (dstsOf es) o
  | none => false)) && decide (b + 1 + e2 ≤ n)
section
variable {P : Program} {ro : Option Nat} {N : Nat} {G0 : Nat → Prop} {ι0 : Io} {h0 : Hp} {w0 : World}
theorem RunI.slot {aops : List AO} {n : Nat} : ∀ {l : List Nat} {e : Env} {h : Hp} {e' : Env} {h' : Hp}, (∀ j ∈ l, ∀ o, aops[j]? = some o → o.dst ≠ some n) → RunI P aops l e h e' h' → e' n = e n := by
 intro l
 induction l with
 | nil => intro e h e' h' _ hr; obtain ⟨rfl, rfl⟩ := hr; rfl
 | cons i l ih =>
  intro e h e' h' hd hr
  obtain ⟨o, e1, h1, ho, hs, hr⟩ := hr
  rw [ih (fun j hj => hd j (by simp [hj])) hr]
  obtain ⟨v, _, rfl⟩ := hs.1.eff
  exact putE_other (hd i (by simp) o ho)
theorem RunI.append {aops : List AO} {l2 : List Nat} {e2 : Env} {h2 : Hp} {e3 : Env} {h3 : Hp} : ∀ {l1 : List Nat} {e : Env} {h : Hp}, RunI P aops l1 e h e2 h2 → RunI P aops l2 e2 h2 e3 h3 → RunI P aops (l1 ++ l2) e h e3 h3 := by
 intro l1
 induction l1 with
 | nil => intro e h h1 h4; obtain ⟨rfl, rfl⟩ := h1; exact h4
 | cons i l1 ih =>
  intro e h h1 h4
  obtain ⟨o, e1, h1', ho, hs, hr⟩ := h1
  exact ⟨o, e1, h1', ho, hs, ih hr h4⟩
theorem RunI.late {aops : List AO} {d : Option Nat} {v : AV} {hx h2 : Hp} {eL : Env} {ds : List Nat} : ∀ {l : List Nat} {e : Env} {e' : Env}, (∀ j ∈ l, ∀ o, aops[j]? = some o → cls o.op = 0 ∧ (lateB ds o = true ∨ h2 = hx) ∧ (∀ x, d = some x → x ∉ slotsOf o) ∧ (∀ x, o.dst = some x → d ≠ some x) ∧
      ∀ s ∈ lateS o, s ∉ ds → agreeA hx h2 (eL s) ∧ ¬ isAdr (eL s)) → (∀ s, s ∉ ds → e s = eL s) → (∀ j ∈ l, ∀ o, aops[j]? = some o → ∀ x, o.dst = some x → x ∈ ds) → RunI P aops l e hx e' hx → RunI P aops l (putE e d v) h2 (putE e' d v) h2 := by
  intro l
  induction l with
  | nil => intro e e' _ _ _ hr; obtain ⟨rfl, _⟩ := hr; exact ⟨rfl, rfl⟩
  | cons i l ih =>
    intro e e' hl he hds hr
    obtain ⟨o, e1, h1, ho, hs, hr⟩ := hr
    obtain ⟨q1, q2, q3, q4, q5⟩ := hl i (by simp) o ho
    obtain ⟨va, ea, rfl⟩ := hs.1.eff
    have := ea.same q1
    subst this
    have ea2 : Eff P o e h2 va h2 := by
      rcases q2 with q2 | q2
      rotate_left
      · rw [q2]; exact ea
      simp only [lateB, Bool.or_eq_true] at q2
      rcases q2 with q2 | q2
      · exact (ea.hfree q2).2 h2
      · split at q2
        · rename_i s k hop
          have hsd : s ∉ ds := by simpa using q2
          have hag := q5 s (by simp [lateS, hop]) hsd
          rcases ea with ⟨h0, h1, _⟩ | ⟨h0, h1 | ⟨f, xs, h2', _⟩⟩
          · exact .inl ⟨h0, h1, rfl⟩
          · refine .inr ⟨h0, .inl (astep_agree q1 (fun x hx => ?_) (fun x n ho => ?_) h1).2⟩
            · rw [hop] at hx
              simp only [xsOf, List.mem_singleton] at hx
              subst hx
              show agreeA _ _ (e s)
              rw [he s hsd]; exact hag.1
            · rw [hop] at ho
              cases ho
              left
              show ¬ isAdr (e s)
              rw [he s hsd]; exact hag.2
          · rw [hop] at h2'; cases h2'
        · cases q2
    have ea3 : Eff P o (putE e d v) h2 va h2 := ea2.congr fun n hn => (putE_other fun hd => q3 n hd hn).symm
    have hc : putE (putE e d v) o.dst va = putE (putE e o.dst va) d v := putE_comm fun x hx hox => q4 x hox hx
    refine ⟨o, putE (putE e o.dst va) d v, h2, ho, ⟨by rw [← hc]; exact ea3.step, fun hc => by omega⟩, ih (fun j hj => hl j (by simp [hj])) (fun s hs => ?_) (fun j hj => hds j (by simp [hj])) hr⟩
    rw [putE_other fun hd => hs (hds i (by simp) o ho s hd)]
    exact he s hs
theorem RunI.late2 {aops : List AO} {d : Option Nat} {v : AV} {hx h2 : Hp} : ∀ {l : List Nat} {e : Env} {e' : Env}, (∀ j ∈ l, ∀ o, aops[j]? = some o → cls o.op = 0 ∧ (lateB2 o = true ∨ h2 = hx) ∧ (∀ x, d = some x → x ∉ slotsOf o) ∧ (∀ x, o.dst = some x → d ≠ some x) ∧
      ∀ s ∈ lateS2 o, agreeA hx h2 (e' s) ∧ (isLdO o.op = true → ¬ isAdr (e' s))) → l.Pairwise (· < ·) → (∀ i ∈ l, ∀ o, aops[i]? = some o → ∀ s ∈ lateS2 o, ∀ j ∈ l, i ≤ j → ∀ o', aops[j]? = some o' → o'.dst ≠ some s) → RunI P aops l e hx e' hx → RunI P aops l (putE e d v) h2 (putE e' d v) h2 := by
  intro l
  induction l with
  | nil => intro e e' _ _ _ hr; obtain ⟨rfl, _⟩ := hr; exact ⟨rfl, rfl⟩
  | cons i l ih =>
    intro e e' hl hsrt hord hr
    have hr0 := hr
    obtain ⟨o, e1, h1, ho, hs, hr⟩ := hr
    obtain ⟨q1, q2, q3, q4, q5⟩ := hl i (by simp) o ho
    obtain ⟨va, ea, rfl⟩ := hs.1.eff
    have := ea.same q1
    subst this
    have hsl : ∀ s ∈ lateS2 o, e' s = e s := fun s hs => RunI.slot (fun j hj o' ho' => hord i (by simp) o ho s hs j hj (by
      rcases List.mem_cons.1 hj with rfl | hj
      · exact Nat.le_refl _
      · exact Nat.le_of_lt ((List.pairwise_cons.1 hsrt).1 j hj)) o' ho') hr0
    have ea2 : Eff P o e h2 va h2 := by
      rcases q2 with q2 | q2
      rotate_left
      · rw [q2]; exact ea
      cases hh : hfree o.op with
      | true => exact (ea.hfree hh).2 h2
      | false =>
        simp only [lateB2, hh, Bool.false_or] at q2
        rcases ea with ⟨h0, h1, _⟩ | ⟨h0, h1 | ⟨f, xs, h2', _⟩⟩
        · exact .inl ⟨h0, h1, rfl⟩
        · have hk : constOk o = true := by
            split at q2
            · cases q2
            · cases q2
            · cases q2
            · cases q2
            · exact q2
          simp only [constOk, List.all_eq_true] at hk
          refine .inr ⟨h0, .inl (astep_agree q1 (fun x hx => ?_) (fun x n ho => ?_) h1).2⟩
          · cases x with
            | t s =>
              have hs : s ∈ lateS2 o := by
                simp only [lateS2, hh, List.mem_flatMap]
                exact ⟨_, hx, by simp [slotX]⟩
              show agreeA _ _ (e s)
              rw [← hsl s hs]; exact (q5 s hs).1
            | k v => exact flatA_agree (hk _ hx)
          · left
            cases x with
            | t s =>
              have hs : s ∈ lateS2 o := by
                simp only [lateS2, hh, List.mem_flatMap]
                exact ⟨.t s, by rw [ho]; simp [xsOf], by simp [slotX]⟩
              show ¬ isAdr (e s)
              rw [← hsl s hs]; exact (q5 s hs).2 (by rw [ho]; rfl)
            | k v => rw [ho] at q2; cases q2
        · rw [h2'] at q2; cases q2
    have ea3 : Eff P o (putE e d v) h2 va h2 := ea2.congr fun n hn => (putE_other fun hd => q3 n hd hn).symm
    have hc : putE (putE e d v) o.dst va = putE (putE e o.dst va) d v := putE_comm fun x hx hox => q4 x hox hx
    exact ⟨o, putE (putE e o.dst va) d v, h2, ho, ⟨by rw [← hc]; exact ea3.step, fun hc => by omega⟩, ih (fun j hj => hl j (by simp [hj])) (List.pairwise_cons.1 hsrt).2 (fun i2 hi2 o2 ho2 s hs j hj => hord i2 (by simp [hi2]) o2 ho2 s hs j (by simp [hj])) hr⟩
theorem region_wr {id : Nat} {ops : Array Oper} {aops : List AO} {Q : Exit → Act → World → Prop} {L L1 : Lv} {h : Hp} {a : Act} {w : World} {b e2 f : Nat} {xs : List X} {ob : AO} {R : AV → Hp → Prop} (hmo : P.follows .mixedOrders = true)
  (hcomp : compOs P ops N ops.toList = some aops) (hg : aops.all (gOk N) = true) (hk : aops.all constOk = true) (hd : drawOk ops.toList aops = true) (hf : Fits N G0 ι0 h0 w0 (lkL L) h a w)
  (hb : aops[b]? = some ob) (hop : ob.op = .call f xs) (hgn : ob.g = none) (hw : wrOk (masks ops.toList []) ops.size b e2 aops = true)
  (hE : RunI P aops (List.range' 0 b ++ List.range' (b + 1) e2) (lkL L) h (lkL L1) h) (hfn : FnS P f (evsN L1 xs) h R)
  (hR : ∀ r h2, R r h2 → (∀ o ∈ aops.take b ++ (aops.drop (b + 1)).take e2, ∀ s ∈ lateS o, s ∉ dstsOf (aops.take b ++ (aops.drop (b + 1)).take e2) → agreeA h h2 (lkL L1 s) ∧ ¬ isAdr (lkL L1 s)) ∧
   ∃ e3 h3, RunI P aops (List.range' (b + 1 + e2) (ops.size - (b + 1 + e2))) (lkL (putL L1 ob.dst r)) h2 e3 h3 ∧ ∀ a w, Fits N G0 ι0 h0 w0 e3 h3 a w → Q .normal a w) : (Code.region id ops true).wpIn (Fen ro) 0 P Q a w := by
 simp only [wrOk, Bool.and_eq_true, List.all_eq_true, List.mem_range, Bool.or_eq_true, decide_eq_true_eq, beq_iff_eq, Bool.not_eq_true'] at hw
 obtain ⟨⟨⟨⟨w1, w2⟩, w3⟩, w4⟩, w5⟩ := hw
 generalize hes : aops.take b ++ (aops.drop (b + 1)).take e2 = es at *
 have hd' : ∀ i o, ops.toList[i]? = some o → (∀ j ∈ direct o, j < i) ∧ ∀ j, j < i → ((masks ops.toList []).getD i 0).testBit j = true ∨ ∃ x y, aops[j]? = some x ∧ aops[i]? = some y ∧ compat x y = true := by
  intro i o ho
  have hd := hd
  simp only [drawOk, List.all_eq_true, List.mem_range, Bool.and_eq_true, Bool.or_eq_true] at hd
  obtain ⟨h1, h2⟩ := hd i (get_lt ho)
  rw [ho] at h1
  simp only [List.all_eq_true, decide_eq_true_eq] at h1
  refine ⟨h1, fun j hj => ?_⟩
  rcases h2 j hj with h3 | h3
  ·exact .inl h3
  ·right
   split at h3
   ·rename_i x y hx hy; exact ⟨x, y, hx, hy, h3⟩
   ·cases h3
 have hd1 : ∀ i o, ops.toList[i]? = some o → ∀ j ∈ direct o, j < i := fun i o ho => (hd' i o ho).1
 have hempty : ∀ listed rem, Rem ops listed rem → Region.ready .any ops listed = [] → rem = [] := by
  intro listed rem hr hready
  cases rem with
  | nil => rfl
  | cons i rem =>
   exfalso
   have hi := (hr.mem i).1 (by simp)
   have ho : ops.toList[i]? = some (ops.toList[i]'(by simpa using hi.1)) := List.getElem?_eq_getElem _
   have : i ∈ Region.ready .any ops listed := by
    rw [ready_mem]
    refine ⟨hi.1, hi.2, _, ho, fun m hm => ?_⟩
    have hmi := (hd' i _ ho).1 m hm
    have hnot : m ∉ i :: rem := by
     intro hmem
     simp only [List.mem_cons] at hmem
     rcases hmem with h | h
     ·omega
     ·have := (List.pairwise_cons.1 hr.sorted).1 m h; omega
    have hms : m < ops.size := by omega
    have : ¬ (listed.getD m true = false) := fun hf => hnot ((hr.mem m).2 ⟨hms, hf⟩)
    simp only [Array.getD_eq_getD_getElem?, Array.getElem?_eq_getElem (show m < listed.size by rw [hr.size]; exact hms), Option.getD_some] at this ⊢
    simpa using this
   rw [hready] at this
   cases this
 have hdone : ∀ listed rem i o j, Rem ops listed rem → Closed ops listed → ops.toList[i]? = some o → (∀ m ∈ direct o, listed.getD m false = true) → ((masks ops.toList []).getD i 0).testBit j = true → j ∈ rem → False := by
  intro listed rem i o j hr hc ho hdir hb hj
  have := before_listed hr.size hc i o j ho hdir hb
  have hj' := (hr.mem j).1 hj
  simp only [Array.getD_eq_getD_getElem?, Array.getElem?_eq_getElem (show j < listed.size by rw [hr.size]; exact hj'.1), Option.getD_some] at this hj'
  rw [this] at hj'; simp at hj'
 have hlen := (compOs_get hcomp).1
 have hmem : ∀ j o, (j < b ∨ (b + 1 ≤ j ∧ j < b + 1 + e2)) → aops[j]? = some o → o ∈ es := by
  intro j o hj ho
  rw [← hes]
  rcases hj with hj | hj
  ·exact List.mem_append_left _ (List.mem_of_getElem? (i := j) (by rw [List.getElem?_take_of_lt hj]; exact ho))
  ·refine List.mem_append_right _ (List.mem_of_getElem? (i := j - (b + 1)) ?_)
   rw [List.getElem?_take_of_lt (by omega), List.getElem?_drop, show b + 1 + (j - (b + 1)) = j by omega]; exact ho
 have claim : ∀ (fuel : Nat) (listed : Array Bool) (l1 l2 : List Nat) (e : Env) (a : Act) (w : World), Rem ops listed (l1 ++ b :: (l2 ++ List.range' (b + 1 + e2) (ops.size - (b + 1 + e2)))) → (l1 ++ b :: (l2 ++ List.range' (b + 1 + e2) (ops.size - (b + 1 + e2)))).length ≤ fuel → Closed ops listed →
   Fits N G0 ι0 h0 w0 e h a w → RunI P aops (l1 ++ l2) e h (lkL L1) h → (∀ j ∈ l1, j < b) → (∀ j ∈ l2, b + 1 ≤ j ∧ j < b + 1 + e2) → (∀ s, s ∉ dstsOf es → e s = lkL L1 s) → wpAnyIn (Fen ro) 0 P .any ops Q fuel listed a w := by
  intro fuel
  induction fuel with
  | zero => intro listed l1 l2 e a w _ hl; simp at hl
  | succ fuel ih =>
   intro listed l1 l2 e a w hr hl hc hf hrun hl1 hl2 hee
   refine ⟨fun hready => ?_, fun i hi => ?_⟩
   ·have := hempty listed _ hr hready
    simp at this
   ·rw [ready_mem] at hi
    obtain ⟨hin, hil, o, ho, hdir⟩ := hi
    have himem := (hr.mem i).2 ⟨hin, hil⟩
    have hoi : ops[i]? = some o := by simpa using ho
    have hpair := hr.sorted
    have hcl : ∀ j o, (j ∈ l1 ∨ j ∈ l2) → aops[j]? = some o → cls o.op = 0 ∧ o ∈ es := fun j o hj hoj => by
     have hm := hmem j o (hj.imp (hl1 j) (hl2 j)) hoj
     exact ⟨w1 o hm, hm⟩
    rcases List.mem_append.1 himem with hi1 | hi2
    ·-- ahead of the call
     obtain ⟨x1, x2, rfl⟩ := List.append_of_mem hi1
     have hx : ∀ j ∈ x1, j < i := fun j hj => by
      rw [List.append_assoc, List.pairwise_append] at hpair
      exact hpair.2.2 j hj i (by simp)
     have hcompat : ∀ j ∈ x1, ∀ x y, aops[j]? = some x → aops[i]? = some y → compat x y = true := by
      intro j hj x y hx' hy
      rcases (hd' i o ho).2 j (hx j hj) with hb' | ⟨x', y', hx'', hy', hcc⟩
      ·exact (hdone listed _ i o j hr hc ho hdir hb' (by simp [hj])).elim
      ·rw [hx'] at hx''; rw [hy] at hy'; cases hx''; cases hy'; exact hcc
     obtain ⟨ao, e1, h1, hao, hstep, hrest⟩ := front hcomp hk x1 i (x2 ++ l2) e h _ _ a w hf hcompat (by simpa using hrun)
     have hco := (compOs_get hcomp).2 i o ao ho hao
     have hgo := gOk_spec (N := N) (by rw [List.all_eq_true] at hg; exact hg ao (List.mem_of_getElem? hao))
     obtain ⟨hz, hes'⟩ := hcl i ao (.inl hi1) hao
     obtain ⟨va, ea, rfl⟩ := hstep.1.eff
     have := ea.same hz
     subst this
     have hr' : Rem ops listed (x1 ++ i :: (x2 ++ b :: (l2 ++ List.range' (b + 1 + e2) (ops.size - (b + 1 + e2))))) := by simpa using hr
     obtain ⟨hr2, hc2⟩ := rem_step hr' hc hin ho hdir hd1
     unfold wpOpIn
     simp only [hoi]
     exact step_sound hco hgo hstep.1 hf fun a' w' hf' => ih (listed.setIfInBounds i true) (x1 ++ x2) l2 _ a' w' (by simpa using hr2) (by simp at hl ⊢; omega) hc2 hf' (by simpa using hrest) (fun j hj => hl1 j (by simp at hj ⊢; rcases hj with h | h <;> simp [h])) hl2
      fun s hs => by rw [putE_other fun hd => hs (by simp only [dstsOf, List.mem_filterMap]; exact ⟨ao, hes', hd⟩)]; exact hee s hs
    ·rcases List.mem_cons.1 hi2 with rfl | hi3
     ·-- the call
      have hco := (compOs_get hcomp).2 i o ob ho hb
      obtain ⟨hdst, hdN, hopo, hgo⟩ := compO_dst hco
      have hcp : ∀ j ∈ l1 ++ l2, ∀ oj, aops[j]? = some oj → (∀ x, oj.dst = some x → x ∉ slotsOf ob ∧ ob.dst ≠ some x) ∧ (∀ x, ob.dst = some x → x ∉ slotsOf oj) ∧ lateB (dstsOf es) oj = true := by
       intro j hj oj hoj
       rcases List.mem_append.1 hj with hj | hj
       ·have hjb := hl1 j hj
        have hnb : ¬ ((masks ops.toList []).getD i 0).testBit j = true := fun hbit => hdone listed _ i o j hr hc ho hdir hbit (by simp [hj])
        rcases (hd' i o ho).2 j hjb with hb' | ⟨x', y', hx'', hy', hcc⟩
        ·exact (hnb hb').elim
        ·rw [hoj] at hx''; rw [hb] at hy'; cases hx''; cases hy'
         obtain ⟨c1, c2, _⟩ := compat_spec hcc
         refine ⟨c1, c2, ?_⟩
         rcases w3 j hjb with h | h
         ·exact (hnb h).elim
         ·rw [hoj] at h; exact h
       ·have hjb := hl2 j hj
        have hjn : j < ops.toList.length := by simp; omega
        have hoj' : ops.toList[j]? = some (ops.toList[j]'hjn) := List.getElem?_eq_getElem _
        obtain ⟨w4a, w4b⟩ := w4 (j - (i + 1)) (by omega)
        rw [show i + 1 + (j - (i + 1)) = j by omega] at w4a w4b
        rcases (hd' j _ hoj').2 i (by omega) with hb' | ⟨x', y', hx'', hy', hcc⟩
        ·rw [hb'] at w4a; cases w4a
        ·rw [hb] at hx''; rw [hoj] at hy'; cases hx''; cases hy'
         obtain ⟨c1, c2, _⟩ := compat_spec hcc
         refine ⟨fun x hx => ⟨c2 x hx, fun hx' => (c1 x hx').2 hx⟩, fun x hx => (c1 x hx).1, ?_⟩
         rw [hoj] at w4b; exact w4b
      have hargs : evs e xs = evs (lkL L1) xs := by
       refine evs_congr fun x hx => ev_of_slots fun n hn => ?_
       refine (RunI.slot (fun j hj oj hoj hd => ?_) hrun).symm
       have := (hcp j hj oj hoj).1 n hd
       refine this.1 ?_
       simp only [slotsOf, List.mem_append, List.mem_flatMap]
       exact .inr ⟨x, by rw [hop]; exact hx, hn⟩
      rw [hop] at hopo
      obtain ⟨c, hoo⟩ := compOp_call hopo.symm
      have hf0 := hf
      obtain ⟨G, ι, st⟩ := hf
      obtain ⟨q1, q2⟩ := call_exec (a := a) (w := w) hoo hopo.symm
      have ha2 : c.args.map a.eval = (c.args.toList.map a.eval).toArray := by apply Array.ext'; simp
      rw [ha2] at q1
      rw [evsN_eq, ← hargs] at hfn
      obtain ⟨hr2, hc2⟩ := rem_step hr hc hin ho hdir hd1
      have hgv : gv e ob.g = some true := by rw [hgn]; rfl
      unfold wpOpIn
      simp only [hoi]
      rw [gv_wanted st.rel hgo hgv (fun s q hsq => by rw [hgn] at hsq; cases hsq)]
      simp only [if_true]
      refine fn_enter st (fun c' hc' => by rw [hoo] at hc'; cases hc') (compOp_fn hoo hopo.symm).choose_spec hdN hfn (args_sound st.rel q2) q1 fun v h' a' w' hk' hf' => ?_
      obtain ⟨hl', e3, h3, hr3, hq⟩ := hR v h' hk'
      rw [← hdst] at hf'
      have hlate : RunI P aops (l1 ++ l2) (putE e ob.dst v) h' (putE (lkL L1) ob.dst v) h' := by
       refine RunI.late (ds := dstsOf es) (eL := lkL L1) (fun j hj oj hoj => ?_) hee (fun j hj oj hoj x hx => ?_) hrun
       ·have hj' := List.mem_append.1 hj
        obtain ⟨z1, z2⟩ := hcl j oj hj' hoj
        obtain ⟨p1, p2, p3⟩ := hcp j hj oj hoj
        exact ⟨z1, .inl p3, p2, fun x hx => (p1 x hx).2, fun s hs hsd => hl' oj z2 s hs hsd⟩
       ·obtain ⟨_, z2⟩ := hcl j oj (List.mem_append.1 hj) hoj
        simp only [dstsOf, List.mem_filterMap]; exact ⟨oj, z2, hx⟩
      rw [putL_eq] at hr3
      refine any_sound hcomp hg hk hd fuel _ (l1 ++ (l2 ++ List.range' (i + 1 + e2) (ops.size - (i + 1 + e2)))) [] _ _ e3 h3 a' w' (by simpa [flatP] using hr2) (by simp [flatP] at hl ⊢; omega) hc2 hf' ?_ hq
      rw [← List.append_assoc]
      exact hlate.append hr3
     ·rcases List.mem_append.1 hi3 with hi4 | hi4
      ·-- behind the call in the text, but free of it
       obtain ⟨y1, y2, rfl⟩ := List.append_of_mem hi4
       have hx : ∀ j ∈ l1 ++ y1, j < i := fun j hj => by
        rcases List.mem_append.1 hj with hj | hj
        ·have := hl1 j hj; have := hl2 i (by simp); omega
        ·have hp2 := (List.pairwise_append.1 hpair).2.1
         rw [List.pairwise_cons, List.append_assoc, List.pairwise_append] at hp2
         exact hp2.2.2.2 j hj i (by simp)
       have hcompat : ∀ j ∈ l1 ++ y1, ∀ x y, aops[j]? = some x → aops[i]? = some y → compat x y = true := by
        intro j hj x y hx' hy
        rcases (hd' i o ho).2 j (hx j hj) with hb' | ⟨x', y', hx'', hy', hcc⟩
        ·exact (hdone listed _ i o j hr hc ho hdir hb' (by simp at hj ⊢; rcases hj with h | h <;> simp [h])).elim
        ·rw [hx'] at hx''; rw [hy] at hy'; cases hx''; cases hy'; exact hcc
       obtain ⟨ao, e1, h1, hao, hstep, hrest⟩ := front hcomp hk (l1 ++ y1) i y2 e h _ _ a w hf hcompat (by simpa using hrun)
       have hco := (compOs_get hcomp).2 i o ao ho hao
       have hgo := gOk_spec (N := N) (by rw [List.all_eq_true] at hg; exact hg ao (List.mem_of_getElem? hao))
       obtain ⟨hz, hes'⟩ := hcl i ao (.inr hi4) hao
       obtain ⟨va, ea, rfl⟩ := hstep.1.eff
       have := ea.same hz
       subst this
       have hr' : Rem ops listed ((l1 ++ b :: y1) ++ i :: (y2 ++ List.range' (b + 1 + e2) (ops.size - (b + 1 + e2)))) := by simpa using hr
       obtain ⟨hr2, hc2⟩ := rem_step hr' hc hin ho hdir hd1
       unfold wpOpIn
       simp only [hoi]
       exact step_sound hco hgo hstep.1 hf fun a' w' hf' => ih (listed.setIfInBounds i true) l1 (y1 ++ y2) _ a' w' (by simpa using hr2) (by simp at hl ⊢; omega) hc2 hf' (by simpa using hrest) hl1 (fun j hj => hl2 j (by simp at hj ⊢; rcases hj with h | h <;> simp [h]))
        fun s hs => by rw [putE_other fun hd => hs (by simp only [dstsOf, List.mem_filterMap]; exact ⟨ao, hes', hd⟩)]; exact hee s hs
      ·-- what waits for the call
       exfalso
       rw [List.mem_range'_1] at hi4
       rcases w2 i hin with h | h
       ·omega
       ·exact hdone listed _ i o b hr hc ho hdir h (by simp)
 refine wpIn_region_any hmo (claim ops.size (Array.replicate ops.size false) (List.range' 0 b) (List.range' (b + 1) e2) (lkL L) a _ ?_ ?_ ?_ (hf.same_heap rfl) hE ?_ ?_ ?_)
 ·have hall : List.range' 0 b ++ b :: (List.range' (b + 1) e2 ++ List.range' (b + 1 + e2) (ops.size - (b + 1 + e2))) = List.range ops.size := by
   rw [List.range'_append_1, ← List.range'_succ, List.range_eq_range']
   have := List.range'_append_1 (s := 0) (m := b) (n := e2 + (ops.size - (b + 1 + e2)) + 1)
   rw [Nat.zero_add] at this
   rw [this]; congr 1; omega
  rw [hall]
  refine ⟨by simp, fun i => ?_, List.pairwise_lt_range⟩
  simp only [List.mem_range, Array.getD_eq_getD_getElem?, Array.getElem?_replicate]
  constructor
  ·intro hi; exact ⟨hi, by simp [hi]⟩
  ·exact fun hi => hi.1
 ·simp; omega
 ·intro i o ho hl
  have hi : i < ops.size := by simpa using get_lt ho
  simp [Array.getD_eq_getD_getElem?, hi] at hl
 ·intro j hj; rw [List.mem_range'_1] at hj; omega
 ·intro j hj; rw [List.mem_range'_1] at hj; omega
 ·intro s hs
  refine (RunI.slot (fun j hj oj hoj hd => hs ?_) hE).symm
  simp only [dstsOf, List.mem_filterMap]
  refine ⟨oj, hmem j oj ?_ hoj, hd⟩
  rcases List.mem_append.1 hj with hj | hj <;> rw [List.mem_range'_1] at hj <;> omega
end
end Go.Ab

