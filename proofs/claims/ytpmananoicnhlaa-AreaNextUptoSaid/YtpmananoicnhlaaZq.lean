/-
  Merged texts, part q.
-/
import Derived.Test.YtpmananoicnhlaaZp
/-
  Areas: routes across the backbone, as the program finds them.
-/
namespace Go.Ab
open Go.Proofs
theorem addP_b {t : Top} {m : List Bool} {n d more b : Int} {r : Pr} (hv : validT t = true) (hn : 0 ≤ n ∧ n < t.nodes) (hd : 0 ≤ d ∧ d < t.nodes) (hm : 0 ≤ more) (hb : 4194240 + more ≤ b) (hr : -1 ≤ r.dist ∧ r.dist ≤ b) :
  -1 ≤ (addP t m n d more r).dist ∧ (addP t m n d more r).dist ≤ b := by
 have := (distS_spec hv m false hd.1 hd.2).2 n hn.1 hn.2
 unfold addP
 repeat' split
 all_goals first | exact hr | (simp only; omega)
theorem foldp_bm {α : Type} {p : Pr → Prop} {q : α → Prop} {f : Pr → α → Pr} (hf : ∀ r k, q k → p r → p (f r k)) : ∀ (l : List α) (r : Pr), (∀ k ∈ l, q k) → p r → p (l.foldl f r)
 | [], _, _, h => h
 | k :: l, r, hq, h => foldp_bm hf l (f r k) (fun x hx => hq x (by simp [hx])) (hf r k (hq k (by simp)) h)
theorem insP_b {t : Top} {A : List Int} {down : List Bool} {n d : Int} (hv : validT t = true) (hn : 0 ≤ n ∧ n < t.nodes) (hd : 0 ≤ d ∧ d < t.nodes) : -1 ≤ (insP t A down n d).dist ∧ (insP t A down n d).dist ≤ 4194240 := by
 unfold insP; split
 ·simp
 ·refine foldp_bm (p := fun r => -1 ≤ r.dist ∧ r.dist ≤ 4194240) (q := fun _ => True) (fun r k _ h => ?_) _ _ (fun _ _ => trivial) (by simp)
  unfold insPs; split
  ·exact addP_b hv hn hd (by omega) (by omega) h
  ·exact h
theorem mem_bordN {t : Top} {A : List Int} (h : validK t A = true) {b : Int} : b ∈ bordN t A ↔ (0 ≤ b ∧ b < t.nodes) ∧ borderK t A b = true ∧ ovT t b = false := by
 rw [bordN, List.mem_filter, mem_borderS h]
 simp only [Bool.not_eq_true', and_assoc]
theorem bordN_len (t : Top) (A : List Int) : (bordN t A).length ≤ t.nodes.toNat := Nat.le_trans (List.length_filter_le _ _) (borderS_len t A)
noncomputable def acrPs (t : Top) (A : List Int) (down : List Bool) (n d : Int) (r : Pr) (b : Int) : Pr := if 0 ≤ (insP t A down b d).dist then addP t (maskS t A down 0 false) n b (insP t A down b d).dist r else r
noncomputable def acrP (t : Top) (A : List Int) (down : List Bool) (n d : Int) : Pr := if isK t A n 0 = true then (bordN t A).foldl (acrPs t A down n d) ⟨-1, []⟩ else ⟨-1, []⟩
theorem acrPs_len (t : Top) (A : List Int) (down : List Bool) (n d : Int) (r : Pr) (k : Int) (hl : (t.links.length : Int) ≤ 256) : (acrPs t A down n d r k).arcs.length ≤ r.arcs.length + 512 := by
 unfold acrPs; split
 ·exact addP_len _ _ _ _ _ _ hl
 ·omega
theorem acrP_b {t : Top} {A : List Int} {down : List Bool} {n d : Int} (hv : validK t A = true) (hn : 0 ≤ n ∧ n < t.nodes) (hd : 0 ≤ d ∧ d < t.nodes) : -1 ≤ (acrP t A down n d).dist ∧ (acrP t A down n d).dist ≤ 8388480 := by
 have v1 := (validK_spec.1 hv).1
 unfold acrP; split
 ·refine foldp_bm (p := fun r => -1 ≤ r.dist ∧ r.dist ≤ 8388480) (q := fun b : Int => 0 ≤ b ∧ b < t.nodes) (fun r k hk h => ?_) _ _ (fun k hk => ((mem_bordN hv).1 hk).1) (by simp)
  have hi := insP_b (A := A) (down := down) v1 hk hd
  unfold acrPs; split
  ·exact addP_b v1 hn hk (by omega) (by omega) h
  ·exact h
 ·simp
set_option maxHeartbeats 4000000 in
theorem across_raw (P : Program) (hP : P = Try.prog) (t : Top) (A : List Int) (down : List Bool) (n d : Int) (v : Nat) (m : Isc) (q : AskK t A down n d) (hm : MasksOk t A down m) :
  FnS P n_area_network_across [.c (.ptr 0 0 0 0), iA n, iA d] (netN t A v m) (RtRaw t A v m (acrP t A down n d)) := by
 refine heap_start (hP ▸ mixed) (hP ▸ fn_area_network_across) (hP ▸ c_area_network_across) (Nat.le_of_ble_eq_true rfl) fun Λ Λo K hK => ?_
 have hins := fun b (hb : 0 ≤ b ∧ b < t.nodes) => inside_ok P hP t A down b d v m ⟨q.hv, q.hf, hb, q.hd⟩ hm
 obtain ⟨hv, hf, hn, hd⟩ := q
 obtain ⟨v1, v2, v3⟩ := validK_spec.1 hv
 have hl256 := (validT_spec.1 v1).2.2.1
 have hn64 := (validT_spec.1 v1).1
 have hbk := backbone_ok P hP t A n v m hv hn
 have hib := fun b (hb : 0 ≤ b ∧ b < t.nodes) => insP_b (A := A) (down := down) v1 hb hd
 have hadd := fun b (hb : 0 ≤ b ∧ b < t.nodes) (h0 : 0 ≤ (insP t A down b d).dist) r ve rr hr => add_ok P hP t (maskS t A down 0 false) n b (insP t A down b d).dist r ve rr (fits_mask v1) hn hb ⟨h0, by have := (hib b hb).2; omega⟩ hr
 clear hP hib
 have hk : ∀ dist arcs ve rr c2 c3, acrP t A down n d = ⟨dist, arcs⟩ → K (.agg [.d (iD dist), .arr 4 ve 0 arcs.length]) (netN t A v m ++ [.bx c2, .bx c3, .da rr ve 1 (arcs.map encI)]) := fun dist arcs ve rr c2 c3 e => hK _ _ (.inl ⟨ve, rr, c2, c3, by rw [e], by rw [e]⟩)
 have hkn : ∀ dist h2, acrP t A down n d = ⟨dist, []⟩ → K (.agg [.d (iD dist), .d (.list true 1 [])]) (netN t A v m ++ h2) := fun dist h2 e => hK _ _ (.inr ⟨by rw [e], by rw [e], h2, rfl⟩)
 clear hK
 rw [acrP] at hk hkn
 have hmk : isK t A n 0 = true → ∃ i, ifind 0 m 0 = some (i, .s (boolsD (maskS t A down 0 false))) := fun h => hm 0 (inS_area hv ((mem_inS hv).2 h))
 have hs1 : ∀ r k, 0 ≤ (insP t A down k d).dist → acrPs t A down n d r k = addP t (maskS t A down 0 false) n k (insP t A down k d).dist r := fun r k h => by rw [acrPs, if_pos h]
 have hs0 : ∀ r k, ¬ 0 ≤ (insP t A down k d).dist → acrPs t A down n d r k = r := fun r k h => by rw [acrPs, if_neg h]
 have hsl := fun r k => acrPs_len t A down n d r k hl256
 have hbl := bordN_len t A
 have hbm : ∀ b ∈ bordN t A, 0 ≤ b ∧ b < t.nodes := fun b hb => ((mem_bordN hv).1 hb).1
 have hat := fun k a h => encI_get (A := bordN t A) (k := k) (a := a) h
 generalize maskS t A down 0 false = mk at *
 generalize acrPs t A down n d = f at *
 obtain ⟨inf, hinf⟩ : ∃ f : Int → Pr, ∀ k, insP t A down k d = f k := ⟨_, fun _ => rfl⟩
 simp only [hinf] at hadd hs1 hs0 hins
 clear hinf hm
 obtain ⟨af, haf⟩ : ∃ g : Int → Pr → Pr, ∀ k r, addP t mk n k (inf k).dist r = g k r := ⟨_, fun _ _ => rfl⟩
 simp only [haf] at hadd hs1
 clear haf
 generalize isK t A n 0 = g0 at *
 generalize hSn : bordN t A = Sn at *
 simp only [netN, boolsA, boolsD, linksD, intsA, intsD, hSn] at *
 clear hSn
 generalize hml : m.map encZ = ml at *
 generalize (rowsN t A).map encRowI = rl at *
 generalize (ovN t A).map encB = ovl at *
 obtain ⟨sn, hsn⟩ : ∃ x, x = Sn.map encI := ⟨_, rfl⟩
 have lsn : Λ sn = Sn.length := by rw [Λo, hsn, List.length_map]
 simp only [← hsn] at hat hbk hins hk hkn ⊢
 clear hsn
 generalize mk.map encB = mkl at *
 clear hv hf v2 v3
 obtain ⟨nodes, ov, links⟩ := t
 simp only [topA, boolsD, linksD] at *
 generalize hol : ov.map encB = ol at *
 generalize hll : links.map encLk = ll at *
 have hlo : Λ ol = ov.length := by rw [Λo, ← hol]; simp
 have hls : Λ ll = links.length := by rw [Λo, ← hll]; simp
 cases g0
 ·have hk2 := fun h2 => hkn (-1) h2 (if_neg (by simp))
  clear hk hkn hadd hmk hs1 hs0 hsl hat hins hbm
  conv => cbv
  repeat' first | (refine call_fr [0, 1] hbk rfl rfl (by decide) (by repeat' first | exact trivial | refine And.intro ?_ ?_ | rfl) rfl rfl ?_; rintro r hc' ⟨rfl, rfl⟩; (conv => cbv)) | exact gu | exact trivial | refine And.intro ?_ ?_ | (intro hc; exact absurd hc (by decide)) | (intro hc; exfalso; omega) | (intro hc; (first | rw [wrap_small (by omega) (by omega)] at hc | rw [nI_eq] at hc | skip); try (conv => cbv))
  exact hk2 [_, _]
 ·have hk2 := fun dist arcs ve rr c2 c3 e => hk dist arcs ve rr c2 c3 ((if_pos rfl).trans e)
  clear hkn
  obtain ⟨j0, hj⟩ := hmk rfl
  clear hk hmk
  conv => cbv
  repeat' first | (refine call_fr [0, 1] hbk rfl rfl (by decide) (by repeat' first | exact trivial | refine And.intro ?_ ?_ | rfl) rfl rfl ?_; rintro r hc' ⟨rfl, rfl⟩; (conv => cbv)) | exact gu | exact trivial | refine And.intro ?_ ?_ | (intro hc; exact absurd hc (by decide)) | (intro hc; exfalso; omega) | (intro hc; (first | rw [wrap_small (by omega) (by omega)] at hc | rw [nI_eq] at hc | skip); try (conv => cbv))
  refine loop_upx Sn.length (fun (s : Int × Nat × Bool × Pr) => [(0, .c (.ptr 0 0 0 0)), (1, iA n), (2, iA d), (6, .c (.ptr 2 0 0 0)), (7, .c (.ptr 3 0 0 0)), (20, .c (.d (.list false 1 sn))), (21, iA (Λ sn)), (22, iA s.1)])
   (fun s => [.bx [.d (iD nodes), .d (.list false 1 ol), .d (.list false 7 ll), .d (iD nodes), .d (.list false 1 ovl), .d (.list false 7 ll), .d (.list false 1 rl), .d (.list false 1 sn), .mp 1], .mp v ml, .bx [.d (iD 0), .d (.list true 1 [])], .bx [.d (iD s.2.2.2.dist), .arr 4 s.2.1 0 s.2.2.2.arcs.length], .da s.2.2.1 s.2.1 1 (s.2.2.2.arcs.map encI)])
   (fun k s => s.1 = k ∧ k ≤ Sn.length ∧ s.2.2.2 = (Sn.take k).foldl f ⟨-1, []⟩ ∧ s.2.2.2.arcs.length ≤ 512 * k) (0, 0, false, ⟨-1, []⟩) 0
   (fun (_ : Nat × Bool × Pr) => [(6, .c (.ptr 2 0 0 0)), (7, .c (.ptr 3 0 0 0))]) (fun s => [.bx [.d (iD nodes), .d (.list false 1 ol), .d (.list false 7 ll), .d (iD nodes), .d (.list false 1 ovl), .d (.list false 7 ll), .d (.list false 1 rl), .d (.list false 1 sn), .mp 1], .mp v ml, .bx [.d (iD 0), .d (.list true 1 [])], .bx [.d (iD s.2.2.dist), .arr 4 s.1 0 s.2.2.arcs.length], .da s.2.1 s.1 1 (s.2.2.arcs.map encI)])
   (fun s => s.2.2 = Sn.foldl f ⟨-1, []⟩) (.trans (.nilB 3 1 1 _ rfl rfl) (Wk.ca)) ⟨rfl, by omega, rfl, by simp⟩ (fun k s h => h.2.1) ?_ ?_
  ·rintro k ⟨i, ve, rr, r⟩ Q' ⟨hi, hkk, hr, hrl⟩ norm jn ex rt
   simp only at hi hr hrl
   obtain ⟨rd, ra⟩ := r
   simp only at hrl ⊢
   have jn2 := fun (e : k = Sn.length) L h hw => jn L h (ve, rr, ⟨rd, ra⟩) (by simp only; rw [hr, e, List.take_length]) hw
   clear jn
   have hadd := fun k h1 h2 => hadd k h1 h2 ⟨rd, ra⟩ ve rr (by simp only; omega)
   have hs1 := hs1 ⟨rd, ra⟩
   have hs0 := hs0 ⟨rd, ra⟩
   have hsl := hsl ⟨rd, ra⟩
   simp only [prH] at hadd jn2 hsl
   obtain ⟨es, hes⟩ : ∃ x, x = ra.map encI := ⟨_, rfl⟩
   obtain ⟨en, hen⟩ : ∃ x, x = ra.length := ⟨_, rfl⟩
   have les : en = es.length := by rw [hes, List.length_map, hen]
   rw [← hes, ← hen] at jn2
   rw [← hes, ← hen] at hadd
   rw [← hes, ← hen]
   by_cases hlt : k < Sn.length
   ·obtain ⟨a, ha⟩ : ∃ a, Sn[k]? = some a := ⟨_, List.getElem?_eq_getElem hlt⟩
    have hx : sn[i.toNat]? = some [iD a] := by rw [hi, Int.toNat_natCast]; exact hat k a ha
    have hba := hbm a (List.mem_of_getElem? ha)
    have hins := hins a hba
    have hadd := hadd a hba
    have hs1 := hs1 a
    have hs0 := hs0 a
    have hsl := hsl a
    have hfo : (Sn.take (k + 1)).foldl f ⟨-1, []⟩ = f ⟨rd, ra⟩ a := by rw [take_succ_get ha, List.foldl_append, ← hr]; rfl
    have nx : ∀ (L : Lv) (h : Hp) (i' : Int) (ve' : Nat) (rr' : Bool) (r2 : Pr), i' = i + 1 → f ⟨rd, ra⟩ a = r2 → Wk 2 L h [(0, .c (.ptr 0 0 0 0)), (1, iA n), (2, iA d), (6, .c (.ptr 2 0 0 0)), (7, .c (.ptr 3 0 0 0)), (20, .c (.d (.list false 1 sn))), (21, iA (Λ sn)), (22, iA i')] [.bx [.d (iD nodes), .d (.list false 1 ol), .d (.list false 7 ll), .d (iD nodes), .d (.list false 1 ovl), .d (.list false 7 ll), .d (.list false 1 rl), .d (.list false 1 sn), .mp 1], .mp v ml, .bx [.d (iD 0), .d (.list true 1 [])], .bx [.d (iD r2.dist), .arr 4 ve' 0 r2.arcs.length], .da rr' ve' 1 (r2.arcs.map encI)] → Q' .normal L h := fun L h i' ve' rr' r2 h1 h2 hw =>
     norm _ _ (i', ve', rr', r2) ⟨by simp only; omega, by omega, by rw [← h2]; exact hfo.symm, by rw [← h2]; simp only; omega⟩ hw
    clear norm hfo hr hat hk2 jn2 hsl hbm hbk
    generalize inf a = ri at *
    obtain ⟨ird, ira⟩ := ri
    simp only at hins hadd hs1 hs0
    by_cases hin : 0 ≤ ird
    ·have hadd := hadd hin
     have nx := fun L h i' ve' rr' h1 => nx L h i' ve' rr' _ h1 (hs1 hin)
     clear hs1 hs0
     generalize af a ⟨rd, ra⟩ = r2 at *
     obtain ⟨rd2, ra2⟩ := r2
     simp only at nx
     generalize ra2.map encI = es2 at *
     generalize ra2.length = en2 at *
     generalize ira.map encI = irl at *
     conv => cbv
     repeat' first | (refine ex _ _ _ ?_; (conv => cbv)) | (refine rt _ _ ?_; (conv => cbv)) | (intro (e : List D) he; cases Option.some.inj (he.symm.trans hx); (conv => cbv)) | (intro hc; cases hc; done) | (refine vlk_ints hml (fun h0 => by rw [hj] at h0; cases h0) (fun i v hv => ?_); rw [hj] at hv; cases hv; (conv => cbv)) | (refine call_fr [0, 1] hins rfl rfl (by decide) (by repeat' first | exact trivial | refine And.intro ?_ ?_ | rfl) rfl rfl ?_; rintro r hc' ⟨⟨fl, rfl⟩, rfl⟩; (conv => cbv)) | (refine call_fr [3, 4] hadd rfl rfl (by decide) (by repeat' first | exact trivial | refine And.intro ?_ ?_ | rfl) rfl rfl ?_; rintro r hc' ⟨rfl, ve', rr', rfl⟩; (conv => cbv)) | exact gu | exact trivial | refine And.intro ?_ ?_ | (intro hc; exact absurd hc (by decide)) | (intro hc; exfalso; omega) | (intro hc; (first | rw [wrap_small (by omega) (by omega)] at hc | rw [nI_eq] at hc | skip); try (conv => cbv))
     rename_i i'
     exact nx _ _ i' ve' rr' hc (Wk.ca)
    ·have nx := fun L h i' ve' rr' h1 => nx L h i' ve' rr' _ h1 (hs0 hin)
     clear hs1 hs0 hadd hj
     simp only at nx
     rw [← hes, ← hen] at nx
     generalize ira.map encI = irl at *
     conv => cbv
     repeat' first | (refine ex _ _ _ ?_; (conv => cbv)) | (refine rt _ _ ?_; (conv => cbv)) | (intro (e : List D) he; cases Option.some.inj (he.symm.trans hx); (conv => cbv)) | (intro hc; cases hc; done) | (refine call_fr [0, 1] hins rfl rfl (by decide) (by repeat' first | exact trivial | refine And.intro ?_ ?_ | rfl) rfl rfl ?_; rintro r hc' ⟨⟨fl, rfl⟩, rfl⟩; (conv => cbv)) | exact gu | exact trivial | refine And.intro ?_ ?_ | (intro hc; exact absurd hc (by decide)) | (intro hc; exfalso; omega) | (intro hc; (first | rw [wrap_small (by omega) (by omega)] at hc | rw [nI_eq] at hc | skip); try (conv => cbv))
     rename_i i'
     exact nx _ _ i' ve rr hc (Wk.ca)
   ·have jn3 := jn2 (by omega)
    clear jn2 norm hadd hs1 hs0 hsl hat hk2 hins hbm hbk
    conv => cbv
    repeat' first | exact gu | exact trivial | refine And.intro ?_ ?_ | (intro hc; exact absurd hc (by decide)) | (intro hc; exfalso; omega) | (intro hc; (first | rw [wrap_small (by omega) (by omega)] at hc | rw [nI_eq] at hc | skip); try (conv => cbv))
    exact jn3 _ _ (Wk.ca)
  ·rintro ⟨ve, rr, rd, ra⟩ he
   have hk := fun c2 c3 => hk2 rd ra ve rr c2 c3 he.symm
   clear hk2 hadd hs1 hs0 hsl hat hins hbm hbk he
   simp only
   generalize ra.map encI = es at *
   generalize ra.length = en at *
   conv => cbv
   repeat' first | exact gu | exact trivial | refine And.intro ?_ ?_ | (intro hc; exact absurd hc (by decide)) | (intro hc; exfalso; omega) | (intro hc; (first | rw [wrap_small (by omega) (by omega)] at hc | rw [nI_eq] at hc | skip); try (conv => cbv))
   exact hk _ _
theorem across_own (P : Program) (hP : P = Try.prog) (t : Top) (A : List Int) (down : List Bool) (n d : Int) (v : Nat) (m : Isc) (q : AskK t A down n d) (hm : MasksOk t A down m) :
  FnS P n_area_network_across [.c (.ptr 0 0 0 0), iA n, iA d] (netN t A v m) (RtOwn t A v m (acrP t A down n d)) := rt_own (across_raw P hP t A down n d v m q hm)
theorem across_ok (P : Program) (hP : P = Try.prog) (t : Top) (A : List Int) (down : List Bool) (n d : Int) (v : Nat) (m : Isc) (q : AskK t A down n d) (hm : MasksOk t A down m) :
  FnS P n_area_network_across [.c (.ptr 0 0 0 0), iA n, iA d] (netN t A v m) fun r h' => (∃ fl, r = .agg [.d (iD (acrP t A down n d).dist), .d (.list fl 1 ((acrP t A down n d).arcs.map encI))]) ∧ h' = netN t A v m := rt_frz (across_own P hP t A down n d v m q hm)
end Go.Ab

/-
  Areas: routes to other areas, as the program finds them.
-/
namespace Go.Ab
open Go.Proofs
noncomputable def restP (t : Top) (A : List Int) (down : List Bool) (d b : Int) : Pr := if (insP t A down b d).dist < 0 then acrP t A down b d else insP t A down b d
noncomputable def farPi (t : Top) (A : List Int) (down : List Bool) (n b more : Int) (r : Pr) (k : Int) : Pr := addP (outerN t A) (maskS t A down k false) n b more r
noncomputable def farPs (t : Top) (A : List Int) (down : List Bool) (n d : Int) (r : Pr) (b : Int) : Pr :=
 if 0 ≤ (restP t A down d b).dist then (inS t A n).foldl (farPi t A down n b (restP t A down d b).dist) r else r
noncomputable def farP (t : Top) (A : List Int) (down : List Bool) (n d : Int) : Pr := if isK t A n 0 = true then ⟨-1, []⟩ else (bordN t A).foldl (farPs t A down n d) ⟨-1, []⟩
theorem valid_outer {t : Top} {A : List Int} (h : validT t = true) : validT (outerN t A) = true := by
 obtain ⟨h1, _, h3, h4⟩ := validT_spec.1 h
 refine validT_spec.2 ⟨h1, .inr ?_, h3, h4⟩
 simp only [outerN, ovN, arcsTo, List.length_map, List.length_range]
 omega
theorem restP_b {t : Top} {A : List Int} {down : List Bool} {d b : Int} (hv : validK t A = true) (hd : 0 ≤ d ∧ d < t.nodes) (hb : 0 ≤ b ∧ b < t.nodes) : -1 ≤ (restP t A down d b).dist ∧ (restP t A down d b).dist ≤ 8388480 := by
 have h1 := insP_b (A := A) (down := down) (validK_spec.1 hv).1 hb hd
 have h2 := acrP_b (down := down) hv hb hd
 unfold restP; split
 ·exact h2
 ·omega
theorem farPi_len (t : Top) (A : List Int) (down : List Bool) (n b more : Int) (hl : (t.links.length : Int) ≤ 256) : ∀ (l : List Int) (r : Pr), (l.foldl (farPi t A down n b more) r).arcs.length ≤ r.arcs.length + 512 * l.length
 | [], r => by simp
 | k :: l, r => by
  have h1 := farPi_len t A down n b more hl l (farPi t A down n b more r k)
  have h2 := addP_len (outerN t A) (maskS t A down k false) n b more r hl
  rw [List.foldl_cons, List.length_cons]
  rw [farPi] at h1
  have h3 : (farPi t A down n b more r k).arcs.length ≤ r.arcs.length + 512 := h2
  rw [← farPi] at h1
  omega
theorem farPs_len (t : Top) (A : List Int) (down : List Bool) (n d : Int) (r : Pr) (b : Int) (hl : (t.links.length : Int) ≤ 256) : (farPs t A down n d r b).arcs.length ≤ r.arcs.length + 33280 := by
 unfold farPs; split
 ·have h1 := farPi_len t A down n b (restP t A down d b).dist hl (inS t A n) r
  have h2 := inS_len t A n
  omega
 ·omega
set_option maxHeartbeats 8000000 in
theorem far_raw (P : Program) (hP : P = Try.prog) (t : Top) (A : List Int) (down : List Bool) (n d : Int) (v : Nat) (m : Isc) (q : AskK t A down n d) (hm : MasksOk t A down m) :
  FnS P n_area_network_far [.c (.ptr 0 0 0 0), iA n, iA d] (netN t A v m) (RtRaw t A v m (farP t A down n d)) := by
 refine heap_start (hP ▸ mixed) (hP ▸ fn_area_network_far) (hP ▸ c_area_network_far) (Nat.le_of_ble_eq_true rfl) fun Λ Λo K hK => ?_
 have hins := fun b (hb : 0 ≤ b ∧ b < t.nodes) => inside_ok P hP t A down b d v m ⟨q.hv, q.hf, hb, q.hd⟩ hm
 have hacr := fun b (hb : 0 ≤ b ∧ b < t.nodes) => across_ok P hP t A down b d v m ⟨q.hv, q.hf, hb, q.hd⟩ hm
 obtain ⟨hv, hf, hn, hd⟩ := q
 obtain ⟨v1, v2, v3⟩ := validK_spec.1 hv
 have hl256 := (validT_spec.1 v1).2.2.1
 have hn64 := (validT_spec.1 v1).1
 have hbk := backbone_ok P hP t A n v m hv hn
 have hib := fun b (hb : 0 ≤ b ∧ b < t.nodes) => restP_b (A := A) (down := down) hv hd hb
 have hfit : ∀ k, fitsB (outerN t A) (maskS t A down k false) = true := fun k => by
  have := valid_outer (A := A) v1
  simp [fitsB, this, maskS_len]; exact .inr rfl
 have hadd := fun k b (hb : 0 ≤ b ∧ b < t.nodes) (h0 : 0 ≤ (restP t A down d b).dist) r ve rr hr => add_ok P hP (outerN t A) (maskS t A down k false) n b (restP t A down d b).dist r ve rr (hfit k) hn hb ⟨h0, by have := (hib b hb).2; omega⟩ hr
 clear hP hib hfit
 have hk : ∀ dist arcs ve rr c2 c3, farP t A down n d = ⟨dist, arcs⟩ → K (.agg [.d (iD dist), .arr 4 ve 0 arcs.length]) (netN t A v m ++ [.bx c2, .bx c3, .da rr ve 1 (arcs.map encI)]) := fun dist arcs ve rr c2 c3 e => hK _ _ (.inl ⟨ve, rr, c2, c3, by rw [e], by rw [e]⟩)
 have hkn : ∀ dist h2, farP t A down n d = ⟨dist, []⟩ → K (.agg [.d (iD dist), .d (.list true 1 [])]) (netN t A v m ++ h2) := fun dist h2 e => hK _ _ (.inr ⟨by rw [e], by rw [e], h2, rfl⟩)
 clear hK
 rw [farP] at hk hkn
 have hmk : ∀ k ∈ inS t A n, ∃ i, ifind k m 0 = some (i, .s (boolsD (maskS t A down k false))) := fun k h => hm k (inS_area hv h)
 have hs1 : ∀ r k, 0 ≤ (restP t A down d k).dist → farPs t A down n d r k = (inS t A n).foldl (farPi t A down n k (restP t A down d k).dist) r := fun r k h => by rw [farPs, if_pos h]
 have hs0 : ∀ r k, ¬ 0 ≤ (restP t A down d k).dist → farPs t A down n d r k = r := fun r k h => by rw [farPs, if_neg h]
 have hsi : ∀ b r k, farPi t A down n b (restP t A down d b).dist r k = addP (outerN t A) (maskS t A down k false) n b (restP t A down d b).dist r := fun _ _ _ => rfl
 have hil := fun b r k => addP_len (outerN t A) (maskS t A down k false) n b (restP t A down d b).dist r hl256
 have hsl := fun r k => farPs_len t A down n d r k hl256
 have hrest : ∀ b, restP t A down d b = if (insP t A down b d).dist < 0 then acrP t A down b d else insP t A down b d := fun _ => rfl
 have hbl := bordN_len t A
 have hbm : ∀ b ∈ bordN t A, 0 ≤ b ∧ b < t.nodes := fun b hb => ((mem_bordN hv).1 hb).1
 have hat := fun k a h => encI_get (A := bordN t A) (k := k) (a := a) h
 have hati := fun k a h => encI_get (A := inS t A n) (k := k) (a := a) h
 have hrn := rowsN_at (A := A) hn.1 hn.2
 have lrow : Λ ((rowsN t A).map encRowI) = t.nodes := by rw [Λo, List.length_map, rowsN_len]; omega
 have hl65 := inS_len t A n
 obtain ⟨mf, hmf⟩ : ∃ f : Int → List Bool, ∀ k, maskS t A down k false = f k := ⟨_, fun _ => rfl⟩
 simp only [hmf] at hadd hmk hsi hil
 clear hmf
 generalize farPs t A down n d = f at *
 obtain ⟨ref, href⟩ : ∃ f : Int → Pr, ∀ k, restP t A down d k = f k := ⟨_, fun _ => rfl⟩
 simp only [href] at hadd hs1 hs0 hsi hil hrest
 clear href hm
 obtain ⟨fi, hfi⟩ : ∃ g : Int → Pr → Int → Pr, ∀ b, farPi t A down n b (ref b).dist = g b := ⟨_, fun _ => rfl⟩
 simp only [hfi] at hs1 hsi
 clear hfi
 simp only [← hsi] at hadd hil
 clear hsi
 obtain ⟨inf, hinf⟩ : ∃ f : Int → Pr, ∀ k, insP t A down k d = f k := ⟨_, fun _ => rfl⟩
 obtain ⟨acf, hacf⟩ : ∃ f : Int → Pr, ∀ k, acrP t A down k d = f k := ⟨_, fun _ => rfl⟩
 simp only [hinf, hacf] at hins hacr hrest
 clear hinf hacf
 generalize isK t A n 0 = g0 at *
 generalize hSn : bordN t A = Sn at *
 generalize hSi : inS t A n = Si at *
 simp only [netN, outerN, topA, boolsA, boolsD, linksD, intsA, intsD, hSn] at *
 clear hSn hSi
 generalize hml : m.map encZ = ml at *
 generalize (rowsN t A).map encRowI = rl at *
 generalize (ovN t A).map encB = ovl at *
 obtain ⟨sn, hsn⟩ : ∃ x, x = Sn.map encI := ⟨_, rfl⟩
 have lsn : Λ sn = Sn.length := by rw [Λo, hsn, List.length_map]
 obtain ⟨si, hsi⟩ : ∃ x, x = Si.map encI := ⟨_, rfl⟩
 have lsi : Λ si = Si.length := by rw [Λo, hsi, List.length_map]
 simp only [← hsn] at hat hbk hins hacr hk hkn ⊢
 simp only [← hsi] at hati hrn
 clear hsn hsi
 clear hv hf v2 v3
 obtain ⟨nodes, ov, links⟩ := t
 simp only [topA, boolsD, linksD] at *
 generalize hol : ov.map encB = ol at *
 generalize hll : links.map encLk = ll at *
 have hlo : Λ ol = ov.length := by rw [Λo, ← hol]; simp
 have hls : Λ ll = links.length := by rw [Λo, ← hll]; simp
 cases g0
 case true =>
  have hk2 := fun h2 => hkn (-1) h2 (if_pos rfl)
  clear hk hkn hadd hmk hs1 hs0 hsl hat hins hbm hacr hati hrn hil
  conv => cbv
  repeat' first | (refine call_fr [0, 1] hbk rfl rfl (by decide) (by repeat' first | exact trivial | refine And.intro ?_ ?_ | rfl) rfl rfl ?_; rintro r hc' ⟨rfl, rfl⟩; (conv => cbv)) | exact gu | exact trivial | refine And.intro ?_ ?_ | (intro hc; exact absurd hc (by decide)) | (intro hc; exfalso; omega) | (intro hc; (first | rw [wrap_small (by omega) (by omega)] at hc | rw [nI_eq] at hc | skip); try (conv => cbv))
  exact hk2 [_, _]
 have hk2 := fun dist arcs ve rr c2 c3 e => hk dist arcs ve rr c2 c3 ((if_neg (by simp)).trans e)
 clear hk hkn
 conv => cbv
 repeat' first | (refine call_fr [0, 1] hbk rfl rfl (by decide) (by repeat' first | exact trivial | refine And.intro ?_ ?_ | rfl) rfl rfl ?_; rintro r hc' ⟨rfl, rfl⟩; (conv => cbv)) | exact gu | exact trivial | refine And.intro ?_ ?_ | (intro hc; exact absurd hc (by decide)) | (intro hc; exfalso; omega) | (intro hc; (first | rw [wrap_small (by omega) (by omega)] at hc | rw [nI_eq] at hc | skip); try (conv => cbv))
 refine loop_upx Sn.length (fun (s : Int × Nat × Bool × Pr) => [(0, .c (.ptr 0 0 0 0)), (1, iA n), (2, iA d), (6, .c (.ptr 2 0 0 0)), (7, .c (.ptr 3 0 0 0)), (21, .c (.d (.list false 1 sn))), (22, iA (Λ sn)), (23, iA s.1)])
  (fun s => [.bx [.d (iD nodes), .d (.list false 1 ol), .d (.list false 7 ll), .d (iD nodes), .d (.list false 1 ovl), .d (.list false 7 ll), .d (.list false 1 rl), .d (.list false 1 sn), .mp 1], .mp v ml, .bx [.d (iD 0), .d (.list true 1 [])], .bx [.d (iD s.2.2.2.dist), .arr 4 s.2.1 0 s.2.2.2.arcs.length], .da s.2.2.1 s.2.1 1 (s.2.2.2.arcs.map encI)])
  (fun k s => s.1 = k ∧ k ≤ Sn.length ∧ s.2.2.2 = (Sn.take k).foldl f ⟨-1, []⟩ ∧ s.2.2.2.arcs.length ≤ 33280 * k) (0, 0, false, ⟨-1, []⟩) 0
  (fun (_ : Nat × Bool × Pr) => [(6, .c (.ptr 2 0 0 0)), (7, .c (.ptr 3 0 0 0))]) (fun s => [.bx [.d (iD nodes), .d (.list false 1 ol), .d (.list false 7 ll), .d (iD nodes), .d (.list false 1 ovl), .d (.list false 7 ll), .d (.list false 1 rl), .d (.list false 1 sn), .mp 1], .mp v ml, .bx [.d (iD 0), .d (.list true 1 [])], .bx [.d (iD s.2.2.dist), .arr 4 s.1 0 s.2.2.arcs.length], .da s.2.1 s.1 1 (s.2.2.arcs.map encI)])
  (fun s => s.2.2 = Sn.foldl f ⟨-1, []⟩) (.trans (.nilB 3 1 1 _ rfl rfl) (Wk.ca)) ⟨rfl, by omega, rfl, by simp⟩ (fun k s h => h.2.1) ?_ ?_
 ·rintro k ⟨i, ve, rr, r⟩ Q' ⟨hi, hkk, hr, hrl⟩ normo jn exo rto
  simp only at hi hr hrl
  by_cases hlt : k < Sn.length
  ·obtain ⟨a, ha⟩ : ∃ a, Sn[k]? = some a := ⟨_, List.getElem?_eq_getElem hlt⟩
   have hx : sn[i.toNat]? = some [iD a] := by rw [hi, Int.toNat_natCast]; exact hat k a ha
   have hba := hbm a (List.mem_of_getElem? ha)
   have hins := hins a hba
   have hacr := hacr a hba
   have hadd := fun k => hadd k a hba
   have hs1 := hs1 r a
   have hs0 := hs0 r a
   have hsl := hsl r a
   have hil := hil a
   have hrest := hrest a
   have hfo : (Sn.take (k + 1)).foldl f ⟨-1, []⟩ = f r a := by rw [take_succ_get ha, List.foldl_append, ← hr]; rfl
   have nx : ∀ (L : Lv) (h : Hp) (i' : Int) (ve' : Nat) (rr' : Bool) (r2 : Pr), i' = i + 1 → f r a = r2 → Wk 2 L h [(0, .c (.ptr 0 0 0 0)), (1, iA n), (2, iA d), (6, .c (.ptr 2 0 0 0)), (7, .c (.ptr 3 0 0 0)), (21, .c (.d (.list false 1 sn))), (22, iA (Λ sn)), (23, iA i')] [.bx [.d (iD nodes), .d (.list false 1 ol), .d (.list false 7 ll), .d (iD nodes), .d (.list false 1 ovl), .d (.list false 7 ll), .d (.list false 1 rl), .d (.list false 1 sn), .mp 1], .mp v ml, .bx [.d (iD 0), .d (.list true 1 [])], .bx [.d (iD r2.dist), .arr 4 ve' 0 r2.arcs.length], .da rr' ve' 1 (r2.arcs.map encI)] → Q' .normal L h := fun L h i' ve' rr' r2 h1 h2 hw =>
    normo _ _ (i', ve', rr', r2) ⟨by simp only; omega, by omega, by rw [← h2]; exact hfo.symm, by rw [← h2]; simp only; omega⟩ hw
   clear normo hfo hr hat hk2 jn hsl hbm hbk ha
   generalize f r a = fr at *
   generalize fi a = fia at *
   generalize ref a = re at *
   generalize inf a = ri at *
   generalize acf a = ra' at *
   obtain ⟨ird, ira⟩ := ri
   obtain ⟨ard, ara⟩ := ra'
   simp only at hins hacr hrest
   generalize ira.map encI = irl at *
   generalize ara.map encI = arl at *
   by_cases hin : 0 ≤ re.dist
   ·have hs1 := hs1 hin
    have hadd := fun k => hadd k hin
    have nx := fun L h i' ve' rr' r2 h1 h2 => nx L h i' ve' rr' r2 h1 (hs1.trans h2)
    clear hs1 hs0
    obtain ⟨rd, ra⟩ := r
    simp only at hrl nx ⊢
    obtain ⟨es, hes⟩ : ∃ x, x = ra.map encI := ⟨_, rfl⟩
    obtain ⟨en, hen⟩ : ∃ x, x = ra.length := ⟨_, rfl⟩
    rw [← hes, ← hen]
    have hcase : (0 ≤ ird ∧ re.dist = ird) ∨ (ird < 0 ∧ 0 ≤ ard ∧ re.dist = ard) := by
     by_cases h : ird < 0
     ·rw [if_pos h] at hrest
      rw [hrest] at hin ⊢
      exact .inr ⟨h, hin, rfl⟩
     ·rw [if_neg h] at hrest
      rw [hrest]
      exact .inl ⟨by omega, rfl⟩
    clear hrest hin
    generalize re.dist = xd at *
    rcases hcase with ⟨h1, rfl⟩ | ⟨h1, h2, rfl⟩
    ·generalize irl = xl at *
     clear hacr
     conv => cbv
     repeat' first | (refine exo _ _ _ ?_; (conv => cbv)) | (refine rto _ _ ?_; (conv => cbv)) | (intro (e : List D) he; cases Option.some.inj (he.symm.trans hx); (conv => cbv)) | (intro (e : List D) he; cases Option.some.inj (he.symm.trans hrn); (conv => cbv)) | (intro hc; cases hc; done) | (refine call_fr [0, 1] hins rfl rfl (by decide) (by repeat' first | exact trivial | refine And.intro ?_ ?_ | rfl) rfl rfl ?_; rintro r hc' ⟨⟨fl, rfl⟩, rfl⟩; (conv => cbv)) | exact gu | exact trivial | refine And.intro ?_ ?_ | (intro hc; exact absurd hc (by decide)) | (intro hc; exfalso; omega) | (intro hc; (first | rw [wrap_small (by omega) (by omega)] at hc | rw [nI_eq] at hc | skip); try (conv => cbv))
     refine loop_up Si.length (fun (s : Int × Nat × Bool × Pr) => [(0, .c (.ptr 0 0 0 0)), (1, iA n), (2, iA d), (6, .c (.ptr 2 0 0 0)), (7, .c (.ptr 3 0 0 0)), (21, .c (.d (.list false 1 sn))), (22, iA (Λ sn)), (23, iA i), (9, iA a), (10, .c (.ptr 5 0 0 0)), (47, .c (.d (.list false 1 si))), (48, iA (Λ si)), (49, iA s.1)])
      (fun s => [.bx [.d (iD nodes), .d (.list false 1 ol), .d (.list false 7 ll), .d (iD nodes), .d (.list false 1 ovl), .d (.list false 7 ll), .d (.list false 1 rl), .d (.list false 1 sn), .mp 1], .mp v ml, .bx [.d (iD 0), .d (.list true 1 [])], .bx [.d (iD s.2.2.2.dist), .arr 4 s.2.1 0 s.2.2.2.arcs.length], .da s.2.2.1 s.2.1 1 (s.2.2.2.arcs.map encI), .bx [.d (iD xd), .d (.list fl 1 xl)]])
      (fun j s => s.1 = j ∧ j ≤ Si.length ∧ s.2.2.2 = (Si.take j).foldl fia ⟨rd, ra⟩ ∧ s.2.2.2.arcs.length ≤ ra.length + 512 * j) (0, ve, rr, ⟨rd, ra⟩) (by rw [hes, hen]; exact Wk.ca) ⟨rfl, by omega, rfl, by simp⟩ (fun k s h => h.2.1) ?_
     rintro j ⟨jj, vj, rj, r⟩ Q'' ⟨hj, hjj, hrj, hrlj⟩ norm ex rt
     simp only at hj hrj hrlj
     by_cases hltj : j < Si.length
     ·obtain ⟨c, hcx⟩ : ∃ c, Si[j]? = some c := ⟨_, List.getElem?_eq_getElem hltj⟩
      have hy : si[jj.toNat]? = some [iD c] := by rw [hj, Int.toNat_natCast]; exact hati j c hcx
      obtain ⟨j0, hj0⟩ := hmk c (List.mem_of_getElem? hcx)
      have hadd := hadd c r vj rj (by omega)
      have hilc := hil r c
      have hfo : (Si.take (j + 1)).foldl fia ⟨rd, ra⟩ = fia r c := by rw [take_succ_get hcx, List.foldl_append, ← hrj]; rfl
      simp only [prH] at hadd
      have nxi : ∀ (L : Lv) (h : Hp) (i' : Int) (ve' : Nat) (rr' : Bool), i' = jj + 1 → Wk 2 L h [(0, .c (.ptr 0 0 0 0)), (1, iA n), (2, iA d), (6, .c (.ptr 2 0 0 0)), (7, .c (.ptr 3 0 0 0)), (21, .c (.d (.list false 1 sn))), (22, iA (Λ sn)), (23, iA i), (9, iA a), (10, .c (.ptr 5 0 0 0)), (47, .c (.d (.list false 1 si))), (48, iA (Λ si)), (49, iA i')] [.bx [.d (iD nodes), .d (.list false 1 ol), .d (.list false 7 ll), .d (iD nodes), .d (.list false 1 ovl), .d (.list false 7 ll), .d (.list false 1 rl), .d (.list false 1 sn), .mp 1], .mp v ml, .bx [.d (iD 0), .d (.list true 1 [])], .bx [.d (iD (fia r c).dist), .arr 4 ve' 0 (fia r c).arcs.length], .da rr' ve' 1 ((fia r c).arcs.map encI), .bx [.d (iD xd), .d (.list fl 1 xl)]] → Q'' .normal L h := fun L h i' ve' rr' h1 hw =>
       norm _ _ (i', ve', rr', fia r c) ⟨(by omega : i' = ((j + 1 : Nat) : Int)), by omega, hfo.symm, (Nat.le_trans hilc (by omega) : (fia r c).arcs.length ≤ ra.length + 512 * (j + 1))⟩ hw
      clear norm hfo nx hil hmk hrj hilc hati
      generalize fia r c = r2 at *
      obtain ⟨rd2, ra2⟩ := r2
      obtain ⟨rd1, ra1⟩ := r
      simp only at nxi hadd ⊢
      generalize ra1.map encI = es1 at *
      generalize ra1.length = en1 at *
      generalize ra2.map encI = es2 at *
      generalize ra2.length = en2 at *
      generalize (mf c).map encB = mal at *
      conv => cbv
      repeat' first | (refine ex _ _ _ ?_; (conv => cbv)) | (refine rt _ _ ?_; (conv => cbv)) | (intro (e : List D) he; cases Option.some.inj (he.symm.trans hy); (conv => cbv)) | (intro hc; cases hc; done) | (refine vlk_ints hml (fun h0 => by rw [hj0] at h0; cases h0) (fun i v hv => ?_); rw [hj0] at hv; cases hv; (conv => cbv)) | (refine call_fr [3, 4] hadd rfl rfl (by decide) (by repeat' first | exact trivial | refine And.intro ?_ ?_ | rfl) rfl rfl ?_; rintro r hc' ⟨rfl, ve', rr', rfl⟩; (conv => cbv)) | exact gu | exact trivial | refine And.intro ?_ ?_ | (intro hc; exact absurd hc (by decide)) | (intro hc; exfalso; omega) | (intro hc; (first | rw [wrap_small (by omega) (by omega)] at hc | rw [nI_eq] at hc | skip); try (conv => cbv))
      rename_i i'
      exact nxi _ _ i' ve' rr' hc (Wk.ca)
     ·have e2 : Si.foldl fia ⟨rd, ra⟩ = r := by rw [hrj, show j = Si.length by omega, List.take_length]
      have nxe := fun L h i' ve' rr' h1 => nx L h i' ve' rr' r h1 e2
      clear norm nx hil hmk hrj hati hadd e2
      obtain ⟨rd1, ra1⟩ := r
      simp only at nxe ⊢
      generalize ra1.map encI = es1 at *
      generalize ra1.length = en1 at *
      conv => cbv
      repeat' first | (refine ex _ _ _ ?_; (conv => cbv)) | (refine rt _ _ ?_; (conv => cbv)) | exact gu | exact trivial | refine And.intro ?_ ?_ | (intro hc; exact absurd hc (by decide)) | (intro hc; exfalso; omega) | (intro hc; (first | rw [wrap_small (by omega) (by omega)] at hc | rw [nI_eq] at hc | skip); try (conv => cbv))
      rename_i i'
      exact nxe _ _ i' vj rj hc (Wk.ca)
    ·generalize arl = xl at *
     conv => cbv
     repeat' first | (refine exo _ _ _ ?_; (conv => cbv)) | (refine rto _ _ ?_; (conv => cbv)) | (intro (e : List D) he; cases Option.some.inj (he.symm.trans hx); (conv => cbv)) | (intro (e : List D) he; cases Option.some.inj (he.symm.trans hrn); (conv => cbv)) | (intro hc; cases hc; done) | (refine call_fr [0, 1] hins rfl rfl (by decide) (by repeat' first | exact trivial | refine And.intro ?_ ?_ | rfl) rfl rfl ?_; rintro r hc' ⟨⟨fl, rfl⟩, rfl⟩; (conv => cbv)) | (refine call_fr [0, 1] hacr rfl rfl (by decide) (by repeat' first | exact trivial | refine And.intro ?_ ?_ | rfl) rfl rfl ?_; rintro r hc' ⟨⟨fl, rfl⟩, rfl⟩; (conv => cbv)) | exact gu | exact trivial | refine And.intro ?_ ?_ | (intro hc; exact absurd hc (by decide)) | (intro hc; exfalso; omega) | (intro hc; (first | rw [wrap_small (by omega) (by omega)] at hc | rw [nI_eq] at hc | skip); try (conv => cbv))
     refine loop_up Si.length (fun (s : Int × Nat × Bool × Pr) => [(0, .c (.ptr 0 0 0 0)), (1, iA n), (2, iA d), (6, .c (.ptr 2 0 0 0)), (7, .c (.ptr 3 0 0 0)), (21, .c (.d (.list false 1 sn))), (22, iA (Λ sn)), (23, iA i), (9, iA a), (10, .c (.ptr 5 0 0 0)), (47, .c (.d (.list false 1 si))), (48, iA (Λ si)), (49, iA s.1)])
      (fun s => [.bx [.d (iD nodes), .d (.list false 1 ol), .d (.list false 7 ll), .d (iD nodes), .d (.list false 1 ovl), .d (.list false 7 ll), .d (.list false 1 rl), .d (.list false 1 sn), .mp 1], .mp v ml, .bx [.d (iD 0), .d (.list true 1 [])], .bx [.d (iD s.2.2.2.dist), .arr 4 s.2.1 0 s.2.2.2.arcs.length], .da s.2.2.1 s.2.1 1 (s.2.2.2.arcs.map encI), .bx [.d (iD xd), .d (.list fl 1 xl)]])
      (fun j s => s.1 = j ∧ j ≤ Si.length ∧ s.2.2.2 = (Si.take j).foldl fia ⟨rd, ra⟩ ∧ s.2.2.2.arcs.length ≤ ra.length + 512 * j) (0, ve, rr, ⟨rd, ra⟩) (by rw [hes, hen]; exact Wk.ca) ⟨rfl, by omega, rfl, by simp⟩ (fun k s h => h.2.1) ?_
     rintro j ⟨jj, vj, rj, r⟩ Q'' ⟨hj, hjj, hrj, hrlj⟩ norm ex rt
     simp only at hj hrj hrlj
     by_cases hltj : j < Si.length
     ·obtain ⟨c, hcx⟩ : ∃ c, Si[j]? = some c := ⟨_, List.getElem?_eq_getElem hltj⟩
      have hy : si[jj.toNat]? = some [iD c] := by rw [hj, Int.toNat_natCast]; exact hati j c hcx
      obtain ⟨j0, hj0⟩ := hmk c (List.mem_of_getElem? hcx)
      have hadd := hadd c r vj rj (by omega)
      have hilc := hil r c
      have hfo : (Si.take (j + 1)).foldl fia ⟨rd, ra⟩ = fia r c := by rw [take_succ_get hcx, List.foldl_append, ← hrj]; rfl
      simp only [prH] at hadd
      have nxi : ∀ (L : Lv) (h : Hp) (i' : Int) (ve' : Nat) (rr' : Bool), i' = jj + 1 → Wk 2 L h [(0, .c (.ptr 0 0 0 0)), (1, iA n), (2, iA d), (6, .c (.ptr 2 0 0 0)), (7, .c (.ptr 3 0 0 0)), (21, .c (.d (.list false 1 sn))), (22, iA (Λ sn)), (23, iA i), (9, iA a), (10, .c (.ptr 5 0 0 0)), (47, .c (.d (.list false 1 si))), (48, iA (Λ si)), (49, iA i')] [.bx [.d (iD nodes), .d (.list false 1 ol), .d (.list false 7 ll), .d (iD nodes), .d (.list false 1 ovl), .d (.list false 7 ll), .d (.list false 1 rl), .d (.list false 1 sn), .mp 1], .mp v ml, .bx [.d (iD 0), .d (.list true 1 [])], .bx [.d (iD (fia r c).dist), .arr 4 ve' 0 (fia r c).arcs.length], .da rr' ve' 1 ((fia r c).arcs.map encI), .bx [.d (iD xd), .d (.list fl 1 xl)]] → Q'' .normal L h := fun L h i' ve' rr' h1 hw =>
       norm _ _ (i', ve', rr', fia r c) ⟨(by omega : i' = ((j + 1 : Nat) : Int)), by omega, hfo.symm, (Nat.le_trans hilc (by omega) : (fia r c).arcs.length ≤ ra.length + 512 * (j + 1))⟩ hw
      clear norm hfo nx hil hmk hrj hilc hati
      generalize fia r c = r2 at *
      obtain ⟨rd2, ra2⟩ := r2
      obtain ⟨rd1, ra1⟩ := r
      simp only at nxi hadd ⊢
      generalize ra1.map encI = es1 at *
      generalize ra1.length = en1 at *
      generalize ra2.map encI = es2 at *
      generalize ra2.length = en2 at *
      generalize (mf c).map encB = mal at *
      conv => cbv
      repeat' first | (refine ex _ _ _ ?_; (conv => cbv)) | (refine rt _ _ ?_; (conv => cbv)) | (intro (e : List D) he; cases Option.some.inj (he.symm.trans hy); (conv => cbv)) | (intro hc; cases hc; done) | (refine vlk_ints hml (fun h0 => by rw [hj0] at h0; cases h0) (fun i v hv => ?_); rw [hj0] at hv; cases hv; (conv => cbv)) | (refine call_fr [3, 4] hadd rfl rfl (by decide) (by repeat' first | exact trivial | refine And.intro ?_ ?_ | rfl) rfl rfl ?_; rintro r hc' ⟨rfl, ve', rr', rfl⟩; (conv => cbv)) | exact gu | exact trivial | refine And.intro ?_ ?_ | (intro hc; exact absurd hc (by decide)) | (intro hc; exfalso; omega) | (intro hc; (first | rw [wrap_small (by omega) (by omega)] at hc | rw [nI_eq] at hc | skip); try (conv => cbv))
      rename_i i'
      exact nxi _ _ i' ve' rr' hc (Wk.ca)
     ·have e2 : Si.foldl fia ⟨rd, ra⟩ = r := by rw [hrj, show j = Si.length by omega, List.take_length]
      have nxe := fun L h i' ve' rr' h1 => nx L h i' ve' rr' r h1 e2
      clear norm nx hil hmk hrj hati hadd e2
      obtain ⟨rd1, ra1⟩ := r
      simp only at nxe ⊢
      generalize ra1.map encI = es1 at *
      generalize ra1.length = en1 at *
      conv => cbv
      repeat' first | (refine ex _ _ _ ?_; (conv => cbv)) | (refine rt _ _ ?_; (conv => cbv)) | exact gu | exact trivial | refine And.intro ?_ ?_ | (intro hc; exact absurd hc (by decide)) | (intro hc; exfalso; omega) | (intro hc; (first | rw [wrap_small (by omega) (by omega)] at hc | rw [nI_eq] at hc | skip); try (conv => cbv))
      rename_i i'
      exact nxe _ _ i' vj rj hc (Wk.ca)
   ·have nx := fun L h i' ve' rr' h1 => nx L h i' ve' rr' _ h1 (hs0 hin)
    clear hs1 hs0 hadd hmk hil
    have h1 : ird < 0 := by
     by_cases h : ird < 0
     ·exact h
     ·rw [if_neg h] at hrest; rw [hrest] at hin; exact absurd (by simp only; omega) hin
    have h2 : ard < 0 := by
     rw [if_pos h1] at hrest; rw [hrest] at hin; simp only at hin; omega
    clear hin hrest
    obtain ⟨rd, ra⟩ := r
    simp only at nx ⊢
    generalize ra.map encI = es at *
    generalize ra.length = en at *
    conv => cbv
    repeat' first | (refine exo _ _ _ ?_; (conv => cbv)) | (refine rto _ _ ?_; (conv => cbv)) | (intro (e : List D) he; cases Option.some.inj (he.symm.trans hx); (conv => cbv)) | (intro hc; cases hc; done) | (refine call_fr [0, 1] hins rfl rfl (by decide) (by repeat' first | exact trivial | refine And.intro ?_ ?_ | rfl) rfl rfl ?_; rintro r hc' ⟨⟨fl, rfl⟩, rfl⟩; (conv => cbv)) | (refine call_fr [0, 1] hacr rfl rfl (by decide) (by repeat' first | exact trivial | refine And.intro ?_ ?_ | rfl) rfl rfl ?_; rintro r hc' ⟨⟨fl, rfl⟩, rfl⟩; (conv => cbv)) | exact gu | exact trivial | refine And.intro ?_ ?_ | (intro hc; exact absurd hc (by decide)) | (intro hc; exfalso; omega) | (intro hc; (first | rw [wrap_small (by omega) (by omega)] at hc | rw [nI_eq] at hc | skip); try (conv => cbv))
    rename_i i'
    exact nx _ _ i' ve rr hc (Wk.ca)
  ·have jn2 := fun L h hw => jn L h (ve, rr, r) (by simp only; rw [hr, show k = Sn.length by omega, List.take_length]) hw
   clear jn normo hadd hs1 hs0 hsl hat hk2 hins hacr hbm hbk hmk hil hr
   obtain ⟨rd, ra⟩ := r
   simp only at hrl jn2 ⊢
   obtain ⟨es, hes⟩ : ∃ x, x = ra.map encI := ⟨_, rfl⟩
   obtain ⟨en, hen⟩ : ∃ x, x = ra.length := ⟨_, rfl⟩
   have les : en = es.length := by rw [hes, List.length_map, hen]
   rw [← hes, ← hen] at jn2
   rw [← hes, ← hen]
   conv => cbv
   repeat' first | exact gu | exact trivial | refine And.intro ?_ ?_ | (intro hc; exact absurd hc (by decide)) | (intro hc; exfalso; omega) | (intro hc; (first | rw [wrap_small (by omega) (by omega)] at hc | rw [nI_eq] at hc | skip); try (conv => cbv))
   exact jn2 _ _ (Wk.ca)
 ·rintro ⟨ve, rr, rd, ra⟩ he
  have hk := fun c2 c3 => hk2 rd ra ve rr c2 c3 he.symm
  clear hk2 hadd hs1 hs0 hsl hat hins hacr hbm hbk hmk hil he
  simp only
  generalize ra.map encI = es at *
  generalize ra.length = en at *
  conv => cbv
  repeat' first | exact gu | exact trivial | refine And.intro ?_ ?_ | (intro hc; exact absurd hc (by decide)) | (intro hc; exfalso; omega) | (intro hc; (first | rw [wrap_small (by omega) (by omega)] at hc | rw [nI_eq] at hc | skip); try (conv => cbv))
  exact hk _ _
theorem far_own (P : Program) (hP : P = Try.prog) (t : Top) (A : List Int) (down : List Bool) (n d : Int) (v : Nat) (m : Isc) (q : AskK t A down n d) (hm : MasksOk t A down m) :
  FnS P n_area_network_far [.c (.ptr 0 0 0 0), iA n, iA d] (netN t A v m) (RtOwn t A v m (farP t A down n d)) := rt_own (far_raw P hP t A down n d v m q hm)
end Go.Ab

/-
  Calls that look at memory, in a region whose order is drawn.
-/
namespace Go.Ab
open Go.Proofs
theorem setAll_id {h : Hp} : ∀ (σ : List Nat) (ys : Hp), (∀ (i l : Nat) (b : Blk), σ[i]? = some l → ys[i]? = some b → h[l]? = some b) → setAll h σ ys = h
 | [], _, _ => by unfold setAll; rfl
 | _ :: _, [], _ => by unfold setAll; rfl
 | l :: σ, y :: ys, hy => by
  have h0 := hy 0 l y rfl rfl
  have h1 : h.set l y = h := by
   apply List.ext_getElem?
   intro i
   by_cases hi : l = i
   ·subst hi; rw [List.getElem?_set_self (get_lt h0), h0]
   ·rw [List.getElem?_set_ne hi]
  unfold setAll
  rw [h1]
  exact setAll_id σ ys fun i l b e1 e2 => hy (i + 1) l b e1 e2
theorem call_ro {P : Program} {m : Nat} {d : Bool} {L : Lv} {h : Hp} {f : Nat} {xs : List X} {K : Lv → AV → Hp → Prop} {args : List AV} {hc : Hp} {r : AV} (σ : List Nat) (hf : FnS P f args hc fun r' h' => r' = r ∧ h' = hc) (hm : 0 < m)
  (ha : ∀ n, evsN L xs = rnAs (rho σ n) args) (hlen : σ.length = hc.length) (hnd : σ.Nodup) (hh : ∀ n, frOk h (rho σ n) 0 hc) (hcl : refsH hc.length hc = true) (hca : args.all (refsA hc.length) = true)
  (hr : ∀ n, rnA (rho σ n) r = r)
  (hp : ∀ p : Nat → Prop, (∀ x ∈ evsN L xs, roA p x) → (∀ l cs, p l → h[l]? = some (.bx cs) → ∀ c ∈ cs, roC p c) → ∀ l ∈ σ, p l) (k : K L r h) : CallS P m d L h f xs K := by
 refine .ro hm (fun h' ⟨p, p1, p2, p3⟩ => ?_) k
 have hσ := hp p p1 p3
 have hg : ∀ i b, hc[i]? = some b → h'[rho σ h'.length i]? = some (rnB (rho σ h'.length) b) := fun i b hb => by
  have h1 := frOk_get (hh h'.length) i b hb
  rw [Nat.zero_add] at h1
  have h2 := rho_old σ h'.length i (by rw [hlen]; exact get_lt hb)
  rw [p2 _ (hσ _ (List.mem_of_getElem? h2))]; exact h1
 rw [ha h'.length]
 refine (hf.frame σ h' hlen hnd hg hcl fun x hx => List.all_eq_true.1 hca x hx).mono ?_
 rintro r' h'' ⟨r0, hc', ⟨rfl, rfl⟩, rfl, rfl⟩
 refine ⟨?_, hr _⟩
 have hd : hc'.drop σ.length = [] := by rw [hlen]; exact List.drop_length
 rw [backH, hd, setAll_id σ _ fun i l b e1 e2 => ?_]
 ·simp [rnH]
 ·rw [rnH_get] at e2
  cases hi : hc'[i]? with
  | none => rw [hi] at e2; cases e2
  | some b0 =>
   rw [hi] at e2; cases e2
   have h2 := rho_old σ h'.length i (by rw [hlen]; exact get_lt hi)
   rw [e1] at h2; cases h2
   exact hg i b0 hi
end Go.Ab

/-
  Areas: the network is built.
-/
namespace Go.Ab
open Go.Proofs
theorem cloneBools_raw (P : Program) (hP : P = Try.prog) (ll : List (List D)) (hl : ll.length ≤ 1000000) : Ret P n_slices_Clone_bool_bool [.c (.d (.list false 1 ll))] (.c (.d (.list false 1 ll))) := by
 refine ret_start (hP ▸ mixed) (hP ▸ fn_slices_Clone_bool_bool) (hP ▸ c_slices_Clone_bool_bool) (Nat.le_of_ble_eq_true rfl) fun Λ Λo K hK => ?_
 clear hP
 have h0 : ll = [] → K (.c (.d (.list false 1 []))) := fun h => by rw [h] at hK; exact hK
 have lln := Λo ll
 conv => cbv
 repeat' first | exact gu | exact trivial | refine And.intro ?_ ?_ | (intro hc; exact absurd hc (by decide)) | (intro hc; exfalso; omega) | (intro hc; (first | rw [wrap_small (by omega) (by omega)] at hc | rw [nI_eq] at hc | skip); try (conv => cbv))
 ·rename_i m r es hm hr hes ls
  have : ls = ll := by subst hc hes hm; simp
  rw [this]; exact hK
 ·exact h0 hc
theorem cloneLinks_raw (P : Program) (hP : P = Try.prog) (ll : List (List D)) (hl : ll.length ≤ 1000000) : Ret P n_slices_Clone_api_Link_api_Link [.c (.d (.list false 7 ll))] (.c (.d (.list false 7 ll))) := by
 refine ret_start (hP ▸ mixed) (hP ▸ fn_slices_Clone_api_Link_api_Link) (hP ▸ c_slices_Clone_api_Link_api_Link) (Nat.le_of_ble_eq_true rfl) fun Λ Λo K hK => ?_
 clear hP
 have h0 : ll = [] → K (.c (.d (.list false 7 []))) := fun h => by rw [h] at hK; exact hK
 have lln := Λo ll
 conv => cbv
 repeat' first | exact gu | exact trivial | refine And.intro ?_ ?_ | (intro hc; exact absurd hc (by decide)) | (intro hc; exfalso; omega) | (intro hc; (first | rw [wrap_small (by omega) (by omega)] at hc | rw [nI_eq] at hc | skip); try (conv => cbv))
 ·rename_i m r es hm hr hes ls
  have : ls = ll := by subst hc hes hm; simp
  rw [this]; exact hK
 ·exact h0 hc
theorem gclone_ok (P : Program) (hP : P = Try.prog) (t : Top) (hv : validT t = true) : Ret P n_graph_Clone [topA t] (topA t) := by
 refine ret_start (hP ▸ mixed) (hP ▸ fn_graph_Clone) (hP ▸ c_graph_Clone) (Nat.le_of_ble_eq_true rfl) fun Λ Λo K hK => ?_
 obtain ⟨h1, h2, h3, _⟩ := validT_spec.1 hv
 have hb := cloneBools_raw P hP (t.ov.map encB) (by rw [List.length_map]; omega)
 have hl := cloneLinks_raw P hP (t.links.map encLk) (by rw [List.length_map]; omega)
 clear hP hv h1 h2 h3
 obtain ⟨nodes, ov, links⟩ := t
 simp only [topA, boolsD, linksD] at *
 generalize hol : ov.map encB = ol at *
 generalize hll : links.map encLk = ll at *
 have hlo : Λ ol = ov.length := by rw [Λo, ← hol]; simp
 have hls : Λ ll = links.length := by rw [Λo, ← hll]; simp
 conv => cbv
 repeat' first | (refine call_r hb rfl rfl ?_; conv => cbv) | (refine call_r hl rfl rfl ?_; conv => cbv) | exact gu | exact trivial | refine And.intro ?_ ?_ | (intro hc; exact absurd hc (by decide)) | (intro hc; exfalso; omega) | (intro hc; (first | rw [wrap_small (by omega) (by omega)] at hc | rw [nI_eq] at hc | skip); try (conv => cbv))
 exact hK
theorem backbone2_ok (P : Program) (hP : P = Try.prog) (t : Top) (A : List Int) (n : Int) (N k vi : Nat) (ri : Bool) (oe es : List (List D)) (v : Nat) (ml : List (DV × DV)) (hv : validK t A = true) (h0 : 0 ≤ n) (hk : n < k) (hrow : es[n.toNat]? = some (encRowI (inS t A n))) (lk : k = es.length) (hk64 : k ≤ 64) :
  FnS P n_area_network_backbone [.c (.ptr 0 0 0 0), iA n] [.bx [.d (iD t.nodes), .d (boolsD t.ov), .d (linksD t.links), .d (iD t.nodes), .arr 1 0 0 N, .d (linksD t.links), .arr 2 vi 0 k, .d (.list true 1 []), .mp 3], .da true 0 1 oe, .da ri vi 1 es, .mp v ml]
   fun r h' => r = bA (isK t A n 0) ∧ h' = [.bx [.d (iD t.nodes), .d (boolsD t.ov), .d (linksD t.links), .d (iD t.nodes), .arr 1 0 0 N, .d (linksD t.links), .arr 2 vi 0 k, .d (.list true 1 []), .mp 3], .da true 0 1 oe, .da ri vi 1 es, .mp v ml] := by
 refine heap_start (hP ▸ mixed) (hP ▸ fn_area_network_backbone) (hP ▸ c_area_network_backbone) (Nat.le_of_ble_eq_true rfl) fun Λ Λo K hK => ?_
 clear hP
 have hb := back_iff hv n
 have k1 := fun (h : 0 < (inS t A n).length ∧ (inS t A n).getD 0 0 = 0) => hK (bA true) _ ⟨by rw [hb.1 h], rfl⟩
 have k0 := fun (h : ¬ (0 < (inS t A n).length ∧ (inS t A n).getD 0 0 = 0)) => hK (bA false) _ ⟨by rw [Bool.eq_false_iff.2 fun e => h (hb.2 e)], rfl⟩
 clear hK hb
 have h00 : 0 < (inS t A n).length → ((inS t A n).map encI)[0]? = some [iD ((inS t A n).getD 0 0)] := fun h => by
  generalize inS t A n = l at *
  cases l with
  | nil => simp at h
  | cons a l => rfl
 have ll : Λ ((inS t A n).map encI) = (inS t A n).length := by rw [Λo, List.length_map]
 rw [encRowI] at hrow
 obtain ⟨np, hnp, hnq⟩ : ∃ np : Nat, n.toNat = np ∧ n = np := ⟨n.toNat, rfl, by omega⟩
 rw [hnp] at hrow
 simp only [boolsD, linksD] at *
 obtain ⟨il, hil⟩ : ∃ x, x = (inS t A n).map encI := ⟨_, rfl⟩
 rw [← hil] at hrow h00 ll
 clear hil
 generalize (inS t A n).getD 0 0 = x at *
 generalize (inS t A n).length = j at *
 obtain ⟨nodes, ov, links⟩ := t
 simp only [topA, boolsD, linksD] at *
 generalize hol : ov.map encB = ol at *
 generalize hll : links.map encLk = ll at *
 have hlo : Λ ol = ov.length := by rw [Λo, ← hol]; simp
 have hls : Λ ll = links.length := by rw [Λo, ← hll]; simp
 conv => cbv
 repeat' first | (intro (k : Nat) hk; refine (fun (hz : np = k) => ?_) ?_; rotate_left; omega; subst hz; (conv => cbv)) | (intro (e : List D) he; cases Option.some.inj (he.symm.trans hrow); (conv => cbv)) | (intro (e : List D) he; cases Option.some.inj (he.symm.trans (h00 (by omega))); (conv => cbv)) | exact gu | exact trivial | refine And.intro ?_ ?_ | (intro hc; exact absurd hc (by decide)) | (intro hc; exfalso; omega) | (intro hc; (first | rw [wrap_small (by omega) (by omega)] at hc | rw [nI_eq] at hc | skip); try (conv => cbv))
 all_goals first | exact k1 (by omega) | exact k0 (by omega)
theorem rowsN_get {t : Top} {A : List Int} {k : Nat} (h : (k : Int) < t.nodes) : (rowsN t A)[k]? = some (inS t A k) := by
 have : (arcsTo t.nodes.toNat)[k]? = some (k : Int) := by
  rw [arcsTo, List.getElem?_map, List.getElem?_range (by omega)]; rfl
 rw [rowsN, List.getElem?_map, this]; rfl
theorem ovN_get {t : Top} {A : List Int} {k : Nat} (h : (k : Int) < t.nodes) : (ovN t A)[k]? = some (ovT t k || isK t A k 0) := by
 have : (arcsTo t.nodes.toNat)[k]? = some (k : Int) := by
  rw [arcsTo, List.getElem?_map, List.getElem?_range (by omega)]; rfl
 rw [ovN, List.getElem?_map, this]; rfl
def fillB (l : List Bool) (N k : Nat) : List (List D) := (l.take k ++ List.replicate (N - k) false).map encB
theorem fillB_0 (l : List Bool) (N : Nat) : fillB l N 0 = List.replicate N [.bool false] := by simp [fillB, encB]
theorem fillB_len {l : List Bool} {N k : Nat} (h : N = l.length) (hk : k ≤ N) : (fillB l N k).length = N := by simp [fillB]; omega
theorem fillB_N {l : List Bool} {N : Nat} (h : N = l.length) : fillB l N N = l.map encB := by simp [fillB, h]
theorem fillB_set {l : List Bool} {N k : Nat} {b : Bool} (h : N = l.length) (hk : k < N) (hb : l[k]? = some b) : (fillB l N k).set k [.bool b] = fillB l N (k + 1) := by
 obtain ⟨j, hj⟩ : ∃ j, N - k = j + 1 := ⟨N - k - 1, by omega⟩
 have e : N - (k + 1) = j := by omega
 have hl : (l.take k).length = k := by simp; omega
 rw [fillB, fillB, hj, e, List.take_add_one, hb, List.replicate_succ, List.map_append, List.map_append, List.map_append, List.set_append_right _ _ (by simp; omega)]
 simp [encB]
 rw [Nat.min_eq_left (by omega), Nat.sub_self]; rfl
theorem ifind_app_ne {x a : Int} {d : DV} {m : Isc} (h : x ≠ a) : ∀ {i : Nat}, ifind x (m ++ [(a, d)]) i = ifind x m i := by
 induction m with
 | nil => intro i; simp [ifind, h]
 | cons e r ih => intro i; simp only [List.cons_append, ifind]; split <;> first | rfl | exact ih
theorem ifind_app_self {a : Int} {d : DV} {m : Isc} : ∀ {i : Nat}, ifind a m i = none → ∃ j, ifind a (m ++ [(a, d)]) i = some (j, d) := by
 induction m with
 | nil => intro i _; exact ⟨i, by simp [ifind]⟩
 | cons e r ih =>
  intro i h
  simp only [ifind] at h
  split at h
  ·cases h
  ·rename_i hne
   obtain ⟨j, hj⟩ := ih h
   exact ⟨j, by simp only [List.cons_append, ifind]; rw [if_neg hne]; exact hj⟩
theorem fillB_at {l : List Bool} {N k : Nat} (h : N = l.length) (hk : k < N) : (fillB l N k)[k]? = some [.bool false] := by
 rw [fillB, List.getElem?_map, List.getElem?_append_right (by simp; omega), List.getElem?_replicate]
 simp only [List.length_take]
 rw [if_pos (by omega)]; rfl
set_option maxHeartbeats 8000000 in
theorem build_raw (P : Program) (hP : P = Try.prog) (t : Top) (A : List Int) (down : List Bool) (hv : validK t A = true) (hf : fitsB t down = true) :
    FnS P n_area_build [topA t, intsA A, boolsA down] [] fun r h' => ∃ v m c0, r = .c (.ptr 2 0 0 0) ∧ h' = [Blk.bx c0, .mp v (m.map encZ), .bx [.d (iD t.nodes), .d (boolsD t.ov), .d (linksD t.links), .d (iD t.nodes), .d (boolsD (ovN t A)), .d (linksD t.links), .d (.list false 1 ((rowsN t A).map encRowI)), .d (intsD (bordN t A)), .mp 1]] ∧ MasksOk t A down m := by
  refine heap_start (hP ▸ mixed) (hP ▸ fn_area_build) (hP ▸ c_area_build) (Nat.le_of_ble_eq_true rfl) fun Λ Λo K hK => ?_
  obtain ⟨v1, v2, v3⟩ := validK_spec.1 hv
  have hcl := gclone_ok P hP t v1
  have hin := fun n => ain_ok P hP t A n
  have hover := fun n h0 h1 => gover_ok P hP t n v1 h0 h1
  have hbor := aborders_ok P hP t A
  have hdn : down.length = 0 ∨ down.length = 2 * t.links.length := (show validT t = true ∧ _ by simpa [fitsB] using hf).2
  have hdown := fun a h => gdown_ok P hP down a h
  have hl256 := (validT_spec.1 v1).2.2.1
  have harcs := garcs_ok P hP t hl256
  have hn64 := (validT_spec.1 v1).1
  have hbk := fun n N k vi ri oe es v ml h0 hk hrow lk hk64 => backbone2_ok P hP t A n N k vi ri oe es v ml hv h0 hk hrow lk hk64
  have hrg := fun k h => rowsN_get (t := t) (A := A) (k := k) h
  have hog := fun k h => ovN_get (t := t) (A := A) (k := k) h
  have hrl := rowsN_len t A
  have hol2 : (ovN t A).length = t.nodes.toNat := by simp [ovN, arcsTo]
  have hbm : ∀ b ∈ borderS t A, 0 ≤ b ∧ b < t.nodes := fun b hb => ((mem_borderS hv).1 hb).1
  have hbl : (borderS t A).length ≤ 64 := by have := borderS_len t A; omega
  have hbd : bordN t A = (borderS t A).filter fun b => !ovT t b := rfl
  have hbat := fun k a h => encI_get (A := borderS t A) (k := k) (a := a) h
  clear hP
  obtain ⟨al, hal⟩ : ∃ x, x = A.map encI := ⟨_, rfl⟩
  obtain ⟨dl, hdl⟩ : ∃ x, x = down.map encB := ⟨_, rfl⟩
  have lal : Λ al = A.length := by rw [Λo, hal, List.length_map]
  have hat : ∀ k a, A[k]? = some a → al[k]? = some [iD a] := fun k a h => by rw [hal]; exact encI_get h
  simp only [boolsA, intsA, boolsD, intsD, linksD, ← hal, ← hdl] at *
  generalize rowsN t A = rows at *
  generalize hovs : ovN t A = ovs at *
  obtain ⟨nodes, ov, links⟩ := t
  simp only [topA, boolsD, linksD] at *
  generalize hol : ov.map encB = ol at *
  generalize hll : links.map encLk = ll at *
  have hlo : Λ ol = ov.length := by rw [Λo, ← hol]; simp
  have hls : Λ ll = links.length := by rw [Λo, ← hll]; simp
  conv => cbv
  repeat' first | (refine call_r hcl rfl rfl ?_; conv => cbv) | (intro (_ : Unit); refine ⟨?_, ?_, ?_, ?_⟩; omega; omega; omega; omega) | exact gu | exact trivial | refine And.intro ?_ ?_ | (intro hc; exact absurd hc (by decide)) | (intro hc; exfalso; omega) | (intro hc; (first | rw [wrap_small (by omega) (by omega)] at hc | rw [nI_eq] at hc | skip); try (conv => cbv))
  rename_i N oe0 hN
  refine loop_upx N (fun (s : Int × Nat × Nat × Bool × List (List D) × List (List D)) => [(1, .c (.d (.list false 1 al))), (2, .c (.d (.list false 1 dl))), (3, .c (.ptr 0 0 0 0)), (6, .c (.d .nilp)), (7, .c (.ptr 2 0 0 0)), (29, iA nodes), (30, iA s.1)])
    (fun s => [.bx [.d (iD nodes), .d (.list false 1 ol), .d (.list false 7 ll)], .mp 0 [], .bx [.d (iD nodes), .d (.list false 1 ol), .d (.list false 7 ll), .d (iD nodes), .arr 3 0 0 N, .d (.list false 7 ll), .arr 4 s.2.1 0 s.2.2.1, .d (.list true 1 []), .mp 1], .da true 0 1 s.2.2.2.2.2, .da s.2.2.2.1 s.2.1 1 s.2.2.2.2.1])
    (fun k s => s.1 = k ∧ k ≤ N ∧ s.2.2.1 = k ∧ s.2.2.2.2.1 = (rows.take k).map encRowI ∧ s.2.2.2.2.2 = fillB ovs N k) (0, 0, 0, false, [], oe0)
    0 (fun (_ : Unit) => [(1, .c (.d (.list false 1 al))), (2, .c (.d (.list false 1 dl))), (3, .c (.ptr 0 0 0 0)), (6, .c (.d .nilp)), (7, .c (.ptr 2 0 0 0))])
    (fun s => [.bx [.d (iD nodes), .d (.list false 1 ol), .d (.list false 7 ll)], .mp 0 [], .bx [.d (iD nodes), .d (.list false 1 ol), .d (.list false 7 ll), .d (iD nodes), .d (.list false 1 (ovs.map encB)), .d (.list false 7 ll), .d (.list false 1 (rows.map encRowI)), .d (.list true 1 []), .mp 1]]) (fun _ => True)
    (.trans (.nilB 2 6 1 _ rfl rfl) (Wk.ca)) ⟨rfl, by omega, rfl, rfl, by rw [fillB_0, hN]; exact hc⟩ (fun k s h => h.2.1) ?_ ?_
  · rintro k ⟨i, ve, m, rr, es, oe⟩ Q' ⟨hi, hk2, hm, hes, hoe⟩ norm jn ex rt
    simp only at hi hm hes hoe
    by_cases hlt : k < N
    · have hov := hover i (by omega) (by omega)
      have hin := hin i
      have hbk := fun ri vi es oe => hbk i N (k + 1) vi ri oe es 0 [] (by omega) (by omega)
      have hrk := hrg k (by omega)
      have hok := hog k (by omega)
      rw [← hi] at hrk hok
      have hset := fillB_set (by omega) hlt hok
      have lel : es.length = k := by rw [hes, List.length_map, List.length_take]; omega
      have loe : oe.length = N := by rw [hoe, fillB_len (by omega) hk2]
      have hes1 : es ++ [[.list false 1 ((inS ⟨nodes, ov, links⟩ A i).map encI)]] = (rows.take (k + 1)).map encRowI := by
        rw [hes, List.take_add_one, hrk, List.map_append]; rfl
      have hes2 : (es ++ [[.list false 1 ((inS ⟨nodes, ov, links⟩ A i).map encI)]])[i.toNat]? = some (encRowI (inS ⟨nodes, ov, links⟩ A i)) := by
        rw [show i.toNat = es.length by omega, List.getElem?_append_right (Nat.le_refl _), Nat.sub_self]; rfl
      have hat0 : oe[k]? = some [.bool false] := by rw [hoe]; exact fillB_at (by omega) hlt
      rw [← hoe] at hset
      clear hover hrg hog hcl hbor hdown harcs hK hv hf
      generalize inS ⟨nodes, ov, links⟩ A i = il at *
      generalize isK ⟨nodes, ov, links⟩ A i 0 = bk at *
      generalize ovT ⟨nodes, ov, links⟩ i = bo at *
      obtain ⟨ilm, hilm⟩ : ∃ x, x = il.map encI := ⟨_, rfl⟩
      rw [← hilm] at hin hes1 hes2
      clear hes hoe hilm
      cases bo
      · conv => cbv
        repeat' first | (refine call_r hin rfl rfl ?_; conv => cbv) | refine call_b hov rfl rfl ?_ ?_ | (intro hc; cases hc; done) | (intro (k : Nat) hk; refine (fun (hz : k = k) => ?_) ?_; rotate_left; omega; subst hz; (conv => cbv)) | exact gu | exact trivial | refine And.intro ?_ ?_ | (intro hc; exact absurd hc (by decide)) | (intro hc; exfalso; omega) | (intro hc; (first | rw [wrap_small (by omega) (by omega)] at hc | rw [nI_eq] at hc | skip); try (conv => cbv))
        rename_i m' r' es' hm' hr' he'
        have he2 : es' = es ++ [[.list false 1 ilm]] := by rw [he', List.drop_zero, hm, ← lel, List.take_length]
        have hm2 : m' = k + 1 := by rw [hm', hm]; rfl
        have hl3 : es'.length = k + 1 := by rw [he2, List.length_append, lel]; rfl
        rw [← he2] at hes1 hes2
        clear he' he2
        subst hm2
        refine call_ro [2, 3, 4, 1] (r := bA bk) ((hbk r' (ve + 1) es' oe hes2 hl3.symm (by omega)).mono fun _ _ h => h) (Nat.succ_pos _) (fun _ => rfl) rfl (by decide) (fun _ => by repeat' first | exact trivial | refine And.intro ?_ ?_ | rfl) rfl rfl (fun _ => rfl) (fun p h1 h2 => ?_) ?_
        · have q2 : p 2 := h1 _ (List.mem_cons_self ..)
          have q := h2 2 _ q2 rfl
          have q3 : p 3 := q (.arr 3 0 0 N) (by simp)
          have q4 : p 4 := q (.arr 4 (ve + 1) 0 (k + 1)) (by simp)
          have q5 : p 1 := q (.mp 1) (by simp)
          intro l hl
          simp only [List.mem_cons, List.not_mem_nil, or_false] at hl
          rcases hl with rfl | rfl | rfl | rfl <;> assumption
        conv => cbv
        repeat' first | exact gu | exact trivial | refine And.intro ?_ ?_ | (intro hc; exact absurd hc (by decide)) | (intro hc; exfalso; omega) | (intro hc; (first | rw [wrap_small (by omega) (by omega)] at hc | rw [nI_eq] at hc | skip); try (conv => cbv))
        rename_i p hp e hpe oe' he' i'
        obtain rfl : e = [.bool false] := by rw [hp, Nat.zero_add, hi, Int.toNat_natCast, hat0] at hpe; exact (Option.some.inj hpe).symm
        have e2 : oe' = fillB ovs N (k + 1) := by rw [he', hp, Nat.zero_add, hi, Int.toNat_natCast, ← hset]; rfl
        subst e2
        exact norm _ _ (i', ve + 1, k + 1, r', es', _) ⟨by simp only; omega, by omega, rfl, hes1, rfl⟩ (Wk.ca)
      · conv => cbv
        repeat' first | (refine call_r hin rfl rfl ?_; conv => cbv) | refine call_b hov rfl rfl ?_ ?_ | (intro hc; cases hc; done) | (intro (k : Nat) hk; refine (fun (hz : k = k) => ?_) ?_; rotate_left; omega; subst hz; (conv => cbv)) | exact gu | exact trivial | refine And.intro ?_ ?_ | (intro hc; exact absurd hc (by decide)) | (intro hc; exfalso; omega) | (intro hc; (first | rw [wrap_small (by omega) (by omega)] at hc | rw [nI_eq] at hc | skip); try (conv => cbv))
        rename_i m' r' es' hm' hr' he' _ p hp e hpe oe' he3 i'
        have he2 : es' = es ++ [[.list false 1 ilm]] := by rw [he', List.drop_zero, hm, ← lel, List.take_length]
        have hm2 : m' = k + 1 := by rw [hm', hm]; rfl
        rw [← he2] at hes1
        clear he' he2
        subst hm2
        have he' := he3
        obtain rfl : e = [.bool false] := by rw [hp, Nat.zero_add, hi, Int.toNat_natCast, hat0] at hpe; exact (Option.some.inj hpe).symm
        have e2 : oe' = fillB ovs N (k + 1) := by rw [he', hp, Nat.zero_add, hi, Int.toNat_natCast, ← hset]; rfl
        subst e2
        exact norm _ _ (i', ve + 1, k + 1, r', es', _) ⟨by simp only; omega, by omega, rfl, hes1, rfl⟩ (Wk.ca)
    · have hk : k = N := by omega
      have hm2 : m = N := by omega
      have e1 : es = rows.map encRowI := by rw [hes, List.take_of_length_le (by omega)]
      have e2 : oe = ovs.map encB := by rw [hoe, hk]; exact fillB_N (by omega)
      have l1 : N = (rows.map encRowI).length := by rw [List.length_map]; omega
      have l2 : N = (ovs.map encB).length := by rw [List.length_map]; omega
      clear hes hoe hrg hog hcl hbor hdown harcs hK hv hf hover hin hbk
      subst e1 e2 hm2
      generalize rows.map encRowI = rl at *
      generalize ovs.map encB = ovl at *
      conv => cbv
      repeat' first | exact gu | exact trivial | refine And.intro ?_ ?_ | (intro hc; exact absurd hc (by decide)) | (intro hc; exfalso; omega) | (intro hc; (first | rw [wrap_small (by omega) (by omega)] at hc | rw [nI_eq] at hc | skip); try (conv => cbv))
      refine jn _ _ () trivial (.trans (wk_z 4 ve 1 m rfl l1 (by simp [okL, okA, okCs, okC, bq_lit]) (by first | (simp [okH, okB, okCs, okC]; done) | simp [okH, okB, okCs, okC, bq_lit])) ?_)
      simp only [zL, zA, zCs, zC, zH, zB, bq_self, bq_old]
      conv => cbv
      refine .trans (wk_z 3 0 1 m rfl l2 (by simp [okL, okA, okCs, okC, bq_lit]) (by first | (simp [okH, okB, okCs, okC]; done) | simp [okH, okB, okCs, okC, bq_lit])) ?_
      simp only [zL, zA, zCs, zC, zH, zB, bq_self, bq_old]
      conv => cbv
      exact Wk.ca
  rintro _ -
  clear hin hrg hog hbk hcl
  generalize rows.map encRowI = rl at *
  generalize ovs.map encB = ovl at *
  clear hrl hol2 hovs
  generalize hSn : borderS ⟨nodes, ov, links⟩ A = Sn at *
  obtain ⟨sn, hsn⟩ : ∃ x, x = Sn.map encI := ⟨_, rfl⟩
  have lsn : Λ sn = Sn.length := by rw [Λo, hsn, List.length_map]
  rw [← hsn] at hbor hbat
  clear hsn
  conv => cbv
  repeat' first | (refine call_r hbor rfl rfl ?_; conv => cbv) | exact gu | exact trivial | refine And.intro ?_ ?_ | (intro hc; exact absurd hc (by decide)) | (intro hc; exfalso; omega) | (intro hc; (first | rw [wrap_small (by omega) (by omega)] at hc | rw [nI_eq] at hc | skip); try (conv => cbv))
  refine loop_upx Sn.length (fun (s : Int × Nat × Bool × List Int) => [(1, .c (.d (.list false 1 al))), (2, .c (.d (.list false 1 dl))), (3, .c (.ptr 0 0 0 0)), (6, .c (.d .nilp)), (7, .c (.ptr 2 0 0 0)), (64, .c (.d (.list false 1 sn))), (65, iA (Λ sn)), (66, iA s.1)])
    (fun s => [.bx [.d (iD nodes), .d (.list false 1 ol), .d (.list false 7 ll)], .mp 0 [], .bx [.d (iD nodes), .d (.list false 1 ol), .d (.list false 7 ll), .d (iD nodes), .d (.list false 1 ovl), .d (.list false 7 ll), .d (.list false 1 rl), .arr 3 s.2.1 0 s.2.2.2.length, .mp 1], .da s.2.2.1 s.2.1 1 (s.2.2.2.map encI)])
    (fun k s => s.1 = k ∧ k ≤ Sn.length ∧ s.2.2.2 = (Sn.take k).filter fun b => !ovT ⟨nodes, ov, links⟩ b) (0, 0, false, [])
    2 (fun (_ : Unit) => [(1, .c (.d (.list false 1 al))), (2, .c (.d (.list false 1 dl))), (3, .c (.ptr 0 0 0 0)), (6, .c (.d .nilp)), (7, .c (.ptr 2 0 0 0))])
    (fun s => [.bx [.d (iD nodes), .d (.list false 1 ol), .d (.list false 7 ll)], .mp 0 [], .bx [.d (iD nodes), .d (.list false 1 ol), .d (.list false 7 ll), .d (iD nodes), .d (.list false 1 ovl), .d (.list false 7 ll), .d (.list false 1 rl), .d (.list false 1 ((bordN ⟨nodes, ov, links⟩ A).map encI)), .mp 1]]) (fun _ => True)
    (.trans (.nilB 2 7 1 _ rfl rfl) (Wk.ca)) ⟨rfl, by omega, rfl⟩ (fun k s h => h.2.1) ?_ ?_
  · rintro k ⟨i, ve, rr, bs⟩ Q' ⟨hi, hk2, hbs⟩ norm jn ex rt
    simp only at hi hbs
    have hbsl : bs.length ≤ 64 := by rw [hbs]; exact Nat.le_trans (List.length_filter_le _ _) (Nat.le_trans (List.length_take_le ..) (by omega))
    by_cases hlt : k < Sn.length
    · obtain ⟨a, ha⟩ : ∃ a, Sn[k]? = some a := ⟨_, List.getElem?_eq_getElem hlt⟩
      have hx : sn[i.toNat]? = some [iD a] := by rw [hi, Int.toNat_natCast]; exact hbat k a ha
      have hab := hbm a (List.mem_of_getElem? ha)
      have hov := hover a hab.1 hab.2
      have hnx : (Sn.take (k + 1)).filter (fun b => !ovT ⟨nodes, ov, links⟩ b) = bs ++ if ovT ⟨nodes, ov, links⟩ a then [] else [a] := by
        rw [take_succ_get ha, List.filter_append, ← hbs]; cases h : ovT ⟨nodes, ov, links⟩ a <;> simp [h]
      clear hbs hover harcs hdown hK hv hf
      obtain ⟨es, hes⟩ : ∃ x, x = bs.map encI := ⟨_, rfl⟩
      obtain ⟨en, hen⟩ : ∃ x, x = bs.length := ⟨_, rfl⟩
      have les : es.length = en := by rw [hes, List.length_map, hen]
      rw [← hen] at hbsl
      cases hob : ovT ⟨nodes, ov, links⟩ a
      · rw [hob] at hov hnx
        rw [← hes, ← hen]
        conv => cbv
        repeat' first | (intro (e : List D) he; cases Option.some.inj (he.symm.trans hx); (conv => cbv)) | refine call_b hov rfl rfl ?_ ?_ | (intro hc; cases hc; done) | exact gu | exact trivial | refine And.intro ?_ ?_ | (intro hc; exact absurd hc (by decide)) | (intro hc; exfalso; omega) | (intro hc; (first | rw [wrap_small (by omega) (by omega)] at hc | rw [nI_eq] at hc | skip); try (conv => cbv))
        rename_i m' r' es' hm' hr' he' i'
        have e1 : m' = (bs ++ [a]).length := by rw [hm', hen, List.length_append]; rfl
        have e2 : es' = (bs ++ [a]).map encI := by rw [he', List.drop_zero, ← les, List.take_length, hes, List.map_append]; rfl
        subst e1 e2
        exact norm _ _ (i', ve + 1, r', bs ++ [a]) ⟨by simp only; omega, by omega, hnx.symm⟩ (Wk.ca)
      · rw [hob] at hov hnx
        have nx := fun (i' : Int) (L : Lv) (h : Hp) (e : i' = i + 1) hw => norm L h (i', ve, rr, bs) ⟨by simp only; omega, by omega, by rw [hnx]; simp⟩ hw
        simp only at nx
        rw [← hes, ← hen] at nx
        rw [← hes, ← hen]
        conv => cbv
        repeat' first | (intro (e : List D) he; cases Option.some.inj (he.symm.trans hx); (conv => cbv)) | refine call_b hov rfl rfl ?_ ?_ | (intro hc; cases hc; done) | exact gu | exact trivial | refine And.intro ?_ ?_ | (intro hc; exact absurd hc (by decide)) | (intro hc; exfalso; omega) | (intro hc; (first | rw [wrap_small (by omega) (by omega)] at hc | rw [nI_eq] at hc | skip); try (conv => cbv))
        exact nx _ _ _ hc (Wk.ca)
    · have hk : k = Sn.length := by omega
      rw [hk, List.take_length, ← hbd] at hbs
      subst hbs
      clear hbsl hover harcs hdown hK hv hf hbat hbm hbd
      generalize bordN ⟨nodes, ov, links⟩ A = bs at *
      obtain ⟨es, hes⟩ : ∃ x, x = bs.map encI := ⟨_, rfl⟩
      obtain ⟨en, hen⟩ : ∃ x, x = bs.length := ⟨_, rfl⟩
      have les : en = es.length := by rw [hes, List.length_map, hen]
      rw [← hes] at jn
      rw [← hes, ← hen]
      conv => cbv
      repeat' first | exact gu | exact trivial | refine And.intro ?_ ?_ | (intro hc; exact absurd hc (by decide)) | (intro hc; exfalso; omega) | (intro hc; (first | rw [wrap_small (by omega) (by omega)] at hc | rw [nI_eq] at hc | skip); try (conv => cbv))
      refine jn _ _ () trivial (.trans (wk_z 3 ve 1 en rfl les (by simp [okL, okA, okCs, okC, bq_lit]) (by first | (simp [okH, okB, okCs, okC]; done) | simp [okH, okB, okCs, okC, bq_lit])) ?_)
      simp only [zL, zA, zCs, zC, zH, zB, bq_self, bq_old]
      conv => cbv
      exact Wk.ca
  rintro _ -
  clear hbor hover hbm hbat hbd hbl
  generalize (bordN ⟨nodes, ov, links⟩ A).map encI = bl at *
  have hK2 : ∀ v m, MasksOk ⟨nodes, ov, links⟩ A down m → K (.c (.ptr 2 0 0 0)) [.bx [.d (iD nodes), .d (.list false 1 ol), .d (.list false 7 ll)], .mp v (m.map encZ), .bx [.d (iD nodes), .d (.list false 1 ol), .d (.list false 7 ll), .d (iD nodes), .d (.list false 1 ovl), .d (.list false 7 ll), .d (.list false 1 rl), .d (.list false 1 bl), .mp 1]] := fun v m hm => hK _ _ ⟨v, m, _, rfl, rfl, hm⟩
  clear hK
  have hmk0 : ∀ k i, maskAt ⟨nodes, ov, links⟩ A down k false i = (!decide (A.getD (i / 2).toNat 0 = k) || !upB down i) := fun k i => by simp [maskAt]
  have hmkS : ∀ k, maskS ⟨nodes, ov, links⟩ A down k false = (arcsTo (2 * links.length)).map fun a => maskAt ⟨nodes, ov, links⟩ A down k false a := fun _ => rfl
  have hmkL : ∀ k, (maskS ⟨nodes, ov, links⟩ A down k false).length = 2 * links.length := fun k => by rw [hmkS]; simp [arcsTo]
  obtain ⟨mf, hmf⟩ : ∃ f : Int → Int → Bool, ∀ k i, maskAt ⟨nodes, ov, links⟩ A down k false i = f k i := ⟨_, fun _ _ => rfl⟩
  obtain ⟨ms, hms⟩ : ∃ f : Int → List Bool, ∀ k, maskS ⟨nodes, ov, links⟩ A down k false = f k := ⟨_, fun _ => rfl⟩
  simp only [MasksOk, hms] at hK2
  simp only [hms] at hmkL
  simp only [hmf, hms] at hmkS
  simp only [hmf] at hmk0
  clear hms hmf hv hf
  generalize upB down = uf at *
  conv => cbv
  repeat' first | exact gu | exact trivial | refine And.intro ?_ ?_ | (intro hc; exact absurd hc (by decide)) | (intro hc; exfalso; omega) | (intro hc; (first | rw [wrap_small (by omega) (by omega)] at hc | rw [nI_eq] at hc | skip); try (conv => cbv))
  refine loop_upx A.length (fun (s : Int × Nat × Isc) => [(1, .c (.d (.list false 1 al))), (2, .c (.d (.list false 1 dl))), (3, .c (.ptr 0 0 0 0)), (6, .c (.d .nilp)), (7, .c (.ptr 2 0 0 0)), (85, .c (.d (.list false 1 al))), (86, iA (Λ al)), (87, iA s.1)])
    (fun s => [.bx [.d (iD nodes), .d (.list false 1 ol), .d (.list false 7 ll)], .mp s.2.1 (s.2.2.map encZ), .bx [.d (iD nodes), .d (.list false 1 ol), .d (.list false 7 ll), .d (iD nodes), .d (.list false 1 ovl), .d (.list false 7 ll), .d (.list false 1 rl), .d (.list false 1 bl), .mp 1]])
    (fun k s => s.1 = k ∧ k ≤ A.length ∧ (∀ x ∈ A.take k, ∃ i, ifind x s.2.2 0 = some (i, .s (boolsD (ms x)))) ∧ ∀ x i d, ifind x s.2.2 0 = some (i, d) → d = .s (boolsD (ms x))) (0, 0, [])
    4 (fun (_ : Nat × Isc) => [(7, .c (.ptr 2 0 0 0))])
    (fun s => [.bx [.d (iD nodes), .d (.list false 1 ol), .d (.list false 7 ll)], .mp s.1 (s.2.map encZ), .bx [.d (iD nodes), .d (.list false 1 ol), .d (.list false 7 ll), .d (iD nodes), .d (.list false 1 ovl), .d (.list false 7 ll), .d (.list false 1 rl), .d (.list false 1 bl), .mp 1]]) (fun s => ∀ x ∈ A, ∃ i, ifind x s.2 0 = some (i, .s (boolsD (ms x))))
    (Wk.ca) ⟨rfl, by omega, by simp, by simp [ifind]⟩ (fun k s h => h.2.1) ?_ ?_
  · rintro k ⟨i, v, m⟩ Q' ⟨hi, hk2, hm1, hm2⟩ norm jn ex rt
    simp only at hi hm1 hm2
    by_cases hlt : k < A.length
    · obtain ⟨a, ha⟩ : ∃ a, A[k]? = some a := ⟨_, List.getElem?_eq_getElem hlt⟩
      have hx : al[i.toNat]? = some [iD a] := by rw [hi, Int.toNat_natCast]; exact hat k a ha
      have hl1 : 1 ≤ links.length := by omega
      obtain ⟨ml, hml⟩ : ∃ x, m.map encZ = x := ⟨_, rfl⟩
      simp only
      rw [hml]
      have hmkL := hmkL a
      clear jn hK2
      cases hp : ifind a m 0 with
      | some p =>
        obtain ⟨j, d⟩ := p
        have hd := hm2 a j d hp
        subst hd
        have nx := fun (i' : Int) L h (e : i' = i + 1) hw => norm L h (i', v, m) ⟨by simp only; omega, by omega, fun x hx => by
          rw [take_succ_get ha, List.mem_append] at hx
          rcases hx with hx | hx
          · exact hm1 x hx
          · rw [List.mem_singleton] at hx; subst hx; exact ⟨j, hp⟩, hm2⟩ hw
        simp only [hml] at nx
        have hne : (ms a).map encB ≠ [] := fun e => by have := congrArg List.length e; rw [List.length_map, hmkL] at this; simp at this; omega
        simp only [boolsD] at hp
        generalize (ms a).map encB = ma at *
        clear norm hm1 hm2 hmk0 hmkS hdown harcs
        conv => cbv
        repeat' first | (intro (e : List D) he; cases Option.some.inj (he.symm.trans hx); (conv => cbv)) | (refine vlk_ints hml (fun h0 => by rw [hp] at h0; cases h0) (fun i2 v2 hv2 => ?_); rw [hp] at hv2; cases hv2; (conv => cbv)) | exact gu | exact trivial | refine And.intro ?_ ?_ | (intro hc; exact absurd hc (by decide)) | (intro hc; exfalso; omega) | (intro hc; (first | rw [wrap_small (by omega) (by omega)] at hc | rw [nI_eq] at hc | skip); try (conv => cbv))
        · rename_i i'; exact nx _ _ _ hc (Wk.ca)
        · exact absurd hc hne
      | none =>
        obtain ⟨nA, hnA⟩ : ∃ n : Int, n = 2 * (links.length : Int) := ⟨_, rfl⟩
        rw [← hnA] at harcs
        have hmkS := hmkS a
        have hmk0 := hmk0 a
        have hmf : ∀ i : Int, (mf a i) = (!decide (A.getD (i / 2).toNat 0 = a) || !uf i) := hmk0
        conv => cbv
        repeat' first | (intro (e : List D) he; cases Option.some.inj (he.symm.trans hx); (conv => cbv)) | (refine call_r harcs rfl rfl ?_; conv => cbv) | (refine vlk_ints hml (fun h0 => ?_) (fun i2 v2 hv2 => by rw [hp] at hv2; cases hv2); (conv => cbv)) | (intro (_ : Unit); refine ⟨?_, ?_, ?_, ?_⟩; omega; omega; omega; omega) | exact gu | exact trivial | refine And.intro ?_ ?_ | (intro hc; exact absurd hc (by decide)) | (intro hc; exfalso; omega) | (intro hc; (first | rw [wrap_small (by omega) (by omega)] at hc | rw [nI_eq] at hc | skip); try (conv => cbv))
        rename_i m0 es0 hm0 hes0 c0 hc0
        have e0 : m0 = 2 * links.length := by omega
        have hc := hes0
        have hc0 : es0 = (List.replicate m0 false).map encB := by rw [hc, ← hm0, List.map_replicate]; rfl
        clear hc
        subst hc0
        refine loop_upx m0 (fun (s : Int × List Bool) => [(1, .c (.d (.list false 1 al))), (2, .c (.d (.list false 1 dl))), (3, .c (.ptr 0 0 0 0)), (6, .c (.d .nilp)), (7, .c (.ptr 2 0 0 0)), (12, iA a), (13, .c (.arr 3 0 0 m0)), (85, .c (.d (.list false 1 al))), (86, iA (Λ al)), (87, iA i), (101, .c (.arr 3 0 0 m0)), (102, iA c0), (103, iA s.1)])
          (fun s => [.bx [.d (iD nodes), .d (.list false 1 ol), .d (.list false 7 ll)], .mp v ml, .bx [.d (iD nodes), .d (.list false 1 ol), .d (.list false 7 ll), .d (iD nodes), .d (.list false 1 ovl), .d (.list false 7 ll), .d (.list false 1 rl), .d (.list false 1 bl), .mp 1], .da true 0 1 (s.2.map encB)])
          (fun j s => s.1 = j ∧ j ≤ m0 ∧ s.2 = (arcsTo j).map (mf a) ++ List.replicate (m0 - j) false) (0, List.replicate m0 false)
          6 (fun (_ : Unit) => [(1, .c (.d (.list false 1 al))), (2, .c (.d (.list false 1 dl))), (3, .c (.ptr 0 0 0 0)), (6, .c (.d .nilp)), (7, .c (.ptr 2 0 0 0)), (12, iA a), (13, .c (.arr 3 0 0 m0)), (85, .c (.d (.list false 1 al))), (86, iA (Λ al)), (87, iA i)])
          (fun _ => [.bx [.d (iD nodes), .d (.list false 1 ol), .d (.list false 7 ll)], .mp v ml, .bx [.d (iD nodes), .d (.list false 1 ol), .d (.list false 7 ll), .d (iD nodes), .d (.list false 1 ovl), .d (.list false 7 ll), .d (.list false 1 rl), .d (.list false 1 bl), .mp 1], .da true 0 1 ((ms a).map encB)]) (fun _ => True)
          (Wk.ca) ⟨rfl, by omega, by simp [arcsTo]⟩ (fun k s h => h.2.1) ?_ ?_
        · rintro j ⟨q, M⟩ Q2 ⟨hq, hj, hM⟩ norm2 jn2 ex2 rt2
          simp only at hq hM
          have lM : M.length = m0 := by rw [hM]; simp [arcsTo]; omega
          obtain ⟨es, hes⟩ : ∃ x, x = M.map encB := ⟨_, rfl⟩
          have les : es.length = m0 := by rw [hes, List.length_map]; exact lM
          simp only
          by_cases hlt2 : j < m0
          · rw [← hes]
            obtain ⟨b, hb⟩ : ∃ b, A[j / 2]? = some b := ⟨_, List.getElem?_eq_getElem (by omega)⟩
            have hx2 : ∀ z : Int, z = q / 2 → al[z.toNat]? = some [iD b] := fun z hz => by rw [hz, hq, show (((j : Nat) : Int) / 2).toNat = j / 2 by omega]; exact hat _ b hb
            have hma := hmf q
            rw [List.getD_eq_getElem?_getD, hq, show (((j : Nat) : Int) / 2).toNat = j / 2 by omega, hb, Option.getD_some, ← hq] at hma
            have hup := hdown q (by omega)
            generalize uf q = b2 at *
            have nx : ∀ (L : Lv) (h : Hp) (i' : Int) (w : Bool), i' = q + 1 → mf a q = w → Wk 0 L h [(1, .c (.d (.list false 1 al))), (2, .c (.d (.list false 1 dl))), (3, .c (.ptr 0 0 0 0)), (6, .c (.d .nilp)), (7, .c (.ptr 2 0 0 0)), (12, iA a), (13, .c (.arr 3 0 0 m0)), (85, .c (.d (.list false 1 al))), (86, iA (Λ al)), (87, iA i), (101, .c (.arr 3 0 0 m0)), (102, iA c0), (103, iA i')] [.bx [.d (iD nodes), .d (.list false 1 ol), .d (.list false 7 ll)], .mp v ml, .bx [.d (iD nodes), .d (.list false 1 ol), .d (.list false 7 ll), .d (iD nodes), .d (.list false 1 ovl), .d (.list false 7 ll), .d (.list false 1 rl), .d (.list false 1 bl), .mp 1], .da true 0 1 ((M.set j w).map encB)] → Q2 .normal L h := fun L h i' w h1 h2 hw => by
              refine norm2 _ _ (i', M.set j w) ⟨by simp only; omega, by omega, ?_⟩ hw
              simp only
              rw [hM, show m0 - j = m0 - (j + 1) + 1 by omega, ← h2, hq, fill_map]
            clear norm2 hat hmf hmk0 hmkS hdown harcs
            cases b2
            all_goals
              conv => cbv
              repeat' first | (refine ex _ _ _ ?_; (conv => cbv)) | (refine rt _ _ ?_; (conv => cbv)) | (intro hc; rw [tdiv2 (by omega) (by omega)] at hc; conv => cbv) | (intro (e : List D) he; cases Option.some.inj (he.symm.trans (hx2 _ (by assumption))); (conv => cbv)) | refine call_b hup rfl rfl ?_ ?_ | (intro hc; cases hc; done) | exact gu | exact trivial | refine And.intro ?_ ?_ | (intro hc; exact absurd hc (by decide)) | (intro hc; exfalso; omega) | (intro hc; (first | rw [wrap_small (by omega) (by omega)] at hc | rw [nI_eq] at hc | skip); try (conv => cbv))
            all_goals
              rename_i p hp2 e hpe es' hes' i'
              have fin : ∀ v : Bool, es' = es.set p (List.take 0 e ++ ([D.bool v] ++ List.drop (0 + [D.bool v].length) e)) → es' = (M.set j v).map encB := fun v h => by
                rw [h, encB_set hes.symm hpe, hp2]
                congr 2; omega
              first
                | (have e3 := fin true hes'
                   subst e3
                   exact nx _ _ i' true (by assumption) (by rw [hma]; simp_all) (Wk.cw))
                | (have e3 := fin false hes'
                   subst e3
                   exact nx _ _ i' false (by assumption) (by rw [hma]; simp_all) (Wk.cw))
          · have e3 : M = ms a := by rw [hM, hmkS, show j = m0 by omega, Nat.sub_self, e0]; simp [arcsTo]
            subst e3
            rw [← hes] at jn2 ⊢
            clear norm2 hat hmf hmk0 hmkS hdown harcs
            conv => cbv
            repeat' first | exact gu | exact trivial | refine And.intro ?_ ?_ | (intro hc; exact absurd hc (by decide)) | (intro hc; exfalso; omega) | (intro hc; (first | rw [wrap_small (by omega) (by omega)] at hc | rw [nI_eq] at hc | skip); try (conv => cbv))
            exact jn2 _ _ () trivial (Wk.ca)
        · rintro _ -
          have nx : ∀ (i' : Int) (m' : Isc) (ml' : List (DV × DV)) L h, i' = i + 1 → m' = m ++ [(a, .s (boolsD (ms a)))] → m'.map encZ = ml' → Wk 0 L h [(1, .c (.d (.list false 1 al))), (2, .c (.d (.list false 1 dl))), (3, .c (.ptr 0 0 0 0)), (6, .c (.d .nilp)), (7, .c (.ptr 2 0 0 0)), (85, .c (.d (.list false 1 al))), (86, iA (Λ al)), (87, iA i')] [.bx [.d (iD nodes), .d (.list false 1 ol), .d (.list false 7 ll)], .mp (v + 1) ml', .bx [.d (iD nodes), .d (.list false 1 ol), .d (.list false 7 ll), .d (iD nodes), .d (.list false 1 ovl), .d (.list false 7 ll), .d (.list false 1 rl), .d (.list false 1 bl), .mp 1]] → Q' .normal L h := fun i' m' ml' L h e1 e2 e3 hw => by
            subst e2 e3
            refine norm L h (i', v + 1, _) ⟨by simp only; omega, by omega, fun x hx => ?_, fun x i2 d hd => ?_⟩ hw
            · rw [take_succ_get ha, List.mem_append] at hx
              by_cases hxa : x = a
              · subst hxa; exact ifind_app_self hp
              · rcases hx with hx | hx
                · obtain ⟨i3, h3⟩ := hm1 x hx
                  exact ⟨i3, by rw [ifind_app_ne hxa]; exact h3⟩
                · rw [List.mem_singleton] at hx; exact absurd hx hxa
            · by_cases hxa : x = a
              · subst hxa
                obtain ⟨i4, h4⟩ := ifind_app_self (d := .s (boolsD (ms x))) hp
                rw [h4] at hd; cases hd; rfl
              · rw [ifind_app_ne hxa] at hd; exact hm2 x i2 d hd
          clear norm hm1 hm2 hmk0 hmkS hdown harcs hmf
          have lms : ((ms a).map encB).length = m0 := by rw [List.length_map, hmkL, e0]
          simp only [boolsD] at nx
          generalize (ms a).map encB = ma at *
          have htk2 : ∀ x, x = List.take m0 ma → x = ma := fun x h => h.trans (List.take_of_length_le (by omega))
          conv => cbv
          repeat' first | (refine vup_ints hml (fun _ es2 he2 => ?_) (fun i2 v2 hv2 => by rw [hp] at hv2; cases hv2); (conv => cbv)) | exact gu | exact trivial | refine And.intro ?_ ?_ | (intro hc; exact absurd hc (by decide)) | (intro hc; exfalso; omega) | (intro hc; (first | rw [wrap_small (by omega) (by omega)] at hc | rw [nI_eq] at hc | skip); try (conv => cbv))
          rename_i i'
          exact nx i' _ es2 _ _ hc (congrArg (fun z => m ++ [(a, DV.s (D.list false 1 z))]) (htk2 _ (by cases m0 <;> cases ma <;> rfl))) he2 (Wk.ca)
    · have jn2 := fun L h hw => jn L h (v, m) (by rw [show k = A.length by omega, List.take_length] at hm1; exact hm1) hw
      simp only at jn2
      obtain ⟨ml, hml⟩ : ∃ x, x = m.map encZ := ⟨_, rfl⟩
      simp only
      rw [← hml] at jn2 ⊢
      clear norm hm1 hm2 hK2
      conv => cbv
      repeat' first | exact gu | exact trivial | refine And.intro ?_ ?_ | (intro hc; exact absurd hc (by decide)) | (intro hc; exfalso; omega) | (intro hc; (first | rw [wrap_small (by omega) (by omega)] at hc | rw [nI_eq] at hc | skip); try (conv => cbv))
      exact jn2 _ _ (Wk.ca)
  · rintro ⟨v, m⟩ hm
    have hk := hK2 v m hm
    simp only at hk ⊢
    generalize m.map encZ = ml at *
    clear hK2 hm
    conv => cbv
    repeat' first | exact gu | exact trivial | refine And.intro ?_ ?_ | (intro hc; exact absurd hc (by decide)) | (intro hc; exfalso; omega) | (intro hc; (first | rw [wrap_small (by omega) (by omega)] at hc | rw [nI_eq] at hc | skip); try (conv => cbv))
    exact hk
end Go.Ab

/-
  Areas: the network as its callers see it.
-/
namespace Go.Ab
open Go.Proofs
theorem build_ok (P : Program) (hP : P = Try.prog) (t : Top) (A : List Int) (down : List Bool) (hv : validK t A = true) (hf : fitsB t down = true) :
  FnS P n_area_build [topA t, intsA A, boolsA down] [] fun r h' => ∃ v m, r = .c (.ptr 0 0 0 0) ∧ h' = netN t A v m ∧ MasksOk t A down m := by
 refine FnS.gc (build_raw P hP t A down hv hf) _ fun r h' hR => ?_
 obtain ⟨v, m, c0, rfl, rfl, hm⟩ := hR
 exact ⟨[2, 1], .c (.ptr 0 0 0 0), netN t A v m, ⟨v, m, rfl, rfl, hm⟩, rfl, by decide, fun l hl => by simp at hl ⊢; omega,
   fun i k hk => by have := frOk_get (h := [Blk.bx c0, .mp v (m.map encZ), .bx [.d (iD t.nodes), .d (boolsD t.ov), .d (linksD t.links), .d (iD t.nodes), .d (boolsD (ovN t A)), .d (linksD t.links), .d (.list false 1 ((rowsN t A).map encRowI)), .d (intsD (bordN t A)), .mp 1]]) (hc := netN t A v m) (n := 0) (ρ := rho [2, 1] 3) (by repeat' first | exact trivial | refine And.intro ?_ ?_ | rfl) i k hk; rw [Nat.zero_add] at this; exact this,
   rfl, rfl, rfl, by simp, fun i hi => by simp at hi, fun k hk => by simp at hk; rcases hk with rfl | rfl <;> intro _ _ _ h <;> cases h⟩
end Go.Ab

/-
  Areas: the best route, as the program finds it.
-/
namespace Go.Ab
open Go.Proofs
noncomputable def bestP (t : Top) (A : List Int) (down : List Bool) (n d : Int) : Pr × Int × Int :=
 if validK t A = true ∧ fitsB t down = true then
  if (0 ≤ n ∧ n < t.nodes) ∧ (0 ≤ d ∧ d < t.nodes) then
   if 0 ≤ (insP t A down n d).dist then (insP t A down n d, 1, 0)
   else if 0 ≤ (acrP t A down n d).dist then (acrP t A down n d, 2, 0)
   else if 0 ≤ (farP t A down n d).dist then (farP t A down n d, 3, 0)
   else (⟨0, []⟩, 0, 11)
  else (⟨0, []⟩, 0, 2)
 else (⟨0, []⟩, 0, 1)
def BestRaw (p : Pr × Int × Int) (r : AV) (h' : Hp) : Prop :=
 (∃ l ve rr, r = .tup [.agg [.d (iD p.1.dist), .arr l ve 0 p.1.arcs.length], iA p.2.1, iA p.2.2] ∧ h'[l]? = some (.da rr ve 1 (p.1.arcs.map encI))) ∨
 (p.1.arcs = [] ∧ r = .tup [.agg [.d (iD p.1.dist), .d (.list true 1 [])], iA p.2.1, iA p.2.2])
abbrev netL (t : Top) (A : List Int) (v : Nat) (ml : List (DV × DV)) : Hp :=
 [.bx [.d (iD t.nodes), .d (boolsD t.ov), .d (linksD t.links), .d (iD t.nodes), .d (boolsD (ovN t A)), .d (linksD t.links), .d (.list false 1 ((rowsN t A).map encRowI)), .d (intsD (bordN t A)), .mp 1], .mp v ml]
theorem own_lam {P : Program} {f : Nat} {args : List AV} {t : Top} {A : List Int} {v : Nat} {m : Isc} {p : Pr} {ml : List (DV × DV)} (hf : FnS P f args (netN t A v m) (RtOwn t A v m p)) (hml : m.map encZ = ml) :
  FnS P f args (netL t A v ml) fun r h' => (∃ ve rr, r = .agg [.d (iD p.dist), .arr 2 ve 0 p.arcs.length] ∧ h' = netL t A v ml ++ [.da rr ve 1 (p.arcs.map encI)]) ∨ (p.arcs = [] ∧ r = .agg [.d (iD p.dist), .d (.list true 1 [])] ∧ h' = netL t A v ml) := by
 subst hml; exact hf
set_option maxRecDepth 20000 in
set_option maxHeartbeats 4000000 in
theorem best_raw (P : Program) (hP : P = Try.prog) (t : Top) (A : List Int) (down : List Bool) (n d : Int) :
  FnS P n_area_best [topA t, intsA A, boolsA down, iA n, iA d] [] (BestRaw (bestP t A down n d)) := by
 refine heap_start (hP ▸ mixed) (hP ▸ fn_area_best) (hP ▸ c_area_best) (Nat.le_of_ble_eq_true rfl) fun Λ Λo K hK => ?_
 have hval := kvalid_ok P hP t A
 have hfit := fun h => gfits_ok P hP t down h
 have hnode := fun n => gnode_ok P hP t n
 have hbuild : ∀ hv hf, FnS P n_area_build [topA t, intsA A, boolsA down] [] fun r h' => ∃ v m ml, m.map encZ = ml ∧ r = .c (.ptr 0 0 0 0) ∧ h' = netL t A v ml ∧ MasksOk t A down m := fun hv hf => (build_ok P hP t A down hv hf).mono fun r h' ⟨v, m, e1, e2, e3⟩ => ⟨v, m, _, rfl, e1, e2, e3⟩
 have hins := fun v m ml q hm (hml : m.map encZ = ml) => own_lam (inside_own P hP t A down n d v m q hm) hml
 have hacr := fun v m ml q hm (hml : m.map encZ = ml) => own_lam (across_own P hP t A down n d v m q hm) hml
 have hfar := fun v m ml q hm (hml : m.map encZ = ml) => own_lam (far_own P hP t A down n d v m q hm) hml
 have f1 : FnOk P n_area_network_inside := hP ▸ ⟨_, fn_area_network_inside, rfl, by decide⟩
 have f2 : FnOk P n_area_network_across := hP ▸ ⟨_, fn_area_network_across, rfl, by decide⟩
 have f3 : FnOk P n_area_network_far := hP ▸ ⟨_, fn_area_network_far, rfl, by decide⟩
 clear hP
 have kn : ∀ h' c w, bestP t A down n d = (⟨0, []⟩, c, w) → K (.tup [.agg [.d (iD 0), .d (.list true 1 [])], iA c, iA w]) h' := fun h' c w e => hK _ _ (.inr ⟨by rw [e], by rw [e]⟩)
 have ko : ∀ l ve rr p c w h', bestP t A down n d = (p, c, w) → h'[l]? = some (.da rr ve 1 (p.arcs.map encI)) → K (.tup [.agg [.d (iD p.dist), .arr l ve 0 p.arcs.length], iA c, iA w]) h' := fun l ve rr p c w h' e h => hK _ _ (.inl ⟨l, ve, rr, by rw [e], by rw [e]; exact h⟩)
 have kz : ∀ dist c w h', bestP t A down n d = (⟨dist, []⟩, c, w) → K (.tup [.agg [.d (iD dist), .d (.list true 1 [])], iA c, iA w]) h' := fun dist c w h' e => hK _ _ (.inr ⟨by rw [e], by rw [e]⟩)
 clear hK
 cases hva : validK t A
 ·rw [hva] at hval
  have k1 := fun h' => kn h' 0 1 (by simp [bestP, hva])
  clear kn ko kz hfit hnode hbuild hins hacr hfar hva
  simp only [boolsA, intsA, boolsD, intsD] at *
  generalize A.map encI = al at *
  generalize down.map encB = dl at *
  obtain ⟨nodes, ov, links⟩ := t
  simp only [topA, boolsD, linksD] at *
  generalize hol : ov.map encB = ol at *
  generalize hll : links.map encLk = ll at *
  have hlo : Λ ol = ov.length := by rw [Λo, ← hol]; simp
  have hls : Λ ll = links.length := by rw [Λo, ← hll]; simp
  conv => cbv
  repeat' first | refine call_b hval rfl rfl ?_ ?_ | (intro hc; cases hc; done) | exact gu | exact trivial | refine And.intro ?_ ?_ | (intro hc; exact absurd hc (by decide)) | (intro hc; exfalso; omega) | (intro hc; (first | rw [wrap_small (by omega) (by omega)] at hc | rw [nI_eq] at hc | skip); try (conv => cbv))
  all_goals exact k1 _
 rw [hva] at hval
 obtain ⟨v1, v2, v3⟩ := validK_spec.1 hva
 have hfit := hfit (validT_spec.1 v1).2.2.1
 cases hfb : fitsB t down
 ·have hno : ¬ (down.length = 0 ∨ down.length = 2 * t.links.length) := fun h => by rw [fitsB, v1, Bool.true_and, Bool.or_eq_false_iff, decide_eq_false_iff_not, decide_eq_false_iff_not] at hfb; exact h.elim hfb.1 hfb.2
  rw [decide_eq_false hno] at hfit
  have k1 := fun h' => kn h' 0 1 (by simp [bestP, hfb])
  clear kn ko kz hnode hbuild hins hacr hfar hva v1 v2 v3 hno hfb
  simp only [boolsA, intsA, boolsD, intsD] at *
  generalize A.map encI = al at *
  generalize down.map encB = dl at *
  obtain ⟨nodes, ov, links⟩ := t
  simp only [topA, boolsD, linksD] at *
  generalize hol : ov.map encB = ol at *
  generalize hll : links.map encLk = ll at *
  have hlo : Λ ol = ov.length := by rw [Λo, ← hol]; simp
  have hls : Λ ll = links.length := by rw [Λo, ← hll]; simp
  conv => cbv
  repeat' first | refine call_b hval rfl rfl ?_ ?_ | refine call_b hfit rfl rfl ?_ ?_ | (intro hc; cases hc; done) | exact gu | exact trivial | refine And.intro ?_ ?_ | (intro hc; exact absurd hc (by decide)) | (intro hc; exfalso; omega) | (intro hc; (first | rw [wrap_small (by omega) (by omega)] at hc | rw [nI_eq] at hc | skip); try (conv => cbv))
  all_goals exact k1 _
 have hys : down.length = 0 ∨ down.length = 2 * t.links.length := (show validT t = true ∧ _ by simpa [fitsB] using hfb).2
 rw [decide_eq_true hys] at hfit
 have hbuild := hbuild hva hfb
 have hnn := hnode n
 have hnd := hnode d
 by_cases hn : 0 ≤ n ∧ n < t.nodes
 rotate_left
 ·rw [decide_eq_false hn] at hnn
  have k1 := fun h' => kn h' 0 2 (by simp [bestP, hva, hfb]; intro h1 h2; omega)
  clear kn ko kz hnode hbuild hins hacr hfar hva v1 v2 v3 hfb hn hnd hys
  simp only [boolsA, intsA, boolsD, intsD] at *
  generalize A.map encI = al at *
  generalize down.map encB = dl at *
  obtain ⟨nodes, ov, links⟩ := t
  simp only [topA, boolsD, linksD] at *
  generalize hol : ov.map encB = ol at *
  generalize hll : links.map encLk = ll at *
  have hlo : Λ ol = ov.length := by rw [Λo, ← hol]; simp
  have hls : Λ ll = links.length := by rw [Λo, ← hll]; simp
  conv => cbv
  repeat' first | refine call_b hval rfl rfl ?_ ?_ | refine call_b hfit rfl rfl ?_ ?_ | refine call_b hnn rfl rfl ?_ ?_ | (intro hc; cases hc; done) | exact gu | exact trivial | refine And.intro ?_ ?_ | (intro hc; exact absurd hc (by decide)) | (intro hc; exfalso; omega) | (intro hc; (first | rw [wrap_small (by omega) (by omega)] at hc | rw [nI_eq] at hc | skip); try (conv => cbv))
  all_goals exact k1 _
 by_cases hd : 0 ≤ d ∧ d < t.nodes
 rotate_left
 ·rw [decide_eq_true hn] at hnn
  rw [decide_eq_false hd] at hnd
  have k1 := fun h' => kn h' 0 2 (by simp [bestP, hva, hfb]; intro h1 h2 h3; omega)
  clear kn ko kz hnode hbuild hins hacr hfar hva v1 v2 v3 hfb hn hd hys
  simp only [boolsA, intsA, boolsD, intsD] at *
  generalize A.map encI = al at *
  generalize down.map encB = dl at *
  obtain ⟨nodes, ov, links⟩ := t
  simp only [topA, boolsD, linksD] at *
  generalize hol : ov.map encB = ol at *
  generalize hll : links.map encLk = ll at *
  have hlo : Λ ol = ov.length := by rw [Λo, ← hol]; simp
  have hls : Λ ll = links.length := by rw [Λo, ← hll]; simp
  conv => cbv
  repeat' first | refine call_b hval rfl rfl ?_ ?_ | refine call_b hfit rfl rfl ?_ ?_ | refine call_b hnn rfl rfl ?_ ?_ | refine call_b hnd rfl rfl ?_ ?_ | (intro hc; cases hc; done) | exact gu | exact trivial | refine And.intro ?_ ?_ | (intro hc; exact absurd hc (by decide)) | (intro hc; exfalso; omega) | (intro hc; (first | rw [wrap_small (by omega) (by omega)] at hc | rw [nI_eq] at hc | skip); try (conv => cbv))
  all_goals exact k1 _
 rw [decide_eq_true hn] at hnn
 rw [decide_eq_true hd] at hnd
 have q : AskK t A down n d := ⟨hva, hfb, hn, hd⟩
 have hins := fun v m ml hm hml => hins v m ml q hm hml
 have hacr := fun v m ml hm hml => hacr v m ml q hm hml
 have hfar := fun v m ml hm hml => hfar v m ml q hm hml
 have hbe : bestP t A down n d = if 0 ≤ (insP t A down n d).dist then (insP t A down n d, 1, 0)
   else if 0 ≤ (acrP t A down n d).dist then (acrP t A down n d, 2, 0)
   else if 0 ≤ (farP t A down n d).dist then (farP t A down n d, 3, 0)
   else (⟨0, []⟩, 0, 11) := by rw [bestP, if_pos ⟨hva, hfb⟩, if_pos ⟨hn, hd⟩]
 rw [hbe] at kn ko kz
 clear hbe
 simp only [MasksOk] at *
 simp only [boolsA, intsA] at *
 generalize insP t A down n d = pI at *
 generalize acrP t A down n d = pA at *
 generalize farP t A down n d = pF at *
 simp only [netN, netL, List.cons_append, List.nil_append, boolsD, intsD, linksD] at *
 generalize (rowsN t A).map encRowI = rl at *
 generalize (bordN t A).map encI = bl at *
 generalize (ovN t A).map encB = ovl at *
 generalize A.map encI = al at *
 generalize down.map encB = dl at *
 obtain ⟨nodes, ov, links⟩ := t
 simp only [topA, boolsD, linksD] at *
 generalize hol : ov.map encB = ol at *
 generalize hll : links.map encLk = ll at *
 have hlo : Λ ol = ov.length := by rw [Λo, ← hol]; simp
 have hls : Λ ll = links.length := by rw [Λo, ← hll]; simp
 conv => cbv
 repeat' first | refine call_b hval rfl rfl ?_ ?_ | refine call_b hfit rfl rfl ?_ ?_ | refine call_b hnn rfl rfl ?_ ?_ | refine call_b hnd rfl rfl ?_ ?_ | (intro hc; cases hc; done) | (refine call_fr [] hbuild rfl rfl (by decide) trivial rfl rfl ?_; rintro r hc' ⟨v, m, ml, hml, rfl, rfl, hm⟩; (conv => cbv)) | exact gu | exact trivial | refine And.intro ?_ ?_ | (intro hc; exact absurd hc (by decide)) | (intro hc; exfalso; omega) | (intro hc; (first | rw [wrap_small (by omega) (by omega)] at hc | rw [nI_eq] at hc | skip); try (conv => cbv))
 have hins := hins v m ml hm hml
 have hacr := hacr v m ml hm hml
 have hfar := hfar v m ml hm hml
 have bk : ∀ i : Int, i < 3 → 0 ≤ i → i = 0 ∨ i = 1 ∨ i = 2 := fun i _ _ => by omega
 refine loop_upx 3 (fun (i : Int) => [(3, iA n), (4, iA d), (10, .c (.ptr 1 0 0 0)), (11, iA 0), (12, iA 0), (49, .agg [.fn true 46 [.ptr 2 0 0 0], .fn true 47 [.ptr 2 0 0 0], .fn true 48 [.ptr 2 0 0 0]]), (50, iA i)])
  (fun _ => [.bx [.d (iD nodes), .d (.list false 1 ol), .d (.list false 7 ll)], .bx [.d (iD 0), .d (.list true 1 [])], .bx [.d (iD nodes), .d (.list false 1 ol), .d (.list false 7 ll), .d (iD nodes), .d (.list false 1 ovl), .d (.list false 7 ll), .d (.list false 1 rl), .d (.list false 1 bl), .mp 3], .mp v ml])
  (fun k i => i = k ∧ k ≤ 3 ∧ (1 ≤ k → pI.dist < 0) ∧ (2 ≤ k → pA.dist < 0) ∧ (3 ≤ k → pF.dist < 0)) 0 0 (fun (_ : Unit) => [(10, .c (.ptr 1 0 0 0)), (11, iA 0), (12, iA 0)])
  (fun _ => [.bx [.d (iD nodes), .d (.list false 1 ol), .d (.list false 7 ll)], .bx [.d (iD 0), .d (.list true 1 [])]]) (fun _ => pI.dist < 0 ∧ pA.dist < 0 ∧ pF.dist < 0)
  (Wk.ca) ⟨rfl, by omega, by omega, by omega, by omega⟩ (fun k s h => h.2.1) ?_ ?_
 ·rintro k i Q' ⟨hi, hk2, hq1, hq2, hq3⟩ norm jn ex rt
  match k, hk2 with
  | 0, _ =>
   obtain rfl : i = 0 := by omega
   have nx1 := fun L h (hp : pI.dist < 0) hw => norm L h 1 ⟨rfl, by omega, fun _ => hp, by omega, by omega⟩ hw
   have ko1 := fun ve rr h' (hp : 0 ≤ pI.dist) h => ko 4 ve rr pI 1 0 h' (by rw [if_pos hp]) h
   have kz1 := fun h' (hp : 0 ≤ pI.dist) (h0 : pI.arcs = []) => kz pI.dist 1 0 h' (by rw [if_pos hp, ← h0])
   clear norm hacr hfar kn jn ko kz hq1 hq2 hq3
   obtain ⟨pd, pa⟩ := pI
   simp only at *
   generalize hel : pa.map encI = el at *
   generalize hen : pa.length = en at *
   conv => cbv
   repeat' first | (refine ex _ _ _ ?_; (conv => cbv)) | (refine rt _ _ ?_; (conv => cbv)) | exact f1 | (intro hc; rw [nI_eq] at hc; exact absurd hc (by decide)) | (refine callv_fr [2, 3] hins rfl rfl (by decide) (by repeat' first | exact trivial | refine And.intro ?_ ?_ | rfl) rfl rfl ?_; rintro r hc' (⟨ve, rr, rfl, rfl⟩ | ⟨h0, rfl, rfl⟩) <;> (conv => cbv)) | exact gu | exact trivial | refine And.intro ?_ ?_ | (intro hc; exact absurd hc (by decide)) | (intro hc; exfalso; omega) | (intro hc; (first | rw [wrap_small (by omega) (by omega)] at hc | rw [nI_eq] at hc | skip); try (conv => cbv))
   all_goals
    rename_i i'
    obtain rfl : i' = 1 := by omega
    first
     | exact ko1 ve rr _ (by assumption) rfl
     | exact kz1 _ (by assumption) h0
     | exact nx1 _ _ (by omega) (Wk.ca)
  | 1, _ =>
   obtain rfl : i = 1 := by omega
   have q1 : pI.dist < 0 := hq1 (by omega)
   have nx1 := fun L h (hp : pA.dist < 0) hw => norm L h 2 ⟨rfl, by omega, fun _ => q1, fun _ => hp, by omega⟩ hw
   have ko1 := fun ve rr h' (hp : 0 ≤ pA.dist) h => ko 4 ve rr pA 2 0 h' (by rw [if_neg (Int.not_le.2 q1), if_pos hp]) h
   have kz1 := fun h' (hp : 0 ≤ pA.dist) (h0 : pA.arcs = []) => kz pA.dist 2 0 h' (by rw [if_neg (Int.not_le.2 q1), if_pos hp, ← h0])
   clear norm hins hfar kn jn ko kz hq1 hq2 hq3
   obtain ⟨pd, pa⟩ := pA
   simp only at *
   generalize hel : pa.map encI = el at *
   generalize hen : pa.length = en at *
   conv => cbv
   repeat' first | (refine ex _ _ _ ?_; (conv => cbv)) | (refine rt _ _ ?_; (conv => cbv)) | exact f2 | (intro hc; rw [nI_eq] at hc; exact absurd hc (by decide)) | (refine callv_fr [2, 3] hacr rfl rfl (by decide) (by repeat' first | exact trivial | refine And.intro ?_ ?_ | rfl) rfl rfl ?_; rintro r hc' (⟨ve, rr, rfl, rfl⟩ | ⟨h0, rfl, rfl⟩) <;> (conv => cbv)) | exact gu | exact trivial | refine And.intro ?_ ?_ | (intro hc; exact absurd hc (by decide)) | (intro hc; exfalso; omega) | (intro hc; (first | rw [wrap_small (by omega) (by omega)] at hc | rw [nI_eq] at hc | skip); try (conv => cbv))
   all_goals
    rename_i i'
    obtain rfl : i' = 2 := by omega
    first
     | exact ko1 ve rr _ (by assumption) rfl
     | exact kz1 _ (by assumption) h0
     | exact nx1 _ _ (by omega) (Wk.ca)
  | 2, _ =>
   obtain rfl : i = 2 := by omega
   have q1 : pI.dist < 0 := hq1 (by omega)
   have q2 : pA.dist < 0 := hq2 (by omega)
   have nx1 := fun L h (hp : pF.dist < 0) hw => norm L h 3 ⟨rfl, by omega, fun _ => q1, fun _ => q2, fun _ => hp⟩ hw
   have ko1 := fun ve rr h' (hp : 0 ≤ pF.dist) h => ko 4 ve rr pF 3 0 h' (by rw [if_neg (Int.not_le.2 q1), if_neg (Int.not_le.2 q2), if_pos hp]) h
   have kz1 := fun h' (hp : 0 ≤ pF.dist) (h0 : pF.arcs = []) => kz pF.dist 3 0 h' (by rw [if_neg (Int.not_le.2 q1), if_neg (Int.not_le.2 q2), if_pos hp, ← h0])
   clear norm hins hacr kn jn ko kz hq1 hq2 hq3
   obtain ⟨pd, pa⟩ := pF
   simp only at *
   generalize hel : pa.map encI = el at *
   generalize hen : pa.length = en at *
   conv => cbv
   repeat' first | (refine ex _ _ _ ?_; (conv => cbv)) | (refine rt _ _ ?_; (conv => cbv)) | exact f3 | (intro hc; rw [nI_eq] at hc; exact absurd hc (by decide)) | (refine callv_fr [2, 3] hfar rfl rfl (by decide) (by repeat' first | exact trivial | refine And.intro ?_ ?_ | rfl) rfl rfl ?_; rintro r hc' (⟨ve, rr, rfl, rfl⟩ | ⟨h0, rfl, rfl⟩) <;> (conv => cbv)) | exact gu | exact trivial | refine And.intro ?_ ?_ | (intro hc; exact absurd hc (by decide)) | (intro hc; exfalso; omega) | (intro hc; (first | rw [wrap_small (by omega) (by omega)] at hc | rw [nI_eq] at hc | skip); try (conv => cbv))
   all_goals
    rename_i i'
    obtain rfl : i' = 3 := by omega
    first
     | exact ko1 ve rr _ (by assumption) rfl
     | exact kz1 _ (by assumption) h0
     | exact nx1 _ _ (by omega) (Wk.ca)
  | 3, _ =>
   obtain rfl : i = 3 := by omega
   have q1 := hq1 (by omega)
   have q2 := hq2 (by omega)
   have q3 := hq3 (by omega)
   have k1 := fun h' => kn h' 0 11 (by rw [if_neg (Int.not_le.2 q1), if_neg (Int.not_le.2 q2), if_neg (Int.not_le.2 q3)])
   clear norm hins hacr hfar kn ko kz jn
   conv => cbv
   repeat' first | (refine ex _ _ _ ?_; (conv => cbv)) | (refine rt _ _ ?_; (conv => cbv)) | exact gu | exact trivial | refine And.intro ?_ ?_ | (intro hc; exact absurd hc (by decide)) | (intro hc; exfalso; omega) | (intro hc; (first | rw [wrap_small (by omega) (by omega)] at hc | rw [nI_eq] at hc | skip); try (conv => cbv))
   exact k1 _
 ·rintro _ ⟨h1, h2, h3⟩
  have k1 := fun h' => kn h' 0 11 (by rw [if_neg (by omega), if_neg (by omega), if_neg (by omega)])
  clear kn ko kz hins hacr hfar
  conv => cbv
  repeat' first | exact gu | exact trivial | refine And.intro ?_ ?_ | (intro hc; exact absurd hc (by decide)) | (intro hc; exfalso; omega) | (intro hc; (first | rw [wrap_small (by omega) (by omega)] at hc | rw [nI_eq] at hc | skip); try (conv => cbv))
  exact k1 _
end Go.Ab

/-
  Areas: the program's routes are the reference's, plainly.
-/
namespace Go.Ab
open Go.Proofs
def PRt (c : Int) (p : Pr) (r : Rt) : Prop := (p.dist = -1 ∧ p.arcs = [] ∧ r = noRt) ∨ (0 ≤ p.dist ∧ r.dist = p.dist ∧ r.cls = c ∧ ∀ a, a ∈ p.arcs ↔ a ∈ r.arcs)
theorem PRt.none {c : Int} : PRt c ⟨-1, []⟩ noRt := .inl ⟨rfl, rfl, rfl⟩
theorem PRt.leg {c g more : Int} {L : List Int} {p : Pr} {r : Rt} (hc : 0 < c) (hm : 0 ≤ more) (h : PRt c p r) :
  PRt c (if g < 0 then p else if 0 ≤ p.dist ∧ p.dist < g + more then p else if p.dist = g + more then ⟨p.dist, p.arcs ++ L⟩ else ⟨g + more, L⟩)
   (betterS r (if g < 0 then noRt else ⟨g + more, c, L⟩)) := by
 by_cases hg : g < 0
 ·rw [if_pos hg, if_pos hg]
  rcases h with ⟨h1, h2, rfl⟩ | ⟨h1, h2, h3, h4⟩
  ·exact .inl ⟨h1, h2, rfl⟩
  ·rw [betterS, if_neg (by simp only [noRt]; omega), if_pos (.inl rfl)]
   exact .inr ⟨h1, h2, h3, h4⟩
 ·rw [if_neg hg, if_neg hg]
  rcases h with ⟨h1, h2, rfl⟩ | ⟨h1, h2, h3, h4⟩
  ·rw [if_neg (by omega), if_neg (by omega), betterS, if_pos (.inl rfl)]
   exact .inr ⟨by simp only; omega, rfl, rfl, fun a => Iff.rfl⟩
  ·by_cases h5 : p.dist < g + more
   ·rw [if_pos ⟨h1, h5⟩, betterS, if_neg (by simp only; omega), if_pos (by simp only; omega)]
    exact .inr ⟨h1, h2, h3, h4⟩
   ·rw [if_neg (by omega)]
    by_cases h6 : p.dist = g + more
    ·rw [if_pos h6, betterS, if_neg (by simp only; omega), if_neg (by simp only; omega)]
     exact .inr ⟨h1, h2, h3, fun a => by simp only [List.mem_append, mem_mergeR, h4]⟩
    ·rw [if_neg h6, betterS, if_pos (by simp only; omega)]
     exact .inr ⟨by simp only; omega, rfl, rfl, fun a => Iff.rfl⟩
theorem PRt.add {c more : Int} {t : Top} {m : List Bool} {n d : Int} {p : Pr} {r : Rt} (hc : 0 < c) (hm : 0 ≤ more) (h : PRt c p r) :
  PRt c (addP t m n d more p) (betterS r (legS t m n d more c)) := h.leg hc hm
theorem fold_rel {α β γ : Type} {R : α → β → Prop} {f : α → γ → α} {g : β → γ → β} : ∀ (l : List γ) (p : α) (r : β), (∀ k ∈ l, ∀ p r, R p r → R (f p k) (g r k)) → R p r → R (l.foldl f p) (l.foldl g r)
 | [], _, _, _, h => h
 | k :: l, p, r, hf, h => fold_rel l (f p k) (g r k) (fun k' hk => hf k' (by simp [hk])) (hf k (by simp) p r h)
theorem fold_filter {α β : Type} (f : β → α → β) (c : α → Bool) : ∀ (l : List α) (b : β), (l.filter c).foldl f b = l.foldl (fun b a => if c a = true then f b a else b) b
 | [], _ => rfl
 | a :: l, b => by
  rw [List.foldl_cons]
  cases h : c a
  ·rw [List.filter_cons_of_neg (by simp [h]), fold_filter f c l b]; simp
  ·rw [List.filter_cons_of_pos h, List.foldl_cons, fold_filter f c l]; simp
theorem ins_same {t : Top} {A : List Int} (down : List Bool) (n d : Int) (hv : validK t A = true) : PRt 1 (insP t A down n d) (insideS t A down n d) := by
 unfold insP insideS
 by_cases hnd : n = d
 ·rw [if_pos hnd, if_pos hnd]
  exact .inr ⟨by simp, rfl, rfl, fun a => Iff.rfl⟩
 ·rw [if_neg hnd, if_neg hnd, inS, if_pos hv, fold_filter]
  refine fold_rel _ _ _ (fun k _ p r h => ?_) .none
  rw [insStep, insPs]
  by_cases h1 : isK t A n k = true
  ·rw [if_pos h1]
   by_cases h2 : isK t A d k = true
   ·rw [if_pos ((mem_inS hv).2 h2), if_pos ⟨h1, h2⟩]; exact h.add (by omega) (by omega)
   ·rw [if_neg fun e => h2 ((mem_inS hv).1 e), if_neg fun e => h2 e.2]; exact h
  ·rw [if_neg h1, if_neg fun e => h1 e.1]; exact h
theorem PRt.yes {c : Int} {p : Pr} {r : Rt} (hc : 0 < c) (h : PRt c p r) : (0 ≤ p.dist ↔ 0 < r.cls) := by
 rcases h with ⟨h1, _, rfl⟩ | ⟨h1, _, h3, _⟩
 ·simp [h1, noRt]
 ·omega
theorem PRt.dist {c : Int} {p : Pr} {r : Rt} (h : PRt c p r) (h0 : 0 ≤ p.dist) : r.dist = p.dist := by
 rcases h with ⟨h1, _, rfl⟩ | ⟨h1, h2, h3, _⟩
 ·omega
 ·exact h2
theorem PRt.no {c : Int} {p : Pr} {r : Rt} (h : PRt c p r) (h0 : ¬ 0 ≤ p.dist) : r = noRt := by
 rcases h with ⟨h1, _, h⟩ | ⟨h1, h2, h3, _⟩
 ·exact h
 ·exact absurd h1 h0
theorem bordN_eq {t : Top} {A : List Int} (hv : validK t A = true) : bordN t A = (arcsTo t.nodes.toNat).filter fun b => !ovT t b && borderK t A b := by
 rw [bordN, borderS, if_pos hv, List.filter_filter]
theorem acr_same {t : Top} {A : List Int} (down : List Bool) (n d : Int) (hv : validK t A = true) (hi : ¬ 0 ≤ (insP t A down n d).dist) : PRt 2 (acrP t A down n d) (acrossS t A down n d) := by
 have h0 := (ins_same down n d hv).no hi
 unfold acrP acrossS
 rw [h0]
 by_cases hn : isK t A n 0 = true
 ·rw [if_pos hn, if_neg (by simp [noRt, hn]), bordN_eq hv, fold_filter]
  refine fold_rel _ _ _ (fun b _ p r h => ?_) .none
  have hs := ins_same down b d hv
  have hy := hs.yes (by omega)
  rw [acrStep]
  by_cases h1 : borderK t A b = true ∧ ovT t b = false
  ·rw [if_pos (by simp [h1.1, h1.2]), acrPs]
   by_cases h2 : 0 ≤ (insP t A down b d).dist
   ·rw [if_pos h2, if_pos ⟨h1.1, h1.2, hy.1 h2⟩, hs.dist h2]; exact h.add (by omega) h2
   ·rw [if_neg h2, if_neg fun e => h2 (hy.2 e.2.2)]; exact h
  ·rw [if_neg (by simp only [Bool.and_eq_true, Bool.not_eq_true']; exact fun e => h1 ⟨e.2, e.1⟩), if_neg fun e => h1 ⟨e.1, e.2.1⟩]; exact h
 ·rw [if_neg hn, if_pos (.inr (by simpa using hn))]; exact .none
theorem rest_same {t : Top} {A : List Int} (down : List Bool) (d b : Int) (hv : validK t A = true) : (0 ≤ (restP t A down d b).dist ↔ 0 < (acrossS t A down b d).cls) ∧ (0 ≤ (restP t A down d b).dist → (acrossS t A down b d).dist = (restP t A down d b).dist) := by
 have hs := ins_same down b d hv
 unfold restP
 by_cases h : 0 ≤ (insP t A down b d).dist
 ·rw [if_neg (by omega)]
  have hy := (hs.yes (by omega)).1 h
  rw [show acrossS t A down b d = insideS t A down b d by unfold acrossS; rw [if_pos (.inl hy)]]
  exact ⟨⟨fun _ => hy, fun _ => h⟩, hs.dist⟩
 ·rw [if_pos (by omega)]
  have ha := acr_same down b d hv h
  exact ⟨ha.yes (by omega), ha.dist⟩
theorem tail_outer {t : Top} {A : List Int} (hv : validT t = true) (a : Int) : tailT (outerN t A) a = tailT t a ∧ headT (outerN t A) a = headT t a ∧ costT (outerN t A) a = costT t a := by
 have e : arcsT (outerN t A) = arcsT t := by rw [arcsT, arcsT, valid_outer hv, hv]; rfl
 have e2 : lkAt (outerN t A) a = lkAt t a := rfl
 refine ⟨?_, ?_, ?_⟩
 ·rw [tailT, tailT, e, e2]
 ·rw [headT, headT, e, e2]
 ·rw [costT, costT, e, e2]
theorem ov_outer {t : Top} {A : List Int} (hv : validT t = true) {x : Int} (h0 : 0 ≤ x) (h1 : x < t.nodes) : ovT (outerN t A) x = (ovT t x || isK t A x 0) := by
 have hl : (outerN t A).ov.length = t.nodes.toNat := by simp [outerN, ovN, arcsTo]
 have hg : (arcsTo t.nodes.toNat)[x.toNat]? = some x := by rw [arcsTo, List.getElem?_map, List.getElem?_range (by omega), Option.map_some, Int.toNat_of_nonneg h0]
 rw [ovT, valid_outer hv, hl, decide_eq_true (by omega)]
 have : (outerN t A).ov.getD x.toNat false = (ovT t x || isK t A x 0) := by
  rw [outerN, ovN, List.getD_eq_getElem?_getD, List.getElem?_map, hg]; rfl
 rw [this]; rfl
theorem up_mask {t : Top} {A : List Int} {down : List Bool} {k : Int} {ap : Bool} {a : Int} (h0 : 0 ≤ a) (h1 : a < 2 * t.links.length) : upB (maskS t A down k ap) a = !maskAt t A down k ap a := by
 rw [upB, maskS_len, decide_eq_false (by omega), Bool.false_or, maskS, List.getD_eq_getElem?_getD, List.getElem?_map, arcsTo, List.getElem?_map, List.getElem?_range (by omega)]
 simp only [Option.map_some, Option.getD_some]
 rw [Int.toNat_of_nonneg h0]
theorem up_mask_iff {t : Top} {A : List Int} {down : List Bool} {k : Int} {ap : Bool} {a : Int} (h0 : 0 ≤ a) (h1 : a < 2 * t.links.length) :
  upB (maskS t A down k ap) a = true ↔ A.getD (a / 2).toNat 0 = k ∧ upB down a = true ∧ (ap = true → isK t A (tailT t a) 0 = false) := by
 rw [up_mask h0 h1, maskAt]
 simp only [Bool.not_eq_true', Bool.or_eq_false_iff, Bool.not_eq_false', Bool.and_eq_false_iff, decide_eq_true_eq, and_assoc]
 refine and_congr Iff.rfl (and_congr Iff.rfl ?_)
 cases ap <;> simp
theorem arc_isK {t : Top} {A : List Int} (hv : validK t A = true) {a k : Int} (h0 : 0 ≤ a) (h1 : a < 2 * t.links.length) (hk : A.getD (a / 2).toNat 0 = k) : isK t A (tailT t a) k = true ∧ isK t A (headT t a) k = true := by
 obtain ⟨v1, v2, v3⟩ := validK_spec.1 hv
 have ha : arcsT t = 2 * t.links.length := by rw [arcsT, if_pos v1]
 have hx : t.links[(a / 2).toNat]? = some (t.links[(a / 2).toNat]'(by omega)) := List.getElem?_eq_getElem (by omega)
 have hy : A[(a / 2).toNat]? = some k := by rw [← hk, List.getD_eq_getElem?_getD, List.getElem?_eq_getElem (by omega)]; rfl
 have hl : lkAt t a = t.links[(a / 2).toNat]'(by omega) := by rw [lkAt, hx]; rfl
 have hin : 0 ≤ a ∧ a < arcsT t := by omega
 refine ⟨isK_spec.2 ⟨_, _, hy, hx, ?_⟩, isK_spec.2 ⟨_, _, hy, hx, ?_⟩⟩
 ·rw [tailT, if_pos hin, ← hl, touch]; split <;> simp
 ·rw [headT, if_pos hin, ← hl, touch]; split <;> simp
theorem dist_out {t : Top} {A : List Int} (hv : validK t A = true) (t' : Top) (e1 : t'.nodes = t.nodes) (e2 : t'.links = t.links) (hv' : validT t' = true) (ht : ∀ a, headT t' a = headT t a) {down : List Bool} {ap : Bool} {n b k : Int} (hn : 0 ≤ n ∧ n < t.nodes) (hb : 0 ≤ b ∧ b < t.nodes) (hne : n ≠ b) (hk : isK t A b k ≠ true) :
  gt (distS t' (maskS t A down k ap) b false) n < 0 := by
 have h : IsDist t' (maskS t A down k ap) b false ((List.replicate t.nodes.toNat (-1)).set b.toNat 0) := by
  have hg : ∀ i, 0 ≤ i → gt ((List.replicate t.nodes.toNat (-1)).set b.toNat 0) i = if i = b then 0 else -1 := fun i h0 => by
   rw [gt_set hb.1 (by simp; omega) h0]
   split
   ·rfl
   ·simp only [gt]
    rw [List.getD_eq_getElem?_getD, List.getElem?_replicate]; split <;> rfl
  refine ⟨by simp; omega, by rw [hg b hb.1, if_pos rfl], fun i h0 _ => by rw [hg i h0]; split <;> omega, fun a a0 a1 ho hy => ?_, fun x x0 _ hx h0 => ?_⟩
  ·rw [e2] at a1
   have hf := (arc_facts (validK_spec.1 hv).1 a0 a1).2.1
   simp only [okArc, yOf, Bool.and_eq_true] at ho hy
   rw [if_neg (by simp), ht] at hy
   rw [hg _ hf.1] at hy
   split at hy
   ·rename_i e
    have := (arc_isK hv a0 a1 ((up_mask_iff a0 a1).1 ho.1).1).2
    rw [e] at this
    exact absurd this hk
   ·omega
  ·rw [hg x x0, if_neg hx] at h0; omega
 rw [distS_eq hv' h, gt_set hb.1 (by simp; omega) hn.1, if_neg hne, gt, List.getD_eq_getElem?_getD, List.getElem?_replicate]
 split <;> decide
def apartD (t : Top) (A : List Int) (e : Int) (E : List Int) : List Int := (arcsTo t.nodes.toNat).map fun i => if isK t A i 0 = true ∧ i ≠ e then -1 else gt E i
theorem apartD_gt {t : Top} {A : List Int} {e : Int} {E : List Int} {x : Int} (h0 : 0 ≤ x) (h1 : x < t.nodes) : gt (apartD t A e E) x = if isK t A x 0 = true ∧ x ≠ e then -1 else gt E x := by
 have hg : (arcsTo t.nodes.toNat)[x.toNat]? = some x := by rw [arcsTo, List.getElem?_map, List.getElem?_range (by omega), Option.map_some, Int.toNat_of_nonneg h0]
 rw [gt, apartD, List.getD_eq_getElem?_getD, List.getElem?_map, hg]; rfl
theorem apart_dist {t : Top} {A : List Int} (hv : validK t A = true) {down : List Bool} {b k : Int} (hb : 0 ≤ b ∧ b < t.nodes) (hbb : isK t A b 0 = true) :
  distS t (maskS t A down k true) b false = apartD t A b (distS (outerN t A) (maskS t A down k false) b false) := by
 have v1 := (validK_spec.1 hv).1
 have hd := (distS_spec (valid_outer (A := A) v1) (maskS t A down k false) false hb.1 hb.2).1
 generalize distS (outerN t A) (maskS t A down k false) b false = E at *
 refine distS_eq v1 ⟨by simp [apartD, arcsTo]; omega, by rw [apartD_gt hb.1 hb.2, if_neg (by simp)]; exact hd.zero, fun i h0 h1 => by rw [apartD_gt h0 h1]; have := hd.lo i h0 h1; split <;> omega, fun a a0 a1 ho hy => ?_, fun x x0 x1 hx h0 => ?_⟩
 ·have hf := arc_facts v1 a0 a1
  have hto := tail_outer (A := A) v1 a
  have hfx := hd.fix a a0 a1
  simp only [fixAt, okArc, xOf, yOf, Bool.and_eq_true, Bool.false_eq_true, if_false] at ho hy hfx ⊢
  rw [hto.1, hto.2.1, hto.2.2] at hfx
  obtain ⟨u1, u2, u3⟩ := (up_mask_iff a0 a1).1 ho.1
  have u3 := u3 rfl
  rw [apartD_gt hf.2.1.1 hf.2.1.2] at hy ⊢
  rw [apartD_gt hf.1.1 hf.1.2, if_neg (by simp [u3])]
  by_cases hh : isK t A (headT t a) 0 = true ∧ headT t a ≠ b
  ·rw [if_pos hh] at hy; omega
  ·rw [if_neg hh] at hy ⊢
   refine hfx ⟨(up_mask_iff a0 a1).2 ⟨u1, u2, by simp⟩, ?_⟩ hy
   have ho2 := ho.2
   rw [transitB, Bool.or_eq_true] at ho2 ⊢
   by_cases e : headT t a = b
   ·exact .inl (by simp [e])
   ·refine .inr ?_
    rw [ov_outer v1 hf.2.1.1 hf.2.1.2]
    have : isK t A (headT t a) 0 = false := by
     cases h : isK t A (headT t a) 0
     ·rfl
     ·exact absurd ⟨h, e⟩ hh
    rw [this]
    simpa [e] using ho2
 ·rw [apartD_gt x0 x1] at h0 ⊢
  by_cases hxb : isK t A x 0 = true ∧ x ≠ b
  ·rw [if_pos hxb] at h0; omega
  ·rw [if_neg hxb] at h0 ⊢
   obtain ⟨a, a0, a1, ho, hxa, hy, he⟩ := hd.tight x x0 x1 hx h0
   have a1 : a < 2 * t.links.length := a1
   have hf := arc_facts v1 a0 a1
   have hto := tail_outer (A := A) v1 a
   simp only [okArc, xOf, yOf, Bool.and_eq_true, Bool.false_eq_true, if_false] at ho hy hxa he
   rw [hto.1] at hxa
   rw [hto.2.1] at hy ho he
   rw [hto.2.2] at he
   obtain ⟨u1, u2, u3⟩ := (up_mask_iff (t := t) a0 a1).1 ho.1
   have ho2 := ho.2
   rw [transitB, Bool.or_eq_true, ov_outer v1 hf.2.1.1 hf.2.1.2] at ho2
   have hx0 : isK t A x 0 = false := by
    cases h : isK t A x 0
    ·rfl
    ·exact absurd ⟨h, hx⟩ hxb
   have hyn : ¬ (isK t A (headT t a) 0 = true ∧ headT t a ≠ b) := fun ⟨q1, q2⟩ => by simp [q1, q2] at ho2
   refine ⟨a, a0, a1, ?_, hxa, ?_, ?_⟩
   ·simp only [okArc, yOf, Bool.and_eq_true, Bool.false_eq_true, if_false]
    refine ⟨(up_mask_iff a0 a1).2 ⟨u1, u2, fun _ => by rw [hxa]; exact hx0⟩, ?_⟩
    rw [transitB, Bool.or_eq_true]
    rcases ho2 with q | q
    ·exact .inl q
    ·refine .inr ?_
     simp only [Bool.not_eq_true', Bool.or_eq_false_iff] at q
     simp [q.1]
   ·simp only [yOf, Bool.false_eq_true, if_false]
    rw [apartD_gt hf.2.1.1 hf.2.1.2, if_neg hyn]; exact hy
   ·simp only [yOf, Bool.false_eq_true, if_false]
    rw [apartD_gt hf.2.1.1 hf.2.1.2, if_neg hyn]; exact he
theorem apart_next {t : Top} {A : List Int} (hv : validK t A = true) {down : List Bool} {n b k : Int} (hn : 0 ≤ n ∧ n < t.nodes) (hn0 : isK t A n 0 = false) (E : List Int) :
  nextL (outerN t A) (maskS t A down k false) E n b = nextL t (maskS t A down k true) (apartD t A b E) n b := by
 have v1 := (validK_spec.1 hv).1
 rw [nextL, nextL]
 refine List.filter_congr fun a ha => ?_
 have ha := mem_arcsTo.1 ha
 have a0 : 0 ≤ a := ha.1
 have a1 : a < 2 * t.links.length := by have h : a < ((2 * t.links.length : Nat) : Int) := ha.2; omega
 have hf := arc_facts v1 a0 a1
 have hto := tail_outer (A := A) v1 a
 rw [hto.1]
 by_cases ht : tailT t a = n
 ·rw [onB, onB, hto.1, hto.2.1, hto.2.2, Bool.eq_iff_iff]
  simp only [Bool.and_eq_true, decide_eq_true_eq, Bool.not_eq_true', decide_eq_false_iff_not]
  rw [up_mask_iff a0 a1, up_mask_iff a0 a1, apartD_gt hf.2.1.1 hf.2.1.2, apartD_gt hf.1.1 hf.1.2, transitB, transitB, Bool.or_eq_true, Bool.or_eq_true, ov_outer v1 hf.2.1.1 hf.2.1.2, ht, hn0]
  simp only [Bool.false_eq_true, false_and, if_false]
  by_cases he : headT t a = b
  ·simp [he]
  ·cases hh : isK t A (headT t a) 0
   ·simp [he]
   ·simp [he]
 ·rw [decide_eq_false ht]; rfl
theorem far_leg {t : Top} {A : List Int} (hv : validK t A = true) {down : List Bool} {n b k more : Int} {p : Pr} (hn : 0 ≤ n ∧ n < t.nodes) (hb : 0 ≤ b ∧ b < t.nodes) (hbb : isK t A b 0 = true) (hn0 : isK t A n 0 = false) :
  addP (outerN t A) (maskS t A down k false) n b more p = addP t (maskS t A down k true) n b more p := by
 rw [addP, addP, apart_dist hv hb hbb, apart_next hv hn hn0, apartD_gt hn.1 hn.2, if_neg (c := isK t A n 0 = true ∧ n ≠ b) (by simp [hn0])]
theorem border_back {t : Top} {A : List Int} (hv : validK t A = true) {b : Int} (h : borderK t A b = true) : isK t A b 0 = true := by
 rw [borderK, Bool.and_eq_true, decide_eq_true_eq, decide_eq_true_eq] at h
 exact (back_iff hv b).1 ⟨by omega, h.2⟩
theorem far_same {t : Top} {A : List Int} (down : List Bool) (n d : Int) (hv : validK t A = true) (hn : 0 ≤ n ∧ n < t.nodes) (hi : ¬ 0 ≤ (insP t A down n d).dist) (ha : ¬ 0 ≤ (acrP t A down n d).dist) : PRt 3 (farP t A down n d) (ofS t A down n d) := by
 have h0 := (acr_same down n d hv hi).no ha
 unfold farP ofS
 rw [h0]
 by_cases hn0 : isK t A n 0 = true
 ·rw [if_pos hn0, if_pos (.inr hn0)]; exact .none
 ·rw [if_neg hn0, if_neg (by simp [noRt, hn0]), bordN_eq hv, fold_filter]
  simp only [Bool.not_eq_true] at hn0
  refine fold_rel _ _ _ (fun b hbm p r h => ?_) .none
  have hb : 0 ≤ b ∧ b < t.nodes := by have := mem_arcsTo.1 hbm; omega
  have hs := rest_same down d b hv
  rw [ofStep]
  by_cases h1 : borderK t A b = true ∧ ovT t b = false
  ·rw [if_pos (by simp [h1.1, h1.2]), farPs]
   have hbb := border_back hv h1.1
   by_cases h2 : 0 ≤ (restP t A down d b).dist
   ·rw [if_pos h2, if_pos ⟨h1.1, h1.2, hs.1.1 h2⟩, hs.2 h2, inS, if_pos hv, fold_filter]
    have e65 : arcsTo 65 = 0 :: ks 64 := by decide
    rw [e65, List.foldl_cons, if_neg (by rw [hn0]; simp)]
    refine fold_rel _ _ _ (fun k hk p r h => ?_) h
    rw [farStep, farPi]
    by_cases h3 : isK t A n k = true
    ·rw [if_pos h3, far_leg hv hn hb hbb hn0]
     by_cases h4 : isK t A b k = true
     ·rw [if_pos ⟨h3, h4⟩]; exact h.add (by omega) h2
     ·rw [if_neg fun e => h4 e.2, addP, if_pos]
      ·exact h
      ·exact dist_out hv t rfl rfl (validK_spec.1 hv).1 (fun _ => rfl) hn hb (fun e => by rw [e] at hn0; rw [hbb] at hn0; cases hn0) h4
    ·rw [if_neg h3, if_neg fun e => h3 e.1]; exact h
   ·rw [if_neg h2, if_neg fun e => h2 (hs.1.2 e.2.2)]; exact h
  ·rw [if_neg (by simp only [Bool.and_eq_true, Bool.not_eq_true']; exact fun e => h1 ⟨e.2, e.1⟩), if_neg fun e => h1 ⟨e.1, e.2.1⟩]; exact h
end Go.Ab

/-
  Areas: the best one of some legs, plainly.
-/
namespace Go.Ab
open Go.Proofs
def IsBest (c : Int) (L : List Rt) (r : Rt) : Prop :=
 (r = noRt ∧ ∀ l ∈ L, l.cls = 0) ∨ (r.cls = c ∧ (∃ l ∈ L, l.cls = c ∧ l.dist = r.dist) ∧ (∀ l ∈ L, l.cls = c → r.dist ≤ l.dist) ∧ ∀ a, a ∈ r.arcs ↔ ∃ l ∈ L, l.cls = c ∧ l.dist = r.dist ∧ a ∈ l.arcs)
theorem IsBest.snoc {c : Int} (hc : 0 < c) {L : List Rt} {r l : Rt} (h : IsBest c L r) (hl : l = noRt ∨ l.cls = c) : IsBest c (L ++ [l]) (betterS r l) := by
 rcases hl with rfl | hl
 ·have e : betterS r noRt = r := by
   rcases h with ⟨rfl, _⟩ | ⟨h1, _⟩
   ·rfl
   ·rw [betterS, if_neg (by simp only [noRt]; omega), if_pos (.inl rfl)]
  rw [e]
  rcases h with ⟨h1, h2⟩ | ⟨h1, ⟨x, hx, hx1, hx2⟩, h3, h4⟩
  ·exact .inl ⟨h1, fun l h => by
    rcases List.mem_append.1 h with h | h
    ·exact h2 l h
    ·rw [List.mem_singleton.1 h]; rfl⟩
  ·refine .inr ⟨h1, ⟨x, by simp [hx], hx1, hx2⟩, fun l h hl => ?_, fun a => ?_⟩
   ·rcases List.mem_append.1 h with h | h
    ·exact h3 l h hl
    ·rw [List.mem_singleton.1 h] at hl; simp only [noRt] at hl; omega
   ·rw [h4]
    constructor
    ·rintro ⟨y, hy, q⟩; exact ⟨y, by simp [hy], q⟩
    ·rintro ⟨y, hy, q⟩
     rcases List.mem_append.1 hy with h | h
     ·exact ⟨y, h, q⟩
     ·rw [List.mem_singleton.1 h] at q; simp [noRt] at q
 ·rcases h with ⟨rfl, h2⟩ | ⟨h1, ⟨x, hx, hx1, hx2⟩, h3, h4⟩
  ·rw [betterS, if_pos (.inl rfl)]
   have no : ∀ y ∈ L ++ [l], y.cls = c → y = l := fun y hy e => by
    rcases List.mem_append.1 hy with h | h
    ·have := h2 y h; omega
    ·exact List.mem_singleton.1 h
   refine .inr ⟨hl, ⟨l, by simp, hl, rfl⟩, fun y hy e => by rw [no y hy e]; exact Int.le_refl _, fun a => ⟨fun h => ⟨l, by simp, hl, rfl, h⟩, ?_⟩⟩
   rintro ⟨y, hy, e, _, h⟩
   rw [no y hy e] at h; exact h
  ·by_cases q1 : l.dist < r.dist
   ·rw [betterS, if_pos (.inr ⟨by omega, q1⟩)]
    refine .inr ⟨hl, ⟨l, by simp, hl, rfl⟩, fun y hy e => ?_, fun a => ⟨fun h => ⟨l, by simp, hl, rfl, h⟩, ?_⟩⟩
    ·rcases List.mem_append.1 hy with h | h
     ·have := h3 y h e; omega
     ·rw [List.mem_singleton.1 h]; exact Int.le_refl _
    ·rintro ⟨y, hy, e, hd, h⟩
     rcases List.mem_append.1 hy with h' | h'
     ·have := h3 y h' e; omega
     ·rw [List.mem_singleton.1 h'] at h; exact h
   ·by_cases q2 : r.dist < l.dist
    ·rw [betterS, if_neg (by omega), if_pos (.inr q2)]
     refine .inr ⟨h1, ⟨x, by simp [hx], hx1, hx2⟩, fun y hy e => ?_, fun a => ?_⟩
     ·rcases List.mem_append.1 hy with h | h
      ·exact h3 y h e
      ·rw [List.mem_singleton.1 h]; omega
     ·rw [h4]
      constructor
      ·rintro ⟨y, hy, q⟩; exact ⟨y, by simp [hy], q⟩
      ·rintro ⟨y, hy, q⟩
       rcases List.mem_append.1 hy with h | h
       ·exact ⟨y, h, q⟩
       ·rw [List.mem_singleton.1 h] at q; omega
    ·rw [betterS, if_neg (by omega), if_neg (by omega)]
     refine .inr ⟨h1, ⟨x, by simp [hx], hx1, hx2⟩, fun y hy e => ?_, fun a => ?_⟩
     ·simp only
      rcases List.mem_append.1 hy with h | h
      ·exact h3 y h e
      ·rw [List.mem_singleton.1 h]; omega
     ·simp only [mem_mergeR, h4]
      constructor
      ·rintro (⟨y, hy, q⟩ | h)
       ·exact ⟨y, by simp [hy], q⟩
       ·exact ⟨l, by simp, hl, by omega, h⟩
      ·rintro ⟨y, hy, q⟩
       rcases List.mem_append.1 hy with h | h
       ·exact .inl ⟨y, h, q⟩
       ·rw [List.mem_singleton.1 h] at q; exact .inr q.2.2
theorem IsBest.fold {c : Int} (hc : 0 < c) : ∀ (L2 L1 : List Rt) (r : Rt), IsBest c L1 r → (∀ l ∈ L2, l = noRt ∨ l.cls = c) → IsBest c (L1 ++ L2) (L2.foldl betterS r)
 | [], L1, r, h, _ => by rw [List.append_nil]; exact h
 | l :: L2, L1, r, h, hl => by
  have := IsBest.fold hc L2 (L1 ++ [l]) (betterS r l) (h.snoc hc (hl l (by simp))) fun x hx => hl x (by simp [hx])
  rw [List.append_assoc] at this; exact this
theorem IsBest.of {c : Int} (hc : 0 < c) (L : List Rt) (hl : ∀ l ∈ L, l = noRt ∨ l.cls = c) : IsBest c L (L.foldl betterS noRt) :=
 IsBest.fold hc L [] noRt (.inl ⟨rfl, fun l h => by cases h⟩) hl
theorem IsBest.le {c : Int} (hc : 0 < c) {L : List Rt} {r l : Rt} (h : IsBest c L r) (hl : l ∈ L) (hk : l.cls = c) : r.cls = c ∧ r.dist ≤ l.dist := by
 rcases h with ⟨rfl, h2⟩ | ⟨h1, _, h3, h4⟩
 ·have := h2 l hl; omega
 ·exact ⟨h1, h3 l hl hk⟩
theorem IsBest.ex {c : Int} {L : List Rt} {r : Rt} (h : IsBest c L r) (h0 : 0 < r.cls) : r.cls = c ∧ ∃ l ∈ L, l.cls = c ∧ l.dist = r.dist ∧ ∀ a ∈ l.arcs, a ∈ r.arcs := by
 rcases h with ⟨rfl, h2⟩ | ⟨h1, ⟨x, hx, hx1, hx2⟩, h3, h4⟩
 ·simp [noRt] at h0
 ·exact ⟨h1, x, hx, hx1, hx2, fun a ha => (h4 a).2 ⟨x, hx, hx1, hx2, ha⟩⟩
theorem IsBest.cls {c : Int} {L : List Rt} {r : Rt} (h : IsBest c L r) : r = noRt ∨ r.cls = c := by
 rcases h with ⟨h1, _⟩ | ⟨h1, _⟩
 ·exact .inl h1
 ·exact .inr h1
theorem leg_cls (t : Top) (m : List Bool) (n d more c : Int) : legS t m n d more c = noRt ∨ (legS t m n d more c).cls = c := by
 rw [legS]; split
 ·exact .inl rfl
 ·exact .inr rfl
noncomputable def legsI (t : Top) (A : List Int) (down : List Bool) (n d : Int) : List Rt := ((arcsTo 65).filter fun k => isK t A n k && isK t A d k).map fun k => legS t (maskS t A down k false) n d 0 1
noncomputable def legsA (t : Top) (A : List Int) (down : List Bool) (n d : Int) : List Rt :=
 ((arcsTo t.nodes.toNat).filter fun b => borderK t A b && !ovT t b && decide (0 < (insideS t A down b d).cls)).map fun b => legS t (maskS t A down 0 false) n b (insideS t A down b d).dist 2
theorem inside_best {t : Top} {A : List Int} {down : List Bool} {n d : Int} (h : n ≠ d) : IsBest 1 (legsI t A down n d) (insideS t A down n d) := by
 have e : insideS t A down n d = (legsI t A down n d).foldl betterS noRt := by
  rw [insideS, if_neg h, legsI, List.foldl_map, List.foldl_filter]
  congr 1
  funext r k
  rw [insStep]
  simp only [Bool.and_eq_true]
 rw [e]
 refine .of (by omega) _ fun l hl => ?_
 obtain ⟨k, _, rfl⟩ := List.mem_map.1 hl
 exact leg_cls ..
theorem inside_self (t : Top) (A : List Int) (down : List Bool) (d : Int) : insideS t A down d d = ⟨0, 1, []⟩ := by rw [insideS, if_pos rfl]
theorem inside_cls (t : Top) (A : List Int) (down : List Bool) (n d : Int) : insideS t A down n d = noRt ∨ (insideS t A down n d).cls = 1 := by
 by_cases h : n = d
 ·rw [h, inside_self]; exact .inr rfl
 ·exact (inside_best h).cls
theorem across_in {t : Top} {A : List Int} {down : List Bool} {n d : Int} (h : 0 < (insideS t A down n d).cls) : acrossS t A down n d = insideS t A down n d := by
 rw [acrossS, if_pos (.inl h)]
theorem across_no {t : Top} {A : List Int} {down : List Bool} {n d : Int} (h : ¬ 0 < (insideS t A down n d).cls) (hn : isK t A n 0 = false) : acrossS t A down n d = noRt := by
 rw [acrossS, if_pos (.inr hn)]
 rcases inside_cls t A down n d with e | e
 ·exact e
 ·omega
theorem across_best {t : Top} {A : List Int} {down : List Bool} {n d : Int} (h : ¬ 0 < (insideS t A down n d).cls) (hn : isK t A n 0 = true) : IsBest 2 (legsA t A down n d) (acrossS t A down n d) := by
 have e0 : insideS t A down n d = noRt := by
  rcases inside_cls t A down n d with e | e
  ·exact e
  ·omega
 have e : acrossS t A down n d = (legsA t A down n d).foldl betterS noRt := by
  rw [acrossS, if_neg (by simp [hn]; omega), legsA, List.foldl_map, List.foldl_filter, e0]
  congr 1
  funext r b
  rw [acrStep]
  simp only [Bool.and_eq_true, Bool.not_eq_true', decide_eq_true_eq, and_assoc]
 rw [e]
 refine .of (by omega) _ fun l hl => ?_
 obtain ⟨k, _, rfl⟩ := List.mem_map.1 hl
 exact leg_cls ..
theorem across_cls (t : Top) (A : List Int) (down : List Bool) (n d : Int) (h : ¬ 0 < (insideS t A down n d).cls) : acrossS t A down n d = noRt ∨ (acrossS t A down n d).cls = 2 := by
 cases hn : isK t A n 0
 ·exact .inl (across_no h hn)
 ·exact (across_best h hn).cls
theorem of_in {t : Top} {A : List Int} {down : List Bool} {n d : Int} (h : 0 < (acrossS t A down n d).cls) : ofS t A down n d = acrossS t A down n d := by
 rw [ofS, if_pos (.inl h)]
end Go.Ab

/-
  The engine: a function's new blocks, given up behind it, where it returns several values.
-/
namespace Go.Ab
def refsT (n : Nat) : AV → Bool
 | .tup l => l.all (refsA n)
 | x => refsA n x
theorem rnAs_at (ρ : Nat → Nat) : ∀ (l : List AV) (i : Nat), (rnAs ρ l)[i]? = (l[i]?).map (rnA ρ)
 | [], _ => by simp [rnAs, rnA.rnAs]
 | x :: l, 0 => by simp [rnAs, rnA.rnAs]
 | x :: l, i + 1 => by
  have := rnAs_at ρ l i
  simpa [rnAs, rnA.rnAs] using this
theorem rnAs_ln (ρ : Nat → Nat) : ∀ (l : List AV), (rnAs ρ l).length = l.length
 | [] => rfl
 | x :: l => by
  have := rnAs_ln ρ l
  simpa [rnAs, rnA.rnAs] using this
theorem VR.unrnT {G : Nat → Prop} {w : World} {ι ιc : Io} {h hc : Hp} {ρ : Nat → Nat} (am : Among ρ ιc hc ι h) {v : Value} {x : AV} (hx : VR G w ι h v (rnA ρ x)) (hr : refsT hc.length x = true) : VR G w ιc hc v x := by
 cases x with
 | c x => exact hx.unrn am hr
 | agg l => exact hx.unrn am hr
 | tup l =>
  cases hx with
  | tup cs _ hn h1 =>
   have h1 : ∀ (i : Nat) (v : Value) (x : AV), cs[i]? = some v → (rnAs ρ l)[i]? = some x → VR G w ι h v x := h1
   refine .tup cs l (by rw [hn]; exact rnAs_ln ρ l) fun i v x hv hx => ?_
   exact (h1 i v (rnA ρ x) hv (by rw [rnAs_at, hx]; rfl)).unrn am (List.all_eq_true.1 hr x (List.mem_of_getElem? hx))
theorem FnS.gct {P : Program} {f : Nat} {args : List AV} {h : Hp} {R : AV → Hp → Prop} (hf : FnS P f args h R) (Q : AV → Hp → Prop)
    (hg : ∀ r h', R r h' → ∃ (σ : List Nat) (r' : AV) (hc : Hp), Q r' hc ∧ σ.length = hc.length ∧ σ.Nodup ∧ (∀ l ∈ σ, l < h'.length) ∧ (∀ (i : Nat) (k : Blk), hc[i]? = some k → h'[rho σ h'.length i]? = some (rnB (rho σ h'.length) k)) ∧
      r = rnA (rho σ h'.length) r' ∧ refsH hc.length hc = true ∧ refsT hc.length r' = true ∧ h.length ≤ hc.length ∧ (∀ i, i < h.length → rho σ h'.length i = i) ∧ ∀ k ∈ hc, ∀ m v es, k ≠ .mi m v es) : FnS P f args h Q := by
  refine ⟨fun G ι w vs hr hv => ?_⟩
  refine (hf.out G ι w vs hr hv).mono fun e w2 ⟨v, r, G2, ι2, h', he, hR, hr2, hvr, hx⟩ => ?_
  obtain ⟨σ, r', hc, hQ, hlen, hnd, hlt, hh, hrr, hcl, hca, hle, hid, hmi⟩ := hg r h' hR
  generalize hρ : rho σ h'.length = ρ at *
  have rold : ∀ i, i < σ.length → σ[i]? = some (ρ i) := fun i hi => by rw [← hρ]; exact rho_old σ _ i hi
  have rnew : ∀ i, σ.length ≤ i → ρ i = h'.length + (i - σ.length) := fun i hi => by rw [← hρ]; exact rho_new σ _ i hi
  have rmem : ∀ i, i < σ.length → ρ i ∈ σ := fun i hi => List.mem_of_getElem? (rold i hi)
  have rinj : ∀ i j, ρ i = ρ j → i = j := by
    intro i j e
    rcases Nat.lt_or_ge i σ.length with hi | hi <;> rcases Nat.lt_or_ge j σ.length with hj | hj
    · have h1 := rold i hi
      have h2 := rold j hj
      rw [e, ← h2] at h1
      exact (List.getElem?_inj hi hnd).1 h1
    · have := hlt _ (rmem i hi); have := rnew j hj; omega
    · have := hlt _ (rmem j hj); have := rnew i hi; omega
    · have := rnew i hi; have := rnew j hj; omega
  let ιc : Io := σ.map fun l => (ι2[l]?).getD (0, 0)
  have hιc : ∀ i, i < σ.length → ιc[i]? = ι2[ρ i]? := by
    intro i hi
    simp only [ιc, List.getElem?_map, rold i hi, Option.map_some]
    rw [List.getElem?_eq_getElem (by rw [hr2.len]; exact hlt _ (rmem i hi))]; rfl
  have am : Among ρ ιc hc ι2 h' := ⟨hh, fun i k hk => (hιc i (by rw [hlen]; exact get_lt hk)).symm⟩
  have hrc : HR G2 ιc hc w2 := HR.down am hr2 (by simp [ιc, hlen]) (fun i j _ _ e => rinj i j e) hcl
  have hvc : VR G2 w2 ιc hc v r' := VR.unrnT am (hrr ▸ hvr) hca
  refine ⟨v, r', G2, ιc, hc, he, hQ, hrc, hvc, ?_⟩
  exact
    { size := hx.size
      quiet := hx.quiet
      frame := hx.frame
      gmono := hx.gmono
      gnew := hx.gnew
      onew := fun b ho => hx.onew b (owned_up am ho)
      keep := fun l k hk => by
        obtain ⟨k', h1, h2⟩ := hx.keep l k hk
        have hl := get_lt hk
        have hkc : hc[l]? = some (hc[l]'(by omega)) := List.getElem?_eq_getElem _
        have h3 := hh l _ hkc
        rw [hid l hl, h1] at h3
        cases h3
        exact ⟨_, hkc, h2.unrn (by rw [hιc l (by omega), hid l hl]) (hmi _ (List.getElem_mem _))⟩ }
end Go.Ab

