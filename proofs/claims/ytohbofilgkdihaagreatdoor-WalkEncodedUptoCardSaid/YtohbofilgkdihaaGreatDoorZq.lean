/-
  Merged texts, part q.
-/
import Derived.Test.YtohbofilgkdihaaGreatDoorZp
import Derived.Lib.FrozenHead2
import Derived.Lib.OthersKept
import Derived.Lib.AppendIntMem
import Derived.WalkKit
import Derived.BigCall
set_option linter.all false
namespace Go.Proofs
open Go.RowKit Go.Shelf Go.Sort
abbrev Go.Ab.Bld (b:Nat) (l:List UInt8) (w:World):Prop:=Lib.IsBuilderF 135 5 b b (Lib.byteCells l) w
def Go.Ab.BldW(b:Nat)(l:List UInt8)(w w':World):Prop:=Go.Ab.Bld b l w'/\Below b w w'/\Lib.OthersKept 5 (some b) w w'
set_option maxHeartbeats 2000000 in
set_option maxRecDepth 100000 in
theorem Tryz.bcheck(b:Nat)(l:List UInt8)(w:World)(h:Go.Ab.Bld b l w):
  Calls Tryz.prog 106 #[.pointer (some ⟨b,0,none⟩)] w λe w'=>e= .returned (.tuple #[])/\Lib.BuilderAtF 135 5 b b (.pointer (some ⟨b,0,none⟩)) (Lib.byteCells l) w'/\Below b w w'/\Lib.OthersKept 5 (some b) w w':=by
 obtain⟨j,hj,hjs⟩:=omi.1 Tryz.Builder_Extra_169.sizeBuilder;rcases h with h|h
 ·have h0:=h.cell0;have hfz:=h.frozen0;have hsh:=h.shape
  go_enter Tryz.func106,Tryz.ntmps106
  go_wp2
  rw[Lib.run_to_unsafe w ⟨b,0,none⟩ Tryz.underlying133 Tryz.underlying184 hj (by rw[hjs];decide) hsh (Nat.zero_lt_succ 1)];simp only[Result.andThen];rw[Oper.upon_value]
  go_wp2
  rw[run_callFunc_extern Tryz.func122 (by kernel_rfl) (by kernel_rfl) (by kernel_rfl) (e:=Extern.AbiNoEscape.same) (by kernel_rfl)];rw[Lib.run_noEscape];simp only[Result.andThen];rw[Oper.upon_value]
  go_wp2
  rw[Lib.run_from_unsafe w ⟨b,0,none⟩ Tryz.underlying184 Tryz.underlying133 hj hsh Tryz.Builder_Extra_169.liesBuilder];simp only[Result.andThen];rw[Oper.upon_value]
  go_wp2
  go_end0
  exact⟨rfl,h.used _,(Below.refl b w).setCell (p:=⟨b,0,none⟩) h.1 _,(Lib.OthersKept.refl _ _ w).setCell ⟨b,0,none⟩ rfl _⟩
 ·have h0:=h.cell0
  go_enter Tryz.func106,Tryz.ntmps106
  go_wp2
  rw[Lib.run_neq_ptr_same w _ Tryz.underlying133 hj]
  go_wp2
  go_end0
  exact⟨rfl,h,Below.refl b _,Lib.OthersKept.refl _ _ _⟩
set_option maxHeartbeats 2000000 in
set_option maxRecDepth 100000 in
theorem Tryz.bbyte(b:Nat)(l:List UInt8)(c:UInt8)(k:Int)(hk:k=c.toNat)(w:World)(h:Go.Ab.Bld b l w)(hlen:l.length+1<=140737488355328)(hb:b<=w.heap.size):
  Calls Tryz.prog 74 #[.pointer (some ⟨b,0,none⟩),.int .u8 k] w λe w'=>e= .returned .nilIface/\Go.Ab.BldW b (l++[c]) w w':=by
 subst hk;have X:=Tryz.Builder_Extra_169;obtain⟨i0,hi,hz0,hz1,hz2⟩:=info_parts X.infoByte;have hn:=Lib.byteCells_length l
 go_enter Tryz.func74,Tryz.ntmps74
 go_wp2_with (go_at_call 106;refine(Tryz.bcheck b l _ h).mono ?_)
 rintro e w1 ⟨rfl,⟨hB,v,hbk,hown,hne⟩,hb1,hk1⟩;have c0:w1.cell? ⟨b,0,none⟩=some (.pointer (some ⟨b,0,none⟩)):=by rw[Lib.cell_of_heap hbk];rfl
 have c1:w1.cell? ⟨b,1,none⟩=some v:=by rw[Lib.cell_of_heap hbk];rfl
 go_wp2_with (at_builtin;refine wpList_append_ownF _ rfl _ _ 58 rfl b 5 i0 (.int .u8 0) 1 1 Tryz.underlying58 hi hz0 hz1 hz2 rfl (by decide) _ _ _ rfl (hown.alloc _) ⟨w1.heap.size,0,none⟩ 1 1 [.int .u8 c.toNat] rfl rfl ?c1 ?c2 ?c3 ?c4 ?c5 ?_)
 case c1=>
  intro j u hj
  match j,hj with
  |0,hj=>simp at hj;subst hj;simp[Addr.add]
 case c2=>intro u hu;simp at hu;subst hu;rfl
 case c3=>rw[hn];unfold maxLen;omega
 case c4=>rw[hn];omega
 case c5=>have:=hb1.size;simp;omega
 intro v' w2 hown' hgrow _;have hlt:=(Array.getElem?_eq_some_iff.1 hbk).1;have hb2:w2.heap[b]? =some (.cells #[.pointer (some ⟨b,0,none⟩),v] 135 (0,0)):=by
  rw[hgrow.block b (by simp;omega) (λe=>hne e.symm),Lib.alloc_old w1 _ b hlt];exact hbk
 have d0:w2.cell? ⟨b,0,none⟩=some (.pointer (some ⟨b,0,none⟩)):=by rw[Lib.cell_of_heap hb2];rfl
 have d1:w2.cell? ⟨b,1,none⟩=some v:=by rw[Lib.cell_of_heap hb2];rfl
 have f1:w2.frozen? ⟨b,1,none⟩=false:=Lib.frozen_of_heap hb2 1;obtain⟨g,cap,rfl⟩:∃g cap,v'= .slice (some ⟨g,0,none⟩) (l.length+1) cap:=by
  rcases hown'.2 with ⟨_,h0⟩|⟨g,cap,cur,fz,hv,_⟩
  ·omega
  ·exact⟨g,cap,hv⟩
 go_wp2
 go_ret
 have ha:Lib.byteCells (l++[c])=Lib.byteCells l++[.int .u8 c.toNat]:=by simp[Lib.byteCells]
 refine⟨rfl,.inr ?_,?_,((hk1.alloc _).grown hgrow (Lib.ownsRowF_kind (hown.alloc _))).setCell ⟨b,1,none⟩ rfl _⟩
 ·rw[ha];exact Lib.BuilderAtF.put (e:=5) hB hb2 (bs':=Lib.byteCells l++[.int .u8 c.toNat]) (by simpa [hn]using hown') X.neB5
 ·exact((hb1.alloc (by have:=hb1.size;omega) _).grown hgrow (by have:=hb1.size;simp;omega) (λk hk=>(hown.lt k hk).1)).setCell (p:=⟨b,1,none⟩) hB _
set_option maxHeartbeats 2000000 in
set_option maxRecDepth 100000 in
theorem Tryz.bstr(b:Nat)(l s:List UInt8)(w:World)(h:Go.Ab.Bld b l w)(hlen:l.length+s.length<=140737488355328)(hb:b<=w.heap.size):
  Calls Tryz.prog 72 #[.pointer (some ⟨b,0,none⟩),.string ⟨s.toArray⟩] w λe w'=>(∃v,e= .returned v)/\Go.Ab.BldW b (l++s) w w':=by
 have X:=Tryz.Builder_Extra_169;obtain⟨i0,hi,hz0,hz1,hz2⟩:=info_parts X.infoByte;have hn:=Lib.byteCells_length l;have hs:(⟨s.toArray⟩:ByteArray).size=s.length:=by simp[ByteArray.size]
 go_enter Tryz.func72,Tryz.ntmps72
 go_wp2_with (go_at_call 106;refine(Tryz.bcheck b l _ h).mono ?_)
 rintro e w1 ⟨rfl,⟨hB,v,hbk,hown,hne⟩,hb1,hk1⟩;have c0:w1.cell? ⟨b,0,none⟩=some (.pointer (some ⟨b,0,none⟩)):=by rw[Lib.cell_of_heap hbk];rfl
 have c1:w1.cell? ⟨b,1,none⟩=some v:=by rw[Lib.cell_of_heap hbk];rfl
 go_wp2_with (at_builtin;refine Lib.wpList_append_own_stringF _ rfl _ _ 58 9 rfl b 5 i0 Tryz.underlying58 Tryz.underlying9 hi hz0 hz1 hz2 _ _ _ rfl hown _ rfl ?c3 ?c4 ?c5 ?_)
 case c3=>rw[hn,hs];unfold maxLen;omega
 case c4=>rw[hn,hs];omega
 case c5=>have:=hb1.size;omega
 intro v' w2 hown' hgrow _;have hlt:=(Array.getElem?_eq_some_iff.1 hbk).1;have hb2:w2.heap[b]? =some (.cells #[.pointer (some ⟨b,0,none⟩),v] 135 (0,0)):=by
  rw[hgrow.block b hlt (λe=>hne e.symm)];exact hbk
 have d0:w2.cell? ⟨b,0,none⟩=some (.pointer (some ⟨b,0,none⟩)):=by rw[Lib.cell_of_heap hb2];rfl
 have d1:w2.cell? ⟨b,1,none⟩=some v:=by rw[Lib.cell_of_heap hb2];rfl
 have f1:w2.frozen? ⟨b,1,none⟩=false:=Lib.frozen_of_heap hb2 1;obtain⟨ao,n',cap,rfl⟩:∃ao n' cap,v'= .slice ao n' cap:=by
  rcases hown'.2 with ⟨hv,_⟩|⟨g,cap,cur,fz,hv,_⟩
  ·exact⟨_,_,_,hv⟩
  ·exact⟨_,_,_,hv⟩
 go_wp2
 go_ret2
 have ha:Lib.byteCells (l++s)=Lib.byteCells l++Lib.strCells ⟨s.toArray⟩:=by simp[Lib.byteCells,Lib.strCells]
 refine⟨⟨_,rfl⟩,.inr ?_,?_,(hk1.grown hgrow (Lib.ownsRowF_kind hown)).setCell ⟨b,1,none⟩ rfl _⟩
 ·rw[ha];exact Lib.BuilderAtF.put (e:=5) hB hb2 (bs':=Lib.byteCells l++Lib.strCells ⟨s.toArray⟩) (by simpa [Lib.strCells_length,hn,hs]using hown') X.neB5
 ·exact(hb1.grown hgrow (by have:=hb1.size;omega) (λk hk=>(hown.lt k hk).1)).setCell (p:=⟨b,1,none⟩) hB _
theorem Go.Ab.Bld.grow{b:Nat}{l:List UInt8}{w:World}(h:Go.Ab.Bld b l w)(k:Nat)(os:Array Obj):Go.Ab.Bld b l (Sort.grow (w.drewN k) os):=by
 have hh:(Sort.grow (w.drewN k) os).heap=w.heap++os:=rfl;have hold:∀j,j<w.heap.size->(Sort.grow (w.drewN k) os).heap[j]? =w.heap[j]? :=λj hj=>by rw[hh,Array.getElem?_append_left hj]
 have hg:w.grownBy (Sort.grow (w.drewN k) os) none:=⟨rfl,rfl,rfl,by rw[hh,Array.size_append];omega,λj hj _=>hold j hj⟩;have one:∀p,Lib.BuilderAtF 135 5 b b p (Lib.byteCells l) w->Lib.BuilderAtF 135 5 b b p (Lib.byteCells l) (Sort.grow (w.drewN k) os):=by
  rintro p ⟨hB,v,hbk,hown,hne⟩;have hlt:=(Array.getElem?_eq_some_iff.1 hbk).1;exact⟨hB,v,(hold b hlt).trans hbk,hown.kept hg (by cases h:v.ownBlock<;>simp),hne⟩
 rcases h with h|h
 ·exact .inl (one _ h)
 ·exact .inr (one _ h)
theorem Go.Ab.others_grow(w:World)(e:TypeId)(b:Option Nat)(k:Nat)(os:Array Obj):Lib.OthersKept e b w (Sort.grow (w.drewN k) os):=by
 intro j o hj _ _;have hlt:=(Array.getElem?_eq_some_iff.1 hj).1;show(w.heap++os)[j]? =some o;rw[Array.getElem?_append_left hlt];exact hj
set_option maxHeartbeats 4000000 in
set_option maxRecDepth 100000 in
theorem Qt0(n:Int)(l:List (Int×Int))(a:Option Addr)(cap:Nat)(w:World)(hn:Go.Ab.In64 n)(hl:l.length<=1000)
 (hr:∀x∈l,Go.Ab.In64 x.1/\Go.Ab.In64 x.2)
 (hc:∀(j:Nat) (x:Int×Int),l[j]? =some x->∃b off,a=some ⟨b,off,none⟩/\b<w.heap.size/\w.cell? ⟨b,off+j*2,none⟩=some (.int .i64 x.1)/\w.cell? ⟨b,off+j*2+1,none⟩=some (.int .i64 x.2))
 (htab:Lib.TabIs Tryz.prog w "internal/strconv.uint64pow10" .u64 Lib.pow10Tab):
  Calls Tryz.prog 48 #[.int .i64 n,.slice a l.length cap] w λe w'=>e= .returned (.string ⟨(Go.Ab.nameS n l).toArray⟩)/\Below w.heap.size w w':=by
 have htb:=Lib.tabBelow_of_tabIs htab;have hbI:Below w.heap.size w (w.alloc (.cells #[.pointer none,.slice none 0 0] 135)):=(Below.refl _ w).alloc (Nat.le_refl _) _;have hB0:Go.Ab.Bld w.heap.size [] (w.alloc (.cells #[.pointer none,.slice none 0 0] 135)):=Lib.IsBuilderF.of (Lib.fresh_isBuilder 135 5 w);have hsz:∀(W:World) (k:Nat) (os:Array Obj),w.heap.size<=W.heap.size->w.heap.size<=(Sort.grow (W.drewN k) os).heap.size:=λW k os h=>Nat.le_trans h (Lib.size_grow W k os)
 go_enter Tryz.func48,Tryz.ntmps48
 go_wp2_with (first
  |(go_at_call 73;refine(Tryz.strconv_Itoa n hn.1 hn.2 _ (htb _ hbI)).mono ?_;rintro e W1 ⟨rfl,k1,os1,rfl⟩)
  |(go_at_call 72;refine(Tryz.bstr w.heap.size [] _ _ (hB0.grow k1 os1) (by have:=Go.Ab.itoa_len hn;simp;omega) (hsz _ _ _ (by simp))).mono ?_;rintro e W2 ⟨⟨v,rfl⟩,h2,b2,o2⟩))
 have hb2:Below w.heap.size w W2:=(hbI.trans (Lib.below_grow _ _ (by simp) k1 os1)).trans b2;clear b2 o2 hB0
 go_loopw [13] (λi wr=>∃j:Nat,j<=l.length/\i= .int .i64 j/\Go.Ab.Bld w.heap.size (Go.Ab.nameS n (l.take j)) wr/\Below w.heap.size w wr) (λi _=>l.length-(intOf i).toNat)
 case atStart=>exact⟨0,Nat.zero_le _,rfl,by simpa [Go.Ab.nameS]using h2,hb2⟩
 case round=>
  obtain⟨j,hj,rfl,hB,hbw⟩:=hrel;by_cases hlt:j<l.length
  ·obtain⟨x,hx⟩:∃x,l[j]? =some x:=⟨_,lgE hlt⟩;obtain⟨b,off,rfl,hb,p1,p2⟩:=hc j x hx;have c1:wr.cell? ⟨b,off+j*2,none⟩=some (.int .i64 x.1):=(hbw.cell (p:=⟨b,off+j*2,none⟩) hb).trans p1;have c2:wr.cell? ⟨b,off+j*2+1,none⟩=some (.int .i64 x.2):=(hbw.cell (p:=⟨b,off+j*2+1,none⟩) hb).trans p2;have hx2:=hr x (mgE hx);obtain⟨x1,x2⟩:=x;obtain⟨⟨y1,y2⟩,y3,y4⟩:=hx2;have hlen:=Go.Ab.name_len hn (l:=l.take j) λy hy=>hr y (List.mem_of_mem_take hy)
   have:(l.take j).length<=1000:=by rw[List.length_take];omega
   have hA:=hB.alloc (.cells #[.int .i64 x1,.int .i64 x2] 105);have nA:(wr.alloc (.cells #[.int .i64 x1,.int .i64 x2] 105)).heap[wr.heap.size]? =some (.cells #[.int .i64 x1,.int .i64 x2] 105 (0,0)):=Array.getElem?_push_size;have sA:w.heap.size<=(wr.alloc (.cells #[.int .i64 x1,.int .i64 x2] 105)).heap.size:=by have:=hbw.size;simp;omega
   have bA:=hbw.alloc hbw.size (.cells #[.int .i64 x1,.int .i64 x2] 105);have ne:some wr.heap.size≠some w.heap.size:=by
    have:w.heap.size<wr.heap.size:=by rcases hB with h|h<;>exact h.lt
    intro e;have:=osj e;omega
   clear hB;have cell:∀{W:World},W.heap[wr.heap.size]? =some (.cells #[.int .i64 x1,.int .i64 x2] 105 (0,0))->W.cell? ⟨wr.heap.size,0,none⟩=some (.int .i64 x1)/\W.cell? ⟨wr.heap.size,1,none⟩=some (.int .i64 x2):=λh=>⟨by rw[Lib.cell_of_heap h];rfl,by rw[Lib.cell_of_heap h];rfl⟩
   have hi1:=Go.Ab.itoa_len ⟨y1,y2⟩;have hi2:=Go.Ab.itoa_len ⟨y3,y4⟩
   go_wp2_with (first
    |(go_at_call 72;refine(Tryz.bstr w.heap.size _ _ _ (g4.grow k4 os4) (by simp;omega) (hsz _ _ _ s4)).mono ?_;rintro e V6 ⟨⟨v6,rfl⟩,g6,b6,o6⟩)
    |(go_at_call 73;refine(Tryz.strconv_Itoa x2 y3 y4 _ (htb _ t4)).mono ?_;rintro e W1 ⟨rfl,k4,os4,rfl⟩)
    |(go_at_call 74;refine(Tryz.bbyte w.heap.size _ 58 _ (by decide) _ g3 (by simp;omega) s3).mono ?_;rintro e V4 ⟨rfl,g4,b4,o4⟩;have s4:=Nat.le_trans s3 b4.size;have t4:=t3.trans b4;have n4:=o4 _ _ n3 ne (by simp);obtain⟨q4,r4⟩:=cell n4)
    |(go_at_call 72;refine(Tryz.bstr w.heap.size _ _ _ (g1.grow k2 os2) (by simp;omega) (hsz _ _ _ s1)).mono ?_;rintro e V3 ⟨⟨v3,rfl⟩,g3,b3,o3⟩;have s3:=Nat.le_trans (hsz _ k2 os2 s1) b3.size;have t3:=(t1.trans (Lib.below_grow _ _ s1 k2 os2)).trans b3;have n3:=o3 _ _ ((Go.Ab.others_grow V1 5 (some w.heap.size) k2 os2) _ _ n1 ne (by simp)) ne (by simp))
    |(go_at_call 73;refine(Tryz.strconv_Itoa x1 y1 y2 _ (htb _ t1)).mono ?_;rintro e W1 ⟨rfl,k2,os2,rfl⟩)
    |(go_at_call 74;refine(Tryz.bbyte w.heap.size _ 32 _ (by decide) _ hA (by omega) sA).mono ?_;rintro e V1 ⟨rfl,g1,b1,o1⟩;have s1:=Nat.le_trans sA b1.size;have t1:=bA.trans b1;have n1:=o1 _ _ nA ne (by simp);obtain⟨q1,r1⟩:=cell n1))
   go_roundw
   case rel=>
    refine⟨j+1,by omega,by go_num,?_,(t4.trans (Lib.below_grow _ _ s4 k4 os4)).trans b6⟩;have:Go.Ab.nameS n (l.take (j+1))=(((Go.Ab.nameS n (l.take j)++[32])++Lib.itoa x1)++[58])++Lib.itoa x2:=by
     rw[List.take_add_one,hx];simp[Go.Ab.nameS,Go.Ab.segS]
    rw[this];exact g6
   case measure=>simp[intOf];omega
  ·obtain rfl:j=l.length:=by omega
   rw[List.take_length]at hB
   go_wp2_with (go_at_call 75;refine(Tryz.Builder_String_any_k w.heap.size w.heap.size _ _ hB hbw.size).mono ?_;rintro e W9 ⟨rfl,_,b9,_⟩)
   go_ret
   exact⟨rfl,hbw.trans b9⟩
end Go.Proofs
