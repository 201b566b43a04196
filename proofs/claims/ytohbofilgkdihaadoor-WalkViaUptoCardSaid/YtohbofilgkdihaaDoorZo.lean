/-
  Merged texts, part o.
-/
import Derived.Test.YtohbofilgkdihaaDoorZn
import Derived.Shelf.Strings.BuilderK
import Derived.Shelf.LaysM
import Derived.Shelf.Strconv.Itoa3
import Derived.Ground.Names2Prog
import Derived.Test.YtohbofilgkdihaaDoorProg
set_option linter.all false
namespace Go.Proofs
open Go.Shelf
set_option maxRecDepth 100000
def Tryd.lays169_ren:Go.Shelf.Ren:=⟨fun|169=>49|n=>n,fun|70=>99|9=>9|0=>0|72=>102|37=>100|127=>132|3=>3|5=>5|n=>n,fun|n=>n⟩
theorem Tryd.lays169:Go.Proofs.Lays.n169 Tryd.prog Tryd.lays169_ren:={
  mixed:=by kernel_rfl
  f169:=Tryd.func49.trans (congrArg some (by kernel_rfl))
  t0:=Tryd.underlying0
  a0:=Tryd.isAgg0
  z0:=Tryd.sizeOf0
  v0:=Tryd.zeroValue0
  t3:=Tryd.underlying3
  a3:=Tryd.isAgg3
  z3:=Tryd.sizeOf3
  v3:=Tryd.zeroValue3
  t9:=Tryd.underlying9
  a9:=Tryd.isAgg9
  z9:=Tryd.sizeOf9
  v9:=Tryd.zeroValue9
  t37:=Tryd.underlying100
  a37:=Tryd.isAgg100
  z37:=Tryd.sizeOf100
  v37:=Tryd.zeroValue100
  t70:=Tryd.underlying99
  a70:=Tryd.isAgg99
  z70:=Tryd.sizeOf99
  v70:=Tryd.zeroValue99
  t72:=Tryd.underlying102
  a72:=Tryd.isAgg102
  z72:=Tryd.sizeOf102
  v72:=Tryd.zeroValue102
  t127:=Tryd.underlying132
  a127:=Tryd.isAgg132
  z127:=Tryd.sizeOf132
  v127:=Tryd.zeroValue132}
theorem Tryd.Builder_Extra_169:Builder.Extra Tryd.prog Tryd.lays169_ren:={
  sizeBuilder:=by kernel_rfl
  liesBuilder:=by kernel_rfl
  t5:=Tryd.underlying5
  a5:=Tryd.isAgg5
  z5:=Tryd.sizeOf5
  v5:=Tryd.zeroValue5
  infoByte:=by kernel_rfl
  cellsByte:=by kernel_rfl
  sizeByte:=by kernel_rfl
  neB5:=by decide}
open Go.RowKit in
theorem Tryd.Builder_String_any_k(B b:Nat)(l:List UInt8)(w:World)(h:Lib.IsBuilderF 102 5 B b (Lib.byteCells l) w)(hBw:B<=w.heap.size):
  Calls Tryd.prog 49 #[.pointer (some ⟨b,0,none⟩)] w fun e w'=>e= .returned (.string ⟨l.toArray⟩)/\(Lib.IsBuilderF 102 5 B b (Lib.byteCells l) w'/\Below B w w'/\Lib.OthersKept 5 (some b) w w'):=Any.Builder_String_any_k Tryd.lays169 Tryd.Builder_Extra_169 B b l w h hBw
def Tryd.laysM171_ren:Go.Shelf.Ren:=⟨fun|171=>47|243=>73|246=>86|283=>89|284=>90|285=>91|286=>92|129=>67|317=>93|318=>94|319=>95|320=>96|337=>97|338=>98|n=>n,fun|3=>3|9=>9|2=>2|4=>4|171=>152|0=>0|53=>127|37=>100|5=>5|173=>154|212=>158|51=>125|20=>20|213=>159|46=>96|232=>160|233=>161|n=>n,fun|17=>0|18=>1|19=>2|n=>n⟩
theorem Tryd.laysM171:Go.Proofs.LaysM.n171 Tryd.prog Tryd.laysM171_ren:={
  mixed:=by kernel_rfl
  f129:=Tryd.func67.trans (congrArg some (by kernel_rfl))
  f171:=Tryd.func47.trans (congrArg some (by kernel_rfl))
  f243:=Tryd.func73.trans (congrArg some (by kernel_rfl))
  f246:=Tryd.func86.trans (congrArg some (by kernel_rfl))
  f283:=Tryd.func89.trans (congrArg some (by kernel_rfl))
  f284:=Tryd.func90.trans (congrArg some (by kernel_rfl))
  f285:=Tryd.func91.trans (congrArg some (by kernel_rfl))
  f286:=Tryd.func92.trans (congrArg some (by kernel_rfl))
  f317:=Tryd.func93.trans (congrArg some (by kernel_rfl))
  f318:=Tryd.func94.trans (congrArg some (by kernel_rfl))
  f319:=Tryd.func95.trans (congrArg some (by kernel_rfl))
  f320:=Tryd.func96.trans (congrArg some (by kernel_rfl))
  f337:=Tryd.func97.trans (congrArg some (by kernel_rfl))
  f338:=Tryd.func98.trans (congrArg some (by kernel_rfl))
  t0:=Tryd.underlying0
  a0:=Tryd.isAgg0
  z0:=Tryd.sizeOf0
  v0:=Tryd.zeroValue0
  t2:=Tryd.underlying2
  a2:=Tryd.isAgg2
  z2:=Tryd.sizeOf2
  v2:=Tryd.zeroValue2
  t3:=Tryd.underlying3
  a3:=Tryd.isAgg3
  z3:=Tryd.sizeOf3
  v3:=Tryd.zeroValue3
  t4:=Tryd.underlying4
  a4:=Tryd.isAgg4
  z4:=Tryd.sizeOf4
  v4:=Tryd.zeroValue4
  t5:=Tryd.underlying5
  a5:=Tryd.isAgg5
  z5:=Tryd.sizeOf5
  v5:=Tryd.zeroValue5
  t9:=Tryd.underlying9
  a9:=Tryd.isAgg9
  z9:=Tryd.sizeOf9
  v9:=Tryd.zeroValue9
  t20:=Tryd.underlying20
  a20:=Tryd.isAgg20
  z20:=Tryd.sizeOf20
  v20:=Tryd.zeroValue20
  t37:=Tryd.underlying100
  a37:=Tryd.isAgg100
  z37:=Tryd.sizeOf100
  v37:=Tryd.zeroValue100
  t46:=Tryd.underlying96
  a46:=Tryd.isAgg96
  z46:=Tryd.sizeOf96
  v46:=Tryd.zeroValue96
  t51:=Tryd.underlying125
  a51:=Tryd.isAgg125
  z51:=Tryd.sizeOf125
  v51:=Tryd.zeroValue125
  t53:=Tryd.underlying127
  a53:=Tryd.isAgg127
  z53:=Tryd.sizeOf127
  v53:=Tryd.zeroValue127
  t171:=Tryd.underlying152
  a171:=Tryd.isAgg152
  z171:=Tryd.sizeOf152
  v171:=Tryd.zeroValue152
  t173:=Tryd.underlying154
  a173:=Tryd.isAgg154
  z173:=Tryd.sizeOf154
  v173:=Tryd.zeroValue154
  t212:=Tryd.underlying158
  a212:=Tryd.isAgg158
  z212:=Tryd.sizeOf158
  v212:=Tryd.zeroValue158
  t213:=Tryd.underlying159
  a213:=Tryd.isAgg159
  z213:=Tryd.sizeOf159
  t232:=Tryd.underlying160
  a232:=Tryd.isAgg160
  z232:=Tryd.sizeOf160
  v232:=Tryd.zeroValue160
  t233:=Tryd.underlying161
  a233:=Tryd.isAgg161
  z233:=Tryd.sizeOf161
  v233:=Tryd.zeroValue161
  g17:=by kernel_rfl
  g18:=by kernel_rfl
  g19:=by kernel_rfl
  i0:=by kernel_rfl
  i2:=by kernel_rfl
  i3:=by kernel_rfl
  i4:=by kernel_rfl
  i5:=by kernel_rfl
  i9:=by kernel_rfl
  i20:=by kernel_rfl
  i37:=by kernel_rfl
  i46:=by kernel_rfl
  i51:=by kernel_rfl
  i53:=by kernel_rfl
  i171:=by kernel_rfl
  i173:=by kernel_rfl
  i212:=by kernel_rfl
  i232:=by kernel_rfl
  i233:=by kernel_rfl
  m17:=by kernel_rfl
  m18:=by kernel_rfl
  m19:=by kernel_rfl}
open Go.RowKit Go.Sort Go.Lib in
theorem Tryd.strconv_Itoa(n:Int)(h0: -9223372036854775808<=n)(h1:n<=9223372036854775807)(w:World)(htab:Lib.TabIs Tryd.prog w "internal/strconv.uint64pow10" .u64 Lib.pow10Tab):
  Calls Tryd.prog 47 #[.int .i64 n] w fun e w'=>e= .returned (.string ⟨(Lib.itoa n).toArray⟩)/\∃k os,w'=grow (w.drewN k) os:=Any.strconv_Itoa Tryd.laysM171 n h0 h1 w htab
end Go.Proofs
