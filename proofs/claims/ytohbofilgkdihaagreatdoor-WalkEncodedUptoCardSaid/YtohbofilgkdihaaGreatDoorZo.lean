/-
  Merged texts, part o.
-/
import Derived.Test.YtohbofilgkdihaaGreatDoorZn
import Derived.Shelf.Strings.BuilderK
import Derived.Shelf.LaysM
import Derived.Shelf.Strconv.Itoa3
import Derived.Ground.Names2Prog
import Derived.Test.YtohbofilgkdihaaGreatDoorProg
set_option linter.all false
namespace Go.Proofs
open Go.Shelf
def Tryz.lays169_ren:Go.Shelf.Ren:=⟨λ|169=>75|n=>n,λ|70=>133|9=>9|0=>0|72=>135|37=>58|127=>172|3=>3|5=>5|n=>n,λ|n=>n⟩
theorem Tryz.lays169:Go.Proofs.Lays.n169 Tryz.prog Tryz.lays169_ren:={
  mixed:=by kernel_rfl
  f169:=Tryz.func75.trans (congrArg some (by kernel_rfl))
  t0:=Tryz.underlying0
  a0:=Tryz.isAgg0
  z0:=Tryz.sizeOf0
  v0:=Tryz.zeroValue0
  t3:=Tryz.underlying3
  a3:=Tryz.isAgg3
  z3:=Tryz.sizeOf3
  v3:=Tryz.zeroValue3
  t9:=Tryz.underlying9
  a9:=Tryz.isAgg9
  z9:=Tryz.sizeOf9
  v9:=Tryz.zeroValue9
  t37:=Tryz.underlying58
  a37:=Tryz.isAgg58
  z37:=Tryz.sizeOf58
  v37:=Tryz.zeroValue58
  t70:=Tryz.underlying133
  a70:=Tryz.isAgg133
  z70:=Tryz.sizeOf133
  v70:=Tryz.zeroValue133
  t72:=Tryz.underlying135
  a72:=Tryz.isAgg135
  z72:=Tryz.sizeOf135
  v72:=Tryz.zeroValue135
  t127:=Tryz.underlying172
  a127:=Tryz.isAgg172
  z127:=Tryz.sizeOf172
  v127:=Tryz.zeroValue172}
theorem Tryz.Builder_Extra_169:Builder.Extra Tryz.prog Tryz.lays169_ren:={
  sizeBuilder:=by kernel_rfl
  liesBuilder:=by kernel_rfl
  t5:=Tryz.underlying5
  a5:=Tryz.isAgg5
  z5:=Tryz.sizeOf5
  v5:=Tryz.zeroValue5
  infoByte:=by kernel_rfl
  cellsByte:=by kernel_rfl
  sizeByte:=by kernel_rfl
  neB5:=by decide}
open Go.RowKit in
theorem Tryz.Builder_String_any_k(B b:Nat)(l:List UInt8)(w:World)(h:Lib.IsBuilderF 135 5 B b (Lib.byteCells l) w)(hBw:B<=w.heap.size):
  Calls Tryz.prog 75 #[.pointer (some ⟨b,0,none⟩)] w λe w'=>e= .returned (.string ⟨l.toArray⟩)/\(Lib.IsBuilderF 135 5 B b (Lib.byteCells l) w'/\Below B w w'/\Lib.OthersKept 5 (some b) w w'):=Any.Builder_String_any_k Tryz.lays169 Tryz.Builder_Extra_169 B b l w h hBw
def Tryz.laysM171_ren:Go.Shelf.Ren:=⟨λ|171=>73|243=>107|246=>123|283=>126|284=>127|285=>128|286=>129|129=>98|317=>130|318=>131|319=>132|320=>133|337=>134|338=>135|n=>n,λ|3=>3|9=>9|2=>2|4=>4|171=>192|0=>0|53=>164|37=>58|5=>5|173=>194|212=>198|51=>162|20=>20|213=>199|46=>127|232=>200|233=>201|n=>n,λ|17=>0|18=>1|19=>2|n=>n⟩
theorem Tryz.laysM171:Go.Proofs.LaysM.n171 Tryz.prog Tryz.laysM171_ren:={
  mixed:=by kernel_rfl
  f129:=Tryz.func98.trans (congrArg some (by kernel_rfl))
  f171:=Tryz.func73.trans (congrArg some (by kernel_rfl))
  f243:=Tryz.func107.trans (congrArg some (by kernel_rfl))
  f246:=Tryz.func123.trans (congrArg some (by kernel_rfl))
  f283:=Tryz.func126.trans (congrArg some (by kernel_rfl))
  f284:=Tryz.func127.trans (congrArg some (by kernel_rfl))
  f285:=Tryz.func128.trans (congrArg some (by kernel_rfl))
  f286:=Tryz.func129.trans (congrArg some (by kernel_rfl))
  f317:=Tryz.func130.trans (congrArg some (by kernel_rfl))
  f318:=Tryz.func131.trans (congrArg some (by kernel_rfl))
  f319:=Tryz.func132.trans (congrArg some (by kernel_rfl))
  f320:=Tryz.func133.trans (congrArg some (by kernel_rfl))
  f337:=Tryz.func134.trans (congrArg some (by kernel_rfl))
  f338:=Tryz.func135.trans (congrArg some (by kernel_rfl))
  t0:=Tryz.underlying0
  a0:=Tryz.isAgg0
  z0:=Tryz.sizeOf0
  v0:=Tryz.zeroValue0
  t2:=Tryz.underlying2
  a2:=Tryz.isAgg2
  z2:=Tryz.sizeOf2
  v2:=Tryz.zeroValue2
  t3:=Tryz.underlying3
  a3:=Tryz.isAgg3
  z3:=Tryz.sizeOf3
  v3:=Tryz.zeroValue3
  t4:=Tryz.underlying4
  a4:=Tryz.isAgg4
  z4:=Tryz.sizeOf4
  v4:=Tryz.zeroValue4
  t5:=Tryz.underlying5
  a5:=Tryz.isAgg5
  z5:=Tryz.sizeOf5
  v5:=Tryz.zeroValue5
  t9:=Tryz.underlying9
  a9:=Tryz.isAgg9
  z9:=Tryz.sizeOf9
  v9:=Tryz.zeroValue9
  t20:=Tryz.underlying20
  a20:=Tryz.isAgg20
  z20:=Tryz.sizeOf20
  v20:=Tryz.zeroValue20
  t37:=Tryz.underlying58
  a37:=Tryz.isAgg58
  z37:=Tryz.sizeOf58
  v37:=Tryz.zeroValue58
  t46:=Tryz.underlying127
  a46:=Tryz.isAgg127
  z46:=Tryz.sizeOf127
  v46:=Tryz.zeroValue127
  t51:=Tryz.underlying162
  a51:=Tryz.isAgg162
  z51:=Tryz.sizeOf162
  v51:=Tryz.zeroValue162
  t53:=Tryz.underlying164
  a53:=Tryz.isAgg164
  z53:=Tryz.sizeOf164
  v53:=Tryz.zeroValue164
  t171:=Tryz.underlying192
  a171:=Tryz.isAgg192
  z171:=Tryz.sizeOf192
  v171:=Tryz.zeroValue192
  t173:=Tryz.underlying194
  a173:=Tryz.isAgg194
  z173:=Tryz.sizeOf194
  v173:=Tryz.zeroValue194
  t212:=Tryz.underlying198
  a212:=Tryz.isAgg198
  z212:=Tryz.sizeOf198
  v212:=Tryz.zeroValue198
  t213:=Tryz.underlying199
  a213:=Tryz.isAgg199
  z213:=Tryz.sizeOf199
  t232:=Tryz.underlying200
  a232:=Tryz.isAgg200
  z232:=Tryz.sizeOf200
  v232:=Tryz.zeroValue200
  t233:=Tryz.underlying201
  a233:=Tryz.isAgg201
  z233:=Tryz.sizeOf201
  v233:=Tryz.zeroValue201
  g17:=by kernel_rfl
  g18:=by kernel_rfl
  g19:=by kernel_rfl
  i0:=by kernel_rfl
  i2:=by kernel_rfl
  i3:=by kernel_rfl
  i4:=by kernel_rfl
  i5:=by kernel_rfl
  i9:=by kernel_rfl
  i20:=by kernel_rfl
  i37:=by kernel_rfl
  i46:=by kernel_rfl
  i51:=by kernel_rfl
  i53:=by kernel_rfl
  i171:=by kernel_rfl
  i173:=by kernel_rfl
  i212:=by kernel_rfl
  i232:=by kernel_rfl
  i233:=by kernel_rfl
  m17:=by kernel_rfl
  m18:=by kernel_rfl
  m19:=by kernel_rfl}
open Go.RowKit Go.Sort Go.Lib in
theorem Tryz.strconv_Itoa(n:Int)(h0: -9223372036854775808<=n)(h1:n<=9223372036854775807)(w:World)(htab:Lib.TabIs Tryz.prog w "internal/strconv.uint64pow10" .u64 Lib.pow10Tab):
  Calls Tryz.prog 73 #[.int .i64 n] w λe w'=>e= .returned (.string ⟨(Lib.itoa n).toArray⟩)/\∃k os,w'=grow (w.drewN k) os:=Any.strconv_Itoa Tryz.laysM171 n h0 h1 w htab
end Go.Proofs
