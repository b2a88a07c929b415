/- The numbers at which the library's contracts of strings and strconv stand in this program (printed by the kit's tool). -/
import Derived.Shelf.Strings.Builder1
import Derived.Shelf.Strings.Builder2
import Derived.Shelf.Strings.OnBuilder
import Derived.Shelf.Small.Strs
import Derived.Shelf.Utf8.RuneCount
import Derived.Shelf.Strconv.Atoi
import Derived.Shelf.Strconv.Itoa0
import Derived.Shelf.Strconv.Itoa1
import Derived.Shelf.LaysM
import Derived.Shelf.Strconv.Itoa2
import Derived.Shelf.Strconv.Itoa3
import Derived.Shelf.Strconv.AtoiErrFast
import Derived.Shelf.Strconv.ParseIntEmpty
import Derived.Shelf.Strconv.AtoiFail
import Derived.Shelf.Strconv.Clone
import Derived.Shelf.Strconv.SyntaxError
import Derived.Shelf.LaysC
import Derived.Shelf.Strconv.ToError
import Derived.Shelf.Strconv.Lower
import Derived.Shelf.Strconv.ParseUint10
import Derived.Shelf.Strconv.ParseUint10Empty
import Derived.Shelf.Strconv.ParseUint10Any
import Derived.Shelf.Strconv.ParseInt10
import Derived.Shelf.Strconv.AtoiLong
import Derived.Shelf.Strconv.AtoiInnerAll
import Derived.Shelf.Strconv.RangeError
import Derived.Shelf.Strconv.ToErrorRange
import Derived.Shelf.Strconv.AtoiAll
import Derived.Shelf.Strings.Search1
import Derived.Shelf.Strings.Search2
import Derived.Shelf.Strings.Search3
import Derived.Shelf.Strings.Cut
import Derived.Shelf.Strings.Count
import Derived.Shelf.Strings.Shaped
import Derived.Shelf.Strings.Split
import Derived.Shelf.Strings.SplitShaped
import Derived.Shelf.Unicode.Decode
import Derived.Shelf.Strings.RuneCount
import Derived.Shelf.Strings.Explode
import Derived.Shelf.Unicode.DecodeSlow
import Derived.Shelf.Unicode.DecodeAny
import Derived.Test.YtmlddafbenfilaaDoorProg
import Derived.Test.YtmlddafbenfilaaDoorDskG
import Derived.Test.YtmlddafbenfilaaDoorDskFacts
import Derived.Test.YtmlddafbenfilaaDoorCamAV
namespace Go.Proofs.YtmlddafbenfilaaDoor
open Go.Shelf
def Tryd.lays156_ren : Go.Shelf.Ren := ⟨fun | 156 => 47 | 165 => 55 | 166 => 32 | 169 => 25 | 240 => 37 | 241 => 66 | 276 => 50 | 277 => 76 | n => n, fun | 31 => 64 | 9 => 9 | 3 => 3 | 4 => 4 | 0 => 0 | 20 => 20 | 72 => 49 | 76 => 53 | 70 => 47 | 37 => 22 | 75 => 51 | 127 => 72 | 164 => 81 | 5 => 5 | 80 => 55 | n => n, fun | n => n⟩
theorem Tryd.lays156 : Go.Proofs.Lays.n156 Tryd.prog Tryd.lays156_ren := {
  mixed := by kernel_rfl
  f156 := Tryd.func47.trans (congrArg some (by kernel_rfl))
  f165 := Tryd.func55.trans (congrArg some (by kernel_rfl))
  f166 := Tryd.func32.trans (congrArg some (by kernel_rfl))
  f169 := Tryd.func25.trans (congrArg some (by kernel_rfl))
  f240 := Tryd.func37.trans (congrArg some (by kernel_rfl))
  f241 := Tryd.func66.trans (congrArg some (by kernel_rfl))
  f276 := Tryd.func50.trans (congrArg some (by kernel_rfl))
  f277 := Tryd.func76.trans (congrArg some (by kernel_rfl))
  t0 := Tryd.underlying0
  a0 := Tryd.isAgg0
  z0 := Tryd.sizeOf0
  v0 := Tryd.zeroValue0
  t3 := Tryd.underlying3
  a3 := Tryd.isAgg3
  z3 := Tryd.sizeOf3
  v3 := Tryd.zeroValue3
  t4 := Tryd.underlying4
  a4 := Tryd.isAgg4
  z4 := Tryd.sizeOf4
  v4 := Tryd.zeroValue4
  t9 := Tryd.underlying9
  a9 := Tryd.isAgg9
  z9 := Tryd.sizeOf9
  v9 := Tryd.zeroValue9
  t20 := Tryd.underlying20
  a20 := Tryd.isAgg20
  z20 := Tryd.sizeOf20
  v20 := Tryd.zeroValue20
  t31 := Tryd.underlying64
  a31 := Tryd.isAgg64
  z31 := Tryd.sizeOf64
  v31 := Tryd.zeroValue64
  t37 := Tryd.underlying22
  a37 := Tryd.isAgg22
  z37 := Tryd.sizeOf22
  v37 := Tryd.zeroValue22
  t70 := Tryd.underlying47
  a70 := Tryd.isAgg47
  z70 := Tryd.sizeOf47
  v70 := Tryd.zeroValue47
  t72 := Tryd.underlying49
  a72 := Tryd.isAgg49
  z72 := Tryd.sizeOf49
  v72 := Tryd.zeroValue49
  t75 := Tryd.underlying51
  a75 := Tryd.isAgg51
  z75 := Tryd.sizeOf51
  v75 := Tryd.zeroValue51
  t76 := Tryd.underlying53
  a76 := Tryd.isAgg53
  z76 := Tryd.sizeOf53
  v76 := Tryd.zeroValue53
  t127 := Tryd.underlying72
  a127 := Tryd.isAgg72
  z127 := Tryd.sizeOf72
  v127 := Tryd.zeroValue72
  t164 := Tryd.underlying81
  a164 := Tryd.isAgg81
  z164 := Tryd.sizeOf81
  v164 := Tryd.zeroValue81 }
theorem Tryd.Builder_Extra_156 : Builder.Extra Tryd.prog Tryd.lays156_ren := {
  sizeBuilder := by kernel_rfl
  liesBuilder := by kernel_rfl
  t5 := Tryd.underlying5
  a5 := Tryd.isAgg5
  z5 := Tryd.sizeOf5
  v5 := Tryd.zeroValue5
  infoByte := by kernel_rfl
  cellsByte := by kernel_rfl
  sizeByte := by kernel_rfl
  neB5 := by decide }
open Go.RowKit in
open Go.RowKit in
/-- strings.Join: "Join concatenates the elements of its first argument to create a single string. The separator string sep is placed between elements in the resulting string.": HOWEVER MANY ELEMENTS. Below the heap's end the world is as it was. (LAID: no walk: one application.) -/
theorem Tryd.strings_Join (bk o c : Nat) (xs : List ByteArray) (sep : ByteArray) (w : World) (hcells : ∀ (j : Nat) x, xs[j]? = some x → w.cell? ⟨bk, o + j, none⟩ = some (.string x)) (hbk : bk < w.heap.size) (hN : xs.length ≤ 140737488355328) (hcap : xs.length ≤ c) (hlen : (Lib.join (xs.map (·.data.toList)) sep.data.toList).length ≤ 140737488355328) :
    Calls Tryd.prog 47 #[.slice (some ⟨bk, o, none⟩) xs.length c, .string sep] w fun e w' => e = .returned (.string ⟨(Lib.join (xs.map (·.data.toList)) sep.data.toList).toArray⟩) ∧ Below w.heap.size w w' := Any.strings_Join Tryd.lays156 Tryd.Builder_Extra_156 bk o c xs sep w hcells hbk hN hcap hlen
def Tryd.lays137_ren : Go.Shelf.Ren := ⟨fun | 137 => 21 | 217 => 36 | 266 => 49 | n => n, fun | 9 => 9 | 5 => 5 | 3 => 3 | n => n, fun | n => n⟩
theorem Tryd.lays137 : Go.Proofs.Lays.n137 Tryd.prog Tryd.lays137_ren := {
  mixed := by kernel_rfl
  f137 := Tryd.func21.trans (congrArg some (by kernel_rfl))
  f217 := Tryd.func36.trans (congrArg some (by kernel_rfl))
  f266 := Tryd.func49.trans (congrArg some (by kernel_rfl))
  t3 := Tryd.underlying3
  a3 := Tryd.isAgg3
  z3 := Tryd.sizeOf3
  v3 := Tryd.zeroValue3
  t5 := Tryd.underlying5
  a5 := Tryd.isAgg5
  z5 := Tryd.sizeOf5
  v5 := Tryd.zeroValue5
  t9 := Tryd.underlying9
  a9 := Tryd.isAgg9
  z9 := Tryd.sizeOf9
  v9 := Tryd.zeroValue9 }
open Go.RowKit in
/-- strings.IndexByte: "IndexByte returns the index of the first instance of c in s, or -1 if c is not present in s.": IT RETURNS 'Lib.indexByte s c'; the world is as it was. (LAID: no walk: one application.) -/
theorem Tryd.strings_IndexByte (s : ByteArray) (c : Int) (w : World) :
    Calls Tryd.prog 21 #[.string s, .int .u8 c] w fun e w' => e = .returned (.int .i64 (Lib.indexByte s.data.toList c.toNat.toUInt8)) ∧ w' = w := Any.strings_IndexByte Tryd.lays137 s c w
def Tryd.laysM171_ren : Go.Shelf.Ren := ⟨fun | 171 => 35 | 243 => 48 | 246 => 56 | 283 => 67 | 284 => 68 | 285 => 69 | 286 => 70 | 129 => 78 | 317 => 77 | 318 => 79 | 319 => 80 | 320 => 81 | 337 => 85 | 338 => 86 | n => n, fun | 3 => 3 | 9 => 9 | 2 => 2 | 4 => 4 | 171 => 95 | 0 => 0 | 53 => 96 | 37 => 22 | 5 => 5 | 173 => 99 | 212 => 113 | 51 => 101 | 20 => 20 | 213 => 114 | 46 => 45 | 232 => 125 | 233 => 126 | n => n, fun | 17 => 3 | 18 => 6 | 19 => 7 | n => n⟩
theorem Tryd.laysM171 : Go.Proofs.LaysM.n171 Tryd.prog Tryd.laysM171_ren := {
  mixed := by kernel_rfl
  f129 := Tryd.func78.trans (congrArg some (by kernel_rfl))
  f171 := Tryd.func35.trans (congrArg some (by kernel_rfl))
  f243 := Tryd.func48.trans (congrArg some (by kernel_rfl))
  f246 := Tryd.func56.trans (congrArg some (by kernel_rfl))
  f283 := Tryd.func67.trans (congrArg some (by kernel_rfl))
  f284 := Tryd.func68.trans (congrArg some (by kernel_rfl))
  f285 := Tryd.func69.trans (congrArg some (by kernel_rfl))
  f286 := Tryd.func70.trans (congrArg some (by kernel_rfl))
  f317 := Tryd.func77.trans (congrArg some (by kernel_rfl))
  f318 := Tryd.func79.trans (congrArg some (by kernel_rfl))
  f319 := Tryd.func80.trans (congrArg some (by kernel_rfl))
  f320 := Tryd.func81.trans (congrArg some (by kernel_rfl))
  f337 := Tryd.func85.trans (congrArg some (by kernel_rfl))
  f338 := Tryd.func86.trans (congrArg some (by kernel_rfl))
  t0 := Tryd.underlying0
  a0 := Tryd.isAgg0
  z0 := Tryd.sizeOf0
  v0 := Tryd.zeroValue0
  t2 := Tryd.underlying2
  a2 := Tryd.isAgg2
  z2 := Tryd.sizeOf2
  v2 := Tryd.zeroValue2
  t3 := Tryd.underlying3
  a3 := Tryd.isAgg3
  z3 := Tryd.sizeOf3
  v3 := Tryd.zeroValue3
  t4 := Tryd.underlying4
  a4 := Tryd.isAgg4
  z4 := Tryd.sizeOf4
  v4 := Tryd.zeroValue4
  t5 := Tryd.underlying5
  a5 := Tryd.isAgg5
  z5 := Tryd.sizeOf5
  v5 := Tryd.zeroValue5
  t9 := Tryd.underlying9
  a9 := Tryd.isAgg9
  z9 := Tryd.sizeOf9
  v9 := Tryd.zeroValue9
  t20 := Tryd.underlying20
  a20 := Tryd.isAgg20
  z20 := Tryd.sizeOf20
  v20 := Tryd.zeroValue20
  t37 := Tryd.underlying22
  a37 := Tryd.isAgg22
  z37 := Tryd.sizeOf22
  v37 := Tryd.zeroValue22
  t46 := Tryd.underlying45
  a46 := Tryd.isAgg45
  z46 := Tryd.sizeOf45
  v46 := Tryd.zeroValue45
  t51 := Tryd.underlying101
  a51 := Tryd.isAgg101
  z51 := Tryd.sizeOf101
  v51 := Tryd.zeroValue101
  t53 := Tryd.underlying96
  a53 := Tryd.isAgg96
  z53 := Tryd.sizeOf96
  v53 := Tryd.zeroValue96
  t171 := Tryd.underlying95
  a171 := Tryd.isAgg95
  z171 := Tryd.sizeOf95
  v171 := Tryd.zeroValue95
  t173 := Tryd.underlying99
  a173 := Tryd.isAgg99
  z173 := Tryd.sizeOf99
  v173 := Tryd.zeroValue99
  t212 := Tryd.underlying113
  a212 := Tryd.isAgg113
  z212 := Tryd.sizeOf113
  v212 := Tryd.zeroValue113
  t213 := Tryd.underlying114
  a213 := Tryd.isAgg114
  z213 := Tryd.sizeOf114
  t232 := Tryd.underlying125
  a232 := Tryd.isAgg125
  z232 := Tryd.sizeOf125
  v232 := Tryd.zeroValue125
  t233 := Tryd.underlying126
  a233 := Tryd.isAgg126
  z233 := Tryd.sizeOf126
  v233 := Tryd.zeroValue126
  g17 := by kernel_rfl
  g18 := by kernel_rfl
  g19 := by kernel_rfl
  i0 := by kernel_rfl
  i2 := by kernel_rfl
  i3 := by kernel_rfl
  i4 := by kernel_rfl
  i5 := by kernel_rfl
  i9 := by kernel_rfl
  i20 := by kernel_rfl
  i37 := by kernel_rfl
  i46 := by kernel_rfl
  i51 := by kernel_rfl
  i53 := by kernel_rfl
  i171 := by kernel_rfl
  i173 := by kernel_rfl
  i212 := by kernel_rfl
  i232 := by kernel_rfl
  i233 := by kernel_rfl
  m17 := by kernel_rfl
  m18 := by kernel_rfl
  m19 := by kernel_rfl }
open Go.RowKit Go.Sort Go.Lib in
/-- strconv.Itoa: "Itoa is equivalent to FormatInt(int64(i), 10).": i's DECIMAL NUMERAL ('Lib.itoa': a '-' where i is negative, then the digits), FOR EVERY int. The world behind the call: the world before it, new blocks behind the heap (the library's 'var a [24]byte'), draws. (LAID: no walk: one application.) -/
theorem Tryd.strconv_Itoa (n : Int) (h0 : -9223372036854775808 ≤ n) (h1 : n ≤ 9223372036854775807) (w : World) (htab : Lib.TabIs Tryd.prog w "internal/strconv.uint64pow10" .u64 Lib.pow10Tab) :
    Calls Tryd.prog 35 #[.int .i64 n] w fun e w' => e = .returned (.string ⟨(Lib.itoa n).toArray⟩) ∧ ∃ k os, w' = grow (w.drewN k) os := Any.strconv_Itoa Tryd.laysM171 n h0 h1 w htab
open Go.RowKit Go.Sort Go.Lib in
def Tryd.laysC172_ren : Go.Shelf.Ren := ⟨fun | 172 => 44 | 244 => 53 | 245 => 54 | 247 => 61 | 279 => 62 | 280 => 63 | 281 => 64 | 282 => 65 | 287 => 73 | 316 => 74 | 171 => 35 | 205 => 75 | 321 => 83 | 322 => 84 | 243 => 48 | 246 => 56 | 283 => 67 | 284 => 68 | 285 => 69 | 286 => 70 | 129 => 78 | 317 => 77 | 318 => 79 | 319 => 80 | 320 => 81 | 337 => 85 | 338 => 86 | n => n, fun | 9 => 9 | 3 => 3 | 75 => 51 | 76 => 53 | 4 => 4 | 5 => 5 | 167 => 89 | 37 => 22 | 0 => 0 | 85 => 90 | 2 => 2 | 168 => 92 | 53 => 96 | 175 => 106 | 46 => 45 | 210 => 110 | 127 => 72 | 145 => 119 | 143 => 117 | 21 => 21 | 171 => 95 | 173 => 99 | 212 => 113 | 51 => 101 | 20 => 20 | 213 => 114 | 232 => 125 | 233 => 126 | 80 => 55 | n => n, fun | 15 => 1 | 16 => 2 | 17 => 3 | 18 => 6 | 19 => 7 | n => n⟩
theorem Tryd.laysC172 : Go.Proofs.LaysC.n172 Tryd.prog Tryd.laysC172_ren := {
  mixed := by kernel_rfl
  f129 := Tryd.func78.trans (congrArg some (by kernel_rfl))
  f171 := Tryd.func35.trans (congrArg some (by kernel_rfl))
  f172 := Tryd.func44.trans (congrArg some (by kernel_rfl))
  f205 := Tryd.func75.trans (congrArg some (by kernel_rfl))
  f243 := Tryd.func48.trans (congrArg some (by kernel_rfl))
  f244 := Tryd.func53.trans (congrArg some (by kernel_rfl))
  f245 := Tryd.func54.trans (congrArg some (by kernel_rfl))
  f246 := Tryd.func56.trans (congrArg some (by kernel_rfl))
  f247 := Tryd.func61.trans (congrArg some (by kernel_rfl))
  f279 := Tryd.func62.trans (congrArg some (by kernel_rfl))
  f280 := Tryd.func63.trans (congrArg some (by kernel_rfl))
  f281 := Tryd.func64.trans (congrArg some (by kernel_rfl))
  f282 := Tryd.func65.trans (congrArg some (by kernel_rfl))
  f283 := Tryd.func67.trans (congrArg some (by kernel_rfl))
  f284 := Tryd.func68.trans (congrArg some (by kernel_rfl))
  f285 := Tryd.func69.trans (congrArg some (by kernel_rfl))
  f286 := Tryd.func70.trans (congrArg some (by kernel_rfl))
  f287 := Tryd.func73.trans (congrArg some (by kernel_rfl))
  f316 := Tryd.func74.trans (congrArg some (by kernel_rfl))
  f317 := Tryd.func77.trans (congrArg some (by kernel_rfl))
  f318 := Tryd.func79.trans (congrArg some (by kernel_rfl))
  f319 := Tryd.func80.trans (congrArg some (by kernel_rfl))
  f320 := Tryd.func81.trans (congrArg some (by kernel_rfl))
  f321 := Tryd.func83.trans (congrArg some (by kernel_rfl))
  f322 := Tryd.func84.trans (congrArg some (by kernel_rfl))
  f337 := Tryd.func85.trans (congrArg some (by kernel_rfl))
  f338 := Tryd.func86.trans (congrArg some (by kernel_rfl))
  t0 := Tryd.underlying0
  a0 := Tryd.isAgg0
  z0 := Tryd.sizeOf0
  v0 := Tryd.zeroValue0
  t2 := Tryd.underlying2
  a2 := Tryd.isAgg2
  z2 := Tryd.sizeOf2
  v2 := Tryd.zeroValue2
  t3 := Tryd.underlying3
  a3 := Tryd.isAgg3
  z3 := Tryd.sizeOf3
  v3 := Tryd.zeroValue3
  t4 := Tryd.underlying4
  a4 := Tryd.isAgg4
  z4 := Tryd.sizeOf4
  v4 := Tryd.zeroValue4
  t5 := Tryd.underlying5
  a5 := Tryd.isAgg5
  z5 := Tryd.sizeOf5
  v5 := Tryd.zeroValue5
  t9 := Tryd.underlying9
  a9 := Tryd.isAgg9
  z9 := Tryd.sizeOf9
  v9 := Tryd.zeroValue9
  t20 := Tryd.underlying20
  a20 := Tryd.isAgg20
  z20 := Tryd.sizeOf20
  v20 := Tryd.zeroValue20
  t21 := Tryd.underlying21
  a21 := Tryd.isAgg21
  z21 := Tryd.sizeOf21
  v21 := Tryd.zeroValue21
  t37 := Tryd.underlying22
  a37 := Tryd.isAgg22
  z37 := Tryd.sizeOf22
  v37 := Tryd.zeroValue22
  t46 := Tryd.underlying45
  a46 := Tryd.isAgg45
  z46 := Tryd.sizeOf45
  v46 := Tryd.zeroValue45
  t51 := Tryd.underlying101
  a51 := Tryd.isAgg101
  z51 := Tryd.sizeOf101
  v51 := Tryd.zeroValue101
  t53 := Tryd.underlying96
  a53 := Tryd.isAgg96
  z53 := Tryd.sizeOf96
  v53 := Tryd.zeroValue96
  t75 := Tryd.underlying51
  a75 := Tryd.isAgg51
  z75 := Tryd.sizeOf51
  v75 := Tryd.zeroValue51
  t76 := Tryd.underlying53
  a76 := Tryd.isAgg53
  z76 := Tryd.sizeOf53
  v76 := Tryd.zeroValue53
  t85 := Tryd.underlying90
  a85 := Tryd.isAgg90
  z85 := Tryd.sizeOf90
  v85 := Tryd.zeroValue90
  t127 := Tryd.underlying72
  a127 := Tryd.isAgg72
  z127 := Tryd.sizeOf72
  v127 := Tryd.zeroValue72
  t143 := Tryd.underlying117
  a143 := Tryd.isAgg117
  z143 := Tryd.sizeOf117
  v143 := Tryd.zeroValue117
  t145 := Tryd.underlying119
  a145 := Tryd.isAgg119
  z145 := Tryd.sizeOf119
  v145 := Tryd.zeroValue119
  t167 := Tryd.underlying89
  a167 := Tryd.isAgg89
  z167 := Tryd.sizeOf89
  v167 := Tryd.zeroValue89
  t168 := Tryd.underlying92
  a168 := Tryd.isAgg92
  z168 := Tryd.sizeOf92
  v168 := Tryd.zeroValue92
  t171 := Tryd.underlying95
  a171 := Tryd.isAgg95
  z171 := Tryd.sizeOf95
  v171 := Tryd.zeroValue95
  t173 := Tryd.underlying99
  a173 := Tryd.isAgg99
  z173 := Tryd.sizeOf99
  v173 := Tryd.zeroValue99
  t175 := Tryd.underlying106
  a175 := Tryd.isAgg106
  z175 := Tryd.sizeOf106
  v175 := Tryd.zeroValue106
  t210 := Tryd.underlying110
  a210 := Tryd.isAgg110
  z210 := Tryd.sizeOf110
  v210 := Tryd.zeroValue110
  t212 := Tryd.underlying113
  a212 := Tryd.isAgg113
  z212 := Tryd.sizeOf113
  v212 := Tryd.zeroValue113
  t213 := Tryd.underlying114
  a213 := Tryd.isAgg114
  z213 := Tryd.sizeOf114
  t232 := Tryd.underlying125
  a232 := Tryd.isAgg125
  z232 := Tryd.sizeOf125
  v232 := Tryd.zeroValue125
  t233 := Tryd.underlying126
  a233 := Tryd.isAgg126
  z233 := Tryd.sizeOf126
  v233 := Tryd.zeroValue126
  g15 := by kernel_rfl
  g16 := by kernel_rfl
  g17 := by kernel_rfl
  g18 := by kernel_rfl
  g19 := by kernel_rfl
  t80 := Tryd.underlying55
  a80 := Tryd.isAgg55
  z80 := Tryd.sizeOf55
  v80 := Tryd.zeroValue55
  i0 := by kernel_rfl
  i2 := by kernel_rfl
  i3 := by kernel_rfl
  i4 := by kernel_rfl
  i5 := by kernel_rfl
  i9 := by kernel_rfl
  i20 := by kernel_rfl
  i21 := by kernel_rfl
  i37 := by kernel_rfl
  i46 := by kernel_rfl
  i51 := by kernel_rfl
  i53 := by kernel_rfl
  i75 := by kernel_rfl
  i76 := by kernel_rfl
  i80 := by kernel_rfl
  i85 := by kernel_rfl
  i127 := by kernel_rfl
  i143 := by kernel_rfl
  i145 := by kernel_rfl
  i167 := by kernel_rfl
  i168 := by kernel_rfl
  i171 := by kernel_rfl
  i173 := by kernel_rfl
  i175 := by kernel_rfl
  i210 := by kernel_rfl
  i212 := by kernel_rfl
  i232 := by kernel_rfl
  i233 := by kernel_rfl
  m15 := by kernel_rfl
  m16 := by kernel_rfl
  m17 := by kernel_rfl
  m18 := by kernel_rfl
  m19 := by kernel_rfl
  c0 := by kernel_rfl
  c2 := by kernel_rfl
  c3 := by kernel_rfl
  c4 := by kernel_rfl
  c5 := by kernel_rfl
  c9 := by kernel_rfl
  c20 := by kernel_rfl
  c21 := by kernel_rfl
  c37 := by kernel_rfl
  c46 := by kernel_rfl
  c51 := by kernel_rfl
  c53 := by kernel_rfl
  c75 := by kernel_rfl
  c76 := by kernel_rfl
  c80 := by kernel_rfl
  c85 := by kernel_rfl
  c127 := by kernel_rfl
  c143 := by kernel_rfl
  c145 := by kernel_rfl
  c167 := by kernel_rfl
  c168 := by kernel_rfl
  c171 := by kernel_rfl
  c173 := by kernel_rfl
  c175 := by kernel_rfl
  c210 := by kernel_rfl
  c212 := by kernel_rfl
  c213 := by kernel_rfl
  c232 := by kernel_rfl
  c233 := by kernel_rfl }
open Go.RowKit in
/-- strconv.Atoi, AT EVERY STRING THAT SPELLS AN int ('Lib.atoiAll .. = .ok v'; of whatever length: leading zeros count): v, AND NO ERROR. The world: as it was, or with the one new row that '[]byte(..)' lays. (LAID: no walk: one application.) -/
theorem Tryd.strconv_Atoi_ok (s : ByteArray) (hmax : s.size ≤ 9223372036854775806) (v : Int) (h : Lib.atoiAll s.data.toList = .ok v) (w : World) :
    Calls Tryd.prog 44 #[.string s] w fun e w' => e = .returned (.tuple #[.int .i64 v, .nilIface]) ∧ (w' = w ∨ ∃ t, w' = Lib.bytesWorld w 5 t) := Any.strconv_Atoi_ok Tryd.laysC172 s hmax v h w
open Go.RowKit in
/-- strconv.Atoi, AT EVERY NUMERAL THAT NO int HOLDS ('.range'): THE GREATEST OR THE LEAST int, BY THE SIGN ('Lib.atoiSat'), AND AN ERROR THAT IS NOT nil: a *NumError in a new block N: {Func: "Atoi", Num: s's bytes, Err: what the variable ErrRange holds}. Of what was there nothing has turned. (LAID: no walk: one application.) -/
theorem Tryd.strconv_Atoi_range (s : ByteArray) (hlim : s.size ≤ 281474976710656) (h : Lib.atoiAll s.data.toList = .range) (ev : Value) (w : World) (hv : w.cell? ⟨2, 0, none⟩ = some ev) (hev : ev = .nilIface ∨ ∃ te pe, ev = .iface te pe) :
    Calls Tryd.prog 44 #[.string s] w fun e w' => ∃ N, e = .returned (.tuple #[.int .i64 (Lib.atoiSat s.data.toList), .iface 92 (.pointer (some ⟨N, 0, none⟩))]) ∧ w.heap.size ≤ N ∧ w'.heap[N]? = some (.cells #[.string ⟨#[65, 116, 111, 105]⟩, .string s, ev] 110 (0, 0)) ∧ Below w.heap.size w w' := Any.strconv_Atoi_range Tryd.laysC172 s hlim h ev w hv hev
def Tryd.lays145_ren : Go.Shelf.Ren := ⟨fun | 145 => 28 | 220 => 41 | 219 => 51 | 217 => 36 | 225 => 57 | 224 => 58 | 267 => 59 | 266 => 49 | 314 => 71 | n => n, fun | 9 => 9 | 4 => 4 | 59 => 57 | 3 => 3 | 5 => 5 | 46 => 45 | 146 => 102 | 51 => 101 | n => n, fun | 1 => 0 | n => n⟩
theorem Tryd.lays145 : Go.Proofs.Lays.n145 Tryd.prog Tryd.lays145_ren := {
  mixed := by kernel_rfl
  f145 := Tryd.func28.trans (congrArg some (by kernel_rfl))
  f217 := Tryd.func36.trans (congrArg some (by kernel_rfl))
  f219 := Tryd.func51.trans (congrArg some (by kernel_rfl))
  f220 := Tryd.func41.trans (congrArg some (by kernel_rfl))
  f224 := Tryd.func58.trans (congrArg some (by kernel_rfl))
  f225 := Tryd.func57.trans (congrArg some (by kernel_rfl))
  f266 := Tryd.func49.trans (congrArg some (by kernel_rfl))
  f267 := Tryd.func59.trans (congrArg some (by kernel_rfl))
  f314 := Tryd.func71.trans (congrArg some (by kernel_rfl))
  t3 := Tryd.underlying3
  a3 := Tryd.isAgg3
  z3 := Tryd.sizeOf3
  v3 := Tryd.zeroValue3
  t4 := Tryd.underlying4
  a4 := Tryd.isAgg4
  z4 := Tryd.sizeOf4
  v4 := Tryd.zeroValue4
  t5 := Tryd.underlying5
  a5 := Tryd.isAgg5
  z5 := Tryd.sizeOf5
  v5 := Tryd.zeroValue5
  t9 := Tryd.underlying9
  a9 := Tryd.isAgg9
  z9 := Tryd.sizeOf9
  v9 := Tryd.zeroValue9
  t46 := Tryd.underlying45
  a46 := Tryd.isAgg45
  z46 := Tryd.sizeOf45
  v46 := Tryd.zeroValue45
  t51 := Tryd.underlying101
  a51 := Tryd.isAgg101
  z51 := Tryd.sizeOf101
  v51 := Tryd.zeroValue101
  t59 := Tryd.underlying57
  a59 := Tryd.isAgg57
  z59 := Tryd.sizeOf57
  v59 := Tryd.zeroValue57
  t146 := Tryd.underlying102
  a146 := Tryd.isAgg102
  z146 := Tryd.sizeOf102
  v146 := Tryd.zeroValue102
  g1 := by kernel_rfl }
open Go.RowKit Go.Lib in
/-- strings.Cut: "Cut slices s around the first instance of sep, returning the text before and after sep. The found result reports whether sep appears in s. If sep does not appear in s, cut returns s, "", false.": IT RETURNS 'Lib.cut s sep'; the world is as it was but for the count of draws. (LAID: no walk: one application.) -/
theorem Tryd.strings_Cut (s sep : ByteArray) (m : Int) (w : World) (hs : s.size < 4294967281) (hm : w.cell? ⟨0, 0, none⟩ = some (.int .i64 m)) :
    Calls Tryd.prog 28 #[.string s, .string sep] w fun e w' => e = .returned (.tuple #[.string ⟨(Lib.cut s.data.toList sep.data.toList).1.toArray⟩, .string ⟨(Lib.cut s.data.toList sep.data.toList).2.1.toArray⟩, .bool (Lib.cut s.data.toList sep.data.toList).2.2]) ∧ ∃ n, w' = w.drewN n := Any.strings_Cut Tryd.lays145 s sep m w hs hm
def Tryd.lays138_ren : Go.Shelf.Ren := ⟨fun | 138 => 27 | 195 => 38 | 218 => 39 | 143 => 40 | 219 => 51 | 217 => 36 | 225 => 57 | 224 => 58 | 267 => 59 | 266 => 49 | 314 => 71 | n => n, fun | 9 => 9 | 3 => 3 | 4 => 4 | 5 => 5 | 0 => 0 | 46 => 45 | 146 => 102 | 51 => 101 | n => n, fun | 1 => 0 | n => n⟩
theorem Tryd.lays138 : Go.Proofs.Lays.n138 Tryd.prog Tryd.lays138_ren := {
  mixed := by kernel_rfl
  f138 := Tryd.func27.trans (congrArg some (by kernel_rfl))
  f143 := Tryd.func40.trans (congrArg some (by kernel_rfl))
  f195 := Tryd.func38.trans (congrArg some (by kernel_rfl))
  f217 := Tryd.func36.trans (congrArg some (by kernel_rfl))
  f218 := Tryd.func39.trans (congrArg some (by kernel_rfl))
  f219 := Tryd.func51.trans (congrArg some (by kernel_rfl))
  f224 := Tryd.func58.trans (congrArg some (by kernel_rfl))
  f225 := Tryd.func57.trans (congrArg some (by kernel_rfl))
  f266 := Tryd.func49.trans (congrArg some (by kernel_rfl))
  f267 := Tryd.func59.trans (congrArg some (by kernel_rfl))
  f314 := Tryd.func71.trans (congrArg some (by kernel_rfl))
  t0 := Tryd.underlying0
  a0 := Tryd.isAgg0
  z0 := Tryd.sizeOf0
  v0 := Tryd.zeroValue0
  t3 := Tryd.underlying3
  a3 := Tryd.isAgg3
  z3 := Tryd.sizeOf3
  v3 := Tryd.zeroValue3
  t4 := Tryd.underlying4
  a4 := Tryd.isAgg4
  z4 := Tryd.sizeOf4
  v4 := Tryd.zeroValue4
  t5 := Tryd.underlying5
  a5 := Tryd.isAgg5
  z5 := Tryd.sizeOf5
  v5 := Tryd.zeroValue5
  t9 := Tryd.underlying9
  a9 := Tryd.isAgg9
  z9 := Tryd.sizeOf9
  v9 := Tryd.zeroValue9
  t46 := Tryd.underlying45
  a46 := Tryd.isAgg45
  z46 := Tryd.sizeOf45
  v46 := Tryd.zeroValue45
  t51 := Tryd.underlying101
  a51 := Tryd.isAgg101
  z51 := Tryd.sizeOf101
  v51 := Tryd.zeroValue101
  t146 := Tryd.underlying102
  a146 := Tryd.isAgg102
  z146 := Tryd.sizeOf102
  v146 := Tryd.zeroValue102
  g1 := by kernel_rfl }
open Go.RowKit Go.Lib in
/-- strings.Count AT A substr OF ONE BYTE ('hp'): "Count counts the number of non-overlapping instances of substr in s.": IT RETURNS 'Lib.countByte s (that byte)'; the world is as it was. ✋ NO CONTRACT HERE YET at an empty substr (utf8.RuneCountInString) or at a longer one (a loop over strings.Index). (LAID: no walk: one application.) -/
theorem Tryd.strings_Count_one (s : ByteArray) (c : UInt8) (w : World) :
    Calls Tryd.prog 27 #[.string s, .string ⟨#[c]⟩] w fun e w' => e = .returned (.int .i64 (Lib.countByte s.data.toList c)) ∧ w' = w := Any.strings_Count_one Tryd.lays138 s c w
def Tryd.lays146_ren : Go.Shelf.Ren := ⟨fun | 146 => 43 | 221 => 52 | 268 => 60 | 138 => 27 | 143 => 40 | 195 => 38 | 197 => 72 | 218 => 39 | 219 => 51 | 260 => 82 | 217 => 36 | 225 => 57 | 224 => 58 | 267 => 59 | 266 => 49 | 314 => 71 | n => n, fun | 9 => 9 | 31 => 64 | 3 => 3 | 4 => 4 | 0 => 0 | 105 => 104 | 21 => 21 | 5 => 5 | 46 => 45 | 119 => 121 | 139 => 124 | 138 => 123 | 146 => 102 | 51 => 101 | n => n, fun | 1 => 0 | 3 => 4 | 4 => 5 | n => n⟩
theorem Tryd.lays146 : Go.Proofs.Lays.n146 Tryd.prog Tryd.lays146_ren := {
  mixed := by kernel_rfl
  f138 := Tryd.func27.trans (congrArg some (by kernel_rfl))
  f143 := Tryd.func40.trans (congrArg some (by kernel_rfl))
  f146 := Tryd.func43.trans (congrArg some (by kernel_rfl))
  f195 := Tryd.func38.trans (congrArg some (by kernel_rfl))
  f197 := Tryd.func72.trans (congrArg some (by kernel_rfl))
  f217 := Tryd.func36.trans (congrArg some (by kernel_rfl))
  f218 := Tryd.func39.trans (congrArg some (by kernel_rfl))
  f219 := Tryd.func51.trans (congrArg some (by kernel_rfl))
  f221 := Tryd.func52.trans (congrArg some (by kernel_rfl))
  f224 := Tryd.func58.trans (congrArg some (by kernel_rfl))
  f225 := Tryd.func57.trans (congrArg some (by kernel_rfl))
  f260 := Tryd.func82.trans (congrArg some (by kernel_rfl))
  f266 := Tryd.func49.trans (congrArg some (by kernel_rfl))
  f267 := Tryd.func59.trans (congrArg some (by kernel_rfl))
  f268 := Tryd.func60.trans (congrArg some (by kernel_rfl))
  f314 := Tryd.func71.trans (congrArg some (by kernel_rfl))
  t0 := Tryd.underlying0
  a0 := Tryd.isAgg0
  z0 := Tryd.sizeOf0
  v0 := Tryd.zeroValue0
  t3 := Tryd.underlying3
  a3 := Tryd.isAgg3
  z3 := Tryd.sizeOf3
  v3 := Tryd.zeroValue3
  t4 := Tryd.underlying4
  a4 := Tryd.isAgg4
  z4 := Tryd.sizeOf4
  v4 := Tryd.zeroValue4
  t5 := Tryd.underlying5
  a5 := Tryd.isAgg5
  z5 := Tryd.sizeOf5
  v5 := Tryd.zeroValue5
  t9 := Tryd.underlying9
  a9 := Tryd.isAgg9
  z9 := Tryd.sizeOf9
  v9 := Tryd.zeroValue9
  t21 := Tryd.underlying21
  a21 := Tryd.isAgg21
  z21 := Tryd.sizeOf21
  v21 := Tryd.zeroValue21
  t31 := Tryd.underlying64
  a31 := Tryd.isAgg64
  z31 := Tryd.sizeOf64
  v31 := Tryd.zeroValue64
  t46 := Tryd.underlying45
  a46 := Tryd.isAgg45
  z46 := Tryd.sizeOf45
  v46 := Tryd.zeroValue45
  t51 := Tryd.underlying101
  a51 := Tryd.isAgg101
  z51 := Tryd.sizeOf101
  v51 := Tryd.zeroValue101
  t105 := Tryd.underlying104
  a105 := Tryd.isAgg104
  z105 := Tryd.sizeOf104
  v105 := Tryd.zeroValue104
  t119 := Tryd.underlying121
  a119 := Tryd.isAgg121
  z119 := Tryd.sizeOf121
  t138 := Tryd.underlying123
  a138 := Tryd.isAgg123
  z138 := Tryd.sizeOf123
  v138 := Tryd.zeroValue123
  t139 := Tryd.underlying124
  a139 := Tryd.isAgg124
  z139 := Tryd.sizeOf124
  v139 := Tryd.zeroValue124
  t146 := Tryd.underlying102
  a146 := Tryd.isAgg102
  z146 := Tryd.sizeOf102
  v146 := Tryd.zeroValue102
  g1 := by kernel_rfl
  g3 := by kernel_rfl
  g4 := by kernel_rfl }
open Go.RowKit Go.Lib in
/-- strings.Split. (LAID: no walk: one application.) -/
theorem Tryd.strings_Split (s sep : ByteArray) (m : Int) (w : World) (hs : s.size < 4294967281) (hm : w.cell? ⟨0, 0, none⟩ = some (.int .i64 m)) (h1 : 1 ≤ sep.size) :
    Calls Tryd.prog 43 #[.string s, .string sep] w fun e w' =>
      e = .returned (.slice (some ⟨w.heap.size, 0, none⟩) (Lib.countB s sep + 1) (Lib.countB s sep + 1)) ∧ w' = w.alloc (.cells ((Lib.splitB sep 0 (Lib.countB s sep) s).map Value.string).toArray 9) := Any.strings_Split Tryd.lays146 (by kernel_rfl) s sep m w hs hm h1

end Go.Proofs.YtmlddafbenfilaaDoor
/- What the library's functions on texts come to. -/
namespace Go.Proofs.YtmlddafbenfilaaDoor
open Go.Cam Go.RowKit
set_option maxRecDepth 100000
/-- the library's variables -/
def GLp (H : Heap) : Prop := (∃ m t f, H 0 = some (.cells #[.int .i64 m] t f)) ∧ (∃ te pe t f, H 1 = some (.cells #[.iface te pe] t f)) ∧ (∃ te pe t f, H 2 = some (.cells #[.iface te pe] t f)) ∧ ∃ t f, H 3 = some (.cells (Go.Lib.pow10Tab.map fun z => Value.int .u64 z).toArray t f)
def GL : HP := .per GLp fun h ⟨⟨m, t, f, h1⟩, ⟨a, b, t2, f2, h2⟩, ⟨c, d, t3, f3, h3⟩, ⟨t4, f4, h4⟩⟩ => ⟨⟨m, t, f, h _ _ h1⟩, ⟨a, b, t2, f2, h _ _ h2⟩, ⟨c, d, t3, f3, h _ _ h3⟩, ⟨t4, f4, h _ _ h4⟩⟩
instance : Per GL := ⟨fun h => h⟩
theorem has_below {w0 w w' : World} {H M : Heap} (hh : Has w0 w H M) (hb : Below w.heap.size w w') : Has w0 w' H M where
  os := hb.os.trans hh.os
  tape := hb.tape.trans hh.tape
  output := hb.output.trans hh.output
  size := Nat.le_trans hh.size hb.size
  h b o e := by
    have h1 := hh.h b o e
    have h2 : b < w.heap.size := by rcases Nat.lt_or_ge b w.heap.size with g | g; exact g; rw [Array.getElem?_eq_none g] at h1; cases h1
    rw [hb.block b h2]; exact h1
  m b o e := by
    have h1 := hh.m b o e
    have h2 : b < w.heap.size := by rcases Nat.lt_or_ge b w.heap.size with g | g; exact g; rw [Array.getElem?_eq_none g] at h1; cases h1
    rw [hb.block b h2]; exact h1
  d := hh.d
theorem sat_tail {F : HP} : ∀ {As : List HP} {H M : Heap}, (Sat (As ++ [F])).p H M → (Sat [F]).p H M
  | [], _, _, h => h
  | _ :: _, _, _, h => sat_tail (star_snd h)
/-- a contract that leaves what was there -/
theorem ctr_bel {f : FuncId} {args : List Value} {As : List HP} {Q : Value → List HP → Prop} (h : ∀ (F : HP) H M w0 w, (Sat (As ++ [F])).p H M → Has w0 w H M → Calls Tryd.prog f args.toArray w fun e w' => ∃ v, e = .returned v ∧ Q v [] ∧ Below w.heap.size w w') : Ctr Tryd.prog f args As Q := fun F H M s w0 w hh => by
  refine (h F H M w0 w s hh).mono fun e w' ⟨v, he, hq, hb⟩ => ?_
  exact ⟨v, H, M, he, has_below hh hb, [], hq, sat_tail s⟩
theorem below_drewN (w : World) (n : Nat) : Below w.heap.size w (w.drewN n) := ⟨rfl, rfl, rfl, Nat.le_refl _, fun _ _ => rfl⟩
theorem below_grow (w : World) (n : Nat) (os : Array Obj) : Below w.heap.size w (Go.Sort.grow (w.drewN n) os) := ⟨rfl, rfl, rfl, by simp [Go.Sort.grow, World.drewN], fun k hk => by
  simp only [Go.Sort.grow, World.drewN]
  rw [Array.getElem?_append_left hk]⟩
theorem ofN_toN (l : List UInt8) : (l.map UInt8.toNat).map UInt8.ofNat = l := by
  rw [List.map_map, show (UInt8.ofNat ∘ UInt8.toNat) = id by funext x; simp, List.map_id]
theorem strB_of (l : List UInt8) : (⟨l.toArray⟩ : ByteArray) = strB (l.map UInt8.toNat) := by
  unfold strB; rw [ofN_toN]
theorem strB_list (l : List Nat) : (strB l).data.toList = l.map UInt8.ofNat := by simp [strB]
theorem gl_tab {H M : Heap} {w0 w : World} (hg : GLp H) (hh : Has w0 w H M) : Go.Lib.TabIs Tryd.prog w "internal/strconv.uint64pow10" .u64 Go.Lib.pow10Tab := by
  obtain ⟨t, f, h⟩ := hg.2.2.2
  have h1 := hh.h _ _ h
  unfold Go.Lib.TabIs World.var?
  rw [show Tryd.prog.globalNamed "internal/strconv.uint64pow10" = some 3 by kernel_rfl, Option.bind_some, h1]
theorem itoa_c {n : Int} (h : I64 n) : Ctr Tryd.prog 35 [.int .i64 n] [GL] (fun v Bs => v = .string (strB (itoaN n)) ∧ Bs = []) := ctr_bel fun F H M w0 w s hh => by
  have hg : GLp H := star_fst s
  refine (Tryd.strconv_Itoa n h.1 h.2 w (gl_tab hg hh)).mono fun e w' ⟨he, k, os, hw⟩ => ?_
  subst he; subst hw
  exact ⟨_, rfl, ⟨by rw [strB_of]; rfl, rfl⟩, below_grow w k os⟩
theorem cell_of {w : World} {b : Nat} {cs : Array Value} {t : Nat} {f : Nat × Nat} (h : w.heap[b]? = some (.cells cs t f)) (i : Nat) : w.cell? ⟨b, i, none⟩ = cs[i]? := by simp [World.cell?, h]
theorem atoi_c (s : List Nat) (hl : s.length ≤ 1000000) : Ctr Tryd.prog 44 [.string (strB s)] [GL] (fun v Bs => (match atoiN s with | some x => v = .tuple #[.int .i64 x, .nilIface] | none => ∃ x t p, v = .tuple #[.int .i64 x, .iface t (.pointer (some p))]) ∧ Bs = []) := ctr_bel fun F H M w0 w q hh => by
  have hg : GLp H := star_fst q
  have hsz : (strB s).size = s.length := by simp [strB, ByteArray.size]
  rcases ha : Go.Lib.atoiAll (strB s).data.toList with x | _ | _
  · refine (Tryd.strconv_Atoi_ok (strB s) (by omega) x ha w).mono fun e w' ⟨he, hw⟩ => ?_
    subst he
    refine ⟨_, rfl, ⟨?_, rfl⟩, ?_⟩
    · unfold atoiN; rw [← strB_list, ha]
    · rcases hw with rfl | ⟨t, rfl⟩
      · exact Below.refl _ _
      · unfold Go.Lib.bytesWorld
        exact Go.Lib.below_freeze ((Below.drew (Below.refl _ w)).alloc (Nat.le_refl _) _) (Nat.le_refl _) _
  · obtain ⟨te, pe, t, f, h1⟩ := hg.2.1
    have hc : Calls Tryd.prog 44 #[.string (strB s)] w _ := Any.strconv_Atoi_syntax Tryd.laysC172 (strB s) (by omega) ha (.iface te pe) w (cell_of (hh.h _ _ h1) 0) (.inr ⟨te, pe, rfl⟩)
    refine hc.mono fun e w' ⟨N, he, _, _, hb⟩ => ?_
    subst he
    refine ⟨_, rfl, ⟨?_, rfl⟩, hb⟩
    unfold atoiN; rw [← strB_list, ha]
    exact ⟨_, _, _, rfl⟩
  · obtain ⟨te, pe, t, f, h1⟩ := hg.2.2.1
    refine (Tryd.strconv_Atoi_range (strB s) (by omega) ha (.iface te pe) w (cell_of (hh.h _ _ h1) 0) (.inr ⟨te, pe, rfl⟩)).mono fun e w' ⟨N, he, _, _, hb⟩ => ?_
    subst he
    refine ⟨_, rfl, ⟨?_, rfl⟩, hb⟩
    unfold atoiN; rw [← strB_list, ha]
    exact ⟨_, _, _, rfl⟩
def idxN : List Nat → Nat → Int
  | [], _ => -1
  | b :: l, c => if b = c then 0 else if idxN l c = -1 then -1 else idxN l c + 1
theorem ofN_inj {a b : Nat} (ha : a < 256) (hb : b < 256) (h : UInt8.ofNat a = UInt8.ofNat b) : a = b := by
  have := congrArg UInt8.toNat h
  rwa [u8_of ha, u8_of hb] at this
theorem idx_is {c : Nat} (hc : c < 256) : ∀ (l : List Nat), Bys l → Go.Lib.indexByte (l.map UInt8.ofNat) (UInt8.ofNat c) = idxN l c
  | [], _ => rfl
  | b :: l, h => by
    have ih := idx_is hc l fun x hx => h x (List.mem_cons_of_mem _ hx)
    have hb := h b (List.mem_cons_self ..)
    rw [List.map_cons, Go.Lib.indexByte, idxN, ih]
    by_cases e : b = c
    · subst e; simp
    · rw [if_neg e, if_neg (by rw [beq_iff_eq]; exact fun q => e (ofN_inj hb hc q))]
      by_cases e2 : idxN l c = -1
      · rw [if_pos e2, if_pos (by rw [e2]; rfl)]
      · rw [if_neg e2, if_neg (by rw [beq_iff_eq]; exact e2)]
theorem idx_c (s : List Nat) (c : Nat) (hs : Bys s) (hc : c < 256) : Ctr Tryd.prog 21 [.string (strB s), .int .u8 (c : Int)] [] (fun v Bs => v = .int .i64 (idxN s c) ∧ Bs = []) := ctr_bel fun F H M w0 w q hh => by
  refine (Tryd.strings_IndexByte (strB s) (c : Int) w).mono fun e w' ⟨he, hw⟩ => ?_
  subst he; subst hw
  refine ⟨_, rfl, ⟨?_, rfl⟩, Below.refl _ _⟩
  rw [strB_list, ← idx_is hc s hs]
  rfl
theorem count_is {c : Nat} (hc : c < 256) : ∀ (l : List Nat), Bys l → (l.map UInt8.ofNat).count (UInt8.ofNat c) = l.count c
  | [], _ => rfl
  | b :: l, h => by
    have ih := count_is hc l fun x hx => h x (List.mem_cons_of_mem _ hx)
    have hb := h b (List.mem_cons_self ..)
    rw [List.map_cons, List.count_cons, List.count_cons, ih]
    congr 1
    by_cases e : b = c
    · subst e; simp
    · rw [if_neg (by rw [beq_iff_eq]; exact fun q => e (ofN_inj hb hc q)), if_neg (by rw [beq_iff_eq]; exact e)]
theorem count_c (s : List Nat) (hs : Bys s) : Ctr Tryd.prog 27 [.string (strB s), .string (strB [10])] [] (fun v Bs => v = .int .i64 (s.count 10 : Nat) ∧ Bs = []) := ctr_bel fun F H M w0 w q hh => by
  refine (Tryd.strings_Count_one (strB s) 10 w).mono fun e w' ⟨he, hw⟩ => ?_
  subst he; subst hw
  refine ⟨_, rfl, ⟨?_, rfl⟩, Below.refl _ _⟩
  rw [strB_list, ← count_is (by decide) s hs]
  rfl
theorem index_cons (b c : UInt8) (l : List UInt8) : Go.Lib.index (b :: l) [c] = if c = b then 0 else if Go.Lib.index l [c] = -1 then -1 else Go.Lib.index l [c] + 1 := by
  rw [Go.Lib.index]
  have : [c].isPrefixOf (b :: l) = (c == b) := by simp [List.isPrefixOf]
  rw [this]
  by_cases e : c = b
  · rw [if_pos e, if_pos (by rw [beq_iff_eq]; exact e)]
  · rw [if_neg e, if_neg (by rw [beq_iff_eq]; exact e)]
    by_cases e2 : Go.Lib.index l [c] = -1
    · rw [if_pos e2, if_pos (by rw [e2]; rfl)]
    · rw [if_neg e2, if_neg (by rw [beq_iff_eq]; exact e2)]
theorem cut_is : ∀ (l : List Nat), Bys l → Go.Lib.cut (l.map UInt8.ofNat) [10] = ((cut10 l).1.map UInt8.ofNat, (((cut10 l).2).getD []).map UInt8.ofNat, (cut10 l).2.isSome)
  | [], _ => rfl
  | b :: l, h => by
    have ih := cut_is l fun x hx => h x (List.mem_cons_of_mem _ hx)
    have hb := h b (List.mem_cons_self ..)
    rw [List.map_cons]
    unfold Go.Lib.cut at ih ⊢
    by_cases e : b = 10
    · subst e
      have e1 : Go.Lib.index (UInt8.ofNat 10 :: l.map UInt8.ofNat) [10] = 0 := by rw [index_cons]; exact if_pos rfl
      rw [e1, cut10]
      rfl
    · rw [index_cons, cut10]
      have e1 : ¬ (10 : UInt8) = UInt8.ofNat b := fun q => e (ofN_inj hb (by decide) q.symm)
      rw [if_neg e1, if_neg e]
      have hge := Go.Lib.index_ge (l.map UInt8.ofNat) [10]
      by_cases e2 : Go.Lib.index (l.map UInt8.ofNat) [10] = -1
      · rw [if_pos e2]
        rw [if_neg (by omega)] at ih
        rw [if_neg (by decide)]
        obtain ⟨h1, h2⟩ := Prod.mk.inj ih
        obtain ⟨h2, h3⟩ := Prod.mk.inj h2
        simp only [← h1, ← h2, ← h3, List.map_cons]
      · rw [if_neg e2]
        rw [if_pos (by omega)] at ih
        rw [if_pos (by omega)]
        obtain ⟨h1, h2⟩ := Prod.mk.inj ih
        obtain ⟨h2, h3⟩ := Prod.mk.inj h2
        have e3 : (Go.Lib.index (l.map UInt8.ofNat) [10] + 1).toNat = (Go.Lib.index (l.map UInt8.ofNat) [10]).toNat + 1 := by omega
        rw [e3]
        simp only [← h1, ← h2, ← h3, List.map_cons, List.take_succ_cons]
        rw [Nat.add_right_comm, List.drop_succ_cons]
theorem cut_c (s : List Nat) (hs : Bys s) (hl : s.length ≤ 1000000) : Ctr Tryd.prog 28 [.string (strB s), .string (strB [10])] [GL] (fun v Bs => v = .tuple #[.string (strB (cut10 s).1), .string (strB ((cut10 s).2.getD [])), .bool (cut10 s).2.isSome] ∧ Bs = []) := ctr_bel fun F H M w0 w q hh => by
  have hg : GLp H := star_fst q
  have hsz : (strB s).size = s.length := by simp [strB, ByteArray.size]
  obtain ⟨m, t, f, h1⟩ := hg.1
  refine (Tryd.strings_Cut (strB s) (strB [10]) m w (by omega) (cell_of (hh.h _ _ h1) 0)).mono fun e w' ⟨he, n, hw⟩ => ?_
  subst he; subst hw
  refine ⟨_, rfl, ⟨?_, rfl⟩, below_drewN w n⟩
  have : (strB [10]).data.toList = [10] := rfl
  rw [strB_list, this, cut_is s hs]
  rfl
theorem idx_ge (l : List UInt8) (c : UInt8) : -1 ≤ Go.Lib.index l [c] := Go.Lib.index_ge l [c]
theorem split_is : ∀ (l : List Nat), Bys l → Go.Lib.splitK [32] 0 (Go.Lib.count (l.map UInt8.ofNat) [32]) (l.map UInt8.ofNat) = (splitB l).map fun w => w.map UInt8.ofNat
  | [], _ => rfl
  | b :: l, h => by
    have ih := split_is l fun x hx => h x (List.mem_cons_of_mem _ hx)
    have hb := h b (List.mem_cons_self ..)
    rw [List.map_cons, splitB]
    by_cases e : b = 32
    · subst e
      have e1 : Go.Lib.index (UInt8.ofNat 32 :: l.map UInt8.ofNat) [32] = ((0 : Nat) : Int) := by rw [index_cons, if_pos (show (32 : UInt8) = UInt8.ofNat 32 from rfl)]; rfl
      rw [if_pos rfl, Go.Lib.count_hit (by simp) e1, Nat.add_comm, Go.Lib.splitK, e1, if_neg (by decide), List.map_cons, ← ih]
      rfl
    · have e0 : ¬ (32 : UInt8) = UInt8.ofNat b := fun q => e (ofN_inj hb (by decide) q.symm)
      rw [if_neg e]
      have hge := idx_ge (l.map UInt8.ofNat) 32
      by_cases e2 : Go.Lib.index (l.map UInt8.ofNat) [32] = -1
      · have e3 : Go.Lib.index (UInt8.ofNat b :: l.map UInt8.ofNat) [32] = -1 := by rw [index_cons, if_neg e0, if_pos e2]
        rw [Go.Lib.count_miss e2, Go.Lib.splitK] at ih
        rw [Go.Lib.count_miss e3, Go.Lib.splitK]
        cases hs : splitB l with
        | nil => rw [hs] at ih; cases ih
        | cons w ws =>
          rw [hs, List.map_cons] at ih
          obtain ⟨h1, h2⟩ := List.cons.inj ih
          have : ws = [] := by cases ws with
            | nil => rfl
            | cons => cases h2
          subst this
          simp only [List.map_cons, List.map_nil, h1]
      · obtain ⟨i, hi⟩ : ∃ i : Nat, Go.Lib.index (l.map UInt8.ofNat) [32] = (i : Int) := ⟨(Go.Lib.index (l.map UInt8.ofNat) [32]).toNat, by omega⟩
        have e3 : Go.Lib.index (UInt8.ofNat b :: l.map UInt8.ofNat) [32] = ((i + 1 : Nat) : Int) := by rw [index_cons, if_neg e0, if_neg e2, hi]; rfl
        rw [Go.Lib.count_hit (by simp) hi, Nat.add_comm, Go.Lib.splitK, hi, if_neg (by rw [beq_iff_eq]; omega)] at ih
        rw [Go.Lib.count_hit (by simp) e3, Nat.add_comm, Go.Lib.splitK, e3, if_neg (by rw [beq_iff_eq]; omega)]
        simp only [Int.toNat_natCast, List.length_singleton, Nat.add_zero, List.drop_succ_cons, List.take_succ_cons] at ih ⊢
        cases hs : splitB l with
        | nil => rw [hs] at ih; cases ih
        | cons w ws =>
          rw [hs, List.map_cons] at ih
          obtain ⟨h1, h2⟩ := List.cons.inj ih
          dsimp only
          rw [List.map_cons, List.map_cons, ← h1, ← h2]
/-- texts, as a slice's row -/
abbrev txR (ws : List (List Nat)) (i : Nat) : List Value := [.string (strB (ws.getD i []))]
theorem flat_tx (ws : List (List Nat)) : flat ws.length (txR ws) = ws.map fun w => .string (strB w) := by
  unfold flat
  have : ∀ (n : Nat) (f : Nat → Value), (List.range n).flatMap (fun i => [f i]) = (List.range n).map f := fun n f => by
    induction List.range n with
    | nil => rfl
    | cons x xs ih => rw [List.flatMap_cons, ih]; rfl
  show ((List.range ws.length).flatMap fun i => [Value.string (strB (ws.getD i []))]) = _
  rw [this]
  apply List.ext_getElem?
  intro i
  by_cases h : i < ws.length
  · simp [h, List.getD_eq_getElem?_getD]
  · simp [h]
theorem split_c (s : List Nat) (hs : Bys s) (hl : s.length ≤ 1000000) : Ctr Tryd.prog 43 [.string (strB s), .string (strB [32])] [GL] (fun v Bs => ∃ a c, v = .slice a (splitB s).length c ∧ Bs = [SA (some 9) 1 (.slice a (splitB s).length c) (splitB s).length (txR (splitB s))]) := fun F H M q w0 w hh => by
  have hg : GLp H := star_fst q
  have hsz : (strB s).size = s.length := by simp [strB, ByteArray.size]
  obtain ⟨m, t, f, h1⟩ := hg.1
  refine (Tryd.strings_Split (strB s) (strB [32]) m w (by omega) (cell_of (hh.h _ _ h1) 0) (by decide)).mono fun e w' ⟨he, hw⟩ => ?_
  subst he; subst hw
  have e0 : (Go.Lib.splitB (strB [32]) 0 (Go.Lib.countB (strB s) (strB [32])) (strB s)).map (·.data.toList) = (splitB s).map fun w => w.map UInt8.ofNat := by
    rw [Go.Lib.splitB_data, ← split_is s hs]
    show Go.Lib.splitK (strB [32]).data.toList 0 (Go.Lib.count (strB s).data.toList (strB [32]).data.toList) (strB s).data.toList = _
    rw [strB_list]; rfl
  have e1 : Go.Lib.splitB (strB [32]) 0 (Go.Lib.countB (strB s) (strB [32])) (strB s) = (splitB s).map strB := by
    have := congrArg (fun l => l.map fun x : List UInt8 => (⟨x.toArray⟩ : ByteArray)) e0
    rw [List.map_map, List.map_map] at this
    rw [show ((fun x : List UInt8 => (⟨x.toArray⟩ : ByteArray)) ∘ fun x : ByteArray => x.data.toList) = id by funext x; simp, List.map_id] at this
    rw [this]; rfl
  have e2 : Go.Lib.countB (strB s) (strB [32]) + 1 = (splitB s).length := by
    have := Go.Lib.splitB_all (strB [32]) (by decide) 0 _ (strB s) rfl
    rw [e1, List.length_map] at this
    omega
  rw [e2, e1]
  have e3 : (((splitB s).map strB).map Value.string) = (splitB s).map fun w => .string (strB w) := by rw [List.map_map]; rfl
  rw [e3]
  refine ⟨_, H, _, rfl, hh.push _, _, ⟨_, _, rfl, rfl⟩, ?_⟩
  refine star_monoL (A := HP.own w.heap.size (.cells ((splitB s).map fun w => Value.string (strB w)).toArray 9 (0, 0))) (fun H M h => ?_) (own_new hh.fresh (sat_tail q))
  refine ⟨fun _ _ => rfl, ?_, .inr ⟨w.heap.size, (splitB s).length, (splitB s).length, _, rfl, by rw [flat_tx]; simp, by simp, Nat.le_refl _, h, by rw [flat_tx]; exact List.take_of_length_le (by simp)⟩, _, _, rfl⟩
  rw [flat_tx, List.all_eq_true]
  intro u hu
  obtain ⟨x, _, rfl⟩ := List.mem_map.1 hu
  rfl
theorem join_is : ∀ (ws : List (List Nat)), Go.Lib.join (ws.map fun w => w.map UInt8.ofNat) [32] = (joinB ws).map UInt8.ofNat
  | [] => rfl
  | [w] => by rw [List.map_cons, List.map_nil, Go.Lib.join_one]; rfl
  | w :: v :: ws => by
    have ih := join_is (v :: ws)
    show Go.Lib.join ((w.map UInt8.ofNat) :: (v :: ws).map fun w => w.map UInt8.ofNat) [32] = (w ++ 32 :: joinB (v :: ws)).map UInt8.ofNat
    rw [Go.Lib.join_cons]
    rw [List.map_cons, Go.Lib.join_cons] at ih
    show _ = (w ++ 32 :: joinB (v :: ws)).map UInt8.ofNat
    rw [List.map_append, List.map_cons (l := joinB (v :: ws)), ← ih]
    simp [Go.Lib.joinTail]
end Go.Proofs.YtmlddafbenfilaaDoor
