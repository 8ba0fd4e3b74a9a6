/-
  DERIVED: THE SHELF's CONTRACTS AT THIS DUMP, IN PLAIN WORDS (tools/lay-plain.mjs out of 'TryzShelf.lean', which tools/lay-shelf.mjs wrote): THE SAME DECLARATIONS UNDER THE SAME NAMES: 'import', 'namespace', 'open', 'def', 'theorem' AND NOTHING ELSE: no command of the shelf's: FOR A HAND-IN. Each laying: the table of numbers ('.._ren') and one theorem, a field a fact of the dump's own or the kernel's comparison; each contract: ONE APPLICATION.
-/
import Derived.Shelf.Strings.Builder1
import Derived.Shelf.Strings.Builder2
import Derived.Shelf.Strings.OnBuilder
import Derived.Shelf.Small.Strs
import Derived.Shelf.Strings.BuilderF
import Derived.Shelf.Strings.BuilderK
import Derived.Shelf.Strconv.Atoi
import Derived.Shelf.LaysM
import Derived.Shelf.Strings.Cut
import Derived.Shelf.Strings.Split
import Derived.Shelf.Strings.SplitShaped
import Derived.Test.YtiphckeipbfbmaaGreatDoorProg
namespace Go.Proofs
open Go.Shelf
def Tryz.lays169_ren : Go.Shelf.Ren := ⟨fun | 169 => 55 | n => n, fun | 70 => 84 | 9 => 9 | 0 => 0 | 72 => 86 | 37 => 62 | 127 => 110 | 3 => 3 | 5 => 5 | n => n, fun | n => n⟩
theorem Tryz.lays169 : Go.Proofs.Lays.n169 Tryz.prog Tryz.lays169_ren := {
  mixed := by kernel_rfl
  f169 := Tryz.func55.trans (congrArg some (by kernel_rfl))
  t0 := Tryz.underlying0
  a0 := Tryz.isAgg0
  z0 := Tryz.sizeOf0
  v0 := Tryz.zeroValue0
  t3 := Tryz.underlying3
  a3 := Tryz.isAgg3
  z3 := Tryz.sizeOf3
  v3 := Tryz.zeroValue3
  t9 := Tryz.underlying9
  a9 := Tryz.isAgg9
  z9 := Tryz.sizeOf9
  v9 := Tryz.zeroValue9
  t37 := Tryz.underlying62
  a37 := Tryz.isAgg62
  z37 := Tryz.sizeOf62
  v37 := Tryz.zeroValue62
  t70 := Tryz.underlying84
  a70 := Tryz.isAgg84
  z70 := Tryz.sizeOf84
  v70 := Tryz.zeroValue84
  t72 := Tryz.underlying86
  a72 := Tryz.isAgg86
  z72 := Tryz.sizeOf86
  v72 := Tryz.zeroValue86
  t127 := Tryz.underlying110
  a127 := Tryz.isAgg110
  z127 := Tryz.sizeOf110
  v127 := Tryz.zeroValue110 }
theorem Tryz.Builder_Extra_169 : Builder.Extra Tryz.prog Tryz.lays169_ren := {
  sizeBuilder := by kernel_rfl
  liesBuilder := by kernel_rfl
  t5 := Tryz.underlying5
  a5 := Tryz.isAgg5
  z5 := Tryz.sizeOf5
  v5 := Tryz.zeroValue5
  infoByte := by kernel_rfl
  cellsByte := by kernel_rfl
  sizeByte := by kernel_rfl
  neB5 := by decide }
open Go.RowKit in
/-- (*strings.Builder).String: "String returns the accumulated string.": WHATEVER THE BUILDER HOLDS. (LAID: no walk: one application.) -/
theorem Tryz.Builder_String_any (B b : Nat) (l : List UInt8) (w : World) (h : Lib.IsBuilder 86 5 B b (Lib.byteCells l) w) (hBw : B ≤ w.heap.size) :
    Calls Tryz.prog 55 #[.pointer (some ⟨b, 0, none⟩)] w fun e w' => e = .returned (.string ⟨l.toArray⟩) ∧ Below B w w' := Any.Builder_String_any Tryz.lays169 Tryz.Builder_Extra_169 B b l w h hBw
open Go.RowKit in
/-- (*strings.Builder).String: "String returns the accumulated string.": WHATEVER THE BUILDER HOLDS; THE FORM '_f': OF A BUILDER THAT MAY HAVE BEEN READ BEFORE; AND IT IS A BUILDER STILL, holding the same bytes: it can be written on. (LAID: no walk: one application.) -/
theorem Tryz.Builder_String_any_f (B b : Nat) (l : List UInt8) (w : World) (h : Lib.IsBuilderF 86 5 B b (Lib.byteCells l) w) (hBw : B ≤ w.heap.size) :
    Calls Tryz.prog 55 #[.pointer (some ⟨b, 0, none⟩)] w fun e w' => e = .returned (.string ⟨l.toArray⟩) ∧ (Lib.IsBuilderF 86 5 B b (Lib.byteCells l) w' ∧ Below B w w') := Any.Builder_String_any_f Tryz.lays169 Tryz.Builder_Extra_169 B b l w h hBw
def Tryz.lays172_ren : Go.Shelf.Ren := ⟨fun | 172 => 47 | 244 => 72 | 245 => 73 | 247 => 107 | 279 => 108 | 280 => 109 | 281 => 110 | 282 => 111 | 287 => 142 | 316 => 143 | 171 => 29 | 205 => 144 | 321 => 177 | 322 => 178 | 243 => 62 | 246 => 88 | 283 => 119 | 284 => 120 | 285 => 121 | 286 => 122 | 129 => 152 | 317 => 151 | 318 => 153 | 319 => 154 | 320 => 155 | 337 => 184 | 338 => 185 | n => n, fun | 9 => 9 | 3 => 3 | 75 => 71 | 76 => 72 | 4 => 4 | 5 => 5 | 167 => 123 | 37 => 62 | 0 => 0 | 85 => 124 | 2 => 2 | 168 => 126 | 53 => 135 | 175 => 136 | 46 => 121 | 210 => 169 | 127 => 110 | 145 => 197 | 143 => 195 | 21 => 21 | 171 => 144 | 173 => 147 | 212 => 180 | 51 => 163 | 20 => 20 | 213 => 181 | 232 => 230 | 233 => 231 | 80 => 87 | n => n, fun | 15 => 1 | 16 => 2 | 17 => 3 | 18 => 9 | 19 => 10 | n => n⟩
theorem Tryz.lays172 : Go.Proofs.Lays.n172 Tryz.prog Tryz.lays172_ren := {
  mixed := by kernel_rfl
  f129 := Tryz.func152.trans (congrArg some (by kernel_rfl))
  f171 := Tryz.func29.trans (congrArg some (by kernel_rfl))
  f172 := Tryz.func47.trans (congrArg some (by kernel_rfl))
  f205 := Tryz.func144.trans (congrArg some (by kernel_rfl))
  f243 := Tryz.func62.trans (congrArg some (by kernel_rfl))
  f244 := Tryz.func72.trans (congrArg some (by kernel_rfl))
  f245 := Tryz.func73.trans (congrArg some (by kernel_rfl))
  f246 := Tryz.func88.trans (congrArg some (by kernel_rfl))
  f247 := Tryz.func107.trans (congrArg some (by kernel_rfl))
  f279 := Tryz.func108.trans (congrArg some (by kernel_rfl))
  f280 := Tryz.func109.trans (congrArg some (by kernel_rfl))
  f281 := Tryz.func110.trans (congrArg some (by kernel_rfl))
  f282 := Tryz.func111.trans (congrArg some (by kernel_rfl))
  f283 := Tryz.func119.trans (congrArg some (by kernel_rfl))
  f284 := Tryz.func120.trans (congrArg some (by kernel_rfl))
  f285 := Tryz.func121.trans (congrArg some (by kernel_rfl))
  f286 := Tryz.func122.trans (congrArg some (by kernel_rfl))
  f287 := Tryz.func142.trans (congrArg some (by kernel_rfl))
  f316 := Tryz.func143.trans (congrArg some (by kernel_rfl))
  f317 := Tryz.func151.trans (congrArg some (by kernel_rfl))
  f318 := Tryz.func153.trans (congrArg some (by kernel_rfl))
  f319 := Tryz.func154.trans (congrArg some (by kernel_rfl))
  f320 := Tryz.func155.trans (congrArg some (by kernel_rfl))
  f321 := Tryz.func177.trans (congrArg some (by kernel_rfl))
  f322 := Tryz.func178.trans (congrArg some (by kernel_rfl))
  f337 := Tryz.func184.trans (congrArg some (by kernel_rfl))
  f338 := Tryz.func185.trans (congrArg some (by kernel_rfl))
  t0 := Tryz.underlying0
  a0 := Tryz.isAgg0
  z0 := Tryz.sizeOf0
  v0 := Tryz.zeroValue0
  t2 := Tryz.underlying2
  a2 := Tryz.isAgg2
  z2 := Tryz.sizeOf2
  v2 := Tryz.zeroValue2
  t3 := Tryz.underlying3
  a3 := Tryz.isAgg3
  z3 := Tryz.sizeOf3
  v3 := Tryz.zeroValue3
  t4 := Tryz.underlying4
  a4 := Tryz.isAgg4
  z4 := Tryz.sizeOf4
  v4 := Tryz.zeroValue4
  t5 := Tryz.underlying5
  a5 := Tryz.isAgg5
  z5 := Tryz.sizeOf5
  v5 := Tryz.zeroValue5
  t9 := Tryz.underlying9
  a9 := Tryz.isAgg9
  z9 := Tryz.sizeOf9
  v9 := Tryz.zeroValue9
  t20 := Tryz.underlying20
  a20 := Tryz.isAgg20
  z20 := Tryz.sizeOf20
  v20 := Tryz.zeroValue20
  t21 := Tryz.underlying21
  a21 := Tryz.isAgg21
  z21 := Tryz.sizeOf21
  v21 := Tryz.zeroValue21
  t37 := Tryz.underlying62
  a37 := Tryz.isAgg62
  z37 := Tryz.sizeOf62
  v37 := Tryz.zeroValue62
  t46 := Tryz.underlying121
  a46 := Tryz.isAgg121
  z46 := Tryz.sizeOf121
  v46 := Tryz.zeroValue121
  t51 := Tryz.underlying163
  a51 := Tryz.isAgg163
  z51 := Tryz.sizeOf163
  v51 := Tryz.zeroValue163
  t53 := Tryz.underlying135
  a53 := Tryz.isAgg135
  z53 := Tryz.sizeOf135
  v53 := Tryz.zeroValue135
  t75 := Tryz.underlying71
  a75 := Tryz.isAgg71
  z75 := Tryz.sizeOf71
  v75 := Tryz.zeroValue71
  t76 := Tryz.underlying72
  a76 := Tryz.isAgg72
  z76 := Tryz.sizeOf72
  v76 := Tryz.zeroValue72
  t85 := Tryz.underlying124
  a85 := Tryz.isAgg124
  z85 := Tryz.sizeOf124
  v85 := Tryz.zeroValue124
  t127 := Tryz.underlying110
  a127 := Tryz.isAgg110
  z127 := Tryz.sizeOf110
  v127 := Tryz.zeroValue110
  t143 := Tryz.underlying195
  a143 := Tryz.isAgg195
  z143 := Tryz.sizeOf195
  v143 := Tryz.zeroValue195
  t145 := Tryz.underlying197
  a145 := Tryz.isAgg197
  z145 := Tryz.sizeOf197
  v145 := Tryz.zeroValue197
  t167 := Tryz.underlying123
  a167 := Tryz.isAgg123
  z167 := Tryz.sizeOf123
  v167 := Tryz.zeroValue123
  t168 := Tryz.underlying126
  a168 := Tryz.isAgg126
  z168 := Tryz.sizeOf126
  v168 := Tryz.zeroValue126
  t171 := Tryz.underlying144
  a171 := Tryz.isAgg144
  z171 := Tryz.sizeOf144
  v171 := Tryz.zeroValue144
  t173 := Tryz.underlying147
  a173 := Tryz.isAgg147
  z173 := Tryz.sizeOf147
  v173 := Tryz.zeroValue147
  t175 := Tryz.underlying136
  a175 := Tryz.isAgg136
  z175 := Tryz.sizeOf136
  v175 := Tryz.zeroValue136
  t210 := Tryz.underlying169
  a210 := Tryz.isAgg169
  z210 := Tryz.sizeOf169
  v210 := Tryz.zeroValue169
  t212 := Tryz.underlying180
  a212 := Tryz.isAgg180
  z212 := Tryz.sizeOf180
  v212 := Tryz.zeroValue180
  t213 := Tryz.underlying181
  a213 := Tryz.isAgg181
  z213 := Tryz.sizeOf181
  t232 := Tryz.underlying230
  a232 := Tryz.isAgg230
  z232 := Tryz.sizeOf230
  v232 := Tryz.zeroValue230
  t233 := Tryz.underlying231
  a233 := Tryz.isAgg231
  z233 := Tryz.sizeOf231
  v233 := Tryz.zeroValue231
  g15 := by kernel_rfl
  g16 := by kernel_rfl
  g17 := by kernel_rfl
  g18 := by kernel_rfl
  g19 := by kernel_rfl }
open Go.RowKit in
/-- strconv.Atoi: "Atoi is equivalent to ParseInt(s, 10, 0), converted to type int.": AT A DECIMAL NUMERAL OF AT MOST 18 BYTES: its value, and a nil error. The world behind the call: the one new row that the library's '[]byte(s)' lays. (LAID: no walk: one application.) -/
theorem Tryz.strconv_Atoi (s : ByteArray) (n : Int) (hl : s.size ≤ 18) (h : Lib.atoi s.data.toList = some n) (w : World) :
    Calls Tryz.prog 47 #[.string s] w fun e w' => e = .returned (.tuple #[.int .i64 n, .nilIface]) ∧ ∃ t, w' = Lib.bytesWorld w 5 t := Any.strconv_Atoi Tryz.lays172 s n hl h w
def Tryz.lays145_ren : Go.Shelf.Ren := ⟨fun | 145 => 16 | 220 => 44 | 219 => 70 | 217 => 102 | 225 => 103 | 224 => 104 | 267 => 105 | 266 => 139 | 314 => 140 | n => n, fun | 9 => 9 | 4 => 4 | 59 => 35 | 3 => 3 | 5 => 5 | 46 => 121 | 146 => 164 | 51 => 163 | n => n, fun | 1 => 0 | n => n⟩
theorem Tryz.lays145 : Go.Proofs.Lays.n145 Tryz.prog Tryz.lays145_ren := {
  mixed := by kernel_rfl
  f145 := Tryz.func16.trans (congrArg some (by kernel_rfl))
  f217 := Tryz.func102.trans (congrArg some (by kernel_rfl))
  f219 := Tryz.func70.trans (congrArg some (by kernel_rfl))
  f220 := Tryz.func44.trans (congrArg some (by kernel_rfl))
  f224 := Tryz.func104.trans (congrArg some (by kernel_rfl))
  f225 := Tryz.func103.trans (congrArg some (by kernel_rfl))
  f266 := Tryz.func139.trans (congrArg some (by kernel_rfl))
  f267 := Tryz.func105.trans (congrArg some (by kernel_rfl))
  f314 := Tryz.func140.trans (congrArg some (by kernel_rfl))
  t3 := Tryz.underlying3
  a3 := Tryz.isAgg3
  z3 := Tryz.sizeOf3
  v3 := Tryz.zeroValue3
  t4 := Tryz.underlying4
  a4 := Tryz.isAgg4
  z4 := Tryz.sizeOf4
  v4 := Tryz.zeroValue4
  t5 := Tryz.underlying5
  a5 := Tryz.isAgg5
  z5 := Tryz.sizeOf5
  v5 := Tryz.zeroValue5
  t9 := Tryz.underlying9
  a9 := Tryz.isAgg9
  z9 := Tryz.sizeOf9
  v9 := Tryz.zeroValue9
  t46 := Tryz.underlying121
  a46 := Tryz.isAgg121
  z46 := Tryz.sizeOf121
  v46 := Tryz.zeroValue121
  t51 := Tryz.underlying163
  a51 := Tryz.isAgg163
  z51 := Tryz.sizeOf163
  v51 := Tryz.zeroValue163
  t59 := Tryz.underlying35
  a59 := Tryz.isAgg35
  z59 := Tryz.sizeOf35
  v59 := Tryz.zeroValue35
  t146 := Tryz.underlying164
  a146 := Tryz.isAgg164
  z146 := Tryz.sizeOf164
  v146 := Tryz.zeroValue164
  g1 := by kernel_rfl }
open Go.RowKit Go.Lib in
/-- strings.Cut: "Cut slices s around the first instance of sep, returning the text before and after sep. The found result reports whether sep appears in s. If sep does not appear in s, cut returns s, "", false.": IT RETURNS 'Lib.cut s sep'; the world is as it was but for the count of draws. (LAID: no walk: one application.) -/
theorem Tryz.strings_Cut (s sep : ByteArray) (m : Int) (w : World) (hs : s.size < 4294967281) (hm : w.cell? ⟨0, 0, none⟩ = some (.int .i64 m)) :
    Calls Tryz.prog 16 #[.string s, .string sep] w fun e w' => e = .returned (.tuple #[.string ⟨(Lib.cut s.data.toList sep.data.toList).1.toArray⟩, .string ⟨(Lib.cut s.data.toList sep.data.toList).2.1.toArray⟩, .bool (Lib.cut s.data.toList sep.data.toList).2.2]) ∧ ∃ n, w' = w.drewN n := Any.strings_Cut Tryz.lays145 s sep m w hs hm
def Tryz.lays146_ren : Go.Shelf.Ren := ⟨fun | 146 => 46 | 221 => 71 | 268 => 106 | 138 => 27 | 143 => 58 | 195 => 59 | 197 => 141 | 218 => 60 | 219 => 70 | 260 => 176 | 217 => 102 | 225 => 103 | 224 => 104 | 267 => 105 | 266 => 139 | 314 => 140 | n => n, fun | 9 => 9 | 31 => 58 | 3 => 3 | 4 => 4 | 0 => 0 | 105 => 166 | 21 => 21 | 5 => 5 | 46 => 121 | 119 => 219 | 139 => 222 | 138 => 221 | 146 => 164 | 51 => 163 | n => n, fun | 1 => 0 | 3 => 7 | 4 => 8 | n => n⟩
theorem Tryz.lays146 : Go.Proofs.Lays.n146 Tryz.prog Tryz.lays146_ren := {
  mixed := by kernel_rfl
  f138 := Tryz.func27.trans (congrArg some (by kernel_rfl))
  f143 := Tryz.func58.trans (congrArg some (by kernel_rfl))
  f146 := Tryz.func46.trans (congrArg some (by kernel_rfl))
  f195 := Tryz.func59.trans (congrArg some (by kernel_rfl))
  f197 := Tryz.func141.trans (congrArg some (by kernel_rfl))
  f217 := Tryz.func102.trans (congrArg some (by kernel_rfl))
  f218 := Tryz.func60.trans (congrArg some (by kernel_rfl))
  f219 := Tryz.func70.trans (congrArg some (by kernel_rfl))
  f221 := Tryz.func71.trans (congrArg some (by kernel_rfl))
  f224 := Tryz.func104.trans (congrArg some (by kernel_rfl))
  f225 := Tryz.func103.trans (congrArg some (by kernel_rfl))
  f260 := Tryz.func176.trans (congrArg some (by kernel_rfl))
  f266 := Tryz.func139.trans (congrArg some (by kernel_rfl))
  f267 := Tryz.func105.trans (congrArg some (by kernel_rfl))
  f268 := Tryz.func106.trans (congrArg some (by kernel_rfl))
  f314 := Tryz.func140.trans (congrArg some (by kernel_rfl))
  t0 := Tryz.underlying0
  a0 := Tryz.isAgg0
  z0 := Tryz.sizeOf0
  v0 := Tryz.zeroValue0
  t3 := Tryz.underlying3
  a3 := Tryz.isAgg3
  z3 := Tryz.sizeOf3
  v3 := Tryz.zeroValue3
  t4 := Tryz.underlying4
  a4 := Tryz.isAgg4
  z4 := Tryz.sizeOf4
  v4 := Tryz.zeroValue4
  t5 := Tryz.underlying5
  a5 := Tryz.isAgg5
  z5 := Tryz.sizeOf5
  v5 := Tryz.zeroValue5
  t9 := Tryz.underlying9
  a9 := Tryz.isAgg9
  z9 := Tryz.sizeOf9
  v9 := Tryz.zeroValue9
  t21 := Tryz.underlying21
  a21 := Tryz.isAgg21
  z21 := Tryz.sizeOf21
  v21 := Tryz.zeroValue21
  t31 := Tryz.underlying58
  a31 := Tryz.isAgg58
  z31 := Tryz.sizeOf58
  v31 := Tryz.zeroValue58
  t46 := Tryz.underlying121
  a46 := Tryz.isAgg121
  z46 := Tryz.sizeOf121
  v46 := Tryz.zeroValue121
  t51 := Tryz.underlying163
  a51 := Tryz.isAgg163
  z51 := Tryz.sizeOf163
  v51 := Tryz.zeroValue163
  t105 := Tryz.underlying166
  a105 := Tryz.isAgg166
  z105 := Tryz.sizeOf166
  v105 := Tryz.zeroValue166
  t119 := Tryz.underlying219
  a119 := Tryz.isAgg219
  z119 := Tryz.sizeOf219
  t138 := Tryz.underlying221
  a138 := Tryz.isAgg221
  z138 := Tryz.sizeOf221
  v138 := Tryz.zeroValue221
  t139 := Tryz.underlying222
  a139 := Tryz.isAgg222
  z139 := Tryz.sizeOf222
  v139 := Tryz.zeroValue222
  t146 := Tryz.underlying164
  a146 := Tryz.isAgg164
  z146 := Tryz.sizeOf164
  v146 := Tryz.zeroValue164
  g1 := by kernel_rfl
  g3 := by kernel_rfl
  g4 := by kernel_rfl }
open Go.RowKit Go.Lib in
/-- strings.Split. (LAID: no walk: one application.) -/
theorem Tryz.strings_Split (s sep : ByteArray) (m : Int) (w : World) (hs : s.size < 4294967281) (hm : w.cell? ⟨0, 0, none⟩ = some (.int .i64 m)) (h1 : 1 ≤ sep.size) :
    Calls Tryz.prog 46 #[.string s, .string sep] w fun e w' =>
      e = .returned (.slice (some ⟨w.heap.size, 0, none⟩) (Lib.countB s sep + 1) (Lib.countB s sep + 1)) ∧ w' = w.alloc (.cells ((Lib.splitB sep 0 (Lib.countB s sep) s).map Value.string).toArray 9) := Any.strings_Split Tryz.lays146 (by kernel_rfl) s sep m w hs hm h1
end Go.Proofs
