/-
  DERIVED: THE SHELF's CONTRACTS AT THIS DUMP, IN PLAIN WORDS (tools/lay-plain.mjs out of 'TryzShelf.lean', which tools/lay-shelf.mjs wrote): THE SAME DECLARATIONS UNDER THE SAME NAMES: 'import', 'namespace', 'open', 'def', 'theorem' AND NOTHING ELSE: no command of the shelf's: FOR A HAND-IN. Each laying: the table of numbers ('.._ren') and one theorem, a field a fact of the dump's own or the kernel's comparison; each contract: ONE APPLICATION.
-/
import Derived.Shelf.Strings.Trim
import Derived.Shelf.Small.Utf8
import Derived.Shelf.Small.Bits
import Derived.Shelf.Small.Strs
import Derived.Shelf.Small.Wraps
import Derived.Shelf.Utf8.RuneCount
import Derived.Shelf.Strconv.Itoa0
import Derived.Shelf.Strings.Search1
import Derived.Shelf.Strings.Search2
import Derived.Shelf.Strings.Search3
import Derived.Shelf.Strings.Count
import Derived.Shelf.LaysM
import Derived.Shelf.Strings.Shaped
import Derived.Shelf.Sort.Plain
import Derived.Shelf.Strings.Prefix
import Derived.Shelf.Strings.Split
import Derived.Shelf.Strings.SplitShaped
import Derived.Shelf.Strings.Runes
import Derived.Shelf.Strings.AsciiSet
import Derived.Shelf.Unicode.DecodeSlow
import Derived.Ground.Names2Prog
import Derived.Shelf.Slices.SearchI
import Derived.Shelf.Slices.In.SortNone
import Derived.Test.YtpboohfofodeeaaGreatDoorProg
import Derived.Shelf.SlSortCmp.WholeK
import Derived.Shelf.SlGeneric
import Derived.Ground.SlsfProg
import Derived.Shelf.SlIter.Nil
import Derived.Shelf.SortM.Plain
import Derived.Shelf.SortM.SortNone
import Derived.Ground.GgzProg
import Derived.Ground.SlgmProg
namespace Go.Proofs
open Go.Shelf
def Tryz.lays160_ren : Go.Shelf.Ren:=⟨fun | 160=>170 | 232=>225 | 231=>224 | 227=>226 | 234=>228 | 233=>227 | 236=>230 | 235=>229 | 228=>248 | 271=>251 | 151=>250 | 197=>249 | 120=>265 | 152=>264 | 260=>263 | 137=>271 | 119=>272 | 224=>257 | 225=>256 | 217=>255 | 266=>268 | n=>n,fun | 9=>9 | 4=>4 | 3=>3 | 5=>5 | 117=>288 | 116=>287 | 0=>0 | 124=>291 | 21=>21 | 105=>304 | 46=>163 | 119=>316 | 139=>319 | 138=>318 | n=>n,fun | 3=>1 | 4=>2 | n=>n⟩
theorem Tryz.lays160 : Go.Proofs.Lays.n160 Tryz.prog Tryz.lays160_ren:={
 mixed:=by kernel_rfl
 f119:=Tryz.func272.trans (congrArg some (by kernel_rfl))
 f120:=Tryz.func265.trans (congrArg some (by kernel_rfl))
 f137:=Tryz.func271.trans (congrArg some (by kernel_rfl))
 f151:=Tryz.func250.trans (congrArg some (by kernel_rfl))
 f152:=Tryz.func264.trans (congrArg some (by kernel_rfl))
 f160:=Tryz.func170.trans (congrArg some (by kernel_rfl))
 f197:=Tryz.func249.trans (congrArg some (by kernel_rfl))
 f217:=Tryz.func255.trans (congrArg some (by kernel_rfl))
 f224:=Tryz.func257.trans (congrArg some (by kernel_rfl))
 f225:=Tryz.func256.trans (congrArg some (by kernel_rfl))
 f227:=Tryz.func226.trans (congrArg some (by kernel_rfl))
 f228:=Tryz.func248.trans (congrArg some (by kernel_rfl))
 f231:=Tryz.func224.trans (congrArg some (by kernel_rfl))
 f232:=Tryz.func225.trans (congrArg some (by kernel_rfl))
 f233:=Tryz.func227.trans (congrArg some (by kernel_rfl))
 f234:=Tryz.func228.trans (congrArg some (by kernel_rfl))
 f235:=Tryz.func229.trans (congrArg some (by kernel_rfl))
 f236:=Tryz.func230.trans (congrArg some (by kernel_rfl))
 f260:=Tryz.func263.trans (congrArg some (by kernel_rfl))
 f266:=Tryz.func268.trans (congrArg some (by kernel_rfl))
 f271:=Tryz.func251.trans (congrArg some (by kernel_rfl))
 t0:=Tryz.underlying0
 a0:=Tryz.isAgg0
 z0:=Tryz.sizeOf0
 v0:=Tryz.zeroValue0
 t3:=Tryz.underlying3
 a3:=Tryz.isAgg3
 z3:=Tryz.sizeOf3
 v3:=Tryz.zeroValue3
 t4:=Tryz.underlying4
 a4:=Tryz.isAgg4
 z4:=Tryz.sizeOf4
 v4:=Tryz.zeroValue4
 t5:=Tryz.underlying5
 a5:=Tryz.isAgg5
 z5:=Tryz.sizeOf5
 v5:=Tryz.zeroValue5
 t9:=Tryz.underlying9
 a9:=Tryz.isAgg9
 z9:=Tryz.sizeOf9
 v9:=Tryz.zeroValue9
 t21:=Tryz.underlying21
 a21:=Tryz.isAgg21
 z21:=Tryz.sizeOf21
 v21:=Tryz.zeroValue21
 t46:=Tryz.underlying163
 a46:=Tryz.isAgg163
 z46:=Tryz.sizeOf163
 v46:=Tryz.zeroValue163
 t105:=Tryz.underlying304
 a105:=Tryz.isAgg304
 z105:=Tryz.sizeOf304
 v105:=Tryz.zeroValue304
 t116:=Tryz.underlying287
 a116:=Tryz.isAgg287
 z116:=Tryz.sizeOf287
 t117:=Tryz.underlying288
 a117:=Tryz.isAgg288
 z117:=Tryz.sizeOf288
 v117:=Tryz.zeroValue288
 t119:=Tryz.underlying316
 a119:=Tryz.isAgg316
 z119:=Tryz.sizeOf316
 t124:=Tryz.underlying291
 a124:=Tryz.isAgg291
 z124:=Tryz.sizeOf291
 v124:=Tryz.zeroValue291
 t138:=Tryz.underlying318
 a138:=Tryz.isAgg318
 z138:=Tryz.sizeOf318
 v138:=Tryz.zeroValue318
 t139:=Tryz.underlying319
 a139:=Tryz.isAgg319
 z139:=Tryz.sizeOf319
 v139:=Tryz.zeroValue319
 g3:=by kernel_rfl
 g4:=by kernel_rfl }
open Go.RowKit in
/-- strings.Trim: "Trim returns a slice of the string s with all leading and trailing Unicode code points contained in cutset removed.": AT A cutset OF ONE ASCII BYTE. THE WORLD BEHIND IT: as it was, or (where s is not empty) with ONE DRAW MORE off the tape: the statement 'return trimLeftByte(trimRightByte(s, c), c)' draws its order of evaluation. (LAID: no walk: one application.) -/
theorem Tryz.strings_Trim_one (s : ByteArray) (c : UInt8) (hc : c.toNat < 128) (w : World) (hs : s.size ≤ 9223372036854775807) :
 Calls Tryz.prog 170 #[.string s,.string ⟨#[c]⟩] w fun e w'=>e = .returned (.string ⟨(Lib.trimB s.data.toList c).toArray⟩) ∧ (w' = w ∨ w' = w.drew):=Any.strings_Trim_one Tryz.lays160 s c hc w hs
def Tryz.lays125_ren : Go.Shelf.Ren:=⟨fun | 125=>92 | 128=>161 | 129=>162 | n=>n,fun | 46=>163 | 3=>3 | 51=>238 | 53=>131 | 4=>4 | 5=>5 | 9=>9 | n=>n,fun | n=>n⟩
theorem Tryz.lays125 : Go.Proofs.Lays.n125 Tryz.prog Tryz.lays125_ren:={
 mixed:=by kernel_rfl
 f125:=Tryz.func92.trans (congrArg some (by kernel_rfl))
 f128:=Tryz.func161.trans (congrArg some (by kernel_rfl))
 f129:=Tryz.func162.trans (congrArg some (by kernel_rfl))
 t3:=Tryz.underlying3
 a3:=Tryz.isAgg3
 z3:=Tryz.sizeOf3
 v3:=Tryz.zeroValue3
 t4:=Tryz.underlying4
 a4:=Tryz.isAgg4
 z4:=Tryz.sizeOf4
 v4:=Tryz.zeroValue4
 t5:=Tryz.underlying5
 a5:=Tryz.isAgg5
 z5:=Tryz.sizeOf5
 v5:=Tryz.zeroValue5
 t9:=Tryz.underlying9
 a9:=Tryz.isAgg9
 z9:=Tryz.sizeOf9
 v9:=Tryz.zeroValue9
 t46:=Tryz.underlying163
 a46:=Tryz.isAgg163
 z46:=Tryz.sizeOf163
 v46:=Tryz.zeroValue163
 t51:=Tryz.underlying238
 a51:=Tryz.isAgg238
 z51:=Tryz.sizeOf238
 v51:=Tryz.zeroValue238
 t53:=Tryz.underlying131
 a53:=Tryz.isAgg131
 z53:=Tryz.sizeOf131
 v53:=Tryz.zeroValue131 }
/-- bits.Len: "Len returns the minimum number of bits required to represent x; the result is 0 for x == 0.": IT RETURNS 'Lib.bitLen x'; the world is as it was. (A uint has 64 bits in the model.) ITS CALLEE bits.Len64 IS MET BY ITS OWN CONTRACT OFF THE SHELF (lay that first). (LAID: no walk: one application.) -/
theorem Tryz.bits_Len (x : Int) (w : World) (h0 : 0 ≤ x) (h1 : x ≤ 18446744073709551615) :
 Calls Tryz.prog 92 #[.int .u64 x] w fun e w'=>e = .returned (.int .i64 (Lib.bitLen x.toNat)) ∧ w' = w:=Any.bits_Len Tryz.lays125 x w h0 h1
def Tryz.lays106_ren : Go.Shelf.Ren:=⟨fun | 106=>66 | 213=>123 | 265=>198 | n=>n,fun | 9=>9 | 3=>3 | n=>n,fun | n=>n⟩
theorem Tryz.lays106 : Go.Proofs.Lays.n106 Tryz.prog Tryz.lays106_ren:={
 mixed:=by kernel_rfl
 f106:=Tryz.func66.trans (congrArg some (by kernel_rfl))
 f213:=Tryz.func123.trans (congrArg some (by kernel_rfl))
 f265:=Tryz.func198.trans (congrArg some (by kernel_rfl))
 t3:=Tryz.underlying3
 a3:=Tryz.isAgg3
 z3:=Tryz.sizeOf3
 v3:=Tryz.zeroValue3
 t9:=Tryz.underlying9
 a9:=Tryz.isAgg9
 z9:=Tryz.sizeOf9
 v9:=Tryz.zeroValue9 }
open Go.RowKit in
/-- strings.Compare: "Compare returns an integer comparing two strings lexicographically. The result will be 0 if a == b, -1 if a < b, and +1 if a > b.": IT RETURNS 'Lib.compareBytes a b'; the world is as it was. (LAID: no walk: one application.) -/
theorem Tryz.strings_Compare (a b : ByteArray) (w : World) :
 Calls Tryz.prog 66 #[.string a,.string b] w fun e w'=>e = .returned (.int .i64 (Lib.compareBytes a.data.toList b.data.toList)) ∧ w' = w:=Any.strings_Compare Tryz.lays106 a b w
def Tryz.lays103_ren : Go.Shelf.Ren:=⟨fun | 103=>171 | 210=>231 | 206=>252 | n=>n,fun | 9=>9 | 4=>4 | 24=>49 | 3=>3 | n=>n,fun | n=>n⟩
theorem Tryz.lays103 : Go.Proofs.Lays.n103 Tryz.prog Tryz.lays103_ren:={
 mixed:=by kernel_rfl
 f103:=Tryz.func171.trans (congrArg some (by kernel_rfl))
 f206:=Tryz.func252.trans (congrArg some (by kernel_rfl))
 f210:=Tryz.func231.trans (congrArg some (by kernel_rfl))
 t3:=Tryz.underlying3
 a3:=Tryz.isAgg3
 z3:=Tryz.sizeOf3
 v3:=Tryz.zeroValue3
 t4:=Tryz.underlying4
 a4:=Tryz.isAgg4
 z4:=Tryz.sizeOf4
 v4:=Tryz.zeroValue4
 t9:=Tryz.underlying9
 a9:=Tryz.isAgg9
 z9:=Tryz.sizeOf9
 v9:=Tryz.zeroValue9
 t24:=Tryz.underlying49
 a24:=Tryz.isAgg49
 z24:=Tryz.sizeOf49
 v24:=Tryz.zeroValue49 }
open Go.RowKit in
/-- strings.CutPrefix: "CutPrefix returns s without the provided leading prefix string and reports whether it found the prefix. If s doesn't start with prefix, CutPrefix returns s, false. If prefix is the empty string, CutPrefix returns s, true.": IT RETURNS '(Lib.trimPrefix s p, Lib.hasPrefix s p)'; the world is as it was. (LAID: no walk: one application.) -/
theorem Tryz.strings_CutPrefix (s p : ByteArray) (w : World) :
 Calls Tryz.prog 171 #[.string s,.string p] w fun e w'=>e = .returned (.tuple #[.string ⟨(Lib.trimPrefix s.data.toList p.data.toList).toArray⟩,.bool (Lib.hasPrefix s.data.toList p.data.toList)]) ∧ w' = w:=Any.strings_CutPrefix Tryz.lays103 s p w
def Tryz.lays122_ren : Go.Shelf.Ren:=⟨fun | 122=>149 | 215=>216 | n=>n,fun | 3=>3 | 4=>4 | n=>n,fun | n=>n⟩
theorem Tryz.lays122 : Go.Proofs.Lays.n122 Tryz.prog Tryz.lays122_ren:={
 mixed:=by kernel_rfl
 f122:=Tryz.func149.trans (congrArg some (by kernel_rfl))
 f215:=Tryz.func216.trans (congrArg some (by kernel_rfl))
 t3:=Tryz.underlying3
 a3:=Tryz.isAgg3
 z3:=Tryz.sizeOf3
 v3:=Tryz.zeroValue3
 t4:=Tryz.underlying4
 a4:=Tryz.isAgg4
 z4:=Tryz.sizeOf4
 v4:=Tryz.zeroValue4 }
open Go.RowKit in
/-- cmp.Compare at int: "Compare returns -1 if x is less than y, 0 if x equals y, +1 if x is greater than y.": IT RETURNS 'Lib.compareInt x y'; the world is as it was. (LAID: no walk: one application.) -/
theorem Tryz.cmp_Compare_int (x y : Int) (w : World) :
 Calls Tryz.prog 149 #[.int .i64 x,.int .i64 y] w fun e w'=>e = .returned (.int .i64 (Lib.compareInt x y)) ∧ w' = w:=Any.cmp_Compare_int Tryz.lays122 x y w
def Tryz.lays144_ren : Go.Shelf.Ren:=⟨fun | 144=>102 | 143=>175 | 219=>234 | 217=>255 | 225=>256 | 224=>257 | 267=>258 | 266=>268 | 314=>269 | n=>n,fun | 9=>9 | 4=>4 | 3=>3 | 5=>5 | 46=>163 | 146=>313 | 51=>238 | n=>n,fun | 1=>0 | n=>n⟩
theorem Tryz.lays144 : Go.Proofs.Lays.n144 Tryz.prog Tryz.lays144_ren:={
 mixed:=by kernel_rfl
 f143:=Tryz.func175.trans (congrArg some (by kernel_rfl))
 f144:=Tryz.func102.trans (congrArg some (by kernel_rfl))
 f217:=Tryz.func255.trans (congrArg some (by kernel_rfl))
 f219:=Tryz.func234.trans (congrArg some (by kernel_rfl))
 f224:=Tryz.func257.trans (congrArg some (by kernel_rfl))
 f225:=Tryz.func256.trans (congrArg some (by kernel_rfl))
 f266:=Tryz.func268.trans (congrArg some (by kernel_rfl))
 f267:=Tryz.func258.trans (congrArg some (by kernel_rfl))
 f314:=Tryz.func269.trans (congrArg some (by kernel_rfl))
 t3:=Tryz.underlying3
 a3:=Tryz.isAgg3
 z3:=Tryz.sizeOf3
 v3:=Tryz.zeroValue3
 t4:=Tryz.underlying4
 a4:=Tryz.isAgg4
 z4:=Tryz.sizeOf4
 v4:=Tryz.zeroValue4
 t5:=Tryz.underlying5
 a5:=Tryz.isAgg5
 z5:=Tryz.sizeOf5
 v5:=Tryz.zeroValue5
 t9:=Tryz.underlying9
 a9:=Tryz.isAgg9
 z9:=Tryz.sizeOf9
 v9:=Tryz.zeroValue9
 t46:=Tryz.underlying163
 a46:=Tryz.isAgg163
 z46:=Tryz.sizeOf163
 v46:=Tryz.zeroValue163
 t51:=Tryz.underlying238
 a51:=Tryz.isAgg238
 z51:=Tryz.sizeOf238
 v51:=Tryz.zeroValue238
 t146:=Tryz.underlying313
 a146:=Tryz.isAgg313
 z146:=Tryz.sizeOf313
 v146:=Tryz.zeroValue313
 g1:=by kernel_rfl }
open Go.RowKit Go.Lib in
/-- strings.Contains: "Contains reports whether substr is within s.": AT A substr OF ONE BYTE c: IT RETURNS 'decide (0 ≤ Lib.indexByte s c)'; the world is as it was. (LAID: no walk: one application.) -/
theorem Tryz.strings_Contains_one (s : ByteArray) (c : UInt8) (w : World) :
 Calls Tryz.prog 102 #[.string s,.string ⟨#[c]⟩] w fun e w'=>e = .returned (.bool (decide (0 ≤ Lib.indexByte s.data.toList c))) ∧ w' = w:=Any.strings_Contains_one Tryz.lays144 s c w
def Tryz.lays190_ren : Go.Shelf.Ren:=⟨fun | 190=>44 | 125=>92 | 258=>91 | 128=>161 | 129=>162 | 302=>152 | 303=>153 | 304=>154 | 305=>155 | 306=>156 | 307=>157 | 308=>158 | 309=>159 | 310=>160 | 333=>217 | 329=>218 | 330=>219 | 334=>220 | 335=>221 | 336=>222 | 344=>247 | n=>n,fun | 31=>31 | 9=>9 | 3=>3 | 46=>163 | 0=>0 | 51=>238 | 53=>131 | 4=>4 | 183=>232 | 182=>231 | 131=>177 | 5=>5 | 218=>279 | 222=>282 | 228=>302 | 229=>102 | n=>n,fun | n=>n⟩
theorem Tryz.lays190 : Go.Proofs.Lays.n190 Tryz.prog Tryz.lays190_ren:={
 mixed:=by kernel_rfl
 f125:=Tryz.func92.trans (congrArg some (by kernel_rfl))
 f128:=Tryz.func161.trans (congrArg some (by kernel_rfl))
 f129:=Tryz.func162.trans (congrArg some (by kernel_rfl))
 f190:=Tryz.func44.trans (congrArg some (by kernel_rfl))
 f258:=Tryz.func91.trans (congrArg some (by kernel_rfl))
 f302:=Tryz.func152.trans (congrArg some (by kernel_rfl))
 f303:=Tryz.func153.trans (congrArg some (by kernel_rfl))
 f304:=Tryz.func154.trans (congrArg some (by kernel_rfl))
 f305:=Tryz.func155.trans (congrArg some (by kernel_rfl))
 f306:=Tryz.func156.trans (congrArg some (by kernel_rfl))
 f307:=Tryz.func157.trans (congrArg some (by kernel_rfl))
 f308:=Tryz.func158.trans (congrArg some (by kernel_rfl))
 f309:=Tryz.func159.trans (congrArg some (by kernel_rfl))
 f310:=Tryz.func160.trans (congrArg some (by kernel_rfl))
 f329:=Tryz.func218.trans (congrArg some (by kernel_rfl))
 f330:=Tryz.func219.trans (congrArg some (by kernel_rfl))
 f333:=Tryz.func217.trans (congrArg some (by kernel_rfl))
 f334:=Tryz.func220.trans (congrArg some (by kernel_rfl))
 f335:=Tryz.func221.trans (congrArg some (by kernel_rfl))
 f336:=Tryz.func222.trans (congrArg some (by kernel_rfl))
 f344:=Tryz.func247.trans (congrArg some (by kernel_rfl))
 t0:=Tryz.underlying0
 a0:=Tryz.isAgg0
 z0:=Tryz.sizeOf0
 v0:=Tryz.zeroValue0
 t3:=Tryz.underlying3
 a3:=Tryz.isAgg3
 z3:=Tryz.sizeOf3
 v3:=Tryz.zeroValue3
 t4:=Tryz.underlying4
 a4:=Tryz.isAgg4
 z4:=Tryz.sizeOf4
 v4:=Tryz.zeroValue4
 t5:=Tryz.underlying5
 a5:=Tryz.isAgg5
 z5:=Tryz.sizeOf5
 v5:=Tryz.zeroValue5
 t9:=Tryz.underlying9
 a9:=Tryz.isAgg9
 z9:=Tryz.sizeOf9
 v9:=Tryz.zeroValue9
 t31:=Tryz.underlying31
 a31:=Tryz.isAgg31
 z31:=Tryz.sizeOf31
 v31:=Tryz.zeroValue31
 t46:=Tryz.underlying163
 a46:=Tryz.isAgg163
 z46:=Tryz.sizeOf163
 v46:=Tryz.zeroValue163
 t51:=Tryz.underlying238
 a51:=Tryz.isAgg238
 z51:=Tryz.sizeOf238
 v51:=Tryz.zeroValue238
 t53:=Tryz.underlying131
 a53:=Tryz.isAgg131
 z53:=Tryz.sizeOf131
 v53:=Tryz.zeroValue131
 t131:=Tryz.underlying177
 a131:=Tryz.isAgg177
 z131:=Tryz.sizeOf177
 v131:=Tryz.zeroValue177
 t182:=Tryz.underlying231
 a182:=Tryz.isAgg231
 z182:=Tryz.sizeOf231
 v182:=Tryz.zeroValue231
 t183:=Tryz.underlying232
 a183:=Tryz.isAgg232
 z183:=Tryz.sizeOf232
 v183:=Tryz.zeroValue232
 t218:=Tryz.underlying279
 a218:=Tryz.isAgg279
 z218:=Tryz.sizeOf279
 v218:=Tryz.zeroValue279
 t222:=Tryz.underlying282
 a222:=Tryz.isAgg282
 z222:=Tryz.sizeOf282
 v222:=Tryz.zeroValue282
 t228:=Tryz.underlying302
 a228:=Tryz.isAgg302
 z228:=Tryz.sizeOf302
 v228:=Tryz.zeroValue302
 t229:=Tryz.underlying102
 a229:=Tryz.isAgg102
 z229:=Tryz.sizeOf102
 v229:=Tryz.zeroValue102 }
open Go.Sort Go.RowKit in
theorem Tryz.slices_Sort_string (blk off cap : Nat) (ss : List (List UInt8)) (w : World) (hH : Holds encStr w blk off ss.toArray) (hblk : blk < w.heap.size) (hsz : ss.length < 4611686018427387904) :
 Calls Tryz.prog 44 #[.slice (some ⟨blk,off,none⟩) ss.length cap] w fun e w'=>
  e = .returned (.tuple #[]) ∧ ∃ n os,w' = grow (putRow encStr (Sort.ahead w n) blk off (ss.mergeSort fun x y=>decide (x ≤ y)).toArray) os:=Any.slices_Sort_string Tryz.lays190 blk off cap ss w hH hblk hsz
def Tryz.lays146_ren : Go.Shelf.Ren:=⟨fun | 146=>172 | 221=>232 | 268=>253 | 138=>254 | 143=>175 | 195=>266 | 197=>249 | 218=>267 | 219=>234 | 260=>263 | 217=>255 | 225=>256 | 224=>257 | 267=>258 | 266=>268 | 314=>269 | n=>n,fun | 9=>9 | 31=>31 | 3=>3 | 4=>4 | 0=>0 | 105=>304 | 21=>21 | 5=>5 | 46=>163 | 119=>316 | 139=>319 | 138=>318 | 146=>313 | 51=>238 | n=>n,fun | 1=>0 | 3=>1 | 4=>2 | n=>n⟩
theorem Tryz.lays146 : Go.Proofs.Lays.n146 Tryz.prog Tryz.lays146_ren:={
 mixed:=by kernel_rfl
 f138:=Tryz.func254.trans (congrArg some (by kernel_rfl))
 f143:=Tryz.func175.trans (congrArg some (by kernel_rfl))
 f146:=Tryz.func172.trans (congrArg some (by kernel_rfl))
 f195:=Tryz.func266.trans (congrArg some (by kernel_rfl))
 f197:=Tryz.func249.trans (congrArg some (by kernel_rfl))
 f217:=Tryz.func255.trans (congrArg some (by kernel_rfl))
 f218:=Tryz.func267.trans (congrArg some (by kernel_rfl))
 f219:=Tryz.func234.trans (congrArg some (by kernel_rfl))
 f221:=Tryz.func232.trans (congrArg some (by kernel_rfl))
 f224:=Tryz.func257.trans (congrArg some (by kernel_rfl))
 f225:=Tryz.func256.trans (congrArg some (by kernel_rfl))
 f260:=Tryz.func263.trans (congrArg some (by kernel_rfl))
 f266:=Tryz.func268.trans (congrArg some (by kernel_rfl))
 f267:=Tryz.func258.trans (congrArg some (by kernel_rfl))
 f268:=Tryz.func253.trans (congrArg some (by kernel_rfl))
 f314:=Tryz.func269.trans (congrArg some (by kernel_rfl))
 t0:=Tryz.underlying0
 a0:=Tryz.isAgg0
 z0:=Tryz.sizeOf0
 v0:=Tryz.zeroValue0
 t3:=Tryz.underlying3
 a3:=Tryz.isAgg3
 z3:=Tryz.sizeOf3
 v3:=Tryz.zeroValue3
 t4:=Tryz.underlying4
 a4:=Tryz.isAgg4
 z4:=Tryz.sizeOf4
 v4:=Tryz.zeroValue4
 t5:=Tryz.underlying5
 a5:=Tryz.isAgg5
 z5:=Tryz.sizeOf5
 v5:=Tryz.zeroValue5
 t9:=Tryz.underlying9
 a9:=Tryz.isAgg9
 z9:=Tryz.sizeOf9
 v9:=Tryz.zeroValue9
 t21:=Tryz.underlying21
 a21:=Tryz.isAgg21
 z21:=Tryz.sizeOf21
 v21:=Tryz.zeroValue21
 t31:=Tryz.underlying31
 a31:=Tryz.isAgg31
 z31:=Tryz.sizeOf31
 v31:=Tryz.zeroValue31
 t46:=Tryz.underlying163
 a46:=Tryz.isAgg163
 z46:=Tryz.sizeOf163
 v46:=Tryz.zeroValue163
 t51:=Tryz.underlying238
 a51:=Tryz.isAgg238
 z51:=Tryz.sizeOf238
 v51:=Tryz.zeroValue238
 t105:=Tryz.underlying304
 a105:=Tryz.isAgg304
 z105:=Tryz.sizeOf304
 v105:=Tryz.zeroValue304
 t119:=Tryz.underlying316
 a119:=Tryz.isAgg316
 z119:=Tryz.sizeOf316
 t138:=Tryz.underlying318
 a138:=Tryz.isAgg318
 z138:=Tryz.sizeOf318
 v138:=Tryz.zeroValue318
 t139:=Tryz.underlying319
 a139:=Tryz.isAgg319
 z139:=Tryz.sizeOf319
 v139:=Tryz.zeroValue319
 t146:=Tryz.underlying313
 a146:=Tryz.isAgg313
 z146:=Tryz.sizeOf313
 v146:=Tryz.zeroValue313
 g1:=by kernel_rfl
 g3:=by kernel_rfl
 g4:=by kernel_rfl }
open Go.RowKit Go.Lib in
/-- strings.Split. (LAID: no walk: one application.) -/
theorem Tryz.strings_Split (s sep : ByteArray) (m : Int) (w : World) (hs : s.size < 4294967281) (hm : w.cell? ⟨0,0,none⟩ = some (.int .i64 m)) (h1 : 1 ≤ sep.size) :
 Calls Tryz.prog 172 #[.string s,.string sep] w fun e w'=>
  e = .returned (.slice (some ⟨w.heap.size,0,none⟩) (Lib.countB s sep + 1) (Lib.countB s sep + 1)) ∧ w' = w.alloc (.cells ((Lib.splitB sep 0 (Lib.countB s sep) s).map Value.string).toArray 9):=Any.strings_Split Tryz.lays146 (by kernel_rfl) s sep m w hs hm h1
end Go.Proofs
/-
  DERIVED: THE SHELF's CONTRACTS AT THIS DUMP, IN PLAIN WORDS (tools/lay-plain.mjs out of 'TryzSrt.lean', which tools/lay-shelf.mjs wrote): THE SAME DECLARATIONS UNDER THE SAME NAMES: 'import', 'namespace', 'open', 'def', 'theorem' AND NOTHING ELSE: no command of the shelf's: FOR A HAND-IN. Each laying: the table of numbers ('.._ren') and one theorem, a field a fact of the dump's own or the kernel's comparison; each contract: ONE APPLICATION.
-/
namespace Go.Proofs
open Go.Shelf
def Tryz.sortSlots_ren : Go.Shelf.Ren:=⟨fun | 6=>81 | 15=>92 | 14=>147 | 28=>161 | 29=>162 | 20=>208 | 21=>209 | 22=>210 | 23=>211 | 24=>212 | 25=>213 | 26=>214 | 27=>215 | 46=>244 | 47=>218 | 48=>219 | 49=>245 | 50=>246 | 57=>262 | n=>n,fun | 22=>97 | 24=>96 | 25=>151 | 3=>3 | 39=>163 | 0=>0 | 53=>238 | 55=>131 | 4=>4 | 46=>232 | 45=>231 | 50=>177 | 5=>5 | 9=>9 | 66=>279 | 70=>282 | 76=>302 | 77=>102 | n=>n,fun | n=>n⟩
theorem Tryz.sortSlots : Go.Proofs.SlLaysF0.n6 Tryz.prog Tryz.sortSlots_ren:={
 mixed:=by kernel_rfl
 f6:=⟨Tryz.f81.name,by decide,Tryz.func81.trans (congrArg some (by kernel_rfl))⟩
 f14:=⟨Tryz.f147.name,by decide,Tryz.func147.trans (congrArg some (by kernel_rfl))⟩
 f15:=Tryz.func92.trans (congrArg some (by kernel_rfl))
 f20:=⟨Tryz.f208.name,by decide,Tryz.func208.trans (congrArg some (by kernel_rfl))⟩
 f21:=⟨Tryz.f209.name,by decide,Tryz.func209.trans (congrArg some (by kernel_rfl))⟩
 f22:=⟨Tryz.f210.name,by decide,Tryz.func210.trans (congrArg some (by kernel_rfl))⟩
 f23:=⟨Tryz.f211.name,by decide,Tryz.func211.trans (congrArg some (by kernel_rfl))⟩
 f24:=⟨Tryz.f212.name,by decide,Tryz.func212.trans (congrArg some (by kernel_rfl))⟩
 f25:=⟨Tryz.f213.name,by decide,Tryz.func213.trans (congrArg some (by kernel_rfl))⟩
 f26:=⟨Tryz.f214.name,by decide,Tryz.func214.trans (congrArg some (by kernel_rfl))⟩
 f27:=⟨Tryz.f215.name,by decide,Tryz.func215.trans (congrArg some (by kernel_rfl))⟩
 f28:=Tryz.func161.trans (congrArg some (by kernel_rfl))
 f29:=Tryz.func162.trans (congrArg some (by kernel_rfl))
 f46:=⟨Tryz.f244.name,by decide,Tryz.func244.trans (congrArg some (by kernel_rfl))⟩
 f47:=Tryz.func218.trans (congrArg some (by kernel_rfl))
 f48:=Tryz.func219.trans (congrArg some (by kernel_rfl))
 f49:=⟨Tryz.f245.name,by decide,Tryz.func245.trans (congrArg some (by kernel_rfl))⟩
 f50:=⟨Tryz.f246.name,by decide,Tryz.func246.trans (congrArg some (by kernel_rfl))⟩
 f57:=⟨Tryz.f262.name,by decide,Tryz.func262.trans (congrArg some (by kernel_rfl))⟩
 t0:=Tryz.underlying0
 a0:=Tryz.isAgg0
 z0:=Tryz.sizeOf0
 v0:=Tryz.zeroValue0
 t3:=Tryz.underlying3
 a3:=Tryz.isAgg3
 z3:=Tryz.sizeOf3
 v3:=Tryz.zeroValue3
 t4:=Tryz.underlying4
 a4:=Tryz.isAgg4
 z4:=Tryz.sizeOf4
 v4:=Tryz.zeroValue4
 t5:=Tryz.underlying5
 a5:=Tryz.isAgg5
 z5:=Tryz.sizeOf5
 v5:=Tryz.zeroValue5
 t9:=Tryz.underlying9
 a9:=Tryz.isAgg9
 z9:=Tryz.sizeOf9
 v9:=Tryz.zeroValue9
 t22:=Tryz.underlying97
 a22:=Tryz.isAgg97
 z22:=Tryz.sizeOf97
 v22:=Tryz.zeroValue97
 t25:=Tryz.underlying151
 a25:=Tryz.isAgg151
 z25:=Tryz.sizeOf151
 v25:=Tryz.zeroValue151
 t39:=Tryz.underlying163
 a39:=Tryz.isAgg163
 z39:=Tryz.sizeOf163
 v39:=Tryz.zeroValue163
 t45:=Tryz.underlying231
 a45:=Tryz.isAgg231
 z45:=Tryz.sizeOf231
 v45:=Tryz.zeroValue231
 t46:=Tryz.underlying232
 a46:=Tryz.isAgg232
 z46:=Tryz.sizeOf232
 v46:=Tryz.zeroValue232
 t50:=Tryz.underlying177
 a50:=Tryz.isAgg177
 z50:=Tryz.sizeOf177
 v50:=Tryz.zeroValue177
 t53:=Tryz.underlying238
 a53:=Tryz.isAgg238
 z53:=Tryz.sizeOf238
 v53:=Tryz.zeroValue238
 t55:=Tryz.underlying131
 a55:=Tryz.isAgg131
 z55:=Tryz.sizeOf131
 v55:=Tryz.zeroValue131
 t66:=Tryz.underlying279
 a66:=Tryz.isAgg279
 z66:=Tryz.sizeOf279
 v66:=Tryz.zeroValue279
 t70:=Tryz.underlying282
 a70:=Tryz.isAgg282
 z70:=Tryz.sizeOf282
 v70:=Tryz.zeroValue282
 t76:=Tryz.underlying302
 a76:=Tryz.isAgg302
 z76:=Tryz.sizeOf302
 v76:=Tryz.zeroValue302
 t77:=Tryz.underlying102
 a77:=Tryz.isAgg102
 z77:=Tryz.sizeOf102
 v77:=Tryz.zeroValue102 }
def Tryz.sortItems_ren : Go.Shelf.Ren:=⟨fun | 6=>64 | 15=>92 | 14=>122 | 28=>161 | 29=>162 | 20=>190 | 21=>191 | 22=>192 | 23=>193 | 24=>194 | 25=>195 | 26=>196 | 27=>197 | 46=>241 | 47=>218 | 48=>219 | 49=>242 | 50=>243 | 57=>261 | n=>n,fun | 22=>28 | 24=>59 | 25=>138 | 3=>3 | 39=>163 | 0=>0 | 53=>238 | 55=>131 | 4=>4 | 46=>232 | 45=>231 | 50=>177 | 5=>5 | 9=>9 | 66=>279 | 70=>282 | 76=>302 | 77=>102 | n=>n,fun | n=>n⟩
theorem Tryz.sortItems : Go.Proofs.SlLaysF0.n6 Tryz.prog Tryz.sortItems_ren:={
 mixed:=by kernel_rfl
 f6:=⟨Tryz.f64.name,by decide,Tryz.func64.trans (congrArg some (by kernel_rfl))⟩
 f14:=⟨Tryz.f122.name,by decide,Tryz.func122.trans (congrArg some (by kernel_rfl))⟩
 f15:=Tryz.func92.trans (congrArg some (by kernel_rfl))
 f20:=⟨Tryz.f190.name,by decide,Tryz.func190.trans (congrArg some (by kernel_rfl))⟩
 f21:=⟨Tryz.f191.name,by decide,Tryz.func191.trans (congrArg some (by kernel_rfl))⟩
 f22:=⟨Tryz.f192.name,by decide,Tryz.func192.trans (congrArg some (by kernel_rfl))⟩
 f23:=⟨Tryz.f193.name,by decide,Tryz.func193.trans (congrArg some (by kernel_rfl))⟩
 f24:=⟨Tryz.f194.name,by decide,Tryz.func194.trans (congrArg some (by kernel_rfl))⟩
 f25:=⟨Tryz.f195.name,by decide,Tryz.func195.trans (congrArg some (by kernel_rfl))⟩
 f26:=⟨Tryz.f196.name,by decide,Tryz.func196.trans (congrArg some (by kernel_rfl))⟩
 f27:=⟨Tryz.f197.name,by decide,Tryz.func197.trans (congrArg some (by kernel_rfl))⟩
 f28:=Tryz.func161.trans (congrArg some (by kernel_rfl))
 f29:=Tryz.func162.trans (congrArg some (by kernel_rfl))
 f46:=⟨Tryz.f241.name,by decide,Tryz.func241.trans (congrArg some (by kernel_rfl))⟩
 f47:=Tryz.func218.trans (congrArg some (by kernel_rfl))
 f48:=Tryz.func219.trans (congrArg some (by kernel_rfl))
 f49:=⟨Tryz.f242.name,by decide,Tryz.func242.trans (congrArg some (by kernel_rfl))⟩
 f50:=⟨Tryz.f243.name,by decide,Tryz.func243.trans (congrArg some (by kernel_rfl))⟩
 f57:=⟨Tryz.f261.name,by decide,Tryz.func261.trans (congrArg some (by kernel_rfl))⟩
 t0:=Tryz.underlying0
 a0:=Tryz.isAgg0
 z0:=Tryz.sizeOf0
 v0:=Tryz.zeroValue0
 t3:=Tryz.underlying3
 a3:=Tryz.isAgg3
 z3:=Tryz.sizeOf3
 v3:=Tryz.zeroValue3
 t4:=Tryz.underlying4
 a4:=Tryz.isAgg4
 z4:=Tryz.sizeOf4
 v4:=Tryz.zeroValue4
 t5:=Tryz.underlying5
 a5:=Tryz.isAgg5
 z5:=Tryz.sizeOf5
 v5:=Tryz.zeroValue5
 t9:=Tryz.underlying9
 a9:=Tryz.isAgg9
 z9:=Tryz.sizeOf9
 v9:=Tryz.zeroValue9
 t22:=Tryz.underlying28
 a22:=Tryz.isAgg28
 z22:=Tryz.sizeOf28
 v22:=Tryz.zeroValue28
 t25:=Tryz.underlying138
 a25:=Tryz.isAgg138
 z25:=Tryz.sizeOf138
 v25:=Tryz.zeroValue138
 t39:=Tryz.underlying163
 a39:=Tryz.isAgg163
 z39:=Tryz.sizeOf163
 v39:=Tryz.zeroValue163
 t45:=Tryz.underlying231
 a45:=Tryz.isAgg231
 z45:=Tryz.sizeOf231
 v45:=Tryz.zeroValue231
 t46:=Tryz.underlying232
 a46:=Tryz.isAgg232
 z46:=Tryz.sizeOf232
 v46:=Tryz.zeroValue232
 t50:=Tryz.underlying177
 a50:=Tryz.isAgg177
 z50:=Tryz.sizeOf177
 v50:=Tryz.zeroValue177
 t53:=Tryz.underlying238
 a53:=Tryz.isAgg238
 z53:=Tryz.sizeOf238
 v53:=Tryz.zeroValue238
 t55:=Tryz.underlying131
 a55:=Tryz.isAgg131
 z55:=Tryz.sizeOf131
 v55:=Tryz.zeroValue131
 t66:=Tryz.underlying279
 a66:=Tryz.isAgg279
 z66:=Tryz.sizeOf279
 v66:=Tryz.zeroValue279
 t70:=Tryz.underlying282
 a70:=Tryz.isAgg282
 z70:=Tryz.sizeOf282
 v70:=Tryz.zeroValue282
 t76:=Tryz.underlying302
 a76:=Tryz.isAgg302
 z76:=Tryz.sizeOf302
 v76:=Tryz.zeroValue302
 t77:=Tryz.underlying102
 a77:=Tryz.isAgg102
 z77:=Tryz.sizeOf102
 v77:=Tryz.zeroValue102 }
end Go.Proofs
/-
  DERIVED: THE SHELF's CONTRACTS AT THIS DUMP, IN PLAIN WORDS (tools/lay-plain.mjs out of 'TryzItr.lean', which tools/lay-shelf.mjs wrote): THE SAME DECLARATIONS UNDER THE SAME NAMES: 'import', 'namespace', 'open', 'def', 'theorem' AND NOTHING ELSE: no command of the shelf's: FOR A HAND-IN. Each laying: the table of numbers ('.._ren') and one theorem, a field a fact of the dump's own or the kernel's comparison; each contract: ONE APPLICATION.
-/
namespace Go.Proofs
open Go.Shelf
def Tryz.keys188_ren : Go.Shelf.Ren:=⟨fun | 7=>188 | 10=>240 | n=>n,fun | 23=>133 | 26=>9 | 3=>9 | 28=>258 | 0=>0 | 27=>257 | 33=>117 | 4=>4 | n=>n,fun | n=>n⟩
theorem Tryz.keys188 : Go.Proofs.SlLaysZ.n7 Tryz.prog Tryz.keys188_ren:={
 mixed:=by kernel_rfl
 f7:=⟨Tryz.f188.name,by decide,Tryz.func188.trans (congrArg some (by kernel_rfl))⟩
 f10:=⟨Tryz.f240.name,by decide,Tryz.func240.trans (congrArg some (by kernel_rfl))⟩
 t0:=Tryz.underlying0
 a0:=Tryz.isAgg0
 z0:=Tryz.sizeOf0
 v0:=Tryz.zeroValue0
 t4:=Tryz.underlying4
 a4:=Tryz.isAgg4
 z4:=Tryz.sizeOf4
 v4:=Tryz.zeroValue4
 t23:=Tryz.underlying133
 a23:=Tryz.isAgg133
 z23:=Tryz.sizeOf133
 v23:=Tryz.zeroValue133
 t26:=Tryz.underlying9
 a26:=Tryz.isAgg9
 z26:=Tryz.sizeOf9
 v26:=Tryz.zeroValue9
 t27:=Tryz.underlying257
 a27:=Tryz.isAgg257
 z27:=Tryz.sizeOf257
 v27:=Tryz.zeroValue257
 t28:=Tryz.underlying258
 a28:=Tryz.isAgg258
 z28:=Tryz.sizeOf258
 v28:=Tryz.zeroValue258
 t33:=Tryz.underlying117
 a33:=Tryz.isAgg117
 z33:=Tryz.sizeOf117
 v33:=Tryz.zeroValue117 }
def Tryz.sorted187_ren : Go.Shelf.Ren:=⟨fun | 6=>187 | 8=>239 | 9=>44 | 11=>260 | 13=>92 | 12=>91 | 23=>161 | 24=>162 | 14=>152 | 15=>153 | 16=>154 | 17=>155 | 18=>156 | 19=>157 | 20=>158 | 21=>159 | 22=>160 | 25=>217 | 26=>218 | 27=>219 | 28=>220 | 29=>221 | 30=>222 | 31=>247 | n=>n,fun | 26=>9 | 28=>258 | 24=>31 | 0=>0 | 3=>3 | 37=>163 | 48=>238 | 50=>131 | 4=>4 | 40=>232 | 39=>231 | 45=>177 | 5=>5 | 9=>9 | 51=>279 | 55=>282 | 57=>302 | 58=>102 | 33=>117 | n=>n,fun | n=>n⟩
theorem Tryz.sorted187 : Go.Proofs.SlLaysZ.n6 Tryz.prog Tryz.sorted187_ren:={
 mixed:=by kernel_rfl
 f6:=⟨Tryz.f187.name,by decide,Tryz.func187.trans (congrArg some (by kernel_rfl))⟩
 f8:=⟨Tryz.f239.name,by decide,Tryz.func239.trans (congrArg some (by kernel_rfl))⟩
 f11:=⟨Tryz.f260.name,by decide,Tryz.func260.trans (congrArg some (by kernel_rfl))⟩
 t0:=Tryz.underlying0
 a0:=Tryz.isAgg0
 z0:=Tryz.sizeOf0
 v0:=Tryz.zeroValue0
 t24:=Tryz.underlying31
 a24:=Tryz.isAgg31
 z24:=Tryz.sizeOf31
 v24:=Tryz.zeroValue31
 t26:=Tryz.underlying9
 a26:=Tryz.isAgg9
 z26:=Tryz.sizeOf9
 v26:=Tryz.zeroValue9
 t28:=Tryz.underlying258
 a28:=Tryz.isAgg258
 z28:=Tryz.sizeOf258
 v28:=Tryz.zeroValue258
 i26:=by kernel_rfl }
def Tryz.sort44_ren : Go.Shelf.Ren:=⟨fun | 6=>44 | 8=>92 | 9=>91 | 19=>161 | 20=>162 | 21=>152 | 22=>153 | 23=>154 | 24=>155 | 25=>156 | 26=>157 | 27=>158 | 28=>159 | 29=>160 | 36=>217 | 31=>218 | 32=>219 | 37=>220 | 38=>221 | 39=>222 | 41=>247 | n=>n,fun | 27=>31 | 29=>9 | 3=>3 | 32=>163 | 26=>31 | 0=>0 | 44=>238 | 46=>131 | 4=>4 | 36=>232 | 35=>231 | 41=>177 | 5=>5 | 9=>9 | 53=>279 | 57=>282 | 63=>302 | 64=>102 | n=>n,fun | n=>n⟩
theorem Tryz.sort44 : Go.Proofs.SlLaysM.n6 Tryz.prog Tryz.sort44_ren:={
 mixed:=by kernel_rfl
 f6:=⟨Tryz.f44.name,by decide,Tryz.func44.trans (congrArg some (by kernel_rfl))⟩
 f8:=Tryz.func92.trans (congrArg some (by kernel_rfl))
 f9:=⟨Tryz.f91.name,by decide,Tryz.func91.trans (congrArg some (by kernel_rfl))⟩
 f19:=Tryz.func161.trans (congrArg some (by kernel_rfl))
 f20:=Tryz.func162.trans (congrArg some (by kernel_rfl))
 f21:=⟨Tryz.f152.name,by decide,Tryz.func152.trans (congrArg some (by kernel_rfl))⟩
 f22:=⟨Tryz.f153.name,by decide,Tryz.func153.trans (congrArg some (by kernel_rfl))⟩
 f23:=⟨Tryz.f154.name,by decide,Tryz.func154.trans (congrArg some (by kernel_rfl))⟩
 f24:=⟨Tryz.f155.name,by decide,Tryz.func155.trans (congrArg some (by kernel_rfl))⟩
 f25:=⟨Tryz.f156.name,by decide,Tryz.func156.trans (congrArg some (by kernel_rfl))⟩
 f26:=⟨Tryz.f157.name,by decide,Tryz.func157.trans (congrArg some (by kernel_rfl))⟩
 f27:=⟨Tryz.f158.name,by decide,Tryz.func158.trans (congrArg some (by kernel_rfl))⟩
 f28:=⟨Tryz.f159.name,by decide,Tryz.func159.trans (congrArg some (by kernel_rfl))⟩
 f29:=⟨Tryz.f160.name,by decide,Tryz.func160.trans (congrArg some (by kernel_rfl))⟩
 f31:=Tryz.func218.trans (congrArg some (by kernel_rfl))
 f32:=Tryz.func219.trans (congrArg some (by kernel_rfl))
 f36:=⟨Tryz.f217.name,by decide,Tryz.func217.trans (congrArg some (by kernel_rfl))⟩
 f37:=⟨Tryz.f220.name,by decide,Tryz.func220.trans (congrArg some (by kernel_rfl))⟩
 f38:=⟨Tryz.f221.name,by decide,Tryz.func221.trans (congrArg some (by kernel_rfl))⟩
 f39:=⟨Tryz.f222.name,by decide,Tryz.func222.trans (congrArg some (by kernel_rfl))⟩
 f41:=⟨Tryz.f247.name,by decide,Tryz.func247.trans (congrArg some (by kernel_rfl))⟩
 t0:=Tryz.underlying0
 a0:=Tryz.isAgg0
 z0:=Tryz.sizeOf0
 v0:=Tryz.zeroValue0
 t3:=Tryz.underlying3
 a3:=Tryz.isAgg3
 z3:=Tryz.sizeOf3
 v3:=Tryz.zeroValue3
 t4:=Tryz.underlying4
 a4:=Tryz.isAgg4
 z4:=Tryz.sizeOf4
 v4:=Tryz.zeroValue4
 t5:=Tryz.underlying5
 a5:=Tryz.isAgg5
 z5:=Tryz.sizeOf5
 v5:=Tryz.zeroValue5
 t9:=Tryz.underlying9
 a9:=Tryz.isAgg9
 z9:=Tryz.sizeOf9
 v9:=Tryz.zeroValue9
 t26:=Tryz.underlying31
 a26:=Tryz.isAgg31
 z26:=Tryz.sizeOf31
 v26:=Tryz.zeroValue31
 t27:=Tryz.underlying31
 a27:=Tryz.isAgg31
 z27:=Tryz.sizeOf31
 v27:=Tryz.zeroValue31
 t29:=Tryz.underlying9
 a29:=Tryz.isAgg9
 z29:=Tryz.sizeOf9
 v29:=Tryz.zeroValue9
 t32:=Tryz.underlying163
 a32:=Tryz.isAgg163
 z32:=Tryz.sizeOf163
 v32:=Tryz.zeroValue163
 t35:=Tryz.underlying231
 a35:=Tryz.isAgg231
 z35:=Tryz.sizeOf231
 v35:=Tryz.zeroValue231
 t36:=Tryz.underlying232
 a36:=Tryz.isAgg232
 z36:=Tryz.sizeOf232
 v36:=Tryz.zeroValue232
 t41:=Tryz.underlying177
 a41:=Tryz.isAgg177
 z41:=Tryz.sizeOf177
 v41:=Tryz.zeroValue177
 t44:=Tryz.underlying238
 a44:=Tryz.isAgg238
 z44:=Tryz.sizeOf238
 v44:=Tryz.zeroValue238
 t46:=Tryz.underlying131
 a46:=Tryz.isAgg131
 z46:=Tryz.sizeOf131
 v46:=Tryz.zeroValue131
 t53:=Tryz.underlying279
 a53:=Tryz.isAgg279
 z53:=Tryz.sizeOf279
 v53:=Tryz.zeroValue279
 t57:=Tryz.underlying282
 a57:=Tryz.isAgg282
 z57:=Tryz.sizeOf282
 v57:=Tryz.zeroValue282
 t63:=Tryz.underlying302
 a63:=Tryz.isAgg302
 z63:=Tryz.sizeOf302
 v63:=Tryz.zeroValue302
 t64:=Tryz.underlying102
 a64:=Tryz.isAgg102
 z64:=Tryz.sizeOf102
 v64:=Tryz.zeroValue102 }
end Go.Proofs
namespace Go.Proofs
open Go.RowKit Go.Maps Go.Sort Go.Shelf

-- maps.Keys[map[string]string,string,string] (function 188; its iterator 240) · slices.Sorted[string] (187) · slices.Sort[[]string,string] (44) · the map's type 133, the keys' 9

/-- slices.Sort's two contracts at this dump, at the fence that asks nothing. -/
theorem Tryz.sorts187 (m : Nat) : AnyZ.SortsIn Tryz.prog Tryz.sorted187_ren Fence.wide m:=
 ⟨fun blk off cap ss W hH hblk hsz=>callsIn_wide.2 (AnyM.slices_Sort_string Tryz.sort44 blk off cap ss W hH hblk hsz),
  fun p cap W=>callsIn_wide.2 (AnyM.slices_Sort_string_none Tryz.sort44 p cap W)⟩

/-- **maps.Keys[map[string]string,string,string], at whatever map, the nil one too:** a function value over ONE NEW BLOCK, which holds the map. -/
theorem Tryz.maps_Keys_188 (mb : Option Nat) (W : World) : CallsIn Fence.wide 5 Tryz.prog 188 #[.map mb] W fun e w'=>e = .returned (.func (.func 240) #[] #[.pointer (some ⟨W.heap.size,0,none⟩)]) ∧ w' = W.alloc (.cells #[.map mb] 133):=
 AnyZ.keys_in Tryz.keys188 Fence.wide 5 trivial rfl mb W

set_option maxHeartbeats 1000000 in
/-- **slices.Sorted[string] AT WHAT maps.Keys[map[string]string,string,string] HANDED BACK FOR A MAP THAT IS NOT nil** ('w': the world AHEAD of maps.Keys' call): A NEW SLICE THAT HOLDS THE MAP's KEYS, SORTED; nil just where it has none; nothing that lay before has turned. -/
theorem Tryz.slices_Sorted_keys_187_188 {H : Type} (b nn : Nat) (D0 : DataW H) (R : Value → Option (DataW H × List MemPlace)) (w : World) (hown : w.ownsMap Tryz.prog 9 R b nn D0) (hmax : Maps.size D0 ≤ maxLen) (hbytes : Maps.size D0 * 16 ≤ 140737488355328) :
 CallsIn Fence.wide 5 Tryz.prog 187 #[.func (.func 240) #[] #[.pointer (some ⟨w.heap.size,0,none⟩)]] (w.alloc (.cells #[.map (some b)] 133)) fun e w'=>∃ (v : Value) (ss : List (List UInt8)),e = .returned v ∧ ss.Perm (strKeys D0) ∧
  w'.ownsRow (w.alloc (.cells #[.map (some b)] 133)).heap.size 9 1 v ss.length ((ss.mergeSort (fun x y=>decide (x ≤ y))).map encStr) ∧ (v = .slice none 0 0 ↔ ss = []) ∧ Below (w.alloc (.cells #[.map (some b)] 133)).heap.size (w.alloc (.cells #[.map (some b)] 133)) w':=by
 have hbl:=hown.lt
 have hseq : SeqGives Fence.wide 2 Tryz.prog 240 #[.pointer (some ⟨w.heap.size,0,none⟩)] encStr (fun ss=>ss.Perm (strKeys D0)) (Maps.size D0) (w.alloc (.cells #[.map (some b)] 133)):=
  AnyZ.keys_gives (ρ:=Tryz.keys188_ren) { Tryz.keys188 with } Fence.wide _ trivial rfl (by omega) w.heap.size b nn D0 _ (by simp) (by simp) (by
   obtain ⟨es,clock,hb,Ft,hs,hD⟩:=hown
   exact ⟨es,clock,(Below.heap_alloc _ _ b hbl).trans hb,Ft,hs,hD⟩)
 exact AnyZ.sorted_in Tryz.sorted187 Fence.wide 5 trivial trivial trivial trivial rfl (by omega) (Tryz.sorts187 _) (enters_of Tryz.func44 (by kernel_rfl) rfl) 240 #[.pointer (some ⟨w.heap.size,0,none⟩)] trivial (enters_of Tryz.func240 (by kernel_rfl) rfl) _ _ hmax hbytes _ hseq

set_option maxHeartbeats 1000000 in
/-- **.. AND FOR THE nil MAP: nil.** -/
theorem Tryz.slices_Sorted_keys_nil_187_188 (w : World) :
 CallsIn Fence.wide 5 Tryz.prog 187 #[.func (.func 240) #[] #[.pointer (some ⟨w.heap.size,0,none⟩)]] (w.alloc (.cells #[.map none] 133)) fun e w'=>∃ (v : Value) (ss : List (List UInt8)),e = .returned v ∧ ss = [] ∧
  w'.ownsRow (w.alloc (.cells #[.map none] 133)).heap.size 9 1 v ss.length ((ss.mergeSort (fun x y=>decide (x ≤ y))).map encStr) ∧ (v = .slice none 0 0 ↔ ss = []) ∧ Below (w.alloc (.cells #[.map none] 133)).heap.size (w.alloc (.cells #[.map none] 133)) w':=by
 have hseq : SeqGives Fence.wide 2 Tryz.prog 240 #[.pointer (some ⟨w.heap.size,0,none⟩)] encStr (fun ss : List (List UInt8)=>ss = []) 0 (w.alloc (.cells #[.map none] 133)):=
  AnyZ.keys_gives_nil (ρ:=Tryz.keys188_ren) { Tryz.keys188 with } Fence.wide _ trivial rfl w.heap.size _ (by simp) (by simp)
 exact AnyZ.sorted_in Tryz.sorted187 Fence.wide 5 trivial trivial trivial trivial rfl (by omega) (Tryz.sorts187 _) (enters_of Tryz.func44 (by kernel_rfl) rfl) 240 #[.pointer (some ⟨w.heap.size,0,none⟩)] trivial (enters_of Tryz.func240 (by kernel_rfl) rfl) _ 0 (Nat.zero_le _) (by omega) _ hseq

-- THE CALLER's WALK over 'slices.Sorted(maps.Keys(m))' (inside '(callsIn_wide (n := 6)).1'; 'have hfK : Fence.wide.fn 188 := trivial', 'have hfS : Fence.wide.fn 187 := trivial' ahead): THE TWO ARMS TO PASTE:
--   gi_wp2_with (first
--     | (gi_at_call 188; refine (Tryz.maps_Keys_188 _ _).mono ?_; rintro e w' ⟨rfl, rfl⟩)
--     | (gi_at_call 187; refine (Tryz.slices_Sorted_keys_187_188 b nn D0 R w hown hmax hbytes).mono ?_; rintro e w' ⟨v, ss, rfl, hS, hrow, hnil, hb⟩))


end Go.Proofs
