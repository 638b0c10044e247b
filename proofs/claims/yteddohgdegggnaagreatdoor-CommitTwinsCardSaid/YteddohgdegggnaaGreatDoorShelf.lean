/-
  DERIVED: THE SHELF's CONTRACTS AT THIS DUMP, IN PLAIN WORDS (tools/lay-plain.mjs out of 'TryzShelf.lean', which tools/lay-shelf.mjs wrote): THE SAME DECLARATIONS UNDER THE SAME NAMES: 'import', 'namespace', 'open', 'def', 'theorem' AND NOTHING ELSE: no command of the shelf's: FOR A HAND-IN. Each laying: the table of numbers ('.._ren') and one theorem, a field a fact of the dump's own or the kernel's comparison; each contract: ONE APPLICATION.
-/
import Derived.Shelf.Strconv.Itoa0
import Derived.Shelf.Strconv.Itoa1
import Derived.Shelf.LaysM
import Derived.Shelf.Strconv.Itoa2
import Derived.Shelf.Strconv.Itoa3
import Derived.Ground.MpProg
import Derived.Shelf.Pu.ParseUintPublic10
import Derived.Shelf.Pu.ErrVarParseUint
import Derived.Shelf.Strings.Search1
import Derived.Shelf.Strings.Search2
import Derived.Shelf.Strings.Cut
import Derived.Shelf.Strings.Shaped
import Derived.Test.YteddohgdegggnaaGreatDoorProg
namespace Go.Proofs
open Go.Shelf
def Tryz.lays283_ren : Go.Shelf.Ren := ⟨fun | 283 => 84 | n => n, fun | 3 => 3 | 9 => 9 | 4 => 4 | n => n, fun | n => n⟩
theorem Tryz.lays283 : Go.Proofs.Lays.n283 Tryz.prog Tryz.lays283_ren := {
  mixed := by kernel_rfl
  f283 := Tryz.func84.trans (congrArg some (by kernel_rfl))
  t3 := Tryz.underlying3
  a3 := Tryz.isAgg3
  z3 := Tryz.sizeOf3
  v3 := Tryz.zeroValue3
  t4 := Tryz.underlying4
  a4 := Tryz.isAgg4
  z4 := Tryz.sizeOf4
  v4 := Tryz.zeroValue4
  t9 := Tryz.underlying9
  a9 := Tryz.isAgg9
  z9 := Tryz.sizeOf9
  v9 := Tryz.zeroValue9 }
open Go.Lib in
/-- internal/strconv.small: "small returns the string for an i with 0 <= i < nSmalls.": i's decimal numeral. The world is as it was. (LAID: no walk: one application.) -/
theorem Tryz.internal_strconv_small (i : Nat) (h : i < 100) (w : World) :
    Calls Tryz.prog 84 #[.int .i64 i] w fun e w' => e = .returned (.string ⟨(Lib.decDigits i).toArray⟩) ∧ w' = w := Any.internal_strconv_small Tryz.lays283 i h w
def Tryz.laysM284_ren : Go.Shelf.Ren := ⟨fun | 284 => 85 | 129 => 101 | 317 => 100 | 318 => 102 | n => n, fun | 53 => 27 | 3 => 3 | 212 => 151 | 0 => 0 | 4 => 4 | 46 => 122 | 5 => 5 | 9 => 9 | n => n, fun | 17 => 4 | n => n⟩
theorem Tryz.laysM284 : Go.Proofs.LaysM.n284 Tryz.prog Tryz.laysM284_ren := {
  mixed := by kernel_rfl
  f129 := Tryz.func101.trans (congrArg some (by kernel_rfl))
  f284 := Tryz.func85.trans (congrArg some (by kernel_rfl))
  f317 := Tryz.func100.trans (congrArg some (by kernel_rfl))
  f318 := Tryz.func102.trans (congrArg some (by kernel_rfl))
  t0 := Tryz.underlying0
  a0 := Tryz.isAgg0
  z0 := Tryz.sizeOf0
  v0 := Tryz.zeroValue0
  t3 := Tryz.underlying3
  a3 := Tryz.isAgg3
  z3 := Tryz.sizeOf3
  v3 := Tryz.zeroValue3
  t4 := Tryz.underlying4
  a4 := Tryz.isAgg4
  z4 := Tryz.sizeOf4
  v4 := Tryz.zeroValue4
  t5 := Tryz.underlying5
  a5 := Tryz.isAgg5
  z5 := Tryz.sizeOf5
  v5 := Tryz.zeroValue5
  t9 := Tryz.underlying9
  a9 := Tryz.isAgg9
  z9 := Tryz.sizeOf9
  v9 := Tryz.zeroValue9
  t46 := Tryz.underlying122
  a46 := Tryz.isAgg122
  z46 := Tryz.sizeOf122
  v46 := Tryz.zeroValue122
  t53 := Tryz.underlying27
  a53 := Tryz.isAgg27
  z53 := Tryz.sizeOf27
  v53 := Tryz.zeroValue27
  t212 := Tryz.underlying151
  a212 := Tryz.isAgg151
  z212 := Tryz.sizeOf151
  v212 := Tryz.zeroValue151
  g17 := by kernel_rfl
  i0 := by kernel_rfl
  i3 := by kernel_rfl
  i4 := by kernel_rfl
  i5 := by kernel_rfl
  i9 := by kernel_rfl
  i46 := by kernel_rfl
  i53 := by kernel_rfl
  i212 := by kernel_rfl
  m17 := by kernel_rfl }
open Go.Lib in
/-- internal/strconv.numDigits, at a d that is not 0: THE NUMBER OF d's DECIMAL DIGITS. The world is as it was. (LAID: no walk: one application.) -/
theorem Tryz.internal_strconv_numDigits (u : Nat) (h1 : 1 ≤ u) (h2 : u < 18446744073709551616) (w : World) (htab : Lib.TabIs Tryz.prog w "internal/strconv.uint64pow10" .u64 Lib.pow10Tab) :
    Calls Tryz.prog 85 #[.int .u64 u] w fun e w' => e = .returned (.int .i64 (Lib.nDigits u)) ∧ w' = w := Any.internal_strconv_numDigits Tryz.laysM284 u h1 h2 w htab
def Tryz.lays285_ren : Go.Shelf.Ren := ⟨fun | 285 => 86 | n => n, fun | 37 => 29 | 53 => 27 | 3 => 3 | 4 => 4 | 51 => 38 | 9 => 9 | 5 => 5 | 0 => 0 | n => n, fun | n => n⟩
theorem Tryz.lays285 : Go.Proofs.Lays.n285 Tryz.prog Tryz.lays285_ren := {
  mixed := by kernel_rfl
  f285 := Tryz.func86.trans (congrArg some (by kernel_rfl))
  t0 := Tryz.underlying0
  a0 := Tryz.isAgg0
  z0 := Tryz.sizeOf0
  v0 := Tryz.zeroValue0
  t3 := Tryz.underlying3
  a3 := Tryz.isAgg3
  z3 := Tryz.sizeOf3
  v3 := Tryz.zeroValue3
  t4 := Tryz.underlying4
  a4 := Tryz.isAgg4
  z4 := Tryz.sizeOf4
  v4 := Tryz.zeroValue4
  t5 := Tryz.underlying5
  a5 := Tryz.isAgg5
  z5 := Tryz.sizeOf5
  v5 := Tryz.zeroValue5
  t9 := Tryz.underlying9
  a9 := Tryz.isAgg9
  z9 := Tryz.sizeOf9
  v9 := Tryz.zeroValue9
  t37 := Tryz.underlying29
  a37 := Tryz.isAgg29
  z37 := Tryz.sizeOf29
  v37 := Tryz.zeroValue29
  t51 := Tryz.underlying38
  a51 := Tryz.isAgg38
  z51 := Tryz.sizeOf38
  v51 := Tryz.zeroValue38
  t53 := Tryz.underlying27
  a53 := Tryz.isAgg27
  z53 := Tryz.sizeOf27
  v53 := Tryz.zeroValue27 }
open Go.RowKit Go.Sort Go.Lib in
/-- internal/strconv.formatBase10: "formatBase10 formats the decimal representation of u into a. The caller is responsible for ensuring that a is big enough to hold u. If a is too big, leading zeros will be filled in as needed.": THE ROW HOLDS u's DIGITS ('FmtInv .. 0 ..': every place t holds 'dg u (len - 1 - t)'); all else is as it was but for the count of draws. (LAID: no walk: one application.) -/
theorem Tryz.internal_strconv_formatBase10 (blk off cap : Nat) (u : Nat) (d : Array UInt8) (w : World) (hH : Holds (fun (b : UInt8) => Value.int .u8 (b.toNat : Int)) w blk off d) (hu : u < 10 ^ d.size) (hu64 : u < 18446744073709551616) (hsz : d.size < 4611686018427387904) :
    Calls Tryz.prog 86 #[.slice (some ⟨blk, off, none⟩) d.size cap, .int .u64 u] w fun e w' =>
      e = .returned (.tuple #[]) ∧ ∃ (n v' : Nat) (dk : Array UInt8), w' = (putRow (fun (b : UInt8) => Value.int .u8 (b.toNat : Int)) w blk off dk).drewN n ∧ FmtInv d.size u 0 v' dk := Any.internal_strconv_formatBase10 Tryz.lays285 blk off cap u d w hH hu hu64 hsz
def Tryz.laysPu14_ren : Go.Shelf.Ren := ⟨fun | 14 => 36 | 16 => 57 | 17 => 58 | 19 => 73 | 20 => 74 | 21 => 75 | 22 => 76 | 23 => 77 | 24 => 78 | 25 => 94 | 27 => 96 | 26 => 95 | 28 => 108 | 29 => 113 | 30 => 84 | 31 => 85 | 32 => 86 | 33 => 87 | 35 => 101 | 34 => 100 | 36 => 102 | 37 => 103 | 38 => 104 | 39 => 111 | 40 => 112 | n => n, fun | 9 => 9 | 3 => 3 | 22 => 27 | 24 => 90 | 25 => 91 | 4 => 4 | 34 => 127 | 5 => 5 | 36 => 122 | 37 => 29 | 0 => 0 | 39 => 129 | 21 => 21 | 44 => 147 | 47 => 157 | 50 => 160 | 48 => 158 | 2 => 2 | 52 => 137 | 55 => 140 | 59 => 151 | 60 => 38 | 20 => 20 | 61 => 152 | 65 => 165 | 66 => 166 | 67 => 167 | n => n, fun | 0 => 2 | 1 => 3 | 2 => 4 | 3 => 6 | 4 => 7 | n => n⟩
theorem Tryz.laysPu14 : Go.Proofs.LaysPu.n14 Tryz.prog Tryz.laysPu14_ren := {
  mixed := by kernel_rfl
  f14 := Tryz.func36.trans (congrArg some (by kernel_rfl))
  f16 := Tryz.func57.trans (congrArg some (by kernel_rfl))
  f17 := Tryz.func58.trans (congrArg some (by kernel_rfl))
  f19 := Tryz.func73.trans (congrArg some (by kernel_rfl))
  f20 := Tryz.func74.trans (congrArg some (by kernel_rfl))
  f21 := Tryz.func75.trans (congrArg some (by kernel_rfl))
  f22 := Tryz.func76.trans (congrArg some (by kernel_rfl))
  f23 := Tryz.func77.trans (congrArg some (by kernel_rfl))
  f24 := Tryz.func78.trans (congrArg some (by kernel_rfl))
  f25 := Tryz.func94.trans (congrArg some (by kernel_rfl))
  f26 := Tryz.func95.trans (congrArg some (by kernel_rfl))
  f27 := Tryz.func96.trans (congrArg some (by kernel_rfl))
  f28 := Tryz.func108.trans (congrArg some (by kernel_rfl))
  f29 := Tryz.func113.trans (congrArg some (by kernel_rfl))
  f30 := Tryz.func84.trans (congrArg some (by kernel_rfl))
  f31 := Tryz.func85.trans (congrArg some (by kernel_rfl))
  f32 := Tryz.func86.trans (congrArg some (by kernel_rfl))
  f33 := Tryz.func87.trans (congrArg some (by kernel_rfl))
  f34 := Tryz.func100.trans (congrArg some (by kernel_rfl))
  f35 := Tryz.func101.trans (congrArg some (by kernel_rfl))
  f36 := Tryz.func102.trans (congrArg some (by kernel_rfl))
  f37 := Tryz.func103.trans (congrArg some (by kernel_rfl))
  f38 := Tryz.func104.trans (congrArg some (by kernel_rfl))
  f39 := Tryz.func111.trans (congrArg some (by kernel_rfl))
  f40 := Tryz.func112.trans (congrArg some (by kernel_rfl))
  t0 := Tryz.underlying0
  a0 := Tryz.isAgg0
  z0 := Tryz.sizeOf0
  v0 := Tryz.zeroValue0
  i0 := by kernel_rfl
  t2 := Tryz.underlying2
  a2 := Tryz.isAgg2
  z2 := Tryz.sizeOf2
  v2 := Tryz.zeroValue2
  i2 := by kernel_rfl
  t3 := Tryz.underlying3
  a3 := Tryz.isAgg3
  z3 := Tryz.sizeOf3
  v3 := Tryz.zeroValue3
  i3 := by kernel_rfl
  t4 := Tryz.underlying4
  a4 := Tryz.isAgg4
  z4 := Tryz.sizeOf4
  v4 := Tryz.zeroValue4
  i4 := by kernel_rfl
  t5 := Tryz.underlying5
  a5 := Tryz.isAgg5
  z5 := Tryz.sizeOf5
  v5 := Tryz.zeroValue5
  i5 := by kernel_rfl
  t9 := Tryz.underlying9
  a9 := Tryz.isAgg9
  z9 := Tryz.sizeOf9
  v9 := Tryz.zeroValue9
  i9 := by kernel_rfl
  t20 := Tryz.underlying20
  a20 := Tryz.isAgg20
  z20 := Tryz.sizeOf20
  v20 := Tryz.zeroValue20
  i20 := by kernel_rfl
  t21 := Tryz.underlying21
  a21 := Tryz.isAgg21
  z21 := Tryz.sizeOf21
  v21 := Tryz.zeroValue21
  i21 := by kernel_rfl
  t22 := Tryz.underlying27
  a22 := Tryz.isAgg27
  z22 := Tryz.sizeOf27
  v22 := Tryz.zeroValue27
  i22 := by kernel_rfl
  t24 := Tryz.underlying90
  a24 := Tryz.isAgg90
  z24 := Tryz.sizeOf90
  v24 := Tryz.zeroValue90
  i24 := by kernel_rfl
  t25 := Tryz.underlying91
  a25 := Tryz.isAgg91
  z25 := Tryz.sizeOf91
  v25 := Tryz.zeroValue91
  i25 := by kernel_rfl
  t34 := Tryz.underlying127
  a34 := Tryz.isAgg127
  z34 := Tryz.sizeOf127
  v34 := Tryz.zeroValue127
  i34 := by kernel_rfl
  c34 := by kernel_rfl
  t36 := Tryz.underlying122
  a36 := Tryz.isAgg122
  z36 := Tryz.sizeOf122
  v36 := Tryz.zeroValue122
  i36 := by kernel_rfl
  t37 := Tryz.underlying29
  a37 := Tryz.isAgg29
  z37 := Tryz.sizeOf29
  v37 := Tryz.zeroValue29
  i37 := by kernel_rfl
  t39 := Tryz.underlying129
  a39 := Tryz.isAgg129
  z39 := Tryz.sizeOf129
  v39 := Tryz.zeroValue129
  i39 := by kernel_rfl
  t44 := Tryz.underlying147
  a44 := Tryz.isAgg147
  z44 := Tryz.sizeOf147
  v44 := Tryz.zeroValue147
  i44 := by kernel_rfl
  t47 := Tryz.underlying157
  a47 := Tryz.isAgg157
  z47 := Tryz.sizeOf157
  v47 := Tryz.zeroValue157
  i47 := by kernel_rfl
  t48 := Tryz.underlying158
  a48 := Tryz.isAgg158
  z48 := Tryz.sizeOf158
  v48 := Tryz.zeroValue158
  i48 := by kernel_rfl
  t50 := Tryz.underlying160
  a50 := Tryz.isAgg160
  z50 := Tryz.sizeOf160
  v50 := Tryz.zeroValue160
  i50 := by kernel_rfl
  t52 := Tryz.underlying137
  a52 := Tryz.isAgg137
  z52 := Tryz.sizeOf137
  v52 := Tryz.zeroValue137
  i52 := by kernel_rfl
  t55 := Tryz.underlying140
  a55 := Tryz.isAgg140
  z55 := Tryz.sizeOf140
  v55 := Tryz.zeroValue140
  i55 := by kernel_rfl
  t59 := Tryz.underlying151
  a59 := Tryz.isAgg151
  z59 := Tryz.sizeOf151
  v59 := Tryz.zeroValue151
  i59 := by kernel_rfl
  t60 := Tryz.underlying38
  a60 := Tryz.isAgg38
  z60 := Tryz.sizeOf38
  v60 := Tryz.zeroValue38
  i60 := by kernel_rfl
  t61 := Tryz.underlying152
  a61 := Tryz.isAgg152
  z61 := Tryz.sizeOf152
  t65 := Tryz.underlying165
  a65 := Tryz.isAgg165
  z65 := Tryz.sizeOf165
  v65 := Tryz.zeroValue165
  i65 := by kernel_rfl
  t66 := Tryz.underlying166
  a66 := Tryz.isAgg166
  z66 := Tryz.sizeOf166
  v66 := Tryz.zeroValue166
  i66 := by kernel_rfl
  t67 := Tryz.underlying167
  a67 := Tryz.isAgg167
  z67 := Tryz.sizeOf167
  v67 := Tryz.zeroValue167
  i67 := by kernel_rfl
  g0 := by kernel_rfl
  m0 := by kernel_rfl
  g1 := by kernel_rfl
  m1 := by kernel_rfl
  g2 := by kernel_rfl
  m2 := by kernel_rfl
  g3 := by kernel_rfl
  m3 := by kernel_rfl
  g4 := by kernel_rfl
  m4 := by kernel_rfl }
open Go.RowKit in
/-- strconv.ParseUint(s, 10, 32), AT EVERY STRING THAT SPELLS A uint32 ('Lib.parseUintB 32 s.data.toList = .ok u'): u, AND NO ERROR. (LAID: no walk: one application.) -/
theorem Tryz.strconv_ParseUint_10_at32_ok (s : ByteArray) (hmax : s.size ≤ 9223372036854775806) (u : Nat) (h : Lib.parseUintB 32 s.data.toList = .ok u) (w : World) :
    Calls Tryz.prog 36 #[.string s, .int .i64 10, .int .i64 32] w fun e w' => e = .returned (.tuple #[.int .u64 u, .nilIface]) ∧ (w' = w ∨ w' = Lib.bytesWorld w 5 s) := Any.strconv_ParseUint_10_at32_ok Tryz.laysPu14 s hmax u h w
def Tryz.lays145_ren : Go.Shelf.Ren := ⟨fun | 145 => 35 | 220 => 56 | 219 => 72 | 217 => 90 | 225 => 91 | 224 => 92 | 267 => 93 | 266 => 106 | 314 => 107 | n => n, fun | 9 => 9 | 4 => 4 | 59 => 87 | 3 => 3 | 5 => 5 | 46 => 122 | 146 => 155 | 51 => 38 | n => n, fun | 1 => 1 | n => n⟩
theorem Tryz.lays145 : Go.Proofs.Lays.n145 Tryz.prog Tryz.lays145_ren := {
  mixed := by kernel_rfl
  f145 := Tryz.func35.trans (congrArg some (by kernel_rfl))
  f217 := Tryz.func90.trans (congrArg some (by kernel_rfl))
  f219 := Tryz.func72.trans (congrArg some (by kernel_rfl))
  f220 := Tryz.func56.trans (congrArg some (by kernel_rfl))
  f224 := Tryz.func92.trans (congrArg some (by kernel_rfl))
  f225 := Tryz.func91.trans (congrArg some (by kernel_rfl))
  f266 := Tryz.func106.trans (congrArg some (by kernel_rfl))
  f267 := Tryz.func93.trans (congrArg some (by kernel_rfl))
  f314 := Tryz.func107.trans (congrArg some (by kernel_rfl))
  t3 := Tryz.underlying3
  a3 := Tryz.isAgg3
  z3 := Tryz.sizeOf3
  v3 := Tryz.zeroValue3
  t4 := Tryz.underlying4
  a4 := Tryz.isAgg4
  z4 := Tryz.sizeOf4
  v4 := Tryz.zeroValue4
  t5 := Tryz.underlying5
  a5 := Tryz.isAgg5
  z5 := Tryz.sizeOf5
  v5 := Tryz.zeroValue5
  t9 := Tryz.underlying9
  a9 := Tryz.isAgg9
  z9 := Tryz.sizeOf9
  v9 := Tryz.zeroValue9
  t46 := Tryz.underlying122
  a46 := Tryz.isAgg122
  z46 := Tryz.sizeOf122
  v46 := Tryz.zeroValue122
  t51 := Tryz.underlying38
  a51 := Tryz.isAgg38
  z51 := Tryz.sizeOf38
  v51 := Tryz.zeroValue38
  t59 := Tryz.underlying87
  a59 := Tryz.isAgg87
  z59 := Tryz.sizeOf87
  v59 := Tryz.zeroValue87
  t146 := Tryz.underlying155
  a146 := Tryz.isAgg155
  z146 := Tryz.sizeOf155
  v146 := Tryz.zeroValue155
  g1 := by kernel_rfl }
open Go.RowKit Go.Lib in
/-- strings.Cut: "Cut slices s around the first instance of sep, returning the text before and after sep. The found result reports whether sep appears in s. If sep does not appear in s, cut returns s, "", false.": IT RETURNS 'Lib.cut s sep'; the world is as it was but for the count of draws. (LAID: no walk: one application.) -/
theorem Tryz.strings_Cut (s sep : ByteArray) (m : Int) (w : World) (hs : s.size < 4294967281) (hm : w.cell? ⟨1, 0, none⟩ = some (.int .i64 m)) :
    Calls Tryz.prog 35 #[.string s, .string sep] w fun e w' => e = .returned (.tuple #[.string ⟨(Lib.cut s.data.toList sep.data.toList).1.toArray⟩, .string ⟨(Lib.cut s.data.toList sep.data.toList).2.1.toArray⟩, .bool (Lib.cut s.data.toList sep.data.toList).2.2]) ∧ ∃ n, w' = w.drewN n := Any.strings_Cut Tryz.lays145 s sep m w hs hm
def Tryz.laysM145_ren : Go.Shelf.Ren := ⟨fun | 145 => 35 | 220 => 56 | 219 => 72 | 217 => 90 | 225 => 91 | 224 => 92 | 267 => 93 | 266 => 106 | 314 => 107 | n => n, fun | 9 => 9 | 4 => 4 | 59 => 87 | 3 => 3 | 5 => 5 | 46 => 122 | 146 => 155 | 51 => 38 | n => n, fun | 1 => 1 | n => n⟩
theorem Tryz.laysM145 : Go.Proofs.LaysM.n145 Tryz.prog Tryz.laysM145_ren := {
  mixed := by kernel_rfl
  f145 := Tryz.func35.trans (congrArg some (by kernel_rfl))
  f217 := Tryz.func90.trans (congrArg some (by kernel_rfl))
  f219 := Tryz.func72.trans (congrArg some (by kernel_rfl))
  f220 := Tryz.func56.trans (congrArg some (by kernel_rfl))
  f224 := Tryz.func92.trans (congrArg some (by kernel_rfl))
  f225 := Tryz.func91.trans (congrArg some (by kernel_rfl))
  f266 := Tryz.func106.trans (congrArg some (by kernel_rfl))
  f267 := Tryz.func93.trans (congrArg some (by kernel_rfl))
  f314 := Tryz.func107.trans (congrArg some (by kernel_rfl))
  t3 := Tryz.underlying3
  a3 := Tryz.isAgg3
  z3 := Tryz.sizeOf3
  v3 := Tryz.zeroValue3
  t4 := Tryz.underlying4
  a4 := Tryz.isAgg4
  z4 := Tryz.sizeOf4
  v4 := Tryz.zeroValue4
  t5 := Tryz.underlying5
  a5 := Tryz.isAgg5
  z5 := Tryz.sizeOf5
  v5 := Tryz.zeroValue5
  t9 := Tryz.underlying9
  a9 := Tryz.isAgg9
  z9 := Tryz.sizeOf9
  v9 := Tryz.zeroValue9
  t46 := Tryz.underlying122
  a46 := Tryz.isAgg122
  z46 := Tryz.sizeOf122
  v46 := Tryz.zeroValue122
  t51 := Tryz.underlying38
  a51 := Tryz.isAgg38
  z51 := Tryz.sizeOf38
  v51 := Tryz.zeroValue38
  t59 := Tryz.underlying87
  a59 := Tryz.isAgg87
  z59 := Tryz.sizeOf87
  v59 := Tryz.zeroValue87
  t146 := Tryz.underlying155
  a146 := Tryz.isAgg155
  z146 := Tryz.sizeOf155
  v146 := Tryz.zeroValue155
  g1 := by kernel_rfl
  i3 := by kernel_rfl
  i4 := by kernel_rfl
  i5 := by kernel_rfl
  i9 := by kernel_rfl
  i46 := by kernel_rfl
  i51 := by kernel_rfl
  i59 := by kernel_rfl
  i146 := by kernel_rfl
  m1 := by kernel_rfl
  s1_3 := fun w h => Go.Proofs.cell_of_shapedOpen_int (zero := #[.int .i64 0]) (t := 3) h (of_decide_eq_true (by kernel_rfl)) (by kernel_rfl) rfl (by kernel_rfl) (by kernel_rfl) Tryz.underlying3 }
end Go.Proofs
