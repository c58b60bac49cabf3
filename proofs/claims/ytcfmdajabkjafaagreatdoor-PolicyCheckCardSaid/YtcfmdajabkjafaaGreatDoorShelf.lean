/- Contracts of library functions at this program, as the kit's tools lay them: lemmas, no condition. -/
import Derived.Shelf.Strings.Builder1
import Derived.Shelf.Strings.Builder2
import Derived.Shelf.Strings.OnBuilder
import Derived.Shelf.Strings.BuilderF
import Derived.Shelf.Strings.BuilderK
import Derived.Shelf.Strings.Builder2Cap
import Derived.Shelf.Strconv.Itoa0
import Derived.Shelf.Strconv.Itoa1
import Derived.Shelf.LaysM
import Derived.Shelf.Strconv.Itoa2
import Derived.Shelf.Strconv.Itoa3
import Derived.Ground.MpProg
import Derived.Shelf.Pu.ParseUintPublic10
import Derived.Shelf.Pu.ErrVarParseUint
import Derived.Shelf.Strings.Search1
import Derived.Shelf.Strings.Search2
import Derived.Shelf.Strings.Search3
import Derived.Shelf.Strings.Count
import Derived.Shelf.Strings.Shaped
import Derived.Shelf.Unicode.DecodeSlow
import Derived.Shelf.Strings.FieldsFuncAny
import Derived.Shelf.Strings.BuilderCap
import Derived.Test.YtcfmdajabkjafaaGreatDoorProg
namespace Go.Proofs
open Go.Shelf
def Tryz.laysPu14_ren : Go.Shelf.Ren := ⟨fun | 14 => 120 | 16 => 137 | 17 => 138 | 19 => 146 | 20 => 147 | 21 => 148 | 22 => 149 | 23 => 150 | 24 => 151 | 25 => 153 | 27 => 54 | 26 => 154 | 28 => 84 | 29 => 102 | 30 => 103 | 31 => 104 | 32 => 105 | 33 => 106 | 35 => 123 | 34 => 122 | 36 => 124 | 37 => 125 | 38 => 126 | 39 => 139 | 40 => 140 | n => n, fun | 9 => 9 | 3 => 3 | 22 => 46 | 24 => 93 | 25 => 158 | 4 => 4 | 34 => 184 | 5 => 5 | 36 => 165 | 37 => 89 | 0 => 0 | 39 => 186 | 21 => 21 | 44 => 194 | 47 => 123 | 50 => 198 | 48 => 196 | 2 => 2 | 52 => 145 | 55 => 148 | 59 => 163 | 60 => 68 | 20 => 20 | 61 => 164 | 65 => 189 | 66 => 190 | 67 => 101 | n => n, fun | 0 => 6 | 1 => 7 | 2 => 0 | 3 => 4 | 4 => 5 | n => n⟩
theorem Tryz.laysPu14 : Go.Proofs.LaysPu.n14 Tryz.prog Tryz.laysPu14_ren := {
  mixed := by kernel_rfl
  f14 := Tryz.func120.trans (congrArg some (by kernel_rfl))
  f16 := Tryz.func137.trans (congrArg some (by kernel_rfl))
  f17 := Tryz.func138.trans (congrArg some (by kernel_rfl))
  f19 := Tryz.func146.trans (congrArg some (by kernel_rfl))
  f20 := Tryz.func147.trans (congrArg some (by kernel_rfl))
  f21 := Tryz.func148.trans (congrArg some (by kernel_rfl))
  f22 := Tryz.func149.trans (congrArg some (by kernel_rfl))
  f23 := Tryz.func150.trans (congrArg some (by kernel_rfl))
  f24 := Tryz.func151.trans (congrArg some (by kernel_rfl))
  f25 := Tryz.func153.trans (congrArg some (by kernel_rfl))
  f26 := Tryz.func154.trans (congrArg some (by kernel_rfl))
  f27 := Tryz.func54.trans (congrArg some (by kernel_rfl))
  f28 := Tryz.func84.trans (congrArg some (by kernel_rfl))
  f29 := Tryz.func102.trans (congrArg some (by kernel_rfl))
  f30 := Tryz.func103.trans (congrArg some (by kernel_rfl))
  f31 := Tryz.func104.trans (congrArg some (by kernel_rfl))
  f32 := Tryz.func105.trans (congrArg some (by kernel_rfl))
  f33 := Tryz.func106.trans (congrArg some (by kernel_rfl))
  f34 := Tryz.func122.trans (congrArg some (by kernel_rfl))
  f35 := Tryz.func123.trans (congrArg some (by kernel_rfl))
  f36 := Tryz.func124.trans (congrArg some (by kernel_rfl))
  f37 := Tryz.func125.trans (congrArg some (by kernel_rfl))
  f38 := Tryz.func126.trans (congrArg some (by kernel_rfl))
  f39 := Tryz.func139.trans (congrArg some (by kernel_rfl))
  f40 := Tryz.func140.trans (congrArg some (by kernel_rfl))
  t0 := Tryz.underlying0
  a0 := Tryz.isAgg0
  z0 := Tryz.sizeOf0
  v0 := Tryz.zeroValue0
  i0 := by kernel_rfl
  t2 := Tryz.underlying2
  a2 := Tryz.isAgg2
  z2 := Tryz.sizeOf2
  v2 := Tryz.zeroValue2
  i2 := by kernel_rfl
  t3 := Tryz.underlying3
  a3 := Tryz.isAgg3
  z3 := Tryz.sizeOf3
  v3 := Tryz.zeroValue3
  i3 := by kernel_rfl
  t4 := Tryz.underlying4
  a4 := Tryz.isAgg4
  z4 := Tryz.sizeOf4
  v4 := Tryz.zeroValue4
  i4 := by kernel_rfl
  t5 := Tryz.underlying5
  a5 := Tryz.isAgg5
  z5 := Tryz.sizeOf5
  v5 := Tryz.zeroValue5
  i5 := by kernel_rfl
  t9 := Tryz.underlying9
  a9 := Tryz.isAgg9
  z9 := Tryz.sizeOf9
  v9 := Tryz.zeroValue9
  i9 := by kernel_rfl
  t20 := Tryz.underlying20
  a20 := Tryz.isAgg20
  z20 := Tryz.sizeOf20
  v20 := Tryz.zeroValue20
  i20 := by kernel_rfl
  t21 := Tryz.underlying21
  a21 := Tryz.isAgg21
  z21 := Tryz.sizeOf21
  v21 := Tryz.zeroValue21
  i21 := by kernel_rfl
  t22 := Tryz.underlying46
  a22 := Tryz.isAgg46
  z22 := Tryz.sizeOf46
  v22 := Tryz.zeroValue46
  i22 := by kernel_rfl
  t24 := Tryz.underlying93
  a24 := Tryz.isAgg93
  z24 := Tryz.sizeOf93
  v24 := Tryz.zeroValue93
  i24 := by kernel_rfl
  t25 := Tryz.underlying158
  a25 := Tryz.isAgg158
  z25 := Tryz.sizeOf158
  v25 := Tryz.zeroValue158
  i25 := by kernel_rfl
  t34 := Tryz.underlying184
  a34 := Tryz.isAgg184
  z34 := Tryz.sizeOf184
  v34 := Tryz.zeroValue184
  i34 := by kernel_rfl
  c34 := by kernel_rfl
  t36 := Tryz.underlying165
  a36 := Tryz.isAgg165
  z36 := Tryz.sizeOf165
  v36 := Tryz.zeroValue165
  i36 := by kernel_rfl
  t37 := Tryz.underlying89
  a37 := Tryz.isAgg89
  z37 := Tryz.sizeOf89
  v37 := Tryz.zeroValue89
  i37 := by kernel_rfl
  t39 := Tryz.underlying186
  a39 := Tryz.isAgg186
  z39 := Tryz.sizeOf186
  v39 := Tryz.zeroValue186
  i39 := by kernel_rfl
  t44 := Tryz.underlying194
  a44 := Tryz.isAgg194
  z44 := Tryz.sizeOf194
  v44 := Tryz.zeroValue194
  i44 := by kernel_rfl
  t47 := Tryz.underlying123
  a47 := Tryz.isAgg123
  z47 := Tryz.sizeOf123
  v47 := Tryz.zeroValue123
  i47 := by kernel_rfl
  t48 := Tryz.underlying196
  a48 := Tryz.isAgg196
  z48 := Tryz.sizeOf196
  v48 := Tryz.zeroValue196
  i48 := by kernel_rfl
  t50 := Tryz.underlying198
  a50 := Tryz.isAgg198
  z50 := Tryz.sizeOf198
  v50 := Tryz.zeroValue198
  i50 := by kernel_rfl
  t52 := Tryz.underlying145
  a52 := Tryz.isAgg145
  z52 := Tryz.sizeOf145
  v52 := Tryz.zeroValue145
  i52 := by kernel_rfl
  t55 := Tryz.underlying148
  a55 := Tryz.isAgg148
  z55 := Tryz.sizeOf148
  v55 := Tryz.zeroValue148
  i55 := by kernel_rfl
  t59 := Tryz.underlying163
  a59 := Tryz.isAgg163
  z59 := Tryz.sizeOf163
  v59 := Tryz.zeroValue163
  i59 := by kernel_rfl
  t60 := Tryz.underlying68
  a60 := Tryz.isAgg68
  z60 := Tryz.sizeOf68
  v60 := Tryz.zeroValue68
  i60 := by kernel_rfl
  t61 := Tryz.underlying164
  a61 := Tryz.isAgg164
  z61 := Tryz.sizeOf164
  t65 := Tryz.underlying189
  a65 := Tryz.isAgg189
  z65 := Tryz.sizeOf189
  v65 := Tryz.zeroValue189
  i65 := by kernel_rfl
  t66 := Tryz.underlying190
  a66 := Tryz.isAgg190
  z66 := Tryz.sizeOf190
  v66 := Tryz.zeroValue190
  i66 := by kernel_rfl
  t67 := Tryz.underlying101
  a67 := Tryz.isAgg101
  z67 := Tryz.sizeOf101
  v67 := Tryz.zeroValue101
  i67 := by kernel_rfl
  g0 := by kernel_rfl
  m0 := by kernel_rfl
  g1 := by kernel_rfl
  m1 := by kernel_rfl
  g2 := by kernel_rfl
  m2 := by kernel_rfl
  g3 := by kernel_rfl
  m3 := by kernel_rfl
  g4 := by kernel_rfl
  m4 := by kernel_rfl }
open Go.RowKit in
/-- strconv.ParseUint(s, 10, 64), AT EVERY STRING THAT SPELLS A uint64 ('Lib.parseUintB 64 s.data.toList = .ok u'): u, AND NO ERROR. (LAID: no walk: one application.) -/
theorem Tryz.strconv_ParseUint_10_at64_ok (s : ByteArray) (hmax : s.size ≤ 9223372036854775806) (u : Nat) (h : Lib.parseUintB 64 s.data.toList = .ok u) (w : World) :
    Calls Tryz.prog 120 #[.string s, .int .i64 10, .int .i64 64] w fun e w' => e = .returned (.tuple #[.int .u64 u, .nilIface]) ∧ (w' = w ∨ w' = Lib.bytesWorld w 5 s) := Any.strconv_ParseUint_10_at64_ok Tryz.laysPu14 s hmax u h w
open Go.RowKit in
/-- strconv.ParseUint(s, 10, 64), AT EVERY NUMERAL THAT NO uint64 HOLDS: THE GREATEST uint64, AND AN ERROR THAT IS NOT nil: a *NumError in a new block N: {Func: "ParseUint", Num: s's bytes, Err: what the variable ErrRange holds}. Of what was there nothing has turned. (LAID: no walk: one application.) -/
theorem Tryz.strconv_ParseUint_10_at64_range (s : ByteArray) (hlim : s.size ≤ 281474976710656) (h : Lib.parseUintB 64 s.data.toList = .range) (ev : Value) (w : World) (hv : w.cell? ⟨7, 0, none⟩ = some ev) (hev : ev = .nilIface ∨ ∃ te pe, ev = .iface te pe) :
    Calls Tryz.prog 120 #[.string s, .int .i64 10, .int .i64 64] w fun e w' => ∃ N, e = .returned (.tuple #[.int .u64 18446744073709551615, .iface 186 (.pointer (some ⟨N, 0, none⟩))]) ∧ w.heap.size ≤ N ∧ w'.heap[N]? = some (.cells #[.string ⟨#[80, 97, 114, 115, 101, 85, 105, 110, 116]⟩, .string s, ev] 194 (0, 0)) ∧ Below w.heap.size w w' := Any.strconv_ParseUint_10_at64_range Tryz.laysPu14 s hlim h ev w hv hev
def Tryz.lays229_ren : Go.Shelf.Ren := ⟨fun | 229 => 71 | n => n, fun | 9 => 9 | 40 => 110 | 31 => 73 | 152 => 135 | 3 => 3 | 0 => 0 | 4 => 4 | 21 => 21 | 154 => 137 | n => n, fun | n => n⟩
theorem Tryz.lays229 : Go.Proofs.Lays.n229 Tryz.prog Tryz.lays229_ren := {
  mixed := by kernel_rfl
  f229 := Tryz.func71.trans (congrArg some (by kernel_rfl))
  t0 := Tryz.underlying0
  a0 := Tryz.isAgg0
  z0 := Tryz.sizeOf0
  v0 := Tryz.zeroValue0
  t3 := Tryz.underlying3
  a3 := Tryz.isAgg3
  z3 := Tryz.sizeOf3
  v3 := Tryz.zeroValue3
  t4 := Tryz.underlying4
  a4 := Tryz.isAgg4
  z4 := Tryz.sizeOf4
  v4 := Tryz.zeroValue4
  t9 := Tryz.underlying9
  a9 := Tryz.isAgg9
  z9 := Tryz.sizeOf9
  v9 := Tryz.zeroValue9
  t21 := Tryz.underlying21
  a21 := Tryz.isAgg21
  z21 := Tryz.sizeOf21
  v21 := Tryz.zeroValue21
  t31 := Tryz.underlying73
  a31 := Tryz.isAgg73
  z31 := Tryz.sizeOf73
  v31 := Tryz.zeroValue73
  t40 := Tryz.underlying110
  a40 := Tryz.isAgg110
  z40 := Tryz.sizeOf110
  v40 := Tryz.zeroValue110
  t152 := Tryz.underlying135
  a152 := Tryz.isAgg135
  z152 := Tryz.sizeOf135
  v152 := Tryz.zeroValue135
  t154 := Tryz.underlying137
  a154 := Tryz.isAgg137
  z154 := Tryz.sizeOf137
  v154 := Tryz.zeroValue137 }
open Go.RowKit Go.Lib in
/-- .. over a hand of the authors' house's premise as it stands. (LAID: no walk: one application.) -/
theorem Tryz.strings_FieldsFunc (g : Nat) (lb : Array Value) (eg : ∀ args w, (callFunc g args).run Tryz.prog w = .ok (.enter g args) w) (p : Nat → Bool) (s : ByteArray) (w : World) (hs : s.size ≤ 4294967296) (hp : PredAt Tryz.prog g lb encR p w) :
    Calls Tryz.prog 71 #[.string s, .func (.func g) #[] lb] w fun e w' => ∃ A, e = .returned (.slice (some ⟨A, 0, none⟩) (Lib.goFieldsP p s).length (Lib.goFieldsP p s).length) ∧ w.heap.size ≤ A ∧
      w'.ownsRow w.heap.size 9 1 (.slice (some ⟨A, 0, none⟩) (Lib.goFieldsP p s).length (Lib.goFieldsP p s).length) (Lib.goFieldsP p s).length ((Lib.goFieldsP p s).map Value.string) ∧ Below w.heap.size w w' := Any.strings_FieldsFunc Tryz.lays229 g lb eg p s w hs hp (by kernel_rfl) (by kernel_rfl)
end Go.Proofs
