/-
  Contracts of Go's library at this program, laid by the kit's shelf (one application each).
-/
import Derived.Shelf.Strings.Builder1
import Derived.Shelf.Strings.Builder2
import Derived.Shelf.Strings.OnBuilder
import Derived.Shelf.Strings.Search1
import Derived.Shelf.Strings.Search2
import Derived.Shelf.Strings.Search3
import Derived.Shelf.Strings.Count
import Derived.Shelf.LaysM
import Derived.Shelf.Strings.Shaped
import Derived.Shelf.Strings.Prefix
import Derived.Shelf.Strings.Split
import Derived.Shelf.Unicode.DecodeSlow
import Derived.Test.YtengjcdilnikhaaDoorProg
namespace Go.Proofs
set_option linter.unusedSimpArgs false
set_option linter.unusedVariables false
open Go.Shelf
def Tryd.lays156_ren : Go.Shelf.Ren := ⟨fun | 156 => 108 | 165 => 129 | 166 => 130 | 169 => 131 | 240 => 142 | 241 => 143 | 276 => 150 | 277 => 151 | n => n, fun | 31 => 23 | 9 => 9 | 3 => 3 | 4 => 4 | 0 => 0 | 20 => 20 | 72 => 132 | 76 => 136 | 70 => 129 | 37 => 130 | 75 => 135 | 127 => 145 | 164 => 149 | 5 => 5 | 80 => 138 | n => n, fun | n => n⟩
theorem Tryd.lays156 : Go.Proofs.Lays.n156 Tryd.prog Tryd.lays156_ren := {
  mixed := by kernel_rfl
  f156 := Tryd.func108.trans (congrArg some (by kernel_rfl))
  f165 := Tryd.func129.trans (congrArg some (by kernel_rfl))
  f166 := Tryd.func130.trans (congrArg some (by kernel_rfl))
  f169 := Tryd.func131.trans (congrArg some (by kernel_rfl))
  f240 := Tryd.func142.trans (congrArg some (by kernel_rfl))
  f241 := Tryd.func143.trans (congrArg some (by kernel_rfl))
  f276 := Tryd.func150.trans (congrArg some (by kernel_rfl))
  f277 := Tryd.func151.trans (congrArg some (by kernel_rfl))
  t0 := Tryd.underlying0
  a0 := Tryd.isAgg0
  z0 := Tryd.sizeOf0
  v0 := Tryd.zeroValue0
  t3 := Tryd.underlying3
  a3 := Tryd.isAgg3
  z3 := Tryd.sizeOf3
  v3 := Tryd.zeroValue3
  t4 := Tryd.underlying4
  a4 := Tryd.isAgg4
  z4 := Tryd.sizeOf4
  v4 := Tryd.zeroValue4
  t9 := Tryd.underlying9
  a9 := Tryd.isAgg9
  z9 := Tryd.sizeOf9
  v9 := Tryd.zeroValue9
  t20 := Tryd.underlying20
  a20 := Tryd.isAgg20
  z20 := Tryd.sizeOf20
  v20 := Tryd.zeroValue20
  t31 := Tryd.underlying23
  a31 := Tryd.isAgg23
  z31 := Tryd.sizeOf23
  v31 := Tryd.zeroValue23
  t37 := Tryd.underlying130
  a37 := Tryd.isAgg130
  z37 := Tryd.sizeOf130
  v37 := Tryd.zeroValue130
  t70 := Tryd.underlying129
  a70 := Tryd.isAgg129
  z70 := Tryd.sizeOf129
  v70 := Tryd.zeroValue129
  t72 := Tryd.underlying132
  a72 := Tryd.isAgg132
  z72 := Tryd.sizeOf132
  v72 := Tryd.zeroValue132
  t75 := Tryd.underlying135
  a75 := Tryd.isAgg135
  z75 := Tryd.sizeOf135
  v75 := Tryd.zeroValue135
  t76 := Tryd.underlying136
  a76 := Tryd.isAgg136
  z76 := Tryd.sizeOf136
  v76 := Tryd.zeroValue136
  t127 := Tryd.underlying145
  a127 := Tryd.isAgg145
  z127 := Tryd.sizeOf145
  v127 := Tryd.zeroValue145
  t164 := Tryd.underlying149
  a164 := Tryd.isAgg149
  z164 := Tryd.sizeOf149
  v164 := Tryd.zeroValue149 }
theorem Tryd.Builder_Extra_156 : Builder.Extra Tryd.prog Tryd.lays156_ren := {
  sizeBuilder := by kernel_rfl
  liesBuilder := by kernel_rfl
  t5 := Tryd.underlying5
  a5 := Tryd.isAgg5
  z5 := Tryd.sizeOf5
  v5 := Tryd.zeroValue5
  infoByte := by kernel_rfl
  cellsByte := by kernel_rfl
  sizeByte := by kernel_rfl
  neB5 := by decide }
open Go.RowKit in
theorem Tryd.strings_Join_none (a : Option Addr) (c : Nat) (sep : ByteArray) (w : World) :
    Calls Tryd.prog 108 #[.slice a 0 c, .string sep] w fun e w' => e = .returned (.string ⟨#[]⟩) ∧ w' = w := Any.strings_Join_none Tryd.lays156 Tryd.Builder_Extra_156 a c sep w
open Go.RowKit in
theorem Tryd.strings_Join (bk o c : Nat) (xs : List ByteArray) (sep : ByteArray) (w : World) (hcells : ∀ (j : Nat) x, xs[j]? = some x → w.cell? ⟨bk, o + j, none⟩ = some (.string x)) (hbk : bk < w.heap.size) (hN : xs.length ≤ 140737488355328) (hcap : xs.length ≤ c) (hlen : (Lib.join (xs.map (·.data.toList)) sep.data.toList).length ≤ 140737488355328) :
    Calls Tryd.prog 108 #[.slice (some ⟨bk, o, none⟩) xs.length c, .string sep] w fun e w' => e = .returned (.string ⟨(Lib.join (xs.map (·.data.toList)) sep.data.toList).toArray⟩) ∧ Below w.heap.size w w' := Any.strings_Join Tryd.lays156 Tryd.Builder_Extra_156 bk o c xs sep w hcells hbk hN hcap hlen
def Tryd.lays143_ren : Go.Shelf.Ren := ⟨fun | 143 => 139 | 219 => 148 | 217 => 153 | 225 => 154 | 224 => 155 | 267 => 156 | 266 => 157 | 314 => 158 | n => n, fun | 9 => 9 | 3 => 3 | 4 => 4 | 5 => 5 | 46 => 139 | 146 => 157 | 51 => 58 | n => n, fun | 1 => 1 | n => n⟩
theorem Tryd.lays143 : Go.Proofs.Lays.n143 Tryd.prog Tryd.lays143_ren := {
  mixed := by kernel_rfl
  f143 := Tryd.func139.trans (congrArg some (by kernel_rfl))
  f217 := Tryd.func153.trans (congrArg some (by kernel_rfl))
  f219 := Tryd.func148.trans (congrArg some (by kernel_rfl))
  f224 := Tryd.func155.trans (congrArg some (by kernel_rfl))
  f225 := Tryd.func154.trans (congrArg some (by kernel_rfl))
  f266 := Tryd.func157.trans (congrArg some (by kernel_rfl))
  f267 := Tryd.func156.trans (congrArg some (by kernel_rfl))
  f314 := Tryd.func158.trans (congrArg some (by kernel_rfl))
  t3 := Tryd.underlying3
  a3 := Tryd.isAgg3
  z3 := Tryd.sizeOf3
  v3 := Tryd.zeroValue3
  t4 := Tryd.underlying4
  a4 := Tryd.isAgg4
  z4 := Tryd.sizeOf4
  v4 := Tryd.zeroValue4
  t5 := Tryd.underlying5
  a5 := Tryd.isAgg5
  z5 := Tryd.sizeOf5
  v5 := Tryd.zeroValue5
  t9 := Tryd.underlying9
  a9 := Tryd.isAgg9
  z9 := Tryd.sizeOf9
  v9 := Tryd.zeroValue9
  t46 := Tryd.underlying139
  a46 := Tryd.isAgg139
  z46 := Tryd.sizeOf139
  v46 := Tryd.zeroValue139
  t51 := Tryd.underlying58
  a51 := Tryd.isAgg58
  z51 := Tryd.sizeOf58
  v51 := Tryd.zeroValue58
  t146 := Tryd.underlying157
  a146 := Tryd.isAgg157
  z146 := Tryd.sizeOf157
  v146 := Tryd.zeroValue157
  g1 := by kernel_rfl }
open Go.RowKit Go.Lib in
theorem Tryd.strings_Index_one (s : ByteArray) (c : UInt8) (w : World) :
    Calls Tryd.prog 139 #[.string s, .string ⟨#[c]⟩] w fun e w' => e = .returned (.int .i64 (Lib.indexByte s.data.toList c)) ∧ w' = w := Any.strings_Index_one Tryd.lays143 s c w
def Tryd.lays138_ren : Go.Shelf.Ren := ⟨fun | 138 => 138 | 195 => 146 | 218 => 147 | 143 => 139 | 219 => 148 | 217 => 153 | 225 => 154 | 224 => 155 | 267 => 156 | 266 => 157 | 314 => 158 | n => n, fun | 9 => 9 | 3 => 3 | 4 => 4 | 5 => 5 | 0 => 0 | 46 => 139 | 146 => 157 | 51 => 58 | n => n, fun | 1 => 1 | n => n⟩
theorem Tryd.lays138 : Go.Proofs.Lays.n138 Tryd.prog Tryd.lays138_ren := {
  mixed := by kernel_rfl
  f138 := Tryd.func138.trans (congrArg some (by kernel_rfl))
  f143 := Tryd.func139.trans (congrArg some (by kernel_rfl))
  f195 := Tryd.func146.trans (congrArg some (by kernel_rfl))
  f217 := Tryd.func153.trans (congrArg some (by kernel_rfl))
  f218 := Tryd.func147.trans (congrArg some (by kernel_rfl))
  f219 := Tryd.func148.trans (congrArg some (by kernel_rfl))
  f224 := Tryd.func155.trans (congrArg some (by kernel_rfl))
  f225 := Tryd.func154.trans (congrArg some (by kernel_rfl))
  f266 := Tryd.func157.trans (congrArg some (by kernel_rfl))
  f267 := Tryd.func156.trans (congrArg some (by kernel_rfl))
  f314 := Tryd.func158.trans (congrArg some (by kernel_rfl))
  t0 := Tryd.underlying0
  a0 := Tryd.isAgg0
  z0 := Tryd.sizeOf0
  v0 := Tryd.zeroValue0
  t3 := Tryd.underlying3
  a3 := Tryd.isAgg3
  z3 := Tryd.sizeOf3
  v3 := Tryd.zeroValue3
  t4 := Tryd.underlying4
  a4 := Tryd.isAgg4
  z4 := Tryd.sizeOf4
  v4 := Tryd.zeroValue4
  t5 := Tryd.underlying5
  a5 := Tryd.isAgg5
  z5 := Tryd.sizeOf5
  v5 := Tryd.zeroValue5
  t9 := Tryd.underlying9
  a9 := Tryd.isAgg9
  z9 := Tryd.sizeOf9
  v9 := Tryd.zeroValue9
  t46 := Tryd.underlying139
  a46 := Tryd.isAgg139
  z46 := Tryd.sizeOf139
  v46 := Tryd.zeroValue139
  t51 := Tryd.underlying58
  a51 := Tryd.isAgg58
  z51 := Tryd.sizeOf58
  v51 := Tryd.zeroValue58
  t146 := Tryd.underlying157
  a146 := Tryd.isAgg157
  z146 := Tryd.sizeOf157
  v146 := Tryd.zeroValue157
  g1 := by kernel_rfl }
open Go.RowKit Go.Lib in
theorem Tryd.strings_Count_one (s : ByteArray) (c : UInt8) (w : World) :
    Calls Tryd.prog 138 #[.string s, .string ⟨#[c]⟩] w fun e w' => e = .returned (.int .i64 (Lib.countByte s.data.toList c)) ∧ w' = w := Any.strings_Count_one Tryd.lays138 s c w
def Tryd.lays99_ren : Go.Shelf.Ren := ⟨fun | 99 => 83 | 206 => 113 | n => n, fun | 9 => 9 | 4 => 4 | 3 => 3 | n => n, fun | n => n⟩
theorem Tryd.lays99 : Go.Proofs.Lays.n99 Tryd.prog Tryd.lays99_ren := {
  mixed := by kernel_rfl
  f99 := Tryd.func83.trans (congrArg some (by kernel_rfl))
  f206 := Tryd.func113.trans (congrArg some (by kernel_rfl))
  t3 := Tryd.underlying3
  a3 := Tryd.isAgg3
  z3 := Tryd.sizeOf3
  v3 := Tryd.zeroValue3
  t4 := Tryd.underlying4
  a4 := Tryd.isAgg4
  z4 := Tryd.sizeOf4
  v4 := Tryd.zeroValue4
  t9 := Tryd.underlying9
  a9 := Tryd.isAgg9
  z9 := Tryd.sizeOf9
  v9 := Tryd.zeroValue9 }
open Go.RowKit Go.Lib in
theorem Tryd.strings_HasPrefix (s p : ByteArray) (w : World) :
    Calls Tryd.prog 83 #[.string s, .string p] w fun e w' => e = .returned (.bool (Lib.hasPrefix s.data.toList p.data.toList)) ∧ w' = w := Any.strings_HasPrefix Tryd.lays99 s p w
end Go.Proofs
