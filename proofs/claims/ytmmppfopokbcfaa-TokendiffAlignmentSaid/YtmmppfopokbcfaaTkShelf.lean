/- Contracts of package strings, laid at this program. No condition. -/
import Derived.Shelf.Strings.BuilderK
import Derived.Shelf.Strings.OnBuilder
import Derived.Shelf.Small.Strs
import Derived.Shelf.Small.Wraps
import Derived.Shelf.Strings.Prefix
import Derived.Test.YtmmppfopokbcfaaBase
namespace Go.Proofs.Ytmmppfopokbcfaa
open Go.Shelf
def sh_lays137_ren : Go.Shelf.Ren := ⟨fun | 137 => 69 | 217 => 80 | 266 => 87 | n => n, fun | 9 => 9 | 5 => 5 | 3 => 3 | n => n, fun | n => n⟩
theorem sh_lays137 : Go.Proofs.Lays.n137 Try.prog sh_lays137_ren := {
  mixed := by kernel_rfl
  f137 := Try.func69.trans (congrArg some (by kernel_rfl))
  f217 := Try.func80.trans (congrArg some (by kernel_rfl))
  f266 := Try.func87.trans (congrArg some (by kernel_rfl))
  t3 := Try.underlying3
  a3 := Try.isAgg3
  z3 := Try.sizeOf3
  v3 := Try.zeroValue3
  t5 := Try.underlying5
  a5 := Try.isAgg5
  z5 := Try.sizeOf5
  v5 := Try.zeroValue5
  t9 := Try.underlying9
  a9 := Try.isAgg9
  z9 := Try.sizeOf9
  v9 := Try.zeroValue9 }
def sh_lays217_ren : Go.Shelf.Ren := ⟨fun | 217 => 80 | 266 => 87 | n => n, fun | 9 => 9 | 5 => 5 | 3 => 3 | n => n, fun | n => n⟩
theorem sh_lays217 : Go.Proofs.Lays.n217 Try.prog sh_lays217_ren := {
  mixed := by kernel_rfl
  f217 := Try.func80.trans (congrArg some (by kernel_rfl))
  f266 := Try.func87.trans (congrArg some (by kernel_rfl))
  t3 := Try.underlying3
  a3 := Try.isAgg3
  z3 := Try.sizeOf3
  v3 := Try.zeroValue3
  t5 := Try.underlying5
  a5 := Try.isAgg5
  z5 := Try.sizeOf5
  v5 := Try.zeroValue5
  t9 := Try.underlying9
  a9 := Try.isAgg9
  z9 := Try.sizeOf9
  v9 := Try.zeroValue9 }
def sh_lays99_ren : Go.Shelf.Ren := ⟨fun | 99 => 72 | 206 => 81 | n => n, fun | 9 => 9 | 4 => 4 | 3 => 3 | n => n, fun | n => n⟩
theorem sh_lays99 : Go.Proofs.Lays.n99 Try.prog sh_lays99_ren := {
  mixed := by kernel_rfl
  f99 := Try.func72.trans (congrArg some (by kernel_rfl))
  f206 := Try.func81.trans (congrArg some (by kernel_rfl))
  t3 := Try.underlying3
  a3 := Try.isAgg3
  z3 := Try.sizeOf3
  v3 := Try.zeroValue3
  t4 := Try.underlying4
  a4 := Try.isAgg4
  z4 := Try.sizeOf4
  v4 := Try.zeroValue4
  t9 := Try.underlying9
  a9 := Try.isAgg9
  z9 := Try.sizeOf9
  v9 := Try.zeroValue9 }
def sh_lays206_ren : Go.Shelf.Ren := ⟨fun | 206 => 81 | n => n, fun | 9 => 9 | 4 => 4 | 3 => 3 | n => n, fun | n => n⟩
theorem sh_lays206 : Go.Proofs.Lays.n206 Try.prog sh_lays206_ren := {
  mixed := by kernel_rfl
  f206 := Try.func81.trans (congrArg some (by kernel_rfl))
  t3 := Try.underlying3
  a3 := Try.isAgg3
  z3 := Try.sizeOf3
  v3 := Try.zeroValue3
  t4 := Try.underlying4
  a4 := Try.isAgg4
  z4 := Try.sizeOf4
  v4 := Try.zeroValue4
  t9 := Try.underlying9
  a9 := Try.isAgg9
  z9 := Try.sizeOf9
  v9 := Try.zeroValue9 }
def sh_lays103_ren : Go.Shelf.Ren := ⟨fun | 103 => 84 | 210 => 89 | 206 => 81 | n => n, fun | 9 => 9 | 4 => 4 | 24 => 113 | 3 => 3 | n => n, fun | n => n⟩
theorem sh_lays103 : Go.Proofs.Lays.n103 Try.prog sh_lays103_ren := {
  mixed := by kernel_rfl
  f103 := Try.func84.trans (congrArg some (by kernel_rfl))
  f206 := Try.func81.trans (congrArg some (by kernel_rfl))
  f210 := Try.func89.trans (congrArg some (by kernel_rfl))
  t3 := Try.underlying3
  a3 := Try.isAgg3
  z3 := Try.sizeOf3
  v3 := Try.zeroValue3
  t4 := Try.underlying4
  a4 := Try.isAgg4
  z4 := Try.sizeOf4
  v4 := Try.zeroValue4
  t9 := Try.underlying9
  a9 := Try.isAgg9
  z9 := Try.sizeOf9
  v9 := Try.zeroValue9
  t24 := Try.underlying113
  a24 := Try.isAgg113
  z24 := Try.sizeOf113
  v24 := Try.zeroValue113 }
def sh_lays210_ren : Go.Shelf.Ren := ⟨fun | 210 => 89 | 206 => 81 | n => n, fun | 9 => 9 | 4 => 4 | 3 => 3 | n => n, fun | n => n⟩
theorem sh_lays210 : Go.Proofs.Lays.n210 Try.prog sh_lays210_ren := {
  mixed := by kernel_rfl
  f206 := Try.func81.trans (congrArg some (by kernel_rfl))
  f210 := Try.func89.trans (congrArg some (by kernel_rfl))
  t3 := Try.underlying3
  a3 := Try.isAgg3
  z3 := Try.sizeOf3
  v3 := Try.zeroValue3
  t4 := Try.underlying4
  a4 := Try.isAgg4
  z4 := Try.sizeOf4
  v4 := Try.zeroValue4
  t9 := Try.underlying9
  a9 := Try.isAgg9
  z9 := Try.sizeOf9
  v9 := Try.zeroValue9 }
def sh_lays104_ren : Go.Shelf.Ren := ⟨fun | 104 => 83 | 211 => 88 | 207 => 90 | n => n, fun | 9 => 9 | 4 => 4 | 24 => 113 | 3 => 3 | n => n, fun | n => n⟩
theorem sh_lays104 : Go.Proofs.Lays.n104 Try.prog sh_lays104_ren := {
  mixed := by kernel_rfl
  f104 := Try.func83.trans (congrArg some (by kernel_rfl))
  f207 := Try.func90.trans (congrArg some (by kernel_rfl))
  f211 := Try.func88.trans (congrArg some (by kernel_rfl))
  t3 := Try.underlying3
  a3 := Try.isAgg3
  z3 := Try.sizeOf3
  v3 := Try.zeroValue3
  t4 := Try.underlying4
  a4 := Try.isAgg4
  z4 := Try.sizeOf4
  v4 := Try.zeroValue4
  t9 := Try.underlying9
  a9 := Try.isAgg9
  z9 := Try.sizeOf9
  v9 := Try.zeroValue9
  t24 := Try.underlying113
  a24 := Try.isAgg113
  z24 := Try.sizeOf113
  v24 := Try.zeroValue113 }
def sh_lays211_ren : Go.Shelf.Ren := ⟨fun | 211 => 88 | 207 => 90 | n => n, fun | 9 => 9 | 4 => 4 | 3 => 3 | n => n, fun | n => n⟩
theorem sh_lays211 : Go.Proofs.Lays.n211 Try.prog sh_lays211_ren := {
  mixed := by kernel_rfl
  f207 := Try.func90.trans (congrArg some (by kernel_rfl))
  f211 := Try.func88.trans (congrArg some (by kernel_rfl))
  t3 := Try.underlying3
  a3 := Try.isAgg3
  z3 := Try.sizeOf3
  v3 := Try.zeroValue3
  t4 := Try.underlying4
  a4 := Try.isAgg4
  z4 := Try.sizeOf4
  v4 := Try.zeroValue4
  t9 := Try.underlying9
  a9 := Try.isAgg9
  z9 := Try.sizeOf9
  v9 := Try.zeroValue9 }
def sh_lays207_ren : Go.Shelf.Ren := ⟨fun | 207 => 90 | n => n, fun | 9 => 9 | 4 => 4 | 3 => 3 | n => n, fun | n => n⟩
theorem sh_lays207 : Go.Proofs.Lays.n207 Try.prog sh_lays207_ren := {
  mixed := by kernel_rfl
  f207 := Try.func90.trans (congrArg some (by kernel_rfl))
  t3 := Try.underlying3
  a3 := Try.isAgg3
  z3 := Try.sizeOf3
  v3 := Try.zeroValue3
  t4 := Try.underlying4
  a4 := Try.isAgg4
  z4 := Try.sizeOf4
  v4 := Try.zeroValue4
  t9 := Try.underlying9
  a9 := Try.isAgg9
  z9 := Try.sizeOf9
  v9 := Try.zeroValue9 }
def sh_lays156_ren : Go.Shelf.Ren := ⟨fun | 156 => 35 | 165 => 58 | 166 => 50 | 169 => 52 | 240 => 68 | 241 => 75 | 276 => 79 | 277 => 85 | n => n, fun | 31 => 31 | 9 => 9 | 3 => 3 | 4 => 4 | 0 => 0 | 20 => 20 | 72 => 73 | 76 => 78 | 70 => 70 | 37 => 71 | 75 => 77 | 127 => 106 | 164 => 111 | 5 => 5 | 80 => 81 | n => n, fun | n => n⟩
theorem sh_lays156 : Go.Proofs.Lays.n156 Try.prog sh_lays156_ren := {
  mixed := by kernel_rfl
  f156 := Try.func35.trans (congrArg some (by kernel_rfl))
  f165 := Try.func58.trans (congrArg some (by kernel_rfl))
  f166 := Try.func50.trans (congrArg some (by kernel_rfl))
  f169 := Try.func52.trans (congrArg some (by kernel_rfl))
  f240 := Try.func68.trans (congrArg some (by kernel_rfl))
  f241 := Try.func75.trans (congrArg some (by kernel_rfl))
  f276 := Try.func79.trans (congrArg some (by kernel_rfl))
  f277 := Try.func85.trans (congrArg some (by kernel_rfl))
  t0 := Try.underlying0
  a0 := Try.isAgg0
  z0 := Try.sizeOf0
  v0 := Try.zeroValue0
  t3 := Try.underlying3
  a3 := Try.isAgg3
  z3 := Try.sizeOf3
  v3 := Try.zeroValue3
  t4 := Try.underlying4
  a4 := Try.isAgg4
  z4 := Try.sizeOf4
  v4 := Try.zeroValue4
  t9 := Try.underlying9
  a9 := Try.isAgg9
  z9 := Try.sizeOf9
  v9 := Try.zeroValue9
  t20 := Try.underlying20
  a20 := Try.isAgg20
  z20 := Try.sizeOf20
  v20 := Try.zeroValue20
  t31 := Try.underlying31
  a31 := Try.isAgg31
  z31 := Try.sizeOf31
  v31 := Try.zeroValue31
  t37 := Try.underlying71
  a37 := Try.isAgg71
  z37 := Try.sizeOf71
  v37 := Try.zeroValue71
  t70 := Try.underlying70
  a70 := Try.isAgg70
  z70 := Try.sizeOf70
  v70 := Try.zeroValue70
  t72 := Try.underlying73
  a72 := Try.isAgg73
  z72 := Try.sizeOf73
  v72 := Try.zeroValue73
  t75 := Try.underlying77
  a75 := Try.isAgg77
  z75 := Try.sizeOf77
  v75 := Try.zeroValue77
  t76 := Try.underlying78
  a76 := Try.isAgg78
  z76 := Try.sizeOf78
  v76 := Try.zeroValue78
  t127 := Try.underlying106
  a127 := Try.isAgg106
  z127 := Try.sizeOf106
  v127 := Try.zeroValue106
  t164 := Try.underlying111
  a164 := Try.isAgg111
  z164 := Try.sizeOf111
  v164 := Try.zeroValue111 }
theorem sh_Builder_Extra_156 : Builder.Extra Try.prog sh_lays156_ren := {
  sizeBuilder := by kernel_rfl
  liesBuilder := by kernel_rfl
  t5 := Try.underlying5
  a5 := Try.isAgg5
  z5 := Try.sizeOf5
  v5 := Try.zeroValue5
  infoByte := by kernel_rfl
  cellsByte := by kernel_rfl
  sizeByte := by kernel_rfl
  neB5 := by decide }
def sh_lays169_ren : Go.Shelf.Ren := ⟨fun | 169 => 52 | n => n, fun | 0 => 0 | 3 => 3 | 5 => 5 | 9 => 9 | 37 => 71 | 70 => 70 | 72 => 73 | 127 => 106 | n => n, fun | n => n⟩
theorem sh_lays169 : Go.Proofs.Lays.n169 Try.prog sh_lays169_ren := {
  mixed := by kernel_rfl
  f169 := Try.func52.trans (congrArg some (by kernel_rfl))
  t0 := Try.underlying0
  a0 := Try.isAgg0
  z0 := Try.sizeOf0
  v0 := Try.zeroValue0
  t3 := Try.underlying3
  a3 := Try.isAgg3
  z3 := Try.sizeOf3
  v3 := Try.zeroValue3
  t9 := Try.underlying9
  a9 := Try.isAgg9
  z9 := Try.sizeOf9
  v9 := Try.zeroValue9
  t37 := Try.underlying71
  a37 := Try.isAgg71
  z37 := Try.sizeOf71
  v37 := Try.zeroValue71
  t70 := Try.underlying70
  a70 := Try.isAgg70
  z70 := Try.sizeOf70
  v70 := Try.zeroValue70
  t72 := Try.underlying73
  a72 := Try.isAgg73
  z72 := Try.sizeOf73
  v72 := Try.zeroValue73
  t127 := Try.underlying106
  a127 := Try.isAgg106
  z127 := Try.sizeOf106
  v127 := Try.zeroValue106 }
theorem sh_Builder_Extra_169 : Builder.Extra Try.prog sh_lays169_ren := {
  sizeBuilder := by kernel_rfl
  liesBuilder := by kernel_rfl
  t5 := Try.underlying5
  a5 := Try.isAgg5
  z5 := Try.sizeOf5
  v5 := Try.zeroValue5
  infoByte := by kernel_rfl
  cellsByte := by kernel_rfl
  sizeByte := by kernel_rfl
  neB5 := by decide }
def sh_lays166_ren : Go.Shelf.Ren := ⟨fun | 166 => 50 | 240 => 68 | 276 => 79 | n => n, fun | 0 => 0 | 3 => 3 | 4 => 4 | 5 => 5 | 9 => 9 | 20 => 20 | 37 => 71 | 70 => 70 | 72 => 73 | 75 => 77 | 80 => 81 | 164 => 111 | n => n, fun | n => n⟩
theorem sh_lays166 : Go.Proofs.Lays.n166 Try.prog sh_lays166_ren := {
  mixed := by kernel_rfl
  f166 := Try.func50.trans (congrArg some (by kernel_rfl))
  f240 := Try.func68.trans (congrArg some (by kernel_rfl))
  f276 := Try.func79.trans (congrArg some (by kernel_rfl))
  t0 := Try.underlying0
  a0 := Try.isAgg0
  z0 := Try.sizeOf0
  v0 := Try.zeroValue0
  t3 := Try.underlying3
  a3 := Try.isAgg3
  z3 := Try.sizeOf3
  v3 := Try.zeroValue3
  t4 := Try.underlying4
  a4 := Try.isAgg4
  z4 := Try.sizeOf4
  v4 := Try.zeroValue4
  t9 := Try.underlying9
  a9 := Try.isAgg9
  z9 := Try.sizeOf9
  v9 := Try.zeroValue9
  t20 := Try.underlying20
  a20 := Try.isAgg20
  z20 := Try.sizeOf20
  v20 := Try.zeroValue20
  t37 := Try.underlying71
  a37 := Try.isAgg71
  z37 := Try.sizeOf71
  v37 := Try.zeroValue71
  t70 := Try.underlying70
  a70 := Try.isAgg70
  z70 := Try.sizeOf70
  v70 := Try.zeroValue70
  t72 := Try.underlying73
  a72 := Try.isAgg73
  z72 := Try.sizeOf73
  v72 := Try.zeroValue73
  t75 := Try.underlying77
  a75 := Try.isAgg77
  z75 := Try.sizeOf77
  v75 := Try.zeroValue77
  t164 := Try.underlying111
  a164 := Try.isAgg111
  z164 := Try.sizeOf111
  v164 := Try.zeroValue111 }
theorem sh_Builder_Extra_166 : Builder.Extra Try.prog sh_lays166_ren := {
  sizeBuilder := by kernel_rfl
  liesBuilder := by kernel_rfl
  t5 := Try.underlying5
  a5 := Try.isAgg5
  z5 := Try.sizeOf5
  v5 := Try.zeroValue5
  infoByte := by kernel_rfl
  cellsByte := by kernel_rfl
  sizeByte := by kernel_rfl
  neB5 := by decide }
def sh_lays167_ren : Go.Shelf.Ren := ⟨fun | 167 => 70 | 240 => 68 | 276 => 79 | n => n, fun | 0 => 0 | 4 => 4 | 5 => 5 | 9 => 9 | 20 => 20 | 37 => 71 | 70 => 70 | 72 => 73 | 75 => 77 | 80 => 81 | 164 => 111 | n => n, fun | n => n⟩
theorem sh_lays167 : Go.Proofs.Lays.n167 Try.prog sh_lays167_ren := {
  mixed := by kernel_rfl
  f167 := Try.func70.trans (congrArg some (by kernel_rfl))
  f240 := Try.func68.trans (congrArg some (by kernel_rfl))
  f276 := Try.func79.trans (congrArg some (by kernel_rfl))
  t0 := Try.underlying0
  a0 := Try.isAgg0
  z0 := Try.sizeOf0
  v0 := Try.zeroValue0
  t4 := Try.underlying4
  a4 := Try.isAgg4
  z4 := Try.sizeOf4
  v4 := Try.zeroValue4
  t5 := Try.underlying5
  a5 := Try.isAgg5
  z5 := Try.sizeOf5
  v5 := Try.zeroValue5
  t9 := Try.underlying9
  a9 := Try.isAgg9
  z9 := Try.sizeOf9
  v9 := Try.zeroValue9
  t20 := Try.underlying20
  a20 := Try.isAgg20
  z20 := Try.sizeOf20
  v20 := Try.zeroValue20
  t37 := Try.underlying71
  a37 := Try.isAgg71
  z37 := Try.sizeOf71
  v37 := Try.zeroValue71
  t70 := Try.underlying70
  a70 := Try.isAgg70
  z70 := Try.sizeOf70
  v70 := Try.zeroValue70
  t72 := Try.underlying73
  a72 := Try.isAgg73
  z72 := Try.sizeOf73
  v72 := Try.zeroValue73
  t75 := Try.underlying77
  a75 := Try.isAgg77
  z75 := Try.sizeOf77
  v75 := Try.zeroValue77
  t164 := Try.underlying111
  a164 := Try.isAgg111
  z164 := Try.sizeOf111
  v164 := Try.zeroValue111 }
theorem sh_Builder_Extra_167 : Builder.Extra Try.prog sh_lays167_ren := {
  sizeBuilder := by kernel_rfl
  liesBuilder := by kernel_rfl
  t5 := Try.underlying5
  a5 := Try.isAgg5
  z5 := Try.sizeOf5
  v5 := Try.zeroValue5
  infoByte := by kernel_rfl
  cellsByte := by kernel_rfl
  sizeByte := by kernel_rfl
  neB5 := by decide }
open Go.RowKit in
theorem sh_strings_IndexByte (s : ByteArray) (c : Int) (w : World) :
    Calls Try.prog 69 #[.string s, .int .u8 c] w fun e w' => e = .returned (.int .i64 (Lib.indexByte s.data.toList c.toNat.toUInt8)) ∧ w' = w := Any.strings_IndexByte sh_lays137 s c w
open Go.RowKit Go.Lib in
theorem sh_strings_HasPrefix (s p : ByteArray) (w : World) :
    Calls Try.prog 72 #[.string s, .string p] w fun e w' => e = .returned (.bool (Lib.hasPrefix s.data.toList p.data.toList)) ∧ w' = w := Any.strings_HasPrefix sh_lays99 s p w
open Go.RowKit in
theorem sh_strings_CutPrefix (s p : ByteArray) (w : World) :
    Calls Try.prog 84 #[.string s, .string p] w fun e w' => e = .returned (.tuple #[.string ⟨(Lib.trimPrefix s.data.toList p.data.toList).toArray⟩, .bool (Lib.hasPrefix s.data.toList p.data.toList)]) ∧ w' = w := Any.strings_CutPrefix sh_lays103 s p w
open Go.RowKit in
theorem sh_strings_CutSuffix (s p : ByteArray) (w : World) (hs : s.size ≤ 9223372036854775807) :
    Calls Try.prog 83 #[.string s, .string p] w fun e w' => e = .returned (.tuple #[.string ⟨(Lib.trimSuffix s.data.toList p.data.toList).toArray⟩, .bool (Lib.hasSuffix s.data.toList p.data.toList)]) ∧ w' = w := Any.strings_CutSuffix sh_lays104 s p w hs
open Go.RowKit in
theorem sh_strings_Join_none (a : Option Addr) (c : Nat) (sep : ByteArray) (w : World) :
    Calls Try.prog 35 #[.slice a 0 c, .string sep] w fun e w' => e = .returned (.string ⟨#[]⟩) ∧ w' = w := Any.strings_Join_none sh_lays156 sh_Builder_Extra_156 a c sep w
open Go.RowKit in
theorem sh_strings_Join (bk o c : Nat) (xs : List ByteArray) (sep : ByteArray) (w : World) (hcells : ∀ (j : Nat) x, xs[j]? = some x → w.cell? ⟨bk, o + j, none⟩ = some (.string x)) (hbk : bk < w.heap.size) (hN : xs.length ≤ 140737488355328) (hcap : xs.length ≤ c) (hlen : (Lib.join (xs.map (·.data.toList)) sep.data.toList).length ≤ 140737488355328) :
    Calls Try.prog 35 #[.slice (some ⟨bk, o, none⟩) xs.length c, .string sep] w fun e w' => e = .returned (.string ⟨(Lib.join (xs.map (·.data.toList)) sep.data.toList).toArray⟩) ∧ Below w.heap.size w w' := Any.strings_Join sh_lays156 sh_Builder_Extra_156 bk o c xs sep w hcells hbk hN hcap hlen
open Go.RowKit in
theorem sh_Builder_String_any_k (B b : Nat) (l : List UInt8) (w : World) (h : Lib.IsBuilderF 73 5 B b (Lib.byteCells l) w) (hBw : B ≤ w.heap.size) :
    Calls Try.prog 52 #[.pointer (some ⟨b, 0, none⟩)] w fun e w' => e = .returned (.string ⟨l.toArray⟩) ∧ (Lib.IsBuilderF 73 5 B b (Lib.byteCells l) w' ∧ Below B w w' ∧ Lib.OthersKept 5 (some b) w w') := Any.Builder_String_any_k sh_lays169 sh_Builder_Extra_169 B b l w h hBw
open Go.RowKit in
theorem sh_Builder_WriteByte_k (B b : Nat) (bs : List Value) (c : Int) (w : World) (h : Lib.IsBuilderF 73 5 B b bs w) (hlen : bs.length + 1 ≤ 140737488355328) (hBw : B ≤ w.heap.size) :
    Calls Try.prog 70 #[.pointer (some ⟨b, 0, none⟩), .int .u8 c] w fun e w' => e = .returned .nilIface ∧ (Lib.BuilderAtF 73 5 B b (.pointer (some ⟨b, 0, none⟩)) (bs ++ [.int .u8 c]) w' ∧ Below B w w' ∧ Lib.OthersKept 5 (some b) w w') := Any.Builder_WriteByte_k sh_lays167 sh_Builder_Extra_167 B b bs c w h hlen hBw
open Go.RowKit in
theorem sh_Builder_WriteString_k (B b : Nat) (bs : List Value) (s : ByteArray) (w : World) (h : Lib.IsBuilderF 73 5 B b bs w) (hlen : bs.length + s.size ≤ 140737488355328) (hBw : B ≤ w.heap.size) :
    Calls Try.prog 50 #[.pointer (some ⟨b, 0, none⟩), .string s] w fun e w' => e = .returned (.tuple #[.int .i64 s.size, .nilIface]) ∧ (Lib.BuilderAtF 73 5 B b (.pointer (some ⟨b, 0, none⟩)) (bs ++ Lib.strCells s) w' ∧ Below B w w' ∧ Lib.OthersKept 5 (some b) w w') := Any.Builder_WriteString_k sh_lays166 sh_Builder_Extra_166 B b bs s w h hlen hBw
end Go.Proofs.Ytmmppfopokbcfaa
