/-
  DERIVED: THE SHELF's CONTRACTS AT THIS DUMP, IN PLAIN WORDS (tools/lay-plain.mjs out of 'TryShelf.lean', which tools/lay-shelf.mjs wrote): THE SAME DECLARATIONS UNDER THE SAME NAMES: 'import', 'namespace', 'open', 'def', 'theorem' AND NOTHING ELSE: no command of the shelf's: FOR A HAND-IN. Each laying: the table of numbers ('.._ren') and one theorem, a field a fact of the dump's own or the kernel's comparison; each contract: ONE APPLICATION.
-/
import Derived.Shelf.Strings.Builder1
import Derived.Shelf.Strings.Builder2
import Derived.Shelf.Strings.BuilderF
import Derived.Shelf.Strings.Prefix
import Derived.Shelf.Bits.Mul64
import Derived.Shelf.Strings.Repeat
import Derived.Test.YtdjpnabkmanboaaProg
namespace Go.Proofs
open Go.Shelf
def Try.lays169_ren : Go.Shelf.Ren := ⟨fun | 169 => 49 | n => n, fun | 70 => 69 | 9 => 9 | 0 => 0 | 72 => 71 | 37 => 42 | 127 => 96 | 3 => 3 | 5 => 5 | n => n, fun | n => n⟩
theorem Try.lays169 : Go.Proofs.Lays.n169 Try.prog Try.lays169_ren := {
  mixed := by kernel_rfl
  f169 := Try.func49.trans (congrArg some (by kernel_rfl))
  t0 := Try.underlying0
  a0 := Try.isAgg0
  z0 := Try.sizeOf0
  v0 := Try.zeroValue0
  t3 := Try.underlying3
  a3 := Try.isAgg3
  z3 := Try.sizeOf3
  v3 := Try.zeroValue3
  t9 := Try.underlying9
  a9 := Try.isAgg9
  z9 := Try.sizeOf9
  v9 := Try.zeroValue9
  t37 := Try.underlying42
  a37 := Try.isAgg42
  z37 := Try.sizeOf42
  v37 := Try.zeroValue42
  t70 := Try.underlying69
  a70 := Try.isAgg69
  z70 := Try.sizeOf69
  v70 := Try.zeroValue69
  t72 := Try.underlying71
  a72 := Try.isAgg71
  z72 := Try.sizeOf71
  v72 := Try.zeroValue71
  t127 := Try.underlying96
  a127 := Try.isAgg96
  z127 := Try.sizeOf96
  v127 := Try.zeroValue96 }
theorem Try.Builder_Extra_169 : Builder.Extra Try.prog Try.lays169_ren := {
  sizeBuilder := by kernel_rfl
  liesBuilder := by kernel_rfl
  t5 := Try.underlying5
  a5 := Try.isAgg5
  z5 := Try.sizeOf5
  v5 := Try.zeroValue5
  infoByte := by kernel_rfl
  cellsByte := by kernel_rfl
  sizeByte := by kernel_rfl
  neB5 := by decide }
open Go.RowKit in
theorem Try.Builder_String (B b : Nat) (l : List UInt8) (w : World) (h : Lib.IsBuilder 71 5 B b (Lib.byteCells l) w) (h0 : l ≠ []) :
    Calls Try.prog 49 #[.pointer (some ⟨b, 0, none⟩)] w fun e w' => e = .returned (.string ⟨l.toArray⟩) ∧ Below B w w' := Any.Builder_String Try.lays169 Try.Builder_Extra_169 B b l w h h0
open Go.RowKit in
theorem Try.Builder_String_any (B b : Nat) (l : List UInt8) (w : World) (h : Lib.IsBuilder 71 5 B b (Lib.byteCells l) w) (hBw : B ≤ w.heap.size) :
    Calls Try.prog 49 #[.pointer (some ⟨b, 0, none⟩)] w fun e w' => e = .returned (.string ⟨l.toArray⟩) ∧ Below B w w' := Any.Builder_String_any Try.lays169 Try.Builder_Extra_169 B b l w h hBw
def Try.lays105_ren : Go.Shelf.Ren := ⟨fun | 105 => 25 | 212 => 44 | 99 => 45 | 165 => 46 | 166 => 47 | 170 => 48 | 169 => 49 | 263 => 66 | 264 => 67 | 206 => 68 | 240 => 69 | 241 => 70 | 276 => 75 | 277 => 76 | n => n, fun | 9 => 9 | 3 => 3 | 4 => 4 | 20 => 20 | 0 => 0 | 46 => 65 | 109 => 66 | 5 => 5 | 72 => 71 | 76 => 75 | 51 => 45 | 146 => 91 | 53 => 93 | 148 => 94 | 70 => 69 | 37 => 42 | 75 => 74 | 127 => 96 | 164 => 100 | 80 => 59 | n => n, fun | n => n⟩
theorem Try.lays105 : Go.Proofs.Lays.n105 Try.prog Try.lays105_ren := {
  mixed := by kernel_rfl
  f99 := Try.func45.trans (congrArg some (by kernel_rfl))
  f105 := Try.func25.trans (congrArg some (by kernel_rfl))
  f165 := Try.func46.trans (congrArg some (by kernel_rfl))
  f166 := Try.func47.trans (congrArg some (by kernel_rfl))
  f169 := Try.func49.trans (congrArg some (by kernel_rfl))
  f170 := Try.func48.trans (congrArg some (by kernel_rfl))
  f206 := Try.func68.trans (congrArg some (by kernel_rfl))
  f212 := Try.func44.trans (congrArg some (by kernel_rfl))
  f240 := Try.func69.trans (congrArg some (by kernel_rfl))
  f241 := Try.func70.trans (congrArg some (by kernel_rfl))
  f263 := Try.func66.trans (congrArg some (by kernel_rfl))
  f264 := Try.func67.trans (congrArg some (by kernel_rfl))
  f276 := Try.func75.trans (congrArg some (by kernel_rfl))
  f277 := Try.func76.trans (congrArg some (by kernel_rfl))
  t0 := Try.underlying0
  a0 := Try.isAgg0
  z0 := Try.sizeOf0
  v0 := Try.zeroValue0
  t3 := Try.underlying3
  a3 := Try.isAgg3
  z3 := Try.sizeOf3
  v3 := Try.zeroValue3
  t4 := Try.underlying4
  a4 := Try.isAgg4
  z4 := Try.sizeOf4
  v4 := Try.zeroValue4
  t5 := Try.underlying5
  a5 := Try.isAgg5
  z5 := Try.sizeOf5
  v5 := Try.zeroValue5
  t9 := Try.underlying9
  a9 := Try.isAgg9
  z9 := Try.sizeOf9
  v9 := Try.zeroValue9
  t20 := Try.underlying20
  a20 := Try.isAgg20
  z20 := Try.sizeOf20
  v20 := Try.zeroValue20
  t37 := Try.underlying42
  a37 := Try.isAgg42
  z37 := Try.sizeOf42
  v37 := Try.zeroValue42
  t46 := Try.underlying65
  a46 := Try.isAgg65
  z46 := Try.sizeOf65
  v46 := Try.zeroValue65
  t51 := Try.underlying45
  a51 := Try.isAgg45
  z51 := Try.sizeOf45
  v51 := Try.zeroValue45
  t53 := Try.underlying93
  a53 := Try.isAgg93
  z53 := Try.sizeOf93
  v53 := Try.zeroValue93
  t70 := Try.underlying69
  a70 := Try.isAgg69
  z70 := Try.sizeOf69
  v70 := Try.zeroValue69
  t72 := Try.underlying71
  a72 := Try.isAgg71
  z72 := Try.sizeOf71
  v72 := Try.zeroValue71
  t75 := Try.underlying74
  a75 := Try.isAgg74
  z75 := Try.sizeOf74
  v75 := Try.zeroValue74
  t76 := Try.underlying75
  a76 := Try.isAgg75
  z76 := Try.sizeOf75
  v76 := Try.zeroValue75
  t109 := Try.underlying66
  a109 := Try.isAgg66
  z109 := Try.sizeOf66
  v109 := Try.zeroValue66
  t127 := Try.underlying96
  a127 := Try.isAgg96
  z127 := Try.sizeOf96
  v127 := Try.zeroValue96
  t146 := Try.underlying91
  a146 := Try.isAgg91
  z146 := Try.sizeOf91
  v146 := Try.zeroValue91
  t148 := Try.underlying94
  a148 := Try.isAgg94
  z148 := Try.sizeOf94
  v148 := Try.zeroValue94
  t164 := Try.underlying100
  a164 := Try.isAgg100
  z164 := Try.sizeOf100
  v164 := Try.zeroValue100 }
theorem Try.Builder_Extra_105 : Builder.Extra Try.prog Try.lays105_ren := {
  sizeBuilder := by kernel_rfl
  liesBuilder := by kernel_rfl
  t5 := Try.underlying5
  a5 := Try.isAgg5
  z5 := Try.sizeOf5
  v5 := Try.zeroValue5
  infoByte := by kernel_rfl
  cellsByte := by kernel_rfl
  sizeByte := by kernel_rfl
  neB5 := by decide }
open Go.RowKit Go.Lib in
theorem Try.strings_Repeat (s : ByteArray) (c : Nat) (w : World) (hc : c ≤ 9223372036854775807) (hlen : s.size * c ≤ 140737488355328) :
    Calls Try.prog 25 #[.string s, .int .i64 c] w fun e w' => e = .returned (.string ⟨(Lib.repeatL s.data.toList c).toArray⟩) ∧ Below w.heap.size w w' := Any.strings_Repeat Try.lays105 Try.Builder_Extra_105 s c w hc hlen
end Go.Proofs
