/- Facts of the translation's types: printed by facts.py (own work). -/
import Derived.Test.YtdjfcjlpemckoaaDoorRows
import Derived.Test.YtdjfcjlpemckoaaDoorCore13
import Derived.KernelRfl
namespace Go.Proofs.YtdjfcjlpemckoaaDoor
open Go.Sv
set_option linter.unusedSimpArgs false
set_option maxRecDepth 100000
theorem followsF : Tryd.prog.follows .mixedOrders = true := by kernel_rfl
theorem ldF1 : ldInfo Tryd.prog 1 = some (false, 1) := by kernel_rfl
theorem tyF2 : tyOf Tryd.prog 8 2 = some (.int .i64) := by kernel_rfl
theorem ldF2 : ldInfo Tryd.prog 2 = some (false, 1) := by kernel_rfl
theorem zoF2 : ZeroOk Tryd.prog 2 (.int .i64) := ⟨⟨_, _, rfl, rfl, by kernel_rfl⟩⟩
theorem tyF3 : tyOf Tryd.prog 8 3 = some (.int .i64) := by kernel_rfl
theorem ldF3 : ldInfo Tryd.prog 3 = some (false, 1) := by kernel_rfl
theorem zoF3 : ZeroOk Tryd.prog 3 (.int .i64) := ⟨⟨_, _, rfl, rfl, by kernel_rfl⟩⟩
theorem tyF4 : tyOf Tryd.prog 8 4 = some .bool := by kernel_rfl
theorem ldF4 : ldInfo Tryd.prog 4 = some (false, 1) := by kernel_rfl
theorem zoF4 : ZeroOk Tryd.prog 4 .bool := ⟨⟨_, _, rfl, rfl, by kernel_rfl⟩⟩
theorem tyF5 : tyOf Tryd.prog 8 5 = some .u8 := by kernel_rfl
theorem ldF5 : ldInfo Tryd.prog 5 = some (false, 1) := by kernel_rfl
theorem zoF5 : ZeroOk Tryd.prog 5 .u8 := ⟨⟨_, _, rfl, rfl, by kernel_rfl⟩⟩
theorem tyF6 : tyOf Tryd.prog 8 6 = some .u8 := by kernel_rfl
theorem ldF6 : ldInfo Tryd.prog 6 = some (false, 1) := by kernel_rfl
theorem zoF6 : ZeroOk Tryd.prog 6 .u8 := ⟨⟨_, _, rfl, rfl, by kernel_rfl⟩⟩
theorem tyF7 : tyOf Tryd.prog 8 7 = some (.cons (.int .i64) (.cons (.int .i64) (.cons .bool (.cons .u8 .nil)))) := by kernel_rfl
theorem ldF7 : ldInfo Tryd.prog 7 = some (true, 4) := by kernel_rfl
theorem zoF7 : ZeroOk Tryd.prog 7 (.cons (.int .i64) (.cons (.int .i64) (.cons .bool (.cons .u8 .nil)))) := ⟨⟨_, _, rfl, rfl, by kernel_rfl⟩⟩
theorem fdF7x0 : fdInfo Tryd.prog 7 0 = some (0, 2) := by kernel_rfl
theorem fdF7x1 : fdInfo Tryd.prog 7 1 = some (1, 3) := by kernel_rfl
theorem fdF7x2 : fdInfo Tryd.prog 7 2 = some (2, 4) := by kernel_rfl
theorem fdF7x3 : fdInfo Tryd.prog 7 3 = some (3, 6) := by kernel_rfl
theorem plF7 : plOf Tryd.prog 7 = [(0, 1), (1, 1), (2, 1), (3, 1)] := by kernel_rfl
theorem soF7 : StructOk Tryd.prog 7 (.cons (.int .i64) (.cons (.int .i64) (.cons .bool (.cons .u8 .nil)))) [(0, 1), (1, 1), (2, 1), (3, 1)] := ⟨⟨Tryd.prog.fieldsOf 7, _, _, by kernel_rfl, rfl, rfl, by kernel_rfl, fun w => by kernel_rfl⟩⟩
theorem tyF8 : tyOf Tryd.prog 8 8 = some (.cons (.int .i64) (.cons (.int .i64) (.cons .bool (.cons .u8 .nil)))) := by kernel_rfl
theorem ldF8 : ldInfo Tryd.prog 8 = some (true, 4) := by kernel_rfl
theorem zoF8 : ZeroOk Tryd.prog 8 (.cons (.int .i64) (.cons (.int .i64) (.cons .bool (.cons .u8 .nil)))) := ⟨⟨_, _, rfl, rfl, by kernel_rfl⟩⟩
theorem fdF8x0 : fdInfo Tryd.prog 8 0 = some (0, 2) := by kernel_rfl
theorem fdF8x1 : fdInfo Tryd.prog 8 1 = some (1, 3) := by kernel_rfl
theorem fdF8x2 : fdInfo Tryd.prog 8 2 = some (2, 4) := by kernel_rfl
theorem fdF8x3 : fdInfo Tryd.prog 8 3 = some (3, 6) := by kernel_rfl
theorem plF8 : plOf Tryd.prog 8 = [(0, 1), (1, 1), (2, 1), (3, 1)] := by kernel_rfl
theorem soF8 : StructOk Tryd.prog 8 (.cons (.int .i64) (.cons (.int .i64) (.cons .bool (.cons .u8 .nil)))) [(0, 1), (1, 1), (2, 1), (3, 1)] := ⟨⟨Tryd.prog.fieldsOf 8, _, _, by kernel_rfl, rfl, rfl, by kernel_rfl, fun w => by kernel_rfl⟩⟩
theorem tyF9 : tyOf Tryd.prog 8 9 = some .str := by kernel_rfl
theorem ldF9 : ldInfo Tryd.prog 9 = some (false, 1) := by kernel_rfl
theorem zoF9 : ZeroOk Tryd.prog 9 .str := ⟨⟨_, _, rfl, rfl, by kernel_rfl⟩⟩
theorem tyF10 : tyOf Tryd.prog 8 10 = some .str := by kernel_rfl
theorem ldF10 : ldInfo Tryd.prog 10 = some (false, 1) := by kernel_rfl
theorem zoF10 : ZeroOk Tryd.prog 10 .str := ⟨⟨_, _, rfl, rfl, by kernel_rfl⟩⟩
theorem tyF11 : tyOf Tryd.prog 8 11 = some .str := by kernel_rfl
theorem ldF11 : ldInfo Tryd.prog 11 = some (false, 1) := by kernel_rfl
theorem zoF11 : ZeroOk Tryd.prog 11 .str := ⟨⟨_, _, rfl, rfl, by kernel_rfl⟩⟩
theorem tyF12 : tyOf Tryd.prog 8 12 = some (.int .u64) := by kernel_rfl
theorem ldF12 : ldInfo Tryd.prog 12 = some (false, 1) := by kernel_rfl
theorem zoF12 : ZeroOk Tryd.prog 12 (.int .u64) := ⟨⟨_, _, rfl, rfl, by kernel_rfl⟩⟩
theorem tyF13 : tyOf Tryd.prog 8 13 = some (.cons .str (.cons (.int .u64) .nil)) := by kernel_rfl
theorem ldF13 : ldInfo Tryd.prog 13 = some (true, 2) := by kernel_rfl
theorem zoF13 : ZeroOk Tryd.prog 13 (.cons .str (.cons (.int .u64) .nil)) := ⟨⟨_, _, rfl, rfl, by kernel_rfl⟩⟩
theorem fdF13x0 : fdInfo Tryd.prog 13 0 = some (0, 9) := by kernel_rfl
theorem fdF13x1 : fdInfo Tryd.prog 13 1 = some (1, 12) := by kernel_rfl
theorem plF13 : plOf Tryd.prog 13 = [(0, 1), (1, 1)] := by kernel_rfl
theorem soF13 : StructOk Tryd.prog 13 (.cons .str (.cons (.int .u64) .nil)) [(0, 1), (1, 1)] := ⟨⟨Tryd.prog.fieldsOf 13, _, _, by kernel_rfl, rfl, rfl, by kernel_rfl, fun w => by kernel_rfl⟩⟩
theorem tyF14 : tyOf Tryd.prog 8 14 = some (.cons .str (.cons (.int .u64) .nil)) := by kernel_rfl
theorem ldF14 : ldInfo Tryd.prog 14 = some (true, 2) := by kernel_rfl
theorem zoF14 : ZeroOk Tryd.prog 14 (.cons .str (.cons (.int .u64) .nil)) := ⟨⟨_, _, rfl, rfl, by kernel_rfl⟩⟩
theorem fdF14x0 : fdInfo Tryd.prog 14 0 = some (0, 9) := by kernel_rfl
theorem fdF14x1 : fdInfo Tryd.prog 14 1 = some (1, 12) := by kernel_rfl
theorem plF14 : plOf Tryd.prog 14 = [(0, 1), (1, 1)] := by kernel_rfl
theorem soF14 : StructOk Tryd.prog 14 (.cons .str (.cons (.int .u64) .nil)) [(0, 1), (1, 1)] := ⟨⟨Tryd.prog.fieldsOf 14, _, _, by kernel_rfl, rfl, rfl, by kernel_rfl, fun w => by kernel_rfl⟩⟩
theorem tyF15 : tyOf Tryd.prog 8 15 = some .ptr := by kernel_rfl
theorem ldF15 : ldInfo Tryd.prog 15 = some (false, 1) := by kernel_rfl
theorem ptF15 : PtrOk Tryd.prog 15 := ⟨⟨76, _, by kernel_rfl, rfl, by decide +kernel⟩⟩
theorem zoF15 : ZeroOk Tryd.prog 15 .ptr := ⟨⟨_, _, rfl, rfl, by kernel_rfl⟩⟩
theorem tyF16 : tyOf Tryd.prog 8 16 = some .ptr := by kernel_rfl
theorem ldF16 : ldInfo Tryd.prog 16 = some (false, 1) := by kernel_rfl
theorem zoF16 : ZeroOk Tryd.prog 16 .ptr := ⟨⟨_, _, rfl, rfl, by kernel_rfl⟩⟩
theorem tyF17 : tyOf Tryd.prog 8 17 = some .ptr := by kernel_rfl
theorem ldF17 : ldInfo Tryd.prog 17 = some (false, 1) := by kernel_rfl
theorem ptF17 : PtrOk Tryd.prog 17 := ⟨⟨89, _, by kernel_rfl, rfl, by decide +kernel⟩⟩
theorem zoF17 : ZeroOk Tryd.prog 17 .ptr := ⟨⟨_, _, rfl, rfl, by kernel_rfl⟩⟩
theorem tyF18 : tyOf Tryd.prog 8 18 = some (.cons .ptr .nil) := by kernel_rfl
theorem ldF18 : ldInfo Tryd.prog 18 = some (true, 1) := by kernel_rfl
theorem zoF18 : ZeroOk Tryd.prog 18 (.cons .ptr .nil) := ⟨⟨_, _, rfl, rfl, by kernel_rfl⟩⟩
theorem fdF18x0 : fdInfo Tryd.prog 18 0 = some (0, 17) := by kernel_rfl
theorem plF18 : plOf Tryd.prog 18 = [(0, 1)] := by kernel_rfl
theorem soF18 : StructOk Tryd.prog 18 (.cons .ptr .nil) [(0, 1)] := ⟨⟨Tryd.prog.fieldsOf 18, _, _, by kernel_rfl, rfl, rfl, by kernel_rfl, fun w => by kernel_rfl⟩⟩
theorem tyF19 : tyOf Tryd.prog 8 19 = some (.cons .ptr .nil) := by kernel_rfl
theorem ldF19 : ldInfo Tryd.prog 19 = some (true, 1) := by kernel_rfl
theorem zoF19 : ZeroOk Tryd.prog 19 (.cons .ptr .nil) := ⟨⟨_, _, rfl, rfl, by kernel_rfl⟩⟩
theorem fdF19x0 : fdInfo Tryd.prog 19 0 = some (0, 17) := by kernel_rfl
theorem plF19 : plOf Tryd.prog 19 = [(0, 1)] := by kernel_rfl
theorem soF19 : StructOk Tryd.prog 19 (.cons .ptr .nil) [(0, 1)] := ⟨⟨Tryd.prog.fieldsOf 19, _, _, by kernel_rfl, rfl, rfl, by kernel_rfl, fun w => by kernel_rfl⟩⟩
theorem ldF20 : ldInfo Tryd.prog 20 = some (false, 1) := by kernel_rfl
theorem tyF21 : tyOf Tryd.prog 8 21 = some (.int .i32) := by kernel_rfl
theorem ldF21 : ldInfo Tryd.prog 21 = some (false, 1) := by kernel_rfl
theorem zoF21 : ZeroOk Tryd.prog 21 (.int .i32) := ⟨⟨_, _, rfl, rfl, by kernel_rfl⟩⟩
theorem tyF22 : tyOf Tryd.prog 8 22 = some (.sl .u8) := by kernel_rfl
theorem ldF22 : ldInfo Tryd.prog 22 = some (false, 1) := by kernel_rfl
theorem zoF22 : ZeroOk Tryd.prog 22 (.sl .u8) := ⟨⟨_, _, rfl, rfl, by kernel_rfl⟩⟩
theorem elF22 : elemOk Tryd.prog 22 .u8 := ⟨5, _, by kernel_rfl, rfl, by kernel_rfl⟩
theorem etF22 : elTy Tryd.prog 22 = 5 := by kernel_rfl
theorem ebF22 : elBytes Tryd.prog 22 = 1 := by kernel_rfl
theorem mdF22 : MadeOk Tryd.prog 22 .u8 := ⟨⟨5, _, _, _, by kernel_rfl, rfl, rfl, by kernel_rfl, fun w S => by simp only [RepD]; rfl⟩⟩
theorem apF22 : AppE Tryd.prog 22 .u8 := ⟨⟨5, _, _, by kernel_rfl, rfl, by kernel_rfl, by kernel_rfl, rfl, by kernel_rfl⟩⟩
theorem ldF23 : ldInfo Tryd.prog 23 = some (false, 1) := by kernel_rfl
theorem tyF24 : tyOf Tryd.prog 8 24 = some (.sl (.cons .u8 (.cons (.int .i64) (.cons .bool (.cons .bool .nil))))) := by kernel_rfl
theorem ldF24 : ldInfo Tryd.prog 24 = some (false, 1) := by kernel_rfl
theorem zoF24 : ZeroOk Tryd.prog 24 (.sl (.cons .u8 (.cons (.int .i64) (.cons .bool (.cons .bool .nil))))) := ⟨⟨_, _, rfl, rfl, by kernel_rfl⟩⟩
theorem elF24 : elemOk Tryd.prog 24 (.cons .u8 (.cons (.int .i64) (.cons .bool (.cons .bool .nil)))) := ⟨29, _, by kernel_rfl, rfl, by kernel_rfl⟩
theorem etF24 : elTy Tryd.prog 24 = 29 := by kernel_rfl
theorem ebF24 : elBytes Tryd.prog 24 = 24 := by kernel_rfl
theorem apF24 : AppE Tryd.prog 24 (.cons .u8 (.cons (.int .i64) (.cons .bool (.cons .bool .nil)))) := ⟨⟨29, _, _, by kernel_rfl, rfl, by kernel_rfl, by kernel_rfl, rfl, by kernel_rfl⟩⟩
theorem ldF25 : ldInfo Tryd.prog 25 = some (false, 1) := by kernel_rfl
theorem tyF26 : tyOf Tryd.prog 8 26 = some (.sl .str) := by kernel_rfl
theorem ldF26 : ldInfo Tryd.prog 26 = some (false, 1) := by kernel_rfl
theorem zoF26 : ZeroOk Tryd.prog 26 (.sl .str) := ⟨⟨_, _, rfl, rfl, by kernel_rfl⟩⟩
theorem elF26 : elemOk Tryd.prog 26 .str := ⟨9, _, by kernel_rfl, rfl, by kernel_rfl⟩
theorem etF26 : elTy Tryd.prog 26 = 9 := by kernel_rfl
theorem ebF26 : elBytes Tryd.prog 26 = 16 := by kernel_rfl
theorem mdF26 : MadeOk Tryd.prog 26 .str := ⟨⟨9, _, _, _, by kernel_rfl, rfl, rfl, by kernel_rfl, fun w S => by simp only [RepD]; rfl⟩⟩
theorem apF26 : AppE Tryd.prog 26 .str := ⟨⟨9, _, _, by kernel_rfl, rfl, by kernel_rfl, by kernel_rfl, rfl, by kernel_rfl⟩⟩
theorem ldF27 : ldInfo Tryd.prog 27 = some (false, 1) := by kernel_rfl
theorem tyF28 : tyOf Tryd.prog 8 28 = some (.cons .u8 (.cons (.int .i64) (.cons .bool (.cons .bool .nil)))) := by kernel_rfl
theorem ldF28 : ldInfo Tryd.prog 28 = some (true, 4) := by kernel_rfl
theorem zoF28 : ZeroOk Tryd.prog 28 (.cons .u8 (.cons (.int .i64) (.cons .bool (.cons .bool .nil)))) := ⟨⟨_, _, rfl, rfl, by kernel_rfl⟩⟩
theorem fdF28x0 : fdInfo Tryd.prog 28 0 = some (0, 5) := by kernel_rfl
theorem fdF28x1 : fdInfo Tryd.prog 28 1 = some (1, 3) := by kernel_rfl
theorem fdF28x2 : fdInfo Tryd.prog 28 2 = some (2, 4) := by kernel_rfl
theorem fdF28x3 : fdInfo Tryd.prog 28 3 = some (3, 4) := by kernel_rfl
theorem plF28 : plOf Tryd.prog 28 = [(0, 1), (1, 1), (2, 1), (3, 1)] := by kernel_rfl
theorem soF28 : StructOk Tryd.prog 28 (.cons .u8 (.cons (.int .i64) (.cons .bool (.cons .bool .nil)))) [(0, 1), (1, 1), (2, 1), (3, 1)] := ⟨⟨Tryd.prog.fieldsOf 28, _, _, by kernel_rfl, rfl, rfl, by kernel_rfl, fun w => by kernel_rfl⟩⟩
theorem tyF29 : tyOf Tryd.prog 8 29 = some (.cons .u8 (.cons (.int .i64) (.cons .bool (.cons .bool .nil)))) := by kernel_rfl
theorem ldF29 : ldInfo Tryd.prog 29 = some (true, 4) := by kernel_rfl
theorem zoF29 : ZeroOk Tryd.prog 29 (.cons .u8 (.cons (.int .i64) (.cons .bool (.cons .bool .nil)))) := ⟨⟨_, _, rfl, rfl, by kernel_rfl⟩⟩
theorem fdF29x0 : fdInfo Tryd.prog 29 0 = some (0, 5) := by kernel_rfl
theorem fdF29x1 : fdInfo Tryd.prog 29 1 = some (1, 3) := by kernel_rfl
theorem fdF29x2 : fdInfo Tryd.prog 29 2 = some (2, 4) := by kernel_rfl
theorem fdF29x3 : fdInfo Tryd.prog 29 3 = some (3, 4) := by kernel_rfl
theorem plF29 : plOf Tryd.prog 29 = [(0, 1), (1, 1), (2, 1), (3, 1)] := by kernel_rfl
theorem eqF29 : EqOk Tryd.prog 29 [.u8, (.int .i64), .bool, .bool] := ⟨⟨Tryd.prog.fieldsOf 29, by kernel_rfl, by kernel_rfl, by kernel_rfl, by kernel_rfl⟩⟩
theorem soF29 : StructOk Tryd.prog 29 (.cons .u8 (.cons (.int .i64) (.cons .bool (.cons .bool .nil)))) [(0, 1), (1, 1), (2, 1), (3, 1)] := ⟨⟨Tryd.prog.fieldsOf 29, _, _, by kernel_rfl, rfl, rfl, by kernel_rfl, fun w => by kernel_rfl⟩⟩
theorem ldF30 : ldInfo Tryd.prog 30 = some (false, 1) := by kernel_rfl
theorem tyF31 : tyOf Tryd.prog 8 31 = some (.sl (.int .i64)) := by kernel_rfl
theorem ldF31 : ldInfo Tryd.prog 31 = some (false, 1) := by kernel_rfl
theorem zoF31 : ZeroOk Tryd.prog 31 (.sl (.int .i64)) := ⟨⟨_, _, rfl, rfl, by kernel_rfl⟩⟩
theorem elF31 : elemOk Tryd.prog 31 (.int .i64) := ⟨3, _, by kernel_rfl, rfl, by kernel_rfl⟩
theorem etF31 : elTy Tryd.prog 31 = 3 := by kernel_rfl
theorem ebF31 : elBytes Tryd.prog 31 = 8 := by kernel_rfl
theorem mdF31 : MadeOk Tryd.prog 31 (.int .i64) := ⟨⟨3, _, _, _, by kernel_rfl, rfl, rfl, by kernel_rfl, fun w S => by simp only [RepD]; rfl⟩⟩
theorem apF31 : AppE Tryd.prog 31 (.int .i64) := ⟨⟨3, _, _, by kernel_rfl, rfl, by kernel_rfl, by kernel_rfl, rfl, by kernel_rfl⟩⟩
theorem tyF32 : tyOf Tryd.prog 8 32 = some .ptr := by kernel_rfl
theorem ldF32 : ldInfo Tryd.prog 32 = some (false, 1) := by kernel_rfl
theorem ptF32 : PtrOk Tryd.prog 32 := ⟨⟨34, _, by kernel_rfl, rfl, by decide +kernel⟩⟩
theorem zoF32 : ZeroOk Tryd.prog 32 .ptr := ⟨⟨_, _, rfl, rfl, by kernel_rfl⟩⟩
theorem tyF33 : tyOf Tryd.prog 8 33 = some (.cons (.sl (.int .i64)) (.cons (.int .i64) .nil)) := by kernel_rfl
theorem ldF33 : ldInfo Tryd.prog 33 = some (true, 2) := by kernel_rfl
theorem zoF33 : ZeroOk Tryd.prog 33 (.cons (.sl (.int .i64)) (.cons (.int .i64) .nil)) := ⟨⟨_, _, rfl, rfl, by kernel_rfl⟩⟩
theorem fdF33x0 : fdInfo Tryd.prog 33 0 = some (0, 31) := by kernel_rfl
theorem fdF33x1 : fdInfo Tryd.prog 33 1 = some (1, 3) := by kernel_rfl
theorem plF33 : plOf Tryd.prog 33 = [(0, 1), (1, 1)] := by kernel_rfl
theorem soF33 : StructOk Tryd.prog 33 (.cons (.sl (.int .i64)) (.cons (.int .i64) .nil)) [(0, 1), (1, 1)] := ⟨⟨Tryd.prog.fieldsOf 33, _, _, by kernel_rfl, rfl, rfl, by kernel_rfl, fun w => by kernel_rfl⟩⟩
theorem tyF34 : tyOf Tryd.prog 8 34 = some (.cons (.sl (.int .i64)) (.cons (.int .i64) .nil)) := by kernel_rfl
theorem ldF34 : ldInfo Tryd.prog 34 = some (true, 2) := by kernel_rfl
theorem zoF34 : ZeroOk Tryd.prog 34 (.cons (.sl (.int .i64)) (.cons (.int .i64) .nil)) := ⟨⟨_, _, rfl, rfl, by kernel_rfl⟩⟩
theorem fdF34x0 : fdInfo Tryd.prog 34 0 = some (0, 31) := by kernel_rfl
theorem fdF34x1 : fdInfo Tryd.prog 34 1 = some (1, 3) := by kernel_rfl
theorem plF34 : plOf Tryd.prog 34 = [(0, 1), (1, 1)] := by kernel_rfl
theorem soF34 : StructOk Tryd.prog 34 (.cons (.sl (.int .i64)) (.cons (.int .i64) .nil)) [(0, 1), (1, 1)] := ⟨⟨Tryd.prog.fieldsOf 34, _, _, by kernel_rfl, rfl, rfl, by kernel_rfl, fun w => by kernel_rfl⟩⟩
theorem ldF35 : ldInfo Tryd.prog 35 = some (false, 1) := by kernel_rfl
theorem ldF36 : ldInfo Tryd.prog 36 = some (false, 1) := by kernel_rfl
theorem tyF37 : tyOf Tryd.prog 8 37 = some (.sl (.cons (.int .i64) (.cons (.int .i64) (.cons (.int .i64) .nil)))) := by kernel_rfl
theorem ldF37 : ldInfo Tryd.prog 37 = some (false, 1) := by kernel_rfl
theorem zoF37 : ZeroOk Tryd.prog 37 (.sl (.cons (.int .i64) (.cons (.int .i64) (.cons (.int .i64) .nil)))) := ⟨⟨_, _, rfl, rfl, by kernel_rfl⟩⟩
theorem elF37 : elemOk Tryd.prog 37 (.cons (.int .i64) (.cons (.int .i64) (.cons (.int .i64) .nil))) := ⟨41, _, by kernel_rfl, rfl, by kernel_rfl⟩
theorem etF37 : elTy Tryd.prog 37 = 41 := by kernel_rfl
theorem ebF37 : elBytes Tryd.prog 37 = 24 := by kernel_rfl
theorem apF37 : AppE Tryd.prog 37 (.cons (.int .i64) (.cons (.int .i64) (.cons (.int .i64) .nil))) := ⟨⟨41, _, _, by kernel_rfl, rfl, by kernel_rfl, by kernel_rfl, rfl, by kernel_rfl⟩⟩
theorem ldF38 : ldInfo Tryd.prog 38 = some (false, 1) := by kernel_rfl
theorem ldF39 : ldInfo Tryd.prog 39 = some (true, 32) := by kernel_rfl
theorem arF39 : arrOf Tryd.prog 39 = some (32, 3) := by kernel_rfl
theorem atF39 : tyOf Tryd.prog 8 39 = none := by kernel_rfl
theorem aoF39 : ArrOk Tryd.prog 39 3 32 (.int .i64) := ⟨⟨_, _, _, rfl, rfl, by kernel_rfl, fun w S => by simp only [RepD]; rfl⟩⟩
theorem esF39 : ElSz Tryd.prog 3 (.int .i64) := ⟨⟨_, rfl, by kernel_rfl⟩⟩
theorem tyF40 : tyOf Tryd.prog 8 40 = some (.cons (.int .i64) (.cons (.int .i64) (.cons (.int .i64) .nil))) := by kernel_rfl
theorem ldF40 : ldInfo Tryd.prog 40 = some (true, 3) := by kernel_rfl
theorem zoF40 : ZeroOk Tryd.prog 40 (.cons (.int .i64) (.cons (.int .i64) (.cons (.int .i64) .nil))) := ⟨⟨_, _, rfl, rfl, by kernel_rfl⟩⟩
theorem fdF40x0 : fdInfo Tryd.prog 40 0 = some (0, 3) := by kernel_rfl
theorem fdF40x1 : fdInfo Tryd.prog 40 1 = some (1, 3) := by kernel_rfl
theorem fdF40x2 : fdInfo Tryd.prog 40 2 = some (2, 3) := by kernel_rfl
theorem plF40 : plOf Tryd.prog 40 = [(0, 1), (1, 1), (2, 1)] := by kernel_rfl
theorem soF40 : StructOk Tryd.prog 40 (.cons (.int .i64) (.cons (.int .i64) (.cons (.int .i64) .nil))) [(0, 1), (1, 1), (2, 1)] := ⟨⟨Tryd.prog.fieldsOf 40, _, _, by kernel_rfl, rfl, rfl, by kernel_rfl, fun w => by kernel_rfl⟩⟩
theorem tyF41 : tyOf Tryd.prog 8 41 = some (.cons (.int .i64) (.cons (.int .i64) (.cons (.int .i64) .nil))) := by kernel_rfl
theorem ldF41 : ldInfo Tryd.prog 41 = some (true, 3) := by kernel_rfl
theorem zoF41 : ZeroOk Tryd.prog 41 (.cons (.int .i64) (.cons (.int .i64) (.cons (.int .i64) .nil))) := ⟨⟨_, _, rfl, rfl, by kernel_rfl⟩⟩
theorem fdF41x0 : fdInfo Tryd.prog 41 0 = some (0, 3) := by kernel_rfl
theorem fdF41x1 : fdInfo Tryd.prog 41 1 = some (1, 3) := by kernel_rfl
theorem fdF41x2 : fdInfo Tryd.prog 41 2 = some (2, 3) := by kernel_rfl
theorem plF41 : plOf Tryd.prog 41 = [(0, 1), (1, 1), (2, 1)] := by kernel_rfl
theorem eqF41 : EqOk Tryd.prog 41 [(.int .i64), (.int .i64), (.int .i64)] := ⟨⟨Tryd.prog.fieldsOf 41, by kernel_rfl, by kernel_rfl, by kernel_rfl, by kernel_rfl⟩⟩
theorem soF41 : StructOk Tryd.prog 41 (.cons (.int .i64) (.cons (.int .i64) (.cons (.int .i64) .nil))) [(0, 1), (1, 1), (2, 1)] := ⟨⟨Tryd.prog.fieldsOf 41, _, _, by kernel_rfl, rfl, rfl, by kernel_rfl, fun w => by kernel_rfl⟩⟩
theorem ldF42 : ldInfo Tryd.prog 42 = some (false, 1) := by kernel_rfl
theorem ldF44 : ldInfo Tryd.prog 44 = some (false, 1) := by kernel_rfl
theorem ldF45 : ldInfo Tryd.prog 45 = some (false, 1) := by kernel_rfl
theorem tyF46 : tyOf Tryd.prog 8 46 = some (.sl (.cons .u8 (.cons (.int .i64) (.cons .bool (.cons .bool .nil))))) := by kernel_rfl
theorem ldF46 : ldInfo Tryd.prog 46 = some (false, 1) := by kernel_rfl
theorem zoF46 : ZeroOk Tryd.prog 46 (.sl (.cons .u8 (.cons (.int .i64) (.cons .bool (.cons .bool .nil))))) := ⟨⟨_, _, rfl, rfl, by kernel_rfl⟩⟩
theorem elF46 : elemOk Tryd.prog 46 (.cons .u8 (.cons (.int .i64) (.cons .bool (.cons .bool .nil)))) := ⟨47, _, by kernel_rfl, rfl, by kernel_rfl⟩
theorem etF46 : elTy Tryd.prog 46 = 47 := by kernel_rfl
theorem ebF46 : elBytes Tryd.prog 46 = 24 := by kernel_rfl
theorem apF46 : AppE Tryd.prog 46 (.cons .u8 (.cons (.int .i64) (.cons .bool (.cons .bool .nil)))) := ⟨⟨47, _, _, by kernel_rfl, rfl, by kernel_rfl, by kernel_rfl, rfl, by kernel_rfl⟩⟩
theorem tyF47 : tyOf Tryd.prog 8 47 = some (.cons .u8 (.cons (.int .i64) (.cons .bool (.cons .bool .nil)))) := by kernel_rfl
theorem ldF47 : ldInfo Tryd.prog 47 = some (true, 4) := by kernel_rfl
theorem zoF47 : ZeroOk Tryd.prog 47 (.cons .u8 (.cons (.int .i64) (.cons .bool (.cons .bool .nil)))) := ⟨⟨_, _, rfl, rfl, by kernel_rfl⟩⟩
theorem fdF47x0 : fdInfo Tryd.prog 47 0 = some (0, 5) := by kernel_rfl
theorem fdF47x1 : fdInfo Tryd.prog 47 1 = some (1, 3) := by kernel_rfl
theorem fdF47x2 : fdInfo Tryd.prog 47 2 = some (2, 4) := by kernel_rfl
theorem fdF47x3 : fdInfo Tryd.prog 47 3 = some (3, 4) := by kernel_rfl
theorem plF47 : plOf Tryd.prog 47 = [(0, 1), (1, 1), (2, 1), (3, 1)] := by kernel_rfl
theorem eqF47 : EqOk Tryd.prog 47 [.u8, (.int .i64), .bool, .bool] := ⟨⟨Tryd.prog.fieldsOf 47, by kernel_rfl, by kernel_rfl, by kernel_rfl, by kernel_rfl⟩⟩
theorem soF47 : StructOk Tryd.prog 47 (.cons .u8 (.cons (.int .i64) (.cons .bool (.cons .bool .nil)))) [(0, 1), (1, 1), (2, 1), (3, 1)] := ⟨⟨Tryd.prog.fieldsOf 47, _, _, by kernel_rfl, rfl, rfl, by kernel_rfl, fun w => by kernel_rfl⟩⟩
theorem tyF48 : tyOf Tryd.prog 8 48 = some (.sl (.cons (.int .i64) (.cons (.int .i64) (.cons (.int .i64) .nil)))) := by kernel_rfl
theorem ldF48 : ldInfo Tryd.prog 48 = some (false, 1) := by kernel_rfl
theorem zoF48 : ZeroOk Tryd.prog 48 (.sl (.cons (.int .i64) (.cons (.int .i64) (.cons (.int .i64) .nil)))) := ⟨⟨_, _, rfl, rfl, by kernel_rfl⟩⟩
theorem elF48 : elemOk Tryd.prog 48 (.cons (.int .i64) (.cons (.int .i64) (.cons (.int .i64) .nil))) := ⟨50, _, by kernel_rfl, rfl, by kernel_rfl⟩
theorem etF48 : elTy Tryd.prog 48 = 50 := by kernel_rfl
theorem ebF48 : elBytes Tryd.prog 48 = 24 := by kernel_rfl
theorem apF48 : AppE Tryd.prog 48 (.cons (.int .i64) (.cons (.int .i64) (.cons (.int .i64) .nil))) := ⟨⟨50, _, _, by kernel_rfl, rfl, by kernel_rfl, by kernel_rfl, rfl, by kernel_rfl⟩⟩
theorem ldF49 : ldInfo Tryd.prog 49 = some (false, 1) := by kernel_rfl
theorem tyF50 : tyOf Tryd.prog 8 50 = some (.cons (.int .i64) (.cons (.int .i64) (.cons (.int .i64) .nil))) := by kernel_rfl
theorem ldF50 : ldInfo Tryd.prog 50 = some (true, 3) := by kernel_rfl
theorem zoF50 : ZeroOk Tryd.prog 50 (.cons (.int .i64) (.cons (.int .i64) (.cons (.int .i64) .nil))) := ⟨⟨_, _, rfl, rfl, by kernel_rfl⟩⟩
theorem fdF50x0 : fdInfo Tryd.prog 50 0 = some (0, 3) := by kernel_rfl
theorem fdF50x1 : fdInfo Tryd.prog 50 1 = some (1, 3) := by kernel_rfl
theorem fdF50x2 : fdInfo Tryd.prog 50 2 = some (2, 3) := by kernel_rfl
theorem plF50 : plOf Tryd.prog 50 = [(0, 1), (1, 1), (2, 1)] := by kernel_rfl
theorem eqF50 : EqOk Tryd.prog 50 [(.int .i64), (.int .i64), (.int .i64)] := ⟨⟨Tryd.prog.fieldsOf 50, by kernel_rfl, by kernel_rfl, by kernel_rfl, by kernel_rfl⟩⟩
theorem soF50 : StructOk Tryd.prog 50 (.cons (.int .i64) (.cons (.int .i64) (.cons (.int .i64) .nil))) [(0, 1), (1, 1), (2, 1)] := ⟨⟨Tryd.prog.fieldsOf 50, _, _, by kernel_rfl, rfl, rfl, by kernel_rfl, fun w => by kernel_rfl⟩⟩
theorem tyF51 : tyOf Tryd.prog 8 51 = some (.int .u64) := by kernel_rfl
theorem ldF51 : ldInfo Tryd.prog 51 = some (false, 1) := by kernel_rfl
theorem zoF51 : ZeroOk Tryd.prog 51 (.int .u64) := ⟨⟨_, _, rfl, rfl, by kernel_rfl⟩⟩
theorem ldF53 : ldInfo Tryd.prog 53 = some (false, 1) := by kernel_rfl
theorem ldF54 : ldInfo Tryd.prog 54 = some (false, 1) := by kernel_rfl
theorem ldF55 : ldInfo Tryd.prog 55 = some (false, 1) := by kernel_rfl
theorem ldF56 : ldInfo Tryd.prog 56 = some (false, 1) := by kernel_rfl
theorem ldF57 : ldInfo Tryd.prog 57 = some (false, 1) := by kernel_rfl
theorem ldF58 : ldInfo Tryd.prog 58 = some (false, 1) := by kernel_rfl
theorem ldF59 : ldInfo Tryd.prog 59 = some (false, 1) := by kernel_rfl
theorem ldF60 : ldInfo Tryd.prog 60 = some (false, 1) := by kernel_rfl
theorem ldF62 : ldInfo Tryd.prog 62 = some (false, 1) := by kernel_rfl
theorem ldF63 : ldInfo Tryd.prog 63 = some (false, 1) := by kernel_rfl
theorem ldF64 : ldInfo Tryd.prog 64 = some (false, 1) := by kernel_rfl
theorem ldF65 : ldInfo Tryd.prog 65 = some (false, 1) := by kernel_rfl
theorem ldF67 : ldInfo Tryd.prog 67 = some (false, 1) := by kernel_rfl
theorem ldF68 : ldInfo Tryd.prog 68 = some (false, 1) := by kernel_rfl
theorem ldF69 : ldInfo Tryd.prog 69 = some (false, 1) := by kernel_rfl
theorem ldF70 : ldInfo Tryd.prog 70 = some (false, 1) := by kernel_rfl
theorem ldF71 : ldInfo Tryd.prog 71 = some (true, 256) := by kernel_rfl
theorem tyF72 : tyOf Tryd.prog 8 72 = some (.cons .u8 (.cons .u8 .nil)) := by kernel_rfl
theorem ldF72 : ldInfo Tryd.prog 72 = some (true, 2) := by kernel_rfl
theorem zoF72 : ZeroOk Tryd.prog 72 (.cons .u8 (.cons .u8 .nil)) := ⟨⟨_, _, rfl, rfl, by kernel_rfl⟩⟩
theorem fdF72x0 : fdInfo Tryd.prog 72 0 = some (0, 5) := by kernel_rfl
theorem fdF72x1 : fdInfo Tryd.prog 72 1 = some (1, 5) := by kernel_rfl
theorem plF72 : plOf Tryd.prog 72 = [(0, 1), (1, 1)] := by kernel_rfl
theorem soF72 : StructOk Tryd.prog 72 (.cons .u8 (.cons .u8 .nil)) [(0, 1), (1, 1)] := ⟨⟨Tryd.prog.fieldsOf 72, _, _, by kernel_rfl, rfl, rfl, by kernel_rfl, fun w => by kernel_rfl⟩⟩
theorem tyF73 : tyOf Tryd.prog 8 73 = some (.cons .u8 (.cons .u8 .nil)) := by kernel_rfl
theorem ldF73 : ldInfo Tryd.prog 73 = some (true, 2) := by kernel_rfl
theorem zoF73 : ZeroOk Tryd.prog 73 (.cons .u8 (.cons .u8 .nil)) := ⟨⟨_, _, rfl, rfl, by kernel_rfl⟩⟩
theorem fdF73x0 : fdInfo Tryd.prog 73 0 = some (0, 5) := by kernel_rfl
theorem fdF73x1 : fdInfo Tryd.prog 73 1 = some (1, 5) := by kernel_rfl
theorem plF73 : plOf Tryd.prog 73 = [(0, 1), (1, 1)] := by kernel_rfl
theorem soF73 : StructOk Tryd.prog 73 (.cons .u8 (.cons .u8 .nil)) [(0, 1), (1, 1)] := ⟨⟨Tryd.prog.fieldsOf 73, _, _, by kernel_rfl, rfl, rfl, by kernel_rfl, fun w => by kernel_rfl⟩⟩
theorem ldF74 : ldInfo Tryd.prog 74 = some (true, 32) := by kernel_rfl
theorem tyF75 : tyOf Tryd.prog 8 75 = some (.cons .ptr (.cons .ptr (.cons .ptr (.cons .str .nil)))) := by kernel_rfl
theorem ldF75 : ldInfo Tryd.prog 75 = some (true, 4) := by kernel_rfl
theorem zoF75 : ZeroOk Tryd.prog 75 (.cons .ptr (.cons .ptr (.cons .ptr (.cons .str .nil)))) := ⟨⟨_, _, rfl, rfl, by kernel_rfl⟩⟩
theorem fdF75x0 : fdInfo Tryd.prog 75 0 = some (0, 17) := by kernel_rfl
theorem fdF75x1 : fdInfo Tryd.prog 75 1 = some (1, 17) := by kernel_rfl
theorem fdF75x2 : fdInfo Tryd.prog 75 2 = some (2, 17) := by kernel_rfl
theorem fdF75x3 : fdInfo Tryd.prog 75 3 = some (3, 9) := by kernel_rfl
theorem plF75 : plOf Tryd.prog 75 = [(0, 1), (1, 1), (2, 1), (3, 1)] := by kernel_rfl
theorem soF75 : StructOk Tryd.prog 75 (.cons .ptr (.cons .ptr (.cons .ptr (.cons .str .nil)))) [(0, 1), (1, 1), (2, 1), (3, 1)] := ⟨⟨Tryd.prog.fieldsOf 75, _, _, by kernel_rfl, rfl, rfl, by kernel_rfl, fun w => by kernel_rfl⟩⟩
theorem tyF76 : tyOf Tryd.prog 8 76 = some (.cons .ptr (.cons .ptr (.cons .ptr (.cons .str .nil)))) := by kernel_rfl
theorem ldF76 : ldInfo Tryd.prog 76 = some (true, 4) := by kernel_rfl
theorem zoF76 : ZeroOk Tryd.prog 76 (.cons .ptr (.cons .ptr (.cons .ptr (.cons .str .nil)))) := ⟨⟨_, _, rfl, rfl, by kernel_rfl⟩⟩
theorem fdF76x0 : fdInfo Tryd.prog 76 0 = some (0, 17) := by kernel_rfl
theorem fdF76x1 : fdInfo Tryd.prog 76 1 = some (1, 17) := by kernel_rfl
theorem fdF76x2 : fdInfo Tryd.prog 76 2 = some (2, 17) := by kernel_rfl
theorem fdF76x3 : fdInfo Tryd.prog 76 3 = some (3, 9) := by kernel_rfl
theorem plF76 : plOf Tryd.prog 76 = [(0, 1), (1, 1), (2, 1), (3, 1)] := by kernel_rfl
theorem soF76 : StructOk Tryd.prog 76 (.cons .ptr (.cons .ptr (.cons .ptr (.cons .str .nil)))) [(0, 1), (1, 1), (2, 1), (3, 1)] := ⟨⟨Tryd.prog.fieldsOf 76, _, _, by kernel_rfl, rfl, rfl, by kernel_rfl, fun w => by kernel_rfl⟩⟩
theorem ldF77 : ldInfo Tryd.prog 77 = some (true, 0) := by kernel_rfl
theorem ldF78 : ldInfo Tryd.prog 78 = some (true, 0) := by kernel_rfl
theorem ldF79 : ldInfo Tryd.prog 79 = some (true, 0) := by kernel_rfl
theorem ldF80 : ldInfo Tryd.prog 80 = some (false, 1) := by kernel_rfl
theorem tyF81 : tyOf Tryd.prog 8 81 = some (.int .u32) := by kernel_rfl
theorem ldF81 : ldInfo Tryd.prog 81 = some (false, 1) := by kernel_rfl
theorem zoF81 : ZeroOk Tryd.prog 81 (.int .u32) := ⟨⟨_, _, rfl, rfl, by kernel_rfl⟩⟩
theorem tyF82 : tyOf Tryd.prog 8 82 = some .u8 := by kernel_rfl
theorem ldF82 : ldInfo Tryd.prog 82 = some (false, 1) := by kernel_rfl
theorem zoF82 : ZeroOk Tryd.prog 82 .u8 := ⟨⟨_, _, rfl, rfl, by kernel_rfl⟩⟩
theorem tyF83 : tyOf Tryd.prog 8 83 = some .u8 := by kernel_rfl
theorem ldF83 : ldInfo Tryd.prog 83 = some (false, 1) := by kernel_rfl
theorem zoF83 : ZeroOk Tryd.prog 83 .u8 := ⟨⟨_, _, rfl, rfl, by kernel_rfl⟩⟩
theorem ldF84 : ldInfo Tryd.prog 84 = some (false, 1) := by kernel_rfl
theorem tyF85 : tyOf Tryd.prog 8 85 = some .ptr := by kernel_rfl
theorem ldF85 : ldInfo Tryd.prog 85 = some (false, 1) := by kernel_rfl
theorem ptF85 : PtrOk Tryd.prog 85 := ⟨⟨5, _, by kernel_rfl, rfl, by decide +kernel⟩⟩
theorem zoF85 : ZeroOk Tryd.prog 85 .ptr := ⟨⟨_, _, rfl, rfl, by kernel_rfl⟩⟩
theorem tyF86 : tyOf Tryd.prog 8 86 = some (.int .i32) := by kernel_rfl
theorem ldF86 : ldInfo Tryd.prog 86 = some (false, 1) := by kernel_rfl
theorem zoF86 : ZeroOk Tryd.prog 86 (.int .i32) := ⟨⟨_, _, rfl, rfl, by kernel_rfl⟩⟩
theorem tyF87 : tyOf Tryd.prog 8 87 = some (.int .i32) := by kernel_rfl
theorem ldF87 : ldInfo Tryd.prog 87 = some (false, 1) := by kernel_rfl
theorem zoF87 : ZeroOk Tryd.prog 87 (.int .i32) := ⟨⟨_, _, rfl, rfl, by kernel_rfl⟩⟩
theorem ldF88 : ldInfo Tryd.prog 88 = some (true, 11) := by kernel_rfl
theorem fdF88x0 : fdInfo Tryd.prog 88 0 = some (0, 12) := by kernel_rfl
theorem fdF88x1 : fdInfo Tryd.prog 88 1 = some (1, 12) := by kernel_rfl
theorem fdF88x2 : fdInfo Tryd.prog 88 2 = some (2, 81) := by kernel_rfl
theorem fdF88x3 : fdInfo Tryd.prog 88 3 = some (3, 82) := by kernel_rfl
theorem fdF88x4 : fdInfo Tryd.prog 88 4 = some (4, 5) := by kernel_rfl
theorem fdF88x5 : fdInfo Tryd.prog 88 5 = some (5, 5) := by kernel_rfl
theorem fdF88x6 : fdInfo Tryd.prog 88 6 = some (6, 83) := by kernel_rfl
theorem fdF88x7 : fdInfo Tryd.prog 88 7 = some (7, 84) := by kernel_rfl
theorem fdF88x8 : fdInfo Tryd.prog 88 8 = some (8, 85) := by kernel_rfl
theorem fdF88x9 : fdInfo Tryd.prog 88 9 = some (9, 86) := by kernel_rfl
theorem fdF88x10 : fdInfo Tryd.prog 88 10 = some (10, 87) := by kernel_rfl
theorem ldF89 : ldInfo Tryd.prog 89 = some (true, 11) := by kernel_rfl
theorem fdF89x0 : fdInfo Tryd.prog 89 0 = some (0, 12) := by kernel_rfl
theorem fdF89x1 : fdInfo Tryd.prog 89 1 = some (1, 12) := by kernel_rfl
theorem fdF89x2 : fdInfo Tryd.prog 89 2 = some (2, 81) := by kernel_rfl
theorem fdF89x3 : fdInfo Tryd.prog 89 3 = some (3, 82) := by kernel_rfl
theorem fdF89x4 : fdInfo Tryd.prog 89 4 = some (4, 5) := by kernel_rfl
theorem fdF89x5 : fdInfo Tryd.prog 89 5 = some (5, 5) := by kernel_rfl
theorem fdF89x6 : fdInfo Tryd.prog 89 6 = some (6, 83) := by kernel_rfl
theorem fdF89x7 : fdInfo Tryd.prog 89 7 = some (7, 84) := by kernel_rfl
theorem fdF89x8 : fdInfo Tryd.prog 89 8 = some (8, 85) := by kernel_rfl
theorem fdF89x9 : fdInfo Tryd.prog 89 9 = some (9, 86) := by kernel_rfl
theorem fdF89x10 : fdInfo Tryd.prog 89 10 = some (10, 87) := by kernel_rfl
theorem ldF90 : ldInfo Tryd.prog 90 = some (false, 1) := by kernel_rfl
/-- All of them. -/
theorem F : (ldInfo Tryd.prog 1 = some (false, 1)) ∧ (tyOf Tryd.prog 8 2 = some (.int .i64)) ∧ (ldInfo Tryd.prog 2 = some (false, 1)) ∧ (ZeroOk Tryd.prog 2 (.int .i64)) ∧ (tyOf Tryd.prog 8 3 = some (.int .i64)) ∧ (ldInfo Tryd.prog 3 = some (false, 1)) ∧ (ZeroOk Tryd.prog 3 (.int .i64)) ∧ (tyOf Tryd.prog 8 4 = some .bool) ∧ (ldInfo Tryd.prog 4 = some (false, 1)) ∧ (ZeroOk Tryd.prog 4 .bool) ∧ (tyOf Tryd.prog 8 5 = some .u8) ∧ (ldInfo Tryd.prog 5 = some (false, 1)) ∧ (ZeroOk Tryd.prog 5 .u8) ∧ (tyOf Tryd.prog 8 6 = some .u8) ∧ (ldInfo Tryd.prog 6 = some (false, 1)) ∧ (ZeroOk Tryd.prog 6 .u8) ∧ (tyOf Tryd.prog 8 7 = some (.cons (.int .i64) (.cons (.int .i64) (.cons .bool (.cons .u8 .nil))))) ∧ (ldInfo Tryd.prog 7 = some (true, 4)) ∧ (ZeroOk Tryd.prog 7 (.cons (.int .i64) (.cons (.int .i64) (.cons .bool (.cons .u8 .nil))))) ∧ (fdInfo Tryd.prog 7 0 = some (0, 2)) ∧ (fdInfo Tryd.prog 7 1 = some (1, 3)) ∧ (fdInfo Tryd.prog 7 2 = some (2, 4)) ∧ (fdInfo Tryd.prog 7 3 = some (3, 6)) ∧ (plOf Tryd.prog 7 = [(0, 1), (1, 1), (2, 1), (3, 1)]) ∧ (StructOk Tryd.prog 7 (.cons (.int .i64) (.cons (.int .i64) (.cons .bool (.cons .u8 .nil)))) [(0, 1), (1, 1), (2, 1), (3, 1)]) ∧ (tyOf Tryd.prog 8 8 = some (.cons (.int .i64) (.cons (.int .i64) (.cons .bool (.cons .u8 .nil))))) ∧ (ldInfo Tryd.prog 8 = some (true, 4)) ∧ (ZeroOk Tryd.prog 8 (.cons (.int .i64) (.cons (.int .i64) (.cons .bool (.cons .u8 .nil))))) ∧ (fdInfo Tryd.prog 8 0 = some (0, 2)) ∧ (fdInfo Tryd.prog 8 1 = some (1, 3)) ∧ (fdInfo Tryd.prog 8 2 = some (2, 4)) ∧ (fdInfo Tryd.prog 8 3 = some (3, 6)) ∧ (plOf Tryd.prog 8 = [(0, 1), (1, 1), (2, 1), (3, 1)]) ∧ (StructOk Tryd.prog 8 (.cons (.int .i64) (.cons (.int .i64) (.cons .bool (.cons .u8 .nil)))) [(0, 1), (1, 1), (2, 1), (3, 1)]) ∧ (tyOf Tryd.prog 8 9 = some .str) ∧ (ldInfo Tryd.prog 9 = some (false, 1)) ∧ (ZeroOk Tryd.prog 9 .str) ∧ (tyOf Tryd.prog 8 10 = some .str) ∧ (ldInfo Tryd.prog 10 = some (false, 1)) ∧ (ZeroOk Tryd.prog 10 .str) ∧ (tyOf Tryd.prog 8 11 = some .str) ∧ (ldInfo Tryd.prog 11 = some (false, 1)) ∧ (ZeroOk Tryd.prog 11 .str) ∧ (tyOf Tryd.prog 8 12 = some (.int .u64)) ∧ (ldInfo Tryd.prog 12 = some (false, 1)) ∧ (ZeroOk Tryd.prog 12 (.int .u64)) ∧ (tyOf Tryd.prog 8 13 = some (.cons .str (.cons (.int .u64) .nil))) ∧ (ldInfo Tryd.prog 13 = some (true, 2)) ∧ (ZeroOk Tryd.prog 13 (.cons .str (.cons (.int .u64) .nil))) ∧ (fdInfo Tryd.prog 13 0 = some (0, 9)) ∧ (fdInfo Tryd.prog 13 1 = some (1, 12)) ∧ (plOf Tryd.prog 13 = [(0, 1), (1, 1)]) ∧ (StructOk Tryd.prog 13 (.cons .str (.cons (.int .u64) .nil)) [(0, 1), (1, 1)]) ∧ (tyOf Tryd.prog 8 14 = some (.cons .str (.cons (.int .u64) .nil))) ∧ (ldInfo Tryd.prog 14 = some (true, 2)) ∧ (ZeroOk Tryd.prog 14 (.cons .str (.cons (.int .u64) .nil))) ∧ (fdInfo Tryd.prog 14 0 = some (0, 9)) ∧ (fdInfo Tryd.prog 14 1 = some (1, 12)) ∧ (plOf Tryd.prog 14 = [(0, 1), (1, 1)]) ∧ (StructOk Tryd.prog 14 (.cons .str (.cons (.int .u64) .nil)) [(0, 1), (1, 1)]) ∧ (tyOf Tryd.prog 8 15 = some .ptr) ∧ (ldInfo Tryd.prog 15 = some (false, 1)) ∧ (PtrOk Tryd.prog 15) ∧ (ZeroOk Tryd.prog 15 .ptr) ∧ (tyOf Tryd.prog 8 16 = some .ptr) ∧ (ldInfo Tryd.prog 16 = some (false, 1)) ∧ (ZeroOk Tryd.prog 16 .ptr) ∧ (tyOf Tryd.prog 8 17 = some .ptr) ∧ (ldInfo Tryd.prog 17 = some (false, 1)) ∧ (PtrOk Tryd.prog 17) ∧ (ZeroOk Tryd.prog 17 .ptr) ∧ (tyOf Tryd.prog 8 18 = some (.cons .ptr .nil)) ∧ (ldInfo Tryd.prog 18 = some (true, 1)) ∧ (ZeroOk Tryd.prog 18 (.cons .ptr .nil)) ∧ (fdInfo Tryd.prog 18 0 = some (0, 17)) ∧ (plOf Tryd.prog 18 = [(0, 1)]) ∧ (StructOk Tryd.prog 18 (.cons .ptr .nil) [(0, 1)]) ∧ (tyOf Tryd.prog 8 19 = some (.cons .ptr .nil)) ∧ (ldInfo Tryd.prog 19 = some (true, 1)) ∧ (ZeroOk Tryd.prog 19 (.cons .ptr .nil)) ∧ (fdInfo Tryd.prog 19 0 = some (0, 17)) ∧ (plOf Tryd.prog 19 = [(0, 1)]) ∧ (StructOk Tryd.prog 19 (.cons .ptr .nil) [(0, 1)]) ∧ (ldInfo Tryd.prog 20 = some (false, 1)) ∧ (tyOf Tryd.prog 8 21 = some (.int .i32)) ∧ (ldInfo Tryd.prog 21 = some (false, 1)) ∧ (ZeroOk Tryd.prog 21 (.int .i32)) ∧ (tyOf Tryd.prog 8 22 = some (.sl .u8)) ∧ (ldInfo Tryd.prog 22 = some (false, 1)) ∧ (ZeroOk Tryd.prog 22 (.sl .u8)) ∧ (elemOk Tryd.prog 22 .u8) ∧ (elTy Tryd.prog 22 = 5) ∧ (elBytes Tryd.prog 22 = 1) ∧ (MadeOk Tryd.prog 22 .u8) ∧ (AppE Tryd.prog 22 .u8) ∧ (ldInfo Tryd.prog 23 = some (false, 1)) ∧ (tyOf Tryd.prog 8 24 = some (.sl (.cons .u8 (.cons (.int .i64) (.cons .bool (.cons .bool .nil)))))) ∧ (ldInfo Tryd.prog 24 = some (false, 1)) ∧ (ZeroOk Tryd.prog 24 (.sl (.cons .u8 (.cons (.int .i64) (.cons .bool (.cons .bool .nil)))))) ∧ (elemOk Tryd.prog 24 (.cons .u8 (.cons (.int .i64) (.cons .bool (.cons .bool .nil))))) ∧ (elTy Tryd.prog 24 = 29) ∧ (elBytes Tryd.prog 24 = 24) ∧ (AppE Tryd.prog 24 (.cons .u8 (.cons (.int .i64) (.cons .bool (.cons .bool .nil))))) ∧ (ldInfo Tryd.prog 25 = some (false, 1)) ∧ (tyOf Tryd.prog 8 26 = some (.sl .str)) ∧ (ldInfo Tryd.prog 26 = some (false, 1)) ∧ (ZeroOk Tryd.prog 26 (.sl .str)) ∧ (elemOk Tryd.prog 26 .str) ∧ (elTy Tryd.prog 26 = 9) ∧ (elBytes Tryd.prog 26 = 16) ∧ (MadeOk Tryd.prog 26 .str) ∧ (AppE Tryd.prog 26 .str) ∧ (ldInfo Tryd.prog 27 = some (false, 1)) ∧ (tyOf Tryd.prog 8 28 = some (.cons .u8 (.cons (.int .i64) (.cons .bool (.cons .bool .nil))))) ∧ (ldInfo Tryd.prog 28 = some (true, 4)) ∧ (ZeroOk Tryd.prog 28 (.cons .u8 (.cons (.int .i64) (.cons .bool (.cons .bool .nil))))) ∧ (fdInfo Tryd.prog 28 0 = some (0, 5)) ∧ (fdInfo Tryd.prog 28 1 = some (1, 3)) ∧ (fdInfo Tryd.prog 28 2 = some (2, 4)) ∧ (fdInfo Tryd.prog 28 3 = some (3, 4)) ∧ (plOf Tryd.prog 28 = [(0, 1), (1, 1), (2, 1), (3, 1)]) ∧ (StructOk Tryd.prog 28 (.cons .u8 (.cons (.int .i64) (.cons .bool (.cons .bool .nil)))) [(0, 1), (1, 1), (2, 1), (3, 1)]) ∧ (tyOf Tryd.prog 8 29 = some (.cons .u8 (.cons (.int .i64) (.cons .bool (.cons .bool .nil))))) ∧ (ldInfo Tryd.prog 29 = some (true, 4)) ∧ (ZeroOk Tryd.prog 29 (.cons .u8 (.cons (.int .i64) (.cons .bool (.cons .bool .nil))))) ∧ (fdInfo Tryd.prog 29 0 = some (0, 5)) ∧ (fdInfo Tryd.prog 29 1 = some (1, 3)) ∧ (fdInfo Tryd.prog 29 2 = some (2, 4)) ∧ (fdInfo Tryd.prog 29 3 = some (3, 4)) ∧ (plOf Tryd.prog 29 = [(0, 1), (1, 1), (2, 1), (3, 1)]) ∧ (EqOk Tryd.prog 29 [.u8, (.int .i64), .bool, .bool]) ∧ (StructOk Tryd.prog 29 (.cons .u8 (.cons (.int .i64) (.cons .bool (.cons .bool .nil)))) [(0, 1), (1, 1), (2, 1), (3, 1)]) ∧ (ldInfo Tryd.prog 30 = some (false, 1)) ∧ (tyOf Tryd.prog 8 31 = some (.sl (.int .i64))) ∧ (ldInfo Tryd.prog 31 = some (false, 1)) ∧ (ZeroOk Tryd.prog 31 (.sl (.int .i64))) ∧ (elemOk Tryd.prog 31 (.int .i64)) ∧ (elTy Tryd.prog 31 = 3) ∧ (elBytes Tryd.prog 31 = 8) ∧ (MadeOk Tryd.prog 31 (.int .i64)) ∧ (AppE Tryd.prog 31 (.int .i64)) ∧ (tyOf Tryd.prog 8 32 = some .ptr) ∧ (ldInfo Tryd.prog 32 = some (false, 1)) ∧ (PtrOk Tryd.prog 32) ∧ (ZeroOk Tryd.prog 32 .ptr) ∧ (tyOf Tryd.prog 8 33 = some (.cons (.sl (.int .i64)) (.cons (.int .i64) .nil))) ∧ (ldInfo Tryd.prog 33 = some (true, 2)) ∧ (ZeroOk Tryd.prog 33 (.cons (.sl (.int .i64)) (.cons (.int .i64) .nil))) ∧ (fdInfo Tryd.prog 33 0 = some (0, 31)) ∧ (fdInfo Tryd.prog 33 1 = some (1, 3)) ∧ (plOf Tryd.prog 33 = [(0, 1), (1, 1)]) ∧ (StructOk Tryd.prog 33 (.cons (.sl (.int .i64)) (.cons (.int .i64) .nil)) [(0, 1), (1, 1)]) ∧ (tyOf Tryd.prog 8 34 = some (.cons (.sl (.int .i64)) (.cons (.int .i64) .nil))) ∧ (ldInfo Tryd.prog 34 = some (true, 2)) ∧ (ZeroOk Tryd.prog 34 (.cons (.sl (.int .i64)) (.cons (.int .i64) .nil))) ∧ (fdInfo Tryd.prog 34 0 = some (0, 31)) ∧ (fdInfo Tryd.prog 34 1 = some (1, 3)) ∧ (plOf Tryd.prog 34 = [(0, 1), (1, 1)]) ∧ (StructOk Tryd.prog 34 (.cons (.sl (.int .i64)) (.cons (.int .i64) .nil)) [(0, 1), (1, 1)]) ∧ (ldInfo Tryd.prog 35 = some (false, 1)) ∧ (ldInfo Tryd.prog 36 = some (false, 1)) ∧ (tyOf Tryd.prog 8 37 = some (.sl (.cons (.int .i64) (.cons (.int .i64) (.cons (.int .i64) .nil))))) ∧ (ldInfo Tryd.prog 37 = some (false, 1)) ∧ (ZeroOk Tryd.prog 37 (.sl (.cons (.int .i64) (.cons (.int .i64) (.cons (.int .i64) .nil))))) ∧ (elemOk Tryd.prog 37 (.cons (.int .i64) (.cons (.int .i64) (.cons (.int .i64) .nil)))) ∧ (elTy Tryd.prog 37 = 41) ∧ (elBytes Tryd.prog 37 = 24) ∧ (AppE Tryd.prog 37 (.cons (.int .i64) (.cons (.int .i64) (.cons (.int .i64) .nil)))) ∧ (ldInfo Tryd.prog 38 = some (false, 1)) ∧ (ldInfo Tryd.prog 39 = some (true, 32)) ∧ (arrOf Tryd.prog 39 = some (32, 3)) ∧ (tyOf Tryd.prog 8 39 = none) ∧ (ArrOk Tryd.prog 39 3 32 (.int .i64)) ∧ (ElSz Tryd.prog 3 (.int .i64)) ∧ (tyOf Tryd.prog 8 40 = some (.cons (.int .i64) (.cons (.int .i64) (.cons (.int .i64) .nil)))) ∧ (ldInfo Tryd.prog 40 = some (true, 3)) ∧ (ZeroOk Tryd.prog 40 (.cons (.int .i64) (.cons (.int .i64) (.cons (.int .i64) .nil)))) ∧ (fdInfo Tryd.prog 40 0 = some (0, 3)) ∧ (fdInfo Tryd.prog 40 1 = some (1, 3)) ∧ (fdInfo Tryd.prog 40 2 = some (2, 3)) ∧ (plOf Tryd.prog 40 = [(0, 1), (1, 1), (2, 1)]) ∧ (StructOk Tryd.prog 40 (.cons (.int .i64) (.cons (.int .i64) (.cons (.int .i64) .nil))) [(0, 1), (1, 1), (2, 1)]) ∧ (tyOf Tryd.prog 8 41 = some (.cons (.int .i64) (.cons (.int .i64) (.cons (.int .i64) .nil)))) ∧ (ldInfo Tryd.prog 41 = some (true, 3)) ∧ (ZeroOk Tryd.prog 41 (.cons (.int .i64) (.cons (.int .i64) (.cons (.int .i64) .nil)))) ∧ (fdInfo Tryd.prog 41 0 = some (0, 3)) ∧ (fdInfo Tryd.prog 41 1 = some (1, 3)) ∧ (fdInfo Tryd.prog 41 2 = some (2, 3)) ∧ (plOf Tryd.prog 41 = [(0, 1), (1, 1), (2, 1)]) ∧ (EqOk Tryd.prog 41 [(.int .i64), (.int .i64), (.int .i64)]) ∧ (StructOk Tryd.prog 41 (.cons (.int .i64) (.cons (.int .i64) (.cons (.int .i64) .nil))) [(0, 1), (1, 1), (2, 1)]) ∧ (ldInfo Tryd.prog 42 = some (false, 1)) ∧ (ldInfo Tryd.prog 44 = some (false, 1)) ∧ (ldInfo Tryd.prog 45 = some (false, 1)) ∧ (tyOf Tryd.prog 8 46 = some (.sl (.cons .u8 (.cons (.int .i64) (.cons .bool (.cons .bool .nil)))))) ∧ (ldInfo Tryd.prog 46 = some (false, 1)) ∧ (ZeroOk Tryd.prog 46 (.sl (.cons .u8 (.cons (.int .i64) (.cons .bool (.cons .bool .nil)))))) ∧ (elemOk Tryd.prog 46 (.cons .u8 (.cons (.int .i64) (.cons .bool (.cons .bool .nil))))) ∧ (elTy Tryd.prog 46 = 47) ∧ (elBytes Tryd.prog 46 = 24) ∧ (AppE Tryd.prog 46 (.cons .u8 (.cons (.int .i64) (.cons .bool (.cons .bool .nil))))) ∧ (tyOf Tryd.prog 8 47 = some (.cons .u8 (.cons (.int .i64) (.cons .bool (.cons .bool .nil))))) ∧ (ldInfo Tryd.prog 47 = some (true, 4)) ∧ (ZeroOk Tryd.prog 47 (.cons .u8 (.cons (.int .i64) (.cons .bool (.cons .bool .nil))))) ∧ (fdInfo Tryd.prog 47 0 = some (0, 5)) ∧ (fdInfo Tryd.prog 47 1 = some (1, 3)) ∧ (fdInfo Tryd.prog 47 2 = some (2, 4)) ∧ (fdInfo Tryd.prog 47 3 = some (3, 4)) ∧ (plOf Tryd.prog 47 = [(0, 1), (1, 1), (2, 1), (3, 1)]) ∧ (EqOk Tryd.prog 47 [.u8, (.int .i64), .bool, .bool]) ∧ (StructOk Tryd.prog 47 (.cons .u8 (.cons (.int .i64) (.cons .bool (.cons .bool .nil)))) [(0, 1), (1, 1), (2, 1), (3, 1)]) ∧ (tyOf Tryd.prog 8 48 = some (.sl (.cons (.int .i64) (.cons (.int .i64) (.cons (.int .i64) .nil))))) ∧ (ldInfo Tryd.prog 48 = some (false, 1)) ∧ (ZeroOk Tryd.prog 48 (.sl (.cons (.int .i64) (.cons (.int .i64) (.cons (.int .i64) .nil))))) ∧ (elemOk Tryd.prog 48 (.cons (.int .i64) (.cons (.int .i64) (.cons (.int .i64) .nil)))) ∧ (elTy Tryd.prog 48 = 50) ∧ (elBytes Tryd.prog 48 = 24) ∧ (AppE Tryd.prog 48 (.cons (.int .i64) (.cons (.int .i64) (.cons (.int .i64) .nil)))) ∧ (ldInfo Tryd.prog 49 = some (false, 1)) ∧ (tyOf Tryd.prog 8 50 = some (.cons (.int .i64) (.cons (.int .i64) (.cons (.int .i64) .nil)))) ∧ (ldInfo Tryd.prog 50 = some (true, 3)) ∧ (ZeroOk Tryd.prog 50 (.cons (.int .i64) (.cons (.int .i64) (.cons (.int .i64) .nil)))) ∧ (fdInfo Tryd.prog 50 0 = some (0, 3)) ∧ (fdInfo Tryd.prog 50 1 = some (1, 3)) ∧ (fdInfo Tryd.prog 50 2 = some (2, 3)) ∧ (plOf Tryd.prog 50 = [(0, 1), (1, 1), (2, 1)]) ∧ (EqOk Tryd.prog 50 [(.int .i64), (.int .i64), (.int .i64)]) ∧ (StructOk Tryd.prog 50 (.cons (.int .i64) (.cons (.int .i64) (.cons (.int .i64) .nil))) [(0, 1), (1, 1), (2, 1)]) ∧ (tyOf Tryd.prog 8 51 = some (.int .u64)) ∧ (ldInfo Tryd.prog 51 = some (false, 1)) ∧ (ZeroOk Tryd.prog 51 (.int .u64)) ∧ (ldInfo Tryd.prog 53 = some (false, 1)) ∧ (ldInfo Tryd.prog 54 = some (false, 1)) ∧ (ldInfo Tryd.prog 55 = some (false, 1)) ∧ (ldInfo Tryd.prog 56 = some (false, 1)) ∧ (ldInfo Tryd.prog 57 = some (false, 1)) ∧ (ldInfo Tryd.prog 58 = some (false, 1)) ∧ (ldInfo Tryd.prog 59 = some (false, 1)) ∧ (ldInfo Tryd.prog 60 = some (false, 1)) ∧ (ldInfo Tryd.prog 62 = some (false, 1)) ∧ (ldInfo Tryd.prog 63 = some (false, 1)) ∧ (ldInfo Tryd.prog 64 = some (false, 1)) ∧ (ldInfo Tryd.prog 65 = some (false, 1)) ∧ (ldInfo Tryd.prog 67 = some (false, 1)) ∧ (ldInfo Tryd.prog 68 = some (false, 1)) ∧ (ldInfo Tryd.prog 69 = some (false, 1)) ∧ (ldInfo Tryd.prog 70 = some (false, 1)) ∧ (ldInfo Tryd.prog 71 = some (true, 256)) ∧ (tyOf Tryd.prog 8 72 = some (.cons .u8 (.cons .u8 .nil))) ∧ (ldInfo Tryd.prog 72 = some (true, 2)) ∧ (ZeroOk Tryd.prog 72 (.cons .u8 (.cons .u8 .nil))) ∧ (fdInfo Tryd.prog 72 0 = some (0, 5)) ∧ (fdInfo Tryd.prog 72 1 = some (1, 5)) ∧ (plOf Tryd.prog 72 = [(0, 1), (1, 1)]) ∧ (StructOk Tryd.prog 72 (.cons .u8 (.cons .u8 .nil)) [(0, 1), (1, 1)]) ∧ (tyOf Tryd.prog 8 73 = some (.cons .u8 (.cons .u8 .nil))) ∧ (ldInfo Tryd.prog 73 = some (true, 2)) ∧ (ZeroOk Tryd.prog 73 (.cons .u8 (.cons .u8 .nil))) ∧ (fdInfo Tryd.prog 73 0 = some (0, 5)) ∧ (fdInfo Tryd.prog 73 1 = some (1, 5)) ∧ (plOf Tryd.prog 73 = [(0, 1), (1, 1)]) ∧ (StructOk Tryd.prog 73 (.cons .u8 (.cons .u8 .nil)) [(0, 1), (1, 1)]) ∧ (ldInfo Tryd.prog 74 = some (true, 32)) ∧ (tyOf Tryd.prog 8 75 = some (.cons .ptr (.cons .ptr (.cons .ptr (.cons .str .nil))))) ∧ (ldInfo Tryd.prog 75 = some (true, 4)) ∧ (ZeroOk Tryd.prog 75 (.cons .ptr (.cons .ptr (.cons .ptr (.cons .str .nil))))) ∧ (fdInfo Tryd.prog 75 0 = some (0, 17)) ∧ (fdInfo Tryd.prog 75 1 = some (1, 17)) ∧ (fdInfo Tryd.prog 75 2 = some (2, 17)) ∧ (fdInfo Tryd.prog 75 3 = some (3, 9)) ∧ (plOf Tryd.prog 75 = [(0, 1), (1, 1), (2, 1), (3, 1)]) ∧ (StructOk Tryd.prog 75 (.cons .ptr (.cons .ptr (.cons .ptr (.cons .str .nil)))) [(0, 1), (1, 1), (2, 1), (3, 1)]) ∧ (tyOf Tryd.prog 8 76 = some (.cons .ptr (.cons .ptr (.cons .ptr (.cons .str .nil))))) ∧ (ldInfo Tryd.prog 76 = some (true, 4)) ∧ (ZeroOk Tryd.prog 76 (.cons .ptr (.cons .ptr (.cons .ptr (.cons .str .nil))))) ∧ (fdInfo Tryd.prog 76 0 = some (0, 17)) ∧ (fdInfo Tryd.prog 76 1 = some (1, 17)) ∧ (fdInfo Tryd.prog 76 2 = some (2, 17)) ∧ (fdInfo Tryd.prog 76 3 = some (3, 9)) ∧ (plOf Tryd.prog 76 = [(0, 1), (1, 1), (2, 1), (3, 1)]) ∧ (StructOk Tryd.prog 76 (.cons .ptr (.cons .ptr (.cons .ptr (.cons .str .nil)))) [(0, 1), (1, 1), (2, 1), (3, 1)]) ∧ (ldInfo Tryd.prog 77 = some (true, 0)) ∧ (ldInfo Tryd.prog 78 = some (true, 0)) ∧ (ldInfo Tryd.prog 79 = some (true, 0)) ∧ (ldInfo Tryd.prog 80 = some (false, 1)) ∧ (tyOf Tryd.prog 8 81 = some (.int .u32)) ∧ (ldInfo Tryd.prog 81 = some (false, 1)) ∧ (ZeroOk Tryd.prog 81 (.int .u32)) ∧ (tyOf Tryd.prog 8 82 = some .u8) ∧ (ldInfo Tryd.prog 82 = some (false, 1)) ∧ (ZeroOk Tryd.prog 82 .u8) ∧ (tyOf Tryd.prog 8 83 = some .u8) ∧ (ldInfo Tryd.prog 83 = some (false, 1)) ∧ (ZeroOk Tryd.prog 83 .u8) ∧ (ldInfo Tryd.prog 84 = some (false, 1)) ∧ (tyOf Tryd.prog 8 85 = some .ptr) ∧ (ldInfo Tryd.prog 85 = some (false, 1)) ∧ (PtrOk Tryd.prog 85) ∧ (ZeroOk Tryd.prog 85 .ptr) ∧ (tyOf Tryd.prog 8 86 = some (.int .i32)) ∧ (ldInfo Tryd.prog 86 = some (false, 1)) ∧ (ZeroOk Tryd.prog 86 (.int .i32)) ∧ (tyOf Tryd.prog 8 87 = some (.int .i32)) ∧ (ldInfo Tryd.prog 87 = some (false, 1)) ∧ (ZeroOk Tryd.prog 87 (.int .i32)) ∧ (ldInfo Tryd.prog 88 = some (true, 11)) ∧ (fdInfo Tryd.prog 88 0 = some (0, 12)) ∧ (fdInfo Tryd.prog 88 1 = some (1, 12)) ∧ (fdInfo Tryd.prog 88 2 = some (2, 81)) ∧ (fdInfo Tryd.prog 88 3 = some (3, 82)) ∧ (fdInfo Tryd.prog 88 4 = some (4, 5)) ∧ (fdInfo Tryd.prog 88 5 = some (5, 5)) ∧ (fdInfo Tryd.prog 88 6 = some (6, 83)) ∧ (fdInfo Tryd.prog 88 7 = some (7, 84)) ∧ (fdInfo Tryd.prog 88 8 = some (8, 85)) ∧ (fdInfo Tryd.prog 88 9 = some (9, 86)) ∧ (fdInfo Tryd.prog 88 10 = some (10, 87)) ∧ (ldInfo Tryd.prog 89 = some (true, 11)) ∧ (fdInfo Tryd.prog 89 0 = some (0, 12)) ∧ (fdInfo Tryd.prog 89 1 = some (1, 12)) ∧ (fdInfo Tryd.prog 89 2 = some (2, 81)) ∧ (fdInfo Tryd.prog 89 3 = some (3, 82)) ∧ (fdInfo Tryd.prog 89 4 = some (4, 5)) ∧ (fdInfo Tryd.prog 89 5 = some (5, 5)) ∧ (fdInfo Tryd.prog 89 6 = some (6, 83)) ∧ (fdInfo Tryd.prog 89 7 = some (7, 84)) ∧ (fdInfo Tryd.prog 89 8 = some (8, 85)) ∧ (fdInfo Tryd.prog 89 9 = some (9, 86)) ∧ (fdInfo Tryd.prog 89 10 = some (10, 87)) ∧ (ldInfo Tryd.prog 90 = some (false, 1)) := ⟨ldF1, tyF2, ldF2, zoF2, tyF3, ldF3, zoF3, tyF4, ldF4, zoF4, tyF5, ldF5, zoF5, tyF6, ldF6, zoF6, tyF7, ldF7, zoF7, fdF7x0, fdF7x1, fdF7x2, fdF7x3, plF7, soF7, tyF8, ldF8, zoF8, fdF8x0, fdF8x1, fdF8x2, fdF8x3, plF8, soF8, tyF9, ldF9, zoF9, tyF10, ldF10, zoF10, tyF11, ldF11, zoF11, tyF12, ldF12, zoF12, tyF13, ldF13, zoF13, fdF13x0, fdF13x1, plF13, soF13, tyF14, ldF14, zoF14, fdF14x0, fdF14x1, plF14, soF14, tyF15, ldF15, ptF15, zoF15, tyF16, ldF16, zoF16, tyF17, ldF17, ptF17, zoF17, tyF18, ldF18, zoF18, fdF18x0, plF18, soF18, tyF19, ldF19, zoF19, fdF19x0, plF19, soF19, ldF20, tyF21, ldF21, zoF21, tyF22, ldF22, zoF22, elF22, etF22, ebF22, mdF22, apF22, ldF23, tyF24, ldF24, zoF24, elF24, etF24, ebF24, apF24, ldF25, tyF26, ldF26, zoF26, elF26, etF26, ebF26, mdF26, apF26, ldF27, tyF28, ldF28, zoF28, fdF28x0, fdF28x1, fdF28x2, fdF28x3, plF28, soF28, tyF29, ldF29, zoF29, fdF29x0, fdF29x1, fdF29x2, fdF29x3, plF29, eqF29, soF29, ldF30, tyF31, ldF31, zoF31, elF31, etF31, ebF31, mdF31, apF31, tyF32, ldF32, ptF32, zoF32, tyF33, ldF33, zoF33, fdF33x0, fdF33x1, plF33, soF33, tyF34, ldF34, zoF34, fdF34x0, fdF34x1, plF34, soF34, ldF35, ldF36, tyF37, ldF37, zoF37, elF37, etF37, ebF37, apF37, ldF38, ldF39, arF39, atF39, aoF39, esF39, tyF40, ldF40, zoF40, fdF40x0, fdF40x1, fdF40x2, plF40, soF40, tyF41, ldF41, zoF41, fdF41x0, fdF41x1, fdF41x2, plF41, eqF41, soF41, ldF42, ldF44, ldF45, tyF46, ldF46, zoF46, elF46, etF46, ebF46, apF46, tyF47, ldF47, zoF47, fdF47x0, fdF47x1, fdF47x2, fdF47x3, plF47, eqF47, soF47, tyF48, ldF48, zoF48, elF48, etF48, ebF48, apF48, ldF49, tyF50, ldF50, zoF50, fdF50x0, fdF50x1, fdF50x2, plF50, eqF50, soF50, tyF51, ldF51, zoF51, ldF53, ldF54, ldF55, ldF56, ldF57, ldF58, ldF59, ldF60, ldF62, ldF63, ldF64, ldF65, ldF67, ldF68, ldF69, ldF70, ldF71, tyF72, ldF72, zoF72, fdF72x0, fdF72x1, plF72, soF72, tyF73, ldF73, zoF73, fdF73x0, fdF73x1, plF73, soF73, ldF74, tyF75, ldF75, zoF75, fdF75x0, fdF75x1, fdF75x2, fdF75x3, plF75, soF75, tyF76, ldF76, zoF76, fdF76x0, fdF76x1, fdF76x2, fdF76x3, plF76, soF76, ldF77, ldF78, ldF79, ldF80, tyF81, ldF81, zoF81, tyF82, ldF82, zoF82, tyF83, ldF83, zoF83, ldF84, tyF85, ldF85, ptF85, zoF85, tyF86, ldF86, zoF86, tyF87, ldF87, zoF87, ldF88, fdF88x0, fdF88x1, fdF88x2, fdF88x3, fdF88x4, fdF88x5, fdF88x6, fdF88x7, fdF88x8, fdF88x9, fdF88x10, ldF89, fdF89x0, fdF89x1, fdF89x2, fdF89x3, fdF89x4, fdF89x5, fdF89x6, fdF89x7, fdF89x8, fdF89x9, fdF89x10, ldF90⟩
end Go.Proofs.YtdjfcjlpemckoaaDoor
