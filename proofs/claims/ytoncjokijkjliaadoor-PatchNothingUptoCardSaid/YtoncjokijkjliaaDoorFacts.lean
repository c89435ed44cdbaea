/- Facts of the translation's types: printed by facts.py (own work). -/
import Derived.Test.YtoncjokijkjliaaDoorRows
import Derived.Test.YtoncjokijkjliaaDoorCore13
import Derived.KernelRfl
namespace Go.Proofs.YtoncjokijkjliaaDoor
open Go.Sv
set_option linter.unusedSimpArgs false
set_option maxRecDepth 100000
theorem followsF : Tryd.prog.follows .mixedOrders = true := by kernel_rfl
theorem ldF1 : ldInfo Tryd.prog 1 = some (false, 1) := by kernel_rfl
theorem tyF2 : tyOf Tryd.prog 8 2 = some (.int .i64) := by kernel_rfl
theorem ldF2 : ldInfo Tryd.prog 2 = some (false, 1) := by kernel_rfl
theorem zoF2 : ZeroOk Tryd.prog 2 (.int .i64) := ⟨⟨_, _, rfl, rfl, by kernel_rfl⟩⟩
theorem tyF3 : tyOf Tryd.prog 8 3 = some (.int .i64) := by kernel_rfl
theorem ldF3 : ldInfo Tryd.prog 3 = some (false, 1) := by kernel_rfl
theorem zoF3 : ZeroOk Tryd.prog 3 (.int .i64) := ⟨⟨_, _, rfl, rfl, by kernel_rfl⟩⟩
theorem tyF4 : tyOf Tryd.prog 8 4 = some .bool := by kernel_rfl
theorem ldF4 : ldInfo Tryd.prog 4 = some (false, 1) := by kernel_rfl
theorem zoF4 : ZeroOk Tryd.prog 4 .bool := ⟨⟨_, _, rfl, rfl, by kernel_rfl⟩⟩
theorem tyF5 : tyOf Tryd.prog 8 5 = some .u8 := by kernel_rfl
theorem ldF5 : ldInfo Tryd.prog 5 = some (false, 1) := by kernel_rfl
theorem zoF5 : ZeroOk Tryd.prog 5 .u8 := ⟨⟨_, _, rfl, rfl, by kernel_rfl⟩⟩
theorem tyF6 : tyOf Tryd.prog 8 6 = some .u8 := by kernel_rfl
theorem ldF6 : ldInfo Tryd.prog 6 = some (false, 1) := by kernel_rfl
theorem zoF6 : ZeroOk Tryd.prog 6 .u8 := ⟨⟨_, _, rfl, rfl, by kernel_rfl⟩⟩
theorem tyF7 : tyOf Tryd.prog 8 7 = some (.cons (.int .i64) (.cons (.int .i64) (.cons .bool (.cons .u8 .nil)))) := by kernel_rfl
theorem ldF7 : ldInfo Tryd.prog 7 = some (true, 4) := by kernel_rfl
theorem zoF7 : ZeroOk Tryd.prog 7 (.cons (.int .i64) (.cons (.int .i64) (.cons .bool (.cons .u8 .nil)))) := ⟨⟨_, _, rfl, rfl, by kernel_rfl⟩⟩
theorem fdF7x0 : fdInfo Tryd.prog 7 0 = some (0, 2) := by kernel_rfl
theorem fdF7x1 : fdInfo Tryd.prog 7 1 = some (1, 3) := by kernel_rfl
theorem fdF7x2 : fdInfo Tryd.prog 7 2 = some (2, 4) := by kernel_rfl
theorem fdF7x3 : fdInfo Tryd.prog 7 3 = some (3, 6) := by kernel_rfl
theorem plF7 : plOf Tryd.prog 7 = [(0, 1), (1, 1), (2, 1), (3, 1)] := by kernel_rfl
theorem soF7 : StructOk Tryd.prog 7 (.cons (.int .i64) (.cons (.int .i64) (.cons .bool (.cons .u8 .nil)))) [(0, 1), (1, 1), (2, 1), (3, 1)] := ⟨⟨Tryd.prog.fieldsOf 7, _, _, by kernel_rfl, rfl, rfl, by kernel_rfl, fun w => by kernel_rfl⟩⟩
theorem tyF8 : tyOf Tryd.prog 8 8 = some (.cons (.int .i64) (.cons (.int .i64) (.cons .bool (.cons .u8 .nil)))) := by kernel_rfl
theorem ldF8 : ldInfo Tryd.prog 8 = some (true, 4) := by kernel_rfl
theorem zoF8 : ZeroOk Tryd.prog 8 (.cons (.int .i64) (.cons (.int .i64) (.cons .bool (.cons .u8 .nil)))) := ⟨⟨_, _, rfl, rfl, by kernel_rfl⟩⟩
theorem fdF8x0 : fdInfo Tryd.prog 8 0 = some (0, 2) := by kernel_rfl
theorem fdF8x1 : fdInfo Tryd.prog 8 1 = some (1, 3) := by kernel_rfl
theorem fdF8x2 : fdInfo Tryd.prog 8 2 = some (2, 4) := by kernel_rfl
theorem fdF8x3 : fdInfo Tryd.prog 8 3 = some (3, 6) := by kernel_rfl
theorem plF8 : plOf Tryd.prog 8 = [(0, 1), (1, 1), (2, 1), (3, 1)] := by kernel_rfl
theorem soF8 : StructOk Tryd.prog 8 (.cons (.int .i64) (.cons (.int .i64) (.cons .bool (.cons .u8 .nil)))) [(0, 1), (1, 1), (2, 1), (3, 1)] := ⟨⟨Tryd.prog.fieldsOf 8, _, _, by kernel_rfl, rfl, rfl, by kernel_rfl, fun w => by kernel_rfl⟩⟩
theorem tyF9 : tyOf Tryd.prog 8 9 = some .str := by kernel_rfl
theorem ldF9 : ldInfo Tryd.prog 9 = some (false, 1) := by kernel_rfl
theorem zoF9 : ZeroOk Tryd.prog 9 .str := ⟨⟨_, _, rfl, rfl, by kernel_rfl⟩⟩
theorem tyF10 : tyOf Tryd.prog 8 10 = some .str := by kernel_rfl
theorem ldF10 : ldInfo Tryd.prog 10 = some (false, 1) := by kernel_rfl
theorem zoF10 : ZeroOk Tryd.prog 10 .str := ⟨⟨_, _, rfl, rfl, by kernel_rfl⟩⟩
theorem tyF11 : tyOf Tryd.prog 8 11 = some .str := by kernel_rfl
theorem ldF11 : ldInfo Tryd.prog 11 = some (false, 1) := by kernel_rfl
theorem zoF11 : ZeroOk Tryd.prog 11 .str := ⟨⟨_, _, rfl, rfl, by kernel_rfl⟩⟩
theorem tyF12 : tyOf Tryd.prog 8 12 = some (.int .u64) := by kernel_rfl
theorem ldF12 : ldInfo Tryd.prog 12 = some (false, 1) := by kernel_rfl
theorem zoF12 : ZeroOk Tryd.prog 12 (.int .u64) := ⟨⟨_, _, rfl, rfl, by kernel_rfl⟩⟩
theorem tyF13 : tyOf Tryd.prog 8 13 = some (.cons .str (.cons (.int .u64) .nil)) := by kernel_rfl
theorem ldF13 : ldInfo Tryd.prog 13 = some (true, 2) := by kernel_rfl
theorem zoF13 : ZeroOk Tryd.prog 13 (.cons .str (.cons (.int .u64) .nil)) := ⟨⟨_, _, rfl, rfl, by kernel_rfl⟩⟩
theorem fdF13x0 : fdInfo Tryd.prog 13 0 = some (0, 9) := by kernel_rfl
theorem fdF13x1 : fdInfo Tryd.prog 13 1 = some (1, 12) := by kernel_rfl
theorem plF13 : plOf Tryd.prog 13 = [(0, 1), (1, 1)] := by kernel_rfl
theorem soF13 : StructOk Tryd.prog 13 (.cons .str (.cons (.int .u64) .nil)) [(0, 1), (1, 1)] := ⟨⟨Tryd.prog.fieldsOf 13, _, _, by kernel_rfl, rfl, rfl, by kernel_rfl, fun w => by kernel_rfl⟩⟩
theorem tyF14 : tyOf Tryd.prog 8 14 = some (.cons .str (.cons (.int .u64) .nil)) := by kernel_rfl
theorem ldF14 : ldInfo Tryd.prog 14 = some (true, 2) := by kernel_rfl
theorem zoF14 : ZeroOk Tryd.prog 14 (.cons .str (.cons (.int .u64) .nil)) := ⟨⟨_, _, rfl, rfl, by kernel_rfl⟩⟩
theorem fdF14x0 : fdInfo Tryd.prog 14 0 = some (0, 9) := by kernel_rfl
theorem fdF14x1 : fdInfo Tryd.prog 14 1 = some (1, 12) := by kernel_rfl
theorem plF14 : plOf Tryd.prog 14 = [(0, 1), (1, 1)] := by kernel_rfl
theorem soF14 : StructOk Tryd.prog 14 (.cons .str (.cons (.int .u64) .nil)) [(0, 1), (1, 1)] := ⟨⟨Tryd.prog.fieldsOf 14, _, _, by kernel_rfl, rfl, rfl, by kernel_rfl, fun w => by kernel_rfl⟩⟩
theorem tyF15 : tyOf Tryd.prog 8 15 = some .ptr := by kernel_rfl
theorem ldF15 : ldInfo Tryd.prog 15 = some (false, 1) := by kernel_rfl
theorem ptF15 : PtrOk Tryd.prog 15 := ⟨⟨85, _, by kernel_rfl, rfl, by decide +kernel⟩⟩
theorem zoF15 : ZeroOk Tryd.prog 15 .ptr := ⟨⟨_, _, rfl, rfl, by kernel_rfl⟩⟩
theorem tyF16 : tyOf Tryd.prog 8 16 = some .ptr := by kernel_rfl
theorem ldF16 : ldInfo Tryd.prog 16 = some (false, 1) := by kernel_rfl
theorem zoF16 : ZeroOk Tryd.prog 16 .ptr := ⟨⟨_, _, rfl, rfl, by kernel_rfl⟩⟩
theorem tyF17 : tyOf Tryd.prog 8 17 = some .ptr := by kernel_rfl
theorem ldF17 : ldInfo Tryd.prog 17 = some (false, 1) := by kernel_rfl
theorem ptF17 : PtrOk Tryd.prog 17 := ⟨⟨98, _, by kernel_rfl, rfl, by decide +kernel⟩⟩
theorem zoF17 : ZeroOk Tryd.prog 17 .ptr := ⟨⟨_, _, rfl, rfl, by kernel_rfl⟩⟩
theorem tyF18 : tyOf Tryd.prog 8 18 = some (.cons .ptr .nil) := by kernel_rfl
theorem ldF18 : ldInfo Tryd.prog 18 = some (true, 1) := by kernel_rfl
theorem zoF18 : ZeroOk Tryd.prog 18 (.cons .ptr .nil) := ⟨⟨_, _, rfl, rfl, by kernel_rfl⟩⟩
theorem fdF18x0 : fdInfo Tryd.prog 18 0 = some (0, 17) := by kernel_rfl
theorem plF18 : plOf Tryd.prog 18 = [(0, 1)] := by kernel_rfl
theorem soF18 : StructOk Tryd.prog 18 (.cons .ptr .nil) [(0, 1)] := ⟨⟨Tryd.prog.fieldsOf 18, _, _, by kernel_rfl, rfl, rfl, by kernel_rfl, fun w => by kernel_rfl⟩⟩
theorem tyF19 : tyOf Tryd.prog 8 19 = some (.cons .ptr .nil) := by kernel_rfl
theorem ldF19 : ldInfo Tryd.prog 19 = some (true, 1) := by kernel_rfl
theorem zoF19 : ZeroOk Tryd.prog 19 (.cons .ptr .nil) := ⟨⟨_, _, rfl, rfl, by kernel_rfl⟩⟩
theorem fdF19x0 : fdInfo Tryd.prog 19 0 = some (0, 17) := by kernel_rfl
theorem plF19 : plOf Tryd.prog 19 = [(0, 1)] := by kernel_rfl
theorem soF19 : StructOk Tryd.prog 19 (.cons .ptr .nil) [(0, 1)] := ⟨⟨Tryd.prog.fieldsOf 19, _, _, by kernel_rfl, rfl, rfl, by kernel_rfl, fun w => by kernel_rfl⟩⟩
theorem ldF20 : ldInfo Tryd.prog 20 = some (false, 1) := by kernel_rfl
theorem tyF21 : tyOf Tryd.prog 8 21 = some (.int .i32) := by kernel_rfl
theorem ldF21 : ldInfo Tryd.prog 21 = some (false, 1) := by kernel_rfl
theorem zoF21 : ZeroOk Tryd.prog 21 (.int .i32) := ⟨⟨_, _, rfl, rfl, by kernel_rfl⟩⟩
theorem tyF22 : tyOf Tryd.prog 8 22 = some (.sl .u8) := by kernel_rfl
theorem ldF22 : ldInfo Tryd.prog 22 = some (false, 1) := by kernel_rfl
theorem zoF22 : ZeroOk Tryd.prog 22 (.sl .u8) := ⟨⟨_, _, rfl, rfl, by kernel_rfl⟩⟩
theorem elF22 : elemOk Tryd.prog 22 .u8 := ⟨5, _, by kernel_rfl, rfl, by kernel_rfl⟩
theorem etF22 : elTy Tryd.prog 22 = 5 := by kernel_rfl
theorem ebF22 : elBytes Tryd.prog 22 = 1 := by kernel_rfl
theorem mdF22 : MadeOk Tryd.prog 22 .u8 := ⟨⟨5, _, _, _, by kernel_rfl, rfl, rfl, by kernel_rfl, fun w S => by simp only [RepD]; rfl⟩⟩
theorem apF22 : AppE Tryd.prog 22 .u8 := ⟨⟨5, _, _, by kernel_rfl, rfl, by kernel_rfl, by kernel_rfl, rfl, by kernel_rfl⟩⟩
theorem ldF23 : ldInfo Tryd.prog 23 = some (false, 1) := by kernel_rfl
theorem tyF24 : tyOf Tryd.prog 8 24 = some (.cons (.int .i64) (.cons (.int .i64) (.cons (.sl .u8) .nil))) := by kernel_rfl
theorem ldF24 : ldInfo Tryd.prog 24 = some (true, 3) := by kernel_rfl
theorem zoF24 : ZeroOk Tryd.prog 24 (.cons (.int .i64) (.cons (.int .i64) (.cons (.sl .u8) .nil))) := ⟨⟨_, _, rfl, rfl, by kernel_rfl⟩⟩
theorem fdF24x0 : fdInfo Tryd.prog 24 0 = some (0, 3) := by kernel_rfl
theorem fdF24x1 : fdInfo Tryd.prog 24 1 = some (1, 3) := by kernel_rfl
theorem fdF24x2 : fdInfo Tryd.prog 24 2 = some (2, 22) := by kernel_rfl
theorem plF24 : plOf Tryd.prog 24 = [(0, 1), (1, 1), (2, 1)] := by kernel_rfl
theorem soF24 : StructOk Tryd.prog 24 (.cons (.int .i64) (.cons (.int .i64) (.cons (.sl .u8) .nil))) [(0, 1), (1, 1), (2, 1)] := ⟨⟨Tryd.prog.fieldsOf 24, _, _, by kernel_rfl, rfl, rfl, by kernel_rfl, fun w => by kernel_rfl⟩⟩
theorem tyF25 : tyOf Tryd.prog 8 25 = some (.cons (.int .i64) (.cons (.int .i64) (.cons (.sl .u8) .nil))) := by kernel_rfl
theorem ldF25 : ldInfo Tryd.prog 25 = some (true, 3) := by kernel_rfl
theorem zoF25 : ZeroOk Tryd.prog 25 (.cons (.int .i64) (.cons (.int .i64) (.cons (.sl .u8) .nil))) := ⟨⟨_, _, rfl, rfl, by kernel_rfl⟩⟩
theorem fdF25x0 : fdInfo Tryd.prog 25 0 = some (0, 3) := by kernel_rfl
theorem fdF25x1 : fdInfo Tryd.prog 25 1 = some (1, 3) := by kernel_rfl
theorem fdF25x2 : fdInfo Tryd.prog 25 2 = some (2, 22) := by kernel_rfl
theorem plF25 : plOf Tryd.prog 25 = [(0, 1), (1, 1), (2, 1)] := by kernel_rfl
theorem soF25 : StructOk Tryd.prog 25 (.cons (.int .i64) (.cons (.int .i64) (.cons (.sl .u8) .nil))) [(0, 1), (1, 1), (2, 1)] := ⟨⟨Tryd.prog.fieldsOf 25, _, _, by kernel_rfl, rfl, rfl, by kernel_rfl, fun w => by kernel_rfl⟩⟩
theorem tyF26 : tyOf Tryd.prog 8 26 = some (.sl (.cons (.int .i64) (.cons (.int .i64) (.cons (.sl .u8) .nil)))) := by kernel_rfl
theorem ldF26 : ldInfo Tryd.prog 26 = some (false, 1) := by kernel_rfl
theorem zoF26 : ZeroOk Tryd.prog 26 (.sl (.cons (.int .i64) (.cons (.int .i64) (.cons (.sl .u8) .nil)))) := ⟨⟨_, _, rfl, rfl, by kernel_rfl⟩⟩
theorem elF26 : elemOk Tryd.prog 26 (.cons (.int .i64) (.cons (.int .i64) (.cons (.sl .u8) .nil))) := ⟨25, _, by kernel_rfl, rfl, by kernel_rfl⟩
theorem etF26 : elTy Tryd.prog 26 = 25 := by kernel_rfl
theorem ebF26 : elBytes Tryd.prog 26 = 40 := by kernel_rfl
theorem apF26 : AppE Tryd.prog 26 (.cons (.int .i64) (.cons (.int .i64) (.cons (.sl .u8) .nil))) := ⟨⟨25, _, _, by kernel_rfl, rfl, by kernel_rfl, by kernel_rfl, rfl, by kernel_rfl⟩⟩
theorem tyF27 : tyOf Tryd.prog 8 27 = some (.sl .str) := by kernel_rfl
theorem ldF27 : ldInfo Tryd.prog 27 = some (false, 1) := by kernel_rfl
theorem zoF27 : ZeroOk Tryd.prog 27 (.sl .str) := ⟨⟨_, _, rfl, rfl, by kernel_rfl⟩⟩
theorem elF27 : elemOk Tryd.prog 27 .str := ⟨9, _, by kernel_rfl, rfl, by kernel_rfl⟩
theorem etF27 : elTy Tryd.prog 27 = 9 := by kernel_rfl
theorem ebF27 : elBytes Tryd.prog 27 = 16 := by kernel_rfl
theorem mdF27 : MadeOk Tryd.prog 27 .str := ⟨⟨9, _, _, _, by kernel_rfl, rfl, rfl, by kernel_rfl, fun w S => by simp only [RepD]; rfl⟩⟩
theorem apF27 : AppE Tryd.prog 27 .str := ⟨⟨9, _, _, by kernel_rfl, rfl, by kernel_rfl, by kernel_rfl, rfl, by kernel_rfl⟩⟩
theorem ldF28 : ldInfo Tryd.prog 28 = some (false, 1) := by kernel_rfl
theorem ldF29 : ldInfo Tryd.prog 29 = some (false, 1) := by kernel_rfl
theorem ldF30 : ldInfo Tryd.prog 30 = some (false, 1) := by kernel_rfl
theorem ldF31 : ldInfo Tryd.prog 31 = some (false, 1) := by kernel_rfl
theorem ldF32 : ldInfo Tryd.prog 32 = some (false, 1) := by kernel_rfl
theorem tyF33 : tyOf Tryd.prog 8 33 = some (.sl (.cons (.int .i64) (.cons (.int .i64) (.cons (.sl .u8) .nil)))) := by kernel_rfl
theorem ldF33 : ldInfo Tryd.prog 33 = some (false, 1) := by kernel_rfl
theorem zoF33 : ZeroOk Tryd.prog 33 (.sl (.cons (.int .i64) (.cons (.int .i64) (.cons (.sl .u8) .nil)))) := ⟨⟨_, _, rfl, rfl, by kernel_rfl⟩⟩
theorem elF33 : elemOk Tryd.prog 33 (.cons (.int .i64) (.cons (.int .i64) (.cons (.sl .u8) .nil))) := ⟨34, _, by kernel_rfl, rfl, by kernel_rfl⟩
theorem etF33 : elTy Tryd.prog 33 = 34 := by kernel_rfl
theorem ebF33 : elBytes Tryd.prog 33 = 40 := by kernel_rfl
theorem apF33 : AppE Tryd.prog 33 (.cons (.int .i64) (.cons (.int .i64) (.cons (.sl .u8) .nil))) := ⟨⟨34, _, _, by kernel_rfl, rfl, by kernel_rfl, by kernel_rfl, rfl, by kernel_rfl⟩⟩
theorem tyF34 : tyOf Tryd.prog 8 34 = some (.cons (.int .i64) (.cons (.int .i64) (.cons (.sl .u8) .nil))) := by kernel_rfl
theorem ldF34 : ldInfo Tryd.prog 34 = some (true, 3) := by kernel_rfl
theorem zoF34 : ZeroOk Tryd.prog 34 (.cons (.int .i64) (.cons (.int .i64) (.cons (.sl .u8) .nil))) := ⟨⟨_, _, rfl, rfl, by kernel_rfl⟩⟩
theorem fdF34x0 : fdInfo Tryd.prog 34 0 = some (0, 3) := by kernel_rfl
theorem fdF34x1 : fdInfo Tryd.prog 34 1 = some (1, 3) := by kernel_rfl
theorem fdF34x2 : fdInfo Tryd.prog 34 2 = some (2, 22) := by kernel_rfl
theorem plF34 : plOf Tryd.prog 34 = [(0, 1), (1, 1), (2, 1)] := by kernel_rfl
theorem soF34 : StructOk Tryd.prog 34 (.cons (.int .i64) (.cons (.int .i64) (.cons (.sl .u8) .nil))) [(0, 1), (1, 1), (2, 1)] := ⟨⟨Tryd.prog.fieldsOf 34, _, _, by kernel_rfl, rfl, rfl, by kernel_rfl, fun w => by kernel_rfl⟩⟩
theorem ldF36 : ldInfo Tryd.prog 36 = some (false, 1) := by kernel_rfl
theorem ldF37 : ldInfo Tryd.prog 37 = some (false, 1) := by kernel_rfl
theorem ldF38 : ldInfo Tryd.prog 38 = some (false, 1) := by kernel_rfl
theorem tyF39 : tyOf Tryd.prog 8 39 = some (.sl (.cons (.int .i64) (.cons (.int .i64) (.cons (.sl .u8) .nil)))) := by kernel_rfl
theorem ldF39 : ldInfo Tryd.prog 39 = some (false, 1) := by kernel_rfl
theorem zoF39 : ZeroOk Tryd.prog 39 (.sl (.cons (.int .i64) (.cons (.int .i64) (.cons (.sl .u8) .nil)))) := ⟨⟨_, _, rfl, rfl, by kernel_rfl⟩⟩
theorem elF39 : elemOk Tryd.prog 39 (.cons (.int .i64) (.cons (.int .i64) (.cons (.sl .u8) .nil))) := ⟨40, _, by kernel_rfl, rfl, by kernel_rfl⟩
theorem etF39 : elTy Tryd.prog 39 = 40 := by kernel_rfl
theorem ebF39 : elBytes Tryd.prog 39 = 40 := by kernel_rfl
theorem apF39 : AppE Tryd.prog 39 (.cons (.int .i64) (.cons (.int .i64) (.cons (.sl .u8) .nil))) := ⟨⟨40, _, _, by kernel_rfl, rfl, by kernel_rfl, by kernel_rfl, rfl, by kernel_rfl⟩⟩
theorem tyF40 : tyOf Tryd.prog 8 40 = some (.cons (.int .i64) (.cons (.int .i64) (.cons (.sl .u8) .nil))) := by kernel_rfl
theorem ldF40 : ldInfo Tryd.prog 40 = some (true, 3) := by kernel_rfl
theorem zoF40 : ZeroOk Tryd.prog 40 (.cons (.int .i64) (.cons (.int .i64) (.cons (.sl .u8) .nil))) := ⟨⟨_, _, rfl, rfl, by kernel_rfl⟩⟩
theorem fdF40x0 : fdInfo Tryd.prog 40 0 = some (0, 3) := by kernel_rfl
theorem fdF40x1 : fdInfo Tryd.prog 40 1 = some (1, 3) := by kernel_rfl
theorem fdF40x2 : fdInfo Tryd.prog 40 2 = some (2, 22) := by kernel_rfl
theorem plF40 : plOf Tryd.prog 40 = [(0, 1), (1, 1), (2, 1)] := by kernel_rfl
theorem soF40 : StructOk Tryd.prog 40 (.cons (.int .i64) (.cons (.int .i64) (.cons (.sl .u8) .nil))) [(0, 1), (1, 1), (2, 1)] := ⟨⟨Tryd.prog.fieldsOf 40, _, _, by kernel_rfl, rfl, rfl, by kernel_rfl, fun w => by kernel_rfl⟩⟩
theorem ldF41 : ldInfo Tryd.prog 41 = some (false, 1) := by kernel_rfl
theorem ldF42 : ldInfo Tryd.prog 42 = some (false, 1) := by kernel_rfl
theorem tyF43 : tyOf Tryd.prog 8 43 = some (.cons .u8 (.cons (.int .i64) (.cons (.int .i64) (.cons .str .nil)))) := by kernel_rfl
theorem ldF43 : ldInfo Tryd.prog 43 = some (true, 4) := by kernel_rfl
theorem zoF43 : ZeroOk Tryd.prog 43 (.cons .u8 (.cons (.int .i64) (.cons (.int .i64) (.cons .str .nil)))) := ⟨⟨_, _, rfl, rfl, by kernel_rfl⟩⟩
theorem fdF43x0 : fdInfo Tryd.prog 43 0 = some (0, 5) := by kernel_rfl
theorem fdF43x1 : fdInfo Tryd.prog 43 1 = some (1, 3) := by kernel_rfl
theorem fdF43x2 : fdInfo Tryd.prog 43 2 = some (2, 3) := by kernel_rfl
theorem fdF43x3 : fdInfo Tryd.prog 43 3 = some (3, 9) := by kernel_rfl
theorem plF43 : plOf Tryd.prog 43 = [(0, 1), (1, 1), (2, 1), (3, 1)] := by kernel_rfl
theorem soF43 : StructOk Tryd.prog 43 (.cons .u8 (.cons (.int .i64) (.cons (.int .i64) (.cons .str .nil)))) [(0, 1), (1, 1), (2, 1), (3, 1)] := ⟨⟨Tryd.prog.fieldsOf 43, _, _, by kernel_rfl, rfl, rfl, by kernel_rfl, fun w => by kernel_rfl⟩⟩
theorem tyF44 : tyOf Tryd.prog 8 44 = some (.cons .u8 (.cons (.int .i64) (.cons (.int .i64) (.cons .str .nil)))) := by kernel_rfl
theorem ldF44 : ldInfo Tryd.prog 44 = some (true, 4) := by kernel_rfl
theorem zoF44 : ZeroOk Tryd.prog 44 (.cons .u8 (.cons (.int .i64) (.cons (.int .i64) (.cons .str .nil)))) := ⟨⟨_, _, rfl, rfl, by kernel_rfl⟩⟩
theorem fdF44x0 : fdInfo Tryd.prog 44 0 = some (0, 5) := by kernel_rfl
theorem fdF44x1 : fdInfo Tryd.prog 44 1 = some (1, 3) := by kernel_rfl
theorem fdF44x2 : fdInfo Tryd.prog 44 2 = some (2, 3) := by kernel_rfl
theorem fdF44x3 : fdInfo Tryd.prog 44 3 = some (3, 9) := by kernel_rfl
theorem plF44 : plOf Tryd.prog 44 = [(0, 1), (1, 1), (2, 1), (3, 1)] := by kernel_rfl
theorem eqF44 : EqOk Tryd.prog 44 [.u8, (.int .i64), (.int .i64), .str] := ⟨⟨Tryd.prog.fieldsOf 44, by kernel_rfl, by kernel_rfl, by kernel_rfl, by kernel_rfl⟩⟩
theorem soF44 : StructOk Tryd.prog 44 (.cons .u8 (.cons (.int .i64) (.cons (.int .i64) (.cons .str .nil)))) [(0, 1), (1, 1), (2, 1), (3, 1)] := ⟨⟨Tryd.prog.fieldsOf 44, _, _, by kernel_rfl, rfl, rfl, by kernel_rfl, fun w => by kernel_rfl⟩⟩
theorem ldF45 : ldInfo Tryd.prog 45 = some (false, 1) := by kernel_rfl
theorem tyF46 : tyOf Tryd.prog 8 46 = some (.cons .u8 (.cons (.int .i64) (.cons (.int .i64) (.cons .str .nil)))) := by kernel_rfl
theorem ldF46 : ldInfo Tryd.prog 46 = some (true, 4) := by kernel_rfl
theorem zoF46 : ZeroOk Tryd.prog 46 (.cons .u8 (.cons (.int .i64) (.cons (.int .i64) (.cons .str .nil)))) := ⟨⟨_, _, rfl, rfl, by kernel_rfl⟩⟩
theorem fdF46x0 : fdInfo Tryd.prog 46 0 = some (0, 5) := by kernel_rfl
theorem fdF46x1 : fdInfo Tryd.prog 46 1 = some (1, 3) := by kernel_rfl
theorem fdF46x2 : fdInfo Tryd.prog 46 2 = some (2, 3) := by kernel_rfl
theorem fdF46x3 : fdInfo Tryd.prog 46 3 = some (3, 9) := by kernel_rfl
theorem plF46 : plOf Tryd.prog 46 = [(0, 1), (1, 1), (2, 1), (3, 1)] := by kernel_rfl
theorem eqF46 : EqOk Tryd.prog 46 [.u8, (.int .i64), (.int .i64), .str] := ⟨⟨Tryd.prog.fieldsOf 46, by kernel_rfl, by kernel_rfl, by kernel_rfl, by kernel_rfl⟩⟩
theorem soF46 : StructOk Tryd.prog 46 (.cons .u8 (.cons (.int .i64) (.cons (.int .i64) (.cons .str .nil)))) [(0, 1), (1, 1), (2, 1), (3, 1)] := ⟨⟨Tryd.prog.fieldsOf 46, _, _, by kernel_rfl, rfl, rfl, by kernel_rfl, fun w => by kernel_rfl⟩⟩
theorem ldF48 : ldInfo Tryd.prog 48 = some (false, 1) := by kernel_rfl
theorem ldF49 : ldInfo Tryd.prog 49 = some (false, 1) := by kernel_rfl
theorem ldF50 : ldInfo Tryd.prog 50 = some (false, 1) := by kernel_rfl
theorem ldF51 : ldInfo Tryd.prog 51 = some (false, 1) := by kernel_rfl
theorem ldF52 : ldInfo Tryd.prog 52 = some (false, 1) := by kernel_rfl
theorem ldF53 : ldInfo Tryd.prog 53 = some (false, 1) := by kernel_rfl
theorem ldF54 : ldInfo Tryd.prog 54 = some (false, 1) := by kernel_rfl
theorem ldF56 : ldInfo Tryd.prog 56 = some (false, 1) := by kernel_rfl
theorem ldF57 : ldInfo Tryd.prog 57 = some (false, 1) := by kernel_rfl
theorem ldF58 : ldInfo Tryd.prog 58 = some (false, 1) := by kernel_rfl
theorem ldF59 : ldInfo Tryd.prog 59 = some (false, 1) := by kernel_rfl
theorem ldF60 : ldInfo Tryd.prog 60 = some (false, 1) := by kernel_rfl
theorem ldF61 : ldInfo Tryd.prog 61 = some (false, 1) := by kernel_rfl
theorem ldF62 : ldInfo Tryd.prog 62 = some (false, 1) := by kernel_rfl
theorem ldF63 : ldInfo Tryd.prog 63 = some (false, 1) := by kernel_rfl
theorem ldF64 : ldInfo Tryd.prog 64 = some (false, 1) := by kernel_rfl
theorem ldF65 : ldInfo Tryd.prog 65 = some (true, 256) := by kernel_rfl
theorem ldF66 : ldInfo Tryd.prog 66 = some (true, 256) := by kernel_rfl
theorem ldF68 : ldInfo Tryd.prog 68 = some (false, 1) := by kernel_rfl
theorem ldF69 : ldInfo Tryd.prog 69 = some (false, 1) := by kernel_rfl
theorem tyF70 : tyOf Tryd.prog 8 70 = some .ptr := by kernel_rfl
theorem ldF70 : ldInfo Tryd.prog 70 = some (false, 1) := by kernel_rfl
theorem ptF70 : PtrOk Tryd.prog 70 := ⟨⟨66, _, by kernel_rfl, rfl, by decide +kernel⟩⟩
theorem zoF70 : ZeroOk Tryd.prog 70 .ptr := ⟨⟨_, _, rfl, rfl, by kernel_rfl⟩⟩
theorem ldF71 : ldInfo Tryd.prog 71 = some (false, 1) := by kernel_rfl
theorem ldF72 : ldInfo Tryd.prog 72 = some (false, 1) := by kernel_rfl
theorem ldF74 : ldInfo Tryd.prog 74 = some (false, 1) := by kernel_rfl
theorem ldF75 : ldInfo Tryd.prog 75 = some (false, 1) := by kernel_rfl
theorem ldF76 : ldInfo Tryd.prog 76 = some (false, 1) := by kernel_rfl
theorem ldF77 : ldInfo Tryd.prog 77 = some (false, 1) := by kernel_rfl
theorem tyF78 : tyOf Tryd.prog 8 78 = some (.int .u64) := by kernel_rfl
theorem ldF78 : ldInfo Tryd.prog 78 = some (false, 1) := by kernel_rfl
theorem zoF78 : ZeroOk Tryd.prog 78 (.int .u64) := ⟨⟨_, _, rfl, rfl, by kernel_rfl⟩⟩
theorem ldF79 : ldInfo Tryd.prog 79 = some (true, 256) := by kernel_rfl
theorem tyF80 : tyOf Tryd.prog 8 80 = some (.cons .u8 (.cons .u8 .nil)) := by kernel_rfl
theorem ldF80 : ldInfo Tryd.prog 80 = some (true, 2) := by kernel_rfl
theorem zoF80 : ZeroOk Tryd.prog 80 (.cons .u8 (.cons .u8 .nil)) := ⟨⟨_, _, rfl, rfl, by kernel_rfl⟩⟩
theorem fdF80x0 : fdInfo Tryd.prog 80 0 = some (0, 5) := by kernel_rfl
theorem fdF80x1 : fdInfo Tryd.prog 80 1 = some (1, 5) := by kernel_rfl
theorem plF80 : plOf Tryd.prog 80 = [(0, 1), (1, 1)] := by kernel_rfl
theorem soF80 : StructOk Tryd.prog 80 (.cons .u8 (.cons .u8 .nil)) [(0, 1), (1, 1)] := ⟨⟨Tryd.prog.fieldsOf 80, _, _, by kernel_rfl, rfl, rfl, by kernel_rfl, fun w => by kernel_rfl⟩⟩
theorem tyF81 : tyOf Tryd.prog 8 81 = some (.cons .u8 (.cons .u8 .nil)) := by kernel_rfl
theorem ldF81 : ldInfo Tryd.prog 81 = some (true, 2) := by kernel_rfl
theorem zoF81 : ZeroOk Tryd.prog 81 (.cons .u8 (.cons .u8 .nil)) := ⟨⟨_, _, rfl, rfl, by kernel_rfl⟩⟩
theorem fdF81x0 : fdInfo Tryd.prog 81 0 = some (0, 5) := by kernel_rfl
theorem fdF81x1 : fdInfo Tryd.prog 81 1 = some (1, 5) := by kernel_rfl
theorem plF81 : plOf Tryd.prog 81 = [(0, 1), (1, 1)] := by kernel_rfl
theorem soF81 : StructOk Tryd.prog 81 (.cons .u8 (.cons .u8 .nil)) [(0, 1), (1, 1)] := ⟨⟨Tryd.prog.fieldsOf 81, _, _, by kernel_rfl, rfl, rfl, by kernel_rfl, fun w => by kernel_rfl⟩⟩
theorem ldF82 : ldInfo Tryd.prog 82 = some (true, 32) := by kernel_rfl
theorem ldF83 : ldInfo Tryd.prog 83 = some (false, 1) := by kernel_rfl
theorem tyF84 : tyOf Tryd.prog 8 84 = some (.cons .ptr (.cons .ptr (.cons .ptr (.cons .str .nil)))) := by kernel_rfl
theorem ldF84 : ldInfo Tryd.prog 84 = some (true, 4) := by kernel_rfl
theorem zoF84 : ZeroOk Tryd.prog 84 (.cons .ptr (.cons .ptr (.cons .ptr (.cons .str .nil)))) := ⟨⟨_, _, rfl, rfl, by kernel_rfl⟩⟩
theorem fdF84x0 : fdInfo Tryd.prog 84 0 = some (0, 17) := by kernel_rfl
theorem fdF84x1 : fdInfo Tryd.prog 84 1 = some (1, 17) := by kernel_rfl
theorem fdF84x2 : fdInfo Tryd.prog 84 2 = some (2, 17) := by kernel_rfl
theorem fdF84x3 : fdInfo Tryd.prog 84 3 = some (3, 9) := by kernel_rfl
theorem plF84 : plOf Tryd.prog 84 = [(0, 1), (1, 1), (2, 1), (3, 1)] := by kernel_rfl
theorem soF84 : StructOk Tryd.prog 84 (.cons .ptr (.cons .ptr (.cons .ptr (.cons .str .nil)))) [(0, 1), (1, 1), (2, 1), (3, 1)] := ⟨⟨Tryd.prog.fieldsOf 84, _, _, by kernel_rfl, rfl, rfl, by kernel_rfl, fun w => by kernel_rfl⟩⟩
theorem tyF85 : tyOf Tryd.prog 8 85 = some (.cons .ptr (.cons .ptr (.cons .ptr (.cons .str .nil)))) := by kernel_rfl
theorem ldF85 : ldInfo Tryd.prog 85 = some (true, 4) := by kernel_rfl
theorem zoF85 : ZeroOk Tryd.prog 85 (.cons .ptr (.cons .ptr (.cons .ptr (.cons .str .nil)))) := ⟨⟨_, _, rfl, rfl, by kernel_rfl⟩⟩
theorem fdF85x0 : fdInfo Tryd.prog 85 0 = some (0, 17) := by kernel_rfl
theorem fdF85x1 : fdInfo Tryd.prog 85 1 = some (1, 17) := by kernel_rfl
theorem fdF85x2 : fdInfo Tryd.prog 85 2 = some (2, 17) := by kernel_rfl
theorem fdF85x3 : fdInfo Tryd.prog 85 3 = some (3, 9) := by kernel_rfl
theorem plF85 : plOf Tryd.prog 85 = [(0, 1), (1, 1), (2, 1), (3, 1)] := by kernel_rfl
theorem soF85 : StructOk Tryd.prog 85 (.cons .ptr (.cons .ptr (.cons .ptr (.cons .str .nil)))) [(0, 1), (1, 1), (2, 1), (3, 1)] := ⟨⟨Tryd.prog.fieldsOf 85, _, _, by kernel_rfl, rfl, rfl, by kernel_rfl, fun w => by kernel_rfl⟩⟩
theorem ldF86 : ldInfo Tryd.prog 86 = some (true, 0) := by kernel_rfl
theorem ldF87 : ldInfo Tryd.prog 87 = some (true, 0) := by kernel_rfl
theorem ldF88 : ldInfo Tryd.prog 88 = some (true, 0) := by kernel_rfl
theorem ldF89 : ldInfo Tryd.prog 89 = some (false, 1) := by kernel_rfl
theorem tyF90 : tyOf Tryd.prog 8 90 = some (.int .u32) := by kernel_rfl
theorem ldF90 : ldInfo Tryd.prog 90 = some (false, 1) := by kernel_rfl
theorem zoF90 : ZeroOk Tryd.prog 90 (.int .u32) := ⟨⟨_, _, rfl, rfl, by kernel_rfl⟩⟩
theorem tyF91 : tyOf Tryd.prog 8 91 = some .u8 := by kernel_rfl
theorem ldF91 : ldInfo Tryd.prog 91 = some (false, 1) := by kernel_rfl
theorem zoF91 : ZeroOk Tryd.prog 91 .u8 := ⟨⟨_, _, rfl, rfl, by kernel_rfl⟩⟩
theorem tyF92 : tyOf Tryd.prog 8 92 = some .u8 := by kernel_rfl
theorem ldF92 : ldInfo Tryd.prog 92 = some (false, 1) := by kernel_rfl
theorem zoF92 : ZeroOk Tryd.prog 92 .u8 := ⟨⟨_, _, rfl, rfl, by kernel_rfl⟩⟩
theorem ldF93 : ldInfo Tryd.prog 93 = some (false, 1) := by kernel_rfl
theorem tyF94 : tyOf Tryd.prog 8 94 = some .ptr := by kernel_rfl
theorem ldF94 : ldInfo Tryd.prog 94 = some (false, 1) := by kernel_rfl
theorem ptF94 : PtrOk Tryd.prog 94 := ⟨⟨5, _, by kernel_rfl, rfl, by decide +kernel⟩⟩
theorem zoF94 : ZeroOk Tryd.prog 94 .ptr := ⟨⟨_, _, rfl, rfl, by kernel_rfl⟩⟩
theorem tyF95 : tyOf Tryd.prog 8 95 = some (.int .i32) := by kernel_rfl
theorem ldF95 : ldInfo Tryd.prog 95 = some (false, 1) := by kernel_rfl
theorem zoF95 : ZeroOk Tryd.prog 95 (.int .i32) := ⟨⟨_, _, rfl, rfl, by kernel_rfl⟩⟩
theorem tyF96 : tyOf Tryd.prog 8 96 = some (.int .i32) := by kernel_rfl
theorem ldF96 : ldInfo Tryd.prog 96 = some (false, 1) := by kernel_rfl
theorem zoF96 : ZeroOk Tryd.prog 96 (.int .i32) := ⟨⟨_, _, rfl, rfl, by kernel_rfl⟩⟩
theorem ldF97 : ldInfo Tryd.prog 97 = some (true, 11) := by kernel_rfl
theorem fdF97x0 : fdInfo Tryd.prog 97 0 = some (0, 12) := by kernel_rfl
theorem fdF97x1 : fdInfo Tryd.prog 97 1 = some (1, 12) := by kernel_rfl
theorem fdF97x2 : fdInfo Tryd.prog 97 2 = some (2, 90) := by kernel_rfl
theorem fdF97x3 : fdInfo Tryd.prog 97 3 = some (3, 91) := by kernel_rfl
theorem fdF97x4 : fdInfo Tryd.prog 97 4 = some (4, 5) := by kernel_rfl
theorem fdF97x5 : fdInfo Tryd.prog 97 5 = some (5, 5) := by kernel_rfl
theorem fdF97x6 : fdInfo Tryd.prog 97 6 = some (6, 92) := by kernel_rfl
theorem fdF97x7 : fdInfo Tryd.prog 97 7 = some (7, 93) := by kernel_rfl
theorem fdF97x8 : fdInfo Tryd.prog 97 8 = some (8, 94) := by kernel_rfl
theorem fdF97x9 : fdInfo Tryd.prog 97 9 = some (9, 95) := by kernel_rfl
theorem fdF97x10 : fdInfo Tryd.prog 97 10 = some (10, 96) := by kernel_rfl
theorem ldF98 : ldInfo Tryd.prog 98 = some (true, 11) := by kernel_rfl
theorem fdF98x0 : fdInfo Tryd.prog 98 0 = some (0, 12) := by kernel_rfl
theorem fdF98x1 : fdInfo Tryd.prog 98 1 = some (1, 12) := by kernel_rfl
theorem fdF98x2 : fdInfo Tryd.prog 98 2 = some (2, 90) := by kernel_rfl
theorem fdF98x3 : fdInfo Tryd.prog 98 3 = some (3, 91) := by kernel_rfl
theorem fdF98x4 : fdInfo Tryd.prog 98 4 = some (4, 5) := by kernel_rfl
theorem fdF98x5 : fdInfo Tryd.prog 98 5 = some (5, 5) := by kernel_rfl
theorem fdF98x6 : fdInfo Tryd.prog 98 6 = some (6, 92) := by kernel_rfl
theorem fdF98x7 : fdInfo Tryd.prog 98 7 = some (7, 93) := by kernel_rfl
theorem fdF98x8 : fdInfo Tryd.prog 98 8 = some (8, 94) := by kernel_rfl
theorem fdF98x9 : fdInfo Tryd.prog 98 9 = some (9, 95) := by kernel_rfl
theorem fdF98x10 : fdInfo Tryd.prog 98 10 = some (10, 96) := by kernel_rfl
theorem ldF99 : ldInfo Tryd.prog 99 = some (false, 1) := by kernel_rfl
/-- All of them. -/
theorem F : (ldInfo Tryd.prog 1 = some (false, 1)) ∧ (tyOf Tryd.prog 8 2 = some (.int .i64)) ∧ (ldInfo Tryd.prog 2 = some (false, 1)) ∧ (ZeroOk Tryd.prog 2 (.int .i64)) ∧ (tyOf Tryd.prog 8 3 = some (.int .i64)) ∧ (ldInfo Tryd.prog 3 = some (false, 1)) ∧ (ZeroOk Tryd.prog 3 (.int .i64)) ∧ (tyOf Tryd.prog 8 4 = some .bool) ∧ (ldInfo Tryd.prog 4 = some (false, 1)) ∧ (ZeroOk Tryd.prog 4 .bool) ∧ (tyOf Tryd.prog 8 5 = some .u8) ∧ (ldInfo Tryd.prog 5 = some (false, 1)) ∧ (ZeroOk Tryd.prog 5 .u8) ∧ (tyOf Tryd.prog 8 6 = some .u8) ∧ (ldInfo Tryd.prog 6 = some (false, 1)) ∧ (ZeroOk Tryd.prog 6 .u8) ∧ (tyOf Tryd.prog 8 7 = some (.cons (.int .i64) (.cons (.int .i64) (.cons .bool (.cons .u8 .nil))))) ∧ (ldInfo Tryd.prog 7 = some (true, 4)) ∧ (ZeroOk Tryd.prog 7 (.cons (.int .i64) (.cons (.int .i64) (.cons .bool (.cons .u8 .nil))))) ∧ (fdInfo Tryd.prog 7 0 = some (0, 2)) ∧ (fdInfo Tryd.prog 7 1 = some (1, 3)) ∧ (fdInfo Tryd.prog 7 2 = some (2, 4)) ∧ (fdInfo Tryd.prog 7 3 = some (3, 6)) ∧ (plOf Tryd.prog 7 = [(0, 1), (1, 1), (2, 1), (3, 1)]) ∧ (StructOk Tryd.prog 7 (.cons (.int .i64) (.cons (.int .i64) (.cons .bool (.cons .u8 .nil)))) [(0, 1), (1, 1), (2, 1), (3, 1)]) ∧ (tyOf Tryd.prog 8 8 = some (.cons (.int .i64) (.cons (.int .i64) (.cons .bool (.cons .u8 .nil))))) ∧ (ldInfo Tryd.prog 8 = some (true, 4)) ∧ (ZeroOk Tryd.prog 8 (.cons (.int .i64) (.cons (.int .i64) (.cons .bool (.cons .u8 .nil))))) ∧ (fdInfo Tryd.prog 8 0 = some (0, 2)) ∧ (fdInfo Tryd.prog 8 1 = some (1, 3)) ∧ (fdInfo Tryd.prog 8 2 = some (2, 4)) ∧ (fdInfo Tryd.prog 8 3 = some (3, 6)) ∧ (plOf Tryd.prog 8 = [(0, 1), (1, 1), (2, 1), (3, 1)]) ∧ (StructOk Tryd.prog 8 (.cons (.int .i64) (.cons (.int .i64) (.cons .bool (.cons .u8 .nil)))) [(0, 1), (1, 1), (2, 1), (3, 1)]) ∧ (tyOf Tryd.prog 8 9 = some .str) ∧ (ldInfo Tryd.prog 9 = some (false, 1)) ∧ (ZeroOk Tryd.prog 9 .str) ∧ (tyOf Tryd.prog 8 10 = some .str) ∧ (ldInfo Tryd.prog 10 = some (false, 1)) ∧ (ZeroOk Tryd.prog 10 .str) ∧ (tyOf Tryd.prog 8 11 = some .str) ∧ (ldInfo Tryd.prog 11 = some (false, 1)) ∧ (ZeroOk Tryd.prog 11 .str) ∧ (tyOf Tryd.prog 8 12 = some (.int .u64)) ∧ (ldInfo Tryd.prog 12 = some (false, 1)) ∧ (ZeroOk Tryd.prog 12 (.int .u64)) ∧ (tyOf Tryd.prog 8 13 = some (.cons .str (.cons (.int .u64) .nil))) ∧ (ldInfo Tryd.prog 13 = some (true, 2)) ∧ (ZeroOk Tryd.prog 13 (.cons .str (.cons (.int .u64) .nil))) ∧ (fdInfo Tryd.prog 13 0 = some (0, 9)) ∧ (fdInfo Tryd.prog 13 1 = some (1, 12)) ∧ (plOf Tryd.prog 13 = [(0, 1), (1, 1)]) ∧ (StructOk Tryd.prog 13 (.cons .str (.cons (.int .u64) .nil)) [(0, 1), (1, 1)]) ∧ (tyOf Tryd.prog 8 14 = some (.cons .str (.cons (.int .u64) .nil))) ∧ (ldInfo Tryd.prog 14 = some (true, 2)) ∧ (ZeroOk Tryd.prog 14 (.cons .str (.cons (.int .u64) .nil))) ∧ (fdInfo Tryd.prog 14 0 = some (0, 9)) ∧ (fdInfo Tryd.prog 14 1 = some (1, 12)) ∧ (plOf Tryd.prog 14 = [(0, 1), (1, 1)]) ∧ (StructOk Tryd.prog 14 (.cons .str (.cons (.int .u64) .nil)) [(0, 1), (1, 1)]) ∧ (tyOf Tryd.prog 8 15 = some .ptr) ∧ (ldInfo Tryd.prog 15 = some (false, 1)) ∧ (PtrOk Tryd.prog 15) ∧ (ZeroOk Tryd.prog 15 .ptr) ∧ (tyOf Tryd.prog 8 16 = some .ptr) ∧ (ldInfo Tryd.prog 16 = some (false, 1)) ∧ (ZeroOk Tryd.prog 16 .ptr) ∧ (tyOf Tryd.prog 8 17 = some .ptr) ∧ (ldInfo Tryd.prog 17 = some (false, 1)) ∧ (PtrOk Tryd.prog 17) ∧ (ZeroOk Tryd.prog 17 .ptr) ∧ (tyOf Tryd.prog 8 18 = some (.cons .ptr .nil)) ∧ (ldInfo Tryd.prog 18 = some (true, 1)) ∧ (ZeroOk Tryd.prog 18 (.cons .ptr .nil)) ∧ (fdInfo Tryd.prog 18 0 = some (0, 17)) ∧ (plOf Tryd.prog 18 = [(0, 1)]) ∧ (StructOk Tryd.prog 18 (.cons .ptr .nil) [(0, 1)]) ∧ (tyOf Tryd.prog 8 19 = some (.cons .ptr .nil)) ∧ (ldInfo Tryd.prog 19 = some (true, 1)) ∧ (ZeroOk Tryd.prog 19 (.cons .ptr .nil)) ∧ (fdInfo Tryd.prog 19 0 = some (0, 17)) ∧ (plOf Tryd.prog 19 = [(0, 1)]) ∧ (StructOk Tryd.prog 19 (.cons .ptr .nil) [(0, 1)]) ∧ (ldInfo Tryd.prog 20 = some (false, 1)) ∧ (tyOf Tryd.prog 8 21 = some (.int .i32)) ∧ (ldInfo Tryd.prog 21 = some (false, 1)) ∧ (ZeroOk Tryd.prog 21 (.int .i32)) ∧ (tyOf Tryd.prog 8 22 = some (.sl .u8)) ∧ (ldInfo Tryd.prog 22 = some (false, 1)) ∧ (ZeroOk Tryd.prog 22 (.sl .u8)) ∧ (elemOk Tryd.prog 22 .u8) ∧ (elTy Tryd.prog 22 = 5) ∧ (elBytes Tryd.prog 22 = 1) ∧ (MadeOk Tryd.prog 22 .u8) ∧ (AppE Tryd.prog 22 .u8) ∧ (ldInfo Tryd.prog 23 = some (false, 1)) ∧ (tyOf Tryd.prog 8 24 = some (.cons (.int .i64) (.cons (.int .i64) (.cons (.sl .u8) .nil)))) ∧ (ldInfo Tryd.prog 24 = some (true, 3)) ∧ (ZeroOk Tryd.prog 24 (.cons (.int .i64) (.cons (.int .i64) (.cons (.sl .u8) .nil)))) ∧ (fdInfo Tryd.prog 24 0 = some (0, 3)) ∧ (fdInfo Tryd.prog 24 1 = some (1, 3)) ∧ (fdInfo Tryd.prog 24 2 = some (2, 22)) ∧ (plOf Tryd.prog 24 = [(0, 1), (1, 1), (2, 1)]) ∧ (StructOk Tryd.prog 24 (.cons (.int .i64) (.cons (.int .i64) (.cons (.sl .u8) .nil))) [(0, 1), (1, 1), (2, 1)]) ∧ (tyOf Tryd.prog 8 25 = some (.cons (.int .i64) (.cons (.int .i64) (.cons (.sl .u8) .nil)))) ∧ (ldInfo Tryd.prog 25 = some (true, 3)) ∧ (ZeroOk Tryd.prog 25 (.cons (.int .i64) (.cons (.int .i64) (.cons (.sl .u8) .nil)))) ∧ (fdInfo Tryd.prog 25 0 = some (0, 3)) ∧ (fdInfo Tryd.prog 25 1 = some (1, 3)) ∧ (fdInfo Tryd.prog 25 2 = some (2, 22)) ∧ (plOf Tryd.prog 25 = [(0, 1), (1, 1), (2, 1)]) ∧ (StructOk Tryd.prog 25 (.cons (.int .i64) (.cons (.int .i64) (.cons (.sl .u8) .nil))) [(0, 1), (1, 1), (2, 1)]) ∧ (tyOf Tryd.prog 8 26 = some (.sl (.cons (.int .i64) (.cons (.int .i64) (.cons (.sl .u8) .nil))))) ∧ (ldInfo Tryd.prog 26 = some (false, 1)) ∧ (ZeroOk Tryd.prog 26 (.sl (.cons (.int .i64) (.cons (.int .i64) (.cons (.sl .u8) .nil))))) ∧ (elemOk Tryd.prog 26 (.cons (.int .i64) (.cons (.int .i64) (.cons (.sl .u8) .nil)))) ∧ (elTy Tryd.prog 26 = 25) ∧ (elBytes Tryd.prog 26 = 40) ∧ (AppE Tryd.prog 26 (.cons (.int .i64) (.cons (.int .i64) (.cons (.sl .u8) .nil)))) ∧ (tyOf Tryd.prog 8 27 = some (.sl .str)) ∧ (ldInfo Tryd.prog 27 = some (false, 1)) ∧ (ZeroOk Tryd.prog 27 (.sl .str)) ∧ (elemOk Tryd.prog 27 .str) ∧ (elTy Tryd.prog 27 = 9) ∧ (elBytes Tryd.prog 27 = 16) ∧ (MadeOk Tryd.prog 27 .str) ∧ (AppE Tryd.prog 27 .str) ∧ (ldInfo Tryd.prog 28 = some (false, 1)) ∧ (ldInfo Tryd.prog 29 = some (false, 1)) ∧ (ldInfo Tryd.prog 30 = some (false, 1)) ∧ (ldInfo Tryd.prog 31 = some (false, 1)) ∧ (ldInfo Tryd.prog 32 = some (false, 1)) ∧ (tyOf Tryd.prog 8 33 = some (.sl (.cons (.int .i64) (.cons (.int .i64) (.cons (.sl .u8) .nil))))) ∧ (ldInfo Tryd.prog 33 = some (false, 1)) ∧ (ZeroOk Tryd.prog 33 (.sl (.cons (.int .i64) (.cons (.int .i64) (.cons (.sl .u8) .nil))))) ∧ (elemOk Tryd.prog 33 (.cons (.int .i64) (.cons (.int .i64) (.cons (.sl .u8) .nil)))) ∧ (elTy Tryd.prog 33 = 34) ∧ (elBytes Tryd.prog 33 = 40) ∧ (AppE Tryd.prog 33 (.cons (.int .i64) (.cons (.int .i64) (.cons (.sl .u8) .nil)))) ∧ (tyOf Tryd.prog 8 34 = some (.cons (.int .i64) (.cons (.int .i64) (.cons (.sl .u8) .nil)))) ∧ (ldInfo Tryd.prog 34 = some (true, 3)) ∧ (ZeroOk Tryd.prog 34 (.cons (.int .i64) (.cons (.int .i64) (.cons (.sl .u8) .nil)))) ∧ (fdInfo Tryd.prog 34 0 = some (0, 3)) ∧ (fdInfo Tryd.prog 34 1 = some (1, 3)) ∧ (fdInfo Tryd.prog 34 2 = some (2, 22)) ∧ (plOf Tryd.prog 34 = [(0, 1), (1, 1), (2, 1)]) ∧ (StructOk Tryd.prog 34 (.cons (.int .i64) (.cons (.int .i64) (.cons (.sl .u8) .nil))) [(0, 1), (1, 1), (2, 1)]) ∧ (ldInfo Tryd.prog 36 = some (false, 1)) ∧ (ldInfo Tryd.prog 37 = some (false, 1)) ∧ (ldInfo Tryd.prog 38 = some (false, 1)) ∧ (tyOf Tryd.prog 8 39 = some (.sl (.cons (.int .i64) (.cons (.int .i64) (.cons (.sl .u8) .nil))))) ∧ (ldInfo Tryd.prog 39 = some (false, 1)) ∧ (ZeroOk Tryd.prog 39 (.sl (.cons (.int .i64) (.cons (.int .i64) (.cons (.sl .u8) .nil))))) ∧ (elemOk Tryd.prog 39 (.cons (.int .i64) (.cons (.int .i64) (.cons (.sl .u8) .nil)))) ∧ (elTy Tryd.prog 39 = 40) ∧ (elBytes Tryd.prog 39 = 40) ∧ (AppE Tryd.prog 39 (.cons (.int .i64) (.cons (.int .i64) (.cons (.sl .u8) .nil)))) ∧ (tyOf Tryd.prog 8 40 = some (.cons (.int .i64) (.cons (.int .i64) (.cons (.sl .u8) .nil)))) ∧ (ldInfo Tryd.prog 40 = some (true, 3)) ∧ (ZeroOk Tryd.prog 40 (.cons (.int .i64) (.cons (.int .i64) (.cons (.sl .u8) .nil)))) ∧ (fdInfo Tryd.prog 40 0 = some (0, 3)) ∧ (fdInfo Tryd.prog 40 1 = some (1, 3)) ∧ (fdInfo Tryd.prog 40 2 = some (2, 22)) ∧ (plOf Tryd.prog 40 = [(0, 1), (1, 1), (2, 1)]) ∧ (StructOk Tryd.prog 40 (.cons (.int .i64) (.cons (.int .i64) (.cons (.sl .u8) .nil))) [(0, 1), (1, 1), (2, 1)]) ∧ (ldInfo Tryd.prog 41 = some (false, 1)) ∧ (ldInfo Tryd.prog 42 = some (false, 1)) ∧ (tyOf Tryd.prog 8 43 = some (.cons .u8 (.cons (.int .i64) (.cons (.int .i64) (.cons .str .nil))))) ∧ (ldInfo Tryd.prog 43 = some (true, 4)) ∧ (ZeroOk Tryd.prog 43 (.cons .u8 (.cons (.int .i64) (.cons (.int .i64) (.cons .str .nil))))) ∧ (fdInfo Tryd.prog 43 0 = some (0, 5)) ∧ (fdInfo Tryd.prog 43 1 = some (1, 3)) ∧ (fdInfo Tryd.prog 43 2 = some (2, 3)) ∧ (fdInfo Tryd.prog 43 3 = some (3, 9)) ∧ (plOf Tryd.prog 43 = [(0, 1), (1, 1), (2, 1), (3, 1)]) ∧ (StructOk Tryd.prog 43 (.cons .u8 (.cons (.int .i64) (.cons (.int .i64) (.cons .str .nil)))) [(0, 1), (1, 1), (2, 1), (3, 1)]) ∧ (tyOf Tryd.prog 8 44 = some (.cons .u8 (.cons (.int .i64) (.cons (.int .i64) (.cons .str .nil))))) ∧ (ldInfo Tryd.prog 44 = some (true, 4)) ∧ (ZeroOk Tryd.prog 44 (.cons .u8 (.cons (.int .i64) (.cons (.int .i64) (.cons .str .nil))))) ∧ (fdInfo Tryd.prog 44 0 = some (0, 5)) ∧ (fdInfo Tryd.prog 44 1 = some (1, 3)) ∧ (fdInfo Tryd.prog 44 2 = some (2, 3)) ∧ (fdInfo Tryd.prog 44 3 = some (3, 9)) ∧ (plOf Tryd.prog 44 = [(0, 1), (1, 1), (2, 1), (3, 1)]) ∧ (EqOk Tryd.prog 44 [.u8, (.int .i64), (.int .i64), .str]) ∧ (StructOk Tryd.prog 44 (.cons .u8 (.cons (.int .i64) (.cons (.int .i64) (.cons .str .nil)))) [(0, 1), (1, 1), (2, 1), (3, 1)]) ∧ (ldInfo Tryd.prog 45 = some (false, 1)) ∧ (tyOf Tryd.prog 8 46 = some (.cons .u8 (.cons (.int .i64) (.cons (.int .i64) (.cons .str .nil))))) ∧ (ldInfo Tryd.prog 46 = some (true, 4)) ∧ (ZeroOk Tryd.prog 46 (.cons .u8 (.cons (.int .i64) (.cons (.int .i64) (.cons .str .nil))))) ∧ (fdInfo Tryd.prog 46 0 = some (0, 5)) ∧ (fdInfo Tryd.prog 46 1 = some (1, 3)) ∧ (fdInfo Tryd.prog 46 2 = some (2, 3)) ∧ (fdInfo Tryd.prog 46 3 = some (3, 9)) ∧ (plOf Tryd.prog 46 = [(0, 1), (1, 1), (2, 1), (3, 1)]) ∧ (EqOk Tryd.prog 46 [.u8, (.int .i64), (.int .i64), .str]) ∧ (StructOk Tryd.prog 46 (.cons .u8 (.cons (.int .i64) (.cons (.int .i64) (.cons .str .nil)))) [(0, 1), (1, 1), (2, 1), (3, 1)]) ∧ (ldInfo Tryd.prog 48 = some (false, 1)) ∧ (ldInfo Tryd.prog 49 = some (false, 1)) ∧ (ldInfo Tryd.prog 50 = some (false, 1)) ∧ (ldInfo Tryd.prog 51 = some (false, 1)) ∧ (ldInfo Tryd.prog 52 = some (false, 1)) ∧ (ldInfo Tryd.prog 53 = some (false, 1)) ∧ (ldInfo Tryd.prog 54 = some (false, 1)) ∧ (ldInfo Tryd.prog 56 = some (false, 1)) ∧ (ldInfo Tryd.prog 57 = some (false, 1)) ∧ (ldInfo Tryd.prog 58 = some (false, 1)) ∧ (ldInfo Tryd.prog 59 = some (false, 1)) ∧ (ldInfo Tryd.prog 60 = some (false, 1)) ∧ (ldInfo Tryd.prog 61 = some (false, 1)) ∧ (ldInfo Tryd.prog 62 = some (false, 1)) ∧ (ldInfo Tryd.prog 63 = some (false, 1)) ∧ (ldInfo Tryd.prog 64 = some (false, 1)) ∧ (ldInfo Tryd.prog 65 = some (true, 256)) ∧ (ldInfo Tryd.prog 66 = some (true, 256)) ∧ (ldInfo Tryd.prog 68 = some (false, 1)) ∧ (ldInfo Tryd.prog 69 = some (false, 1)) ∧ (tyOf Tryd.prog 8 70 = some .ptr) ∧ (ldInfo Tryd.prog 70 = some (false, 1)) ∧ (PtrOk Tryd.prog 70) ∧ (ZeroOk Tryd.prog 70 .ptr) ∧ (ldInfo Tryd.prog 71 = some (false, 1)) ∧ (ldInfo Tryd.prog 72 = some (false, 1)) ∧ (ldInfo Tryd.prog 74 = some (false, 1)) ∧ (ldInfo Tryd.prog 75 = some (false, 1)) ∧ (ldInfo Tryd.prog 76 = some (false, 1)) ∧ (ldInfo Tryd.prog 77 = some (false, 1)) ∧ (tyOf Tryd.prog 8 78 = some (.int .u64)) ∧ (ldInfo Tryd.prog 78 = some (false, 1)) ∧ (ZeroOk Tryd.prog 78 (.int .u64)) ∧ (ldInfo Tryd.prog 79 = some (true, 256)) ∧ (tyOf Tryd.prog 8 80 = some (.cons .u8 (.cons .u8 .nil))) ∧ (ldInfo Tryd.prog 80 = some (true, 2)) ∧ (ZeroOk Tryd.prog 80 (.cons .u8 (.cons .u8 .nil))) ∧ (fdInfo Tryd.prog 80 0 = some (0, 5)) ∧ (fdInfo Tryd.prog 80 1 = some (1, 5)) ∧ (plOf Tryd.prog 80 = [(0, 1), (1, 1)]) ∧ (StructOk Tryd.prog 80 (.cons .u8 (.cons .u8 .nil)) [(0, 1), (1, 1)]) ∧ (tyOf Tryd.prog 8 81 = some (.cons .u8 (.cons .u8 .nil))) ∧ (ldInfo Tryd.prog 81 = some (true, 2)) ∧ (ZeroOk Tryd.prog 81 (.cons .u8 (.cons .u8 .nil))) ∧ (fdInfo Tryd.prog 81 0 = some (0, 5)) ∧ (fdInfo Tryd.prog 81 1 = some (1, 5)) ∧ (plOf Tryd.prog 81 = [(0, 1), (1, 1)]) ∧ (StructOk Tryd.prog 81 (.cons .u8 (.cons .u8 .nil)) [(0, 1), (1, 1)]) ∧ (ldInfo Tryd.prog 82 = some (true, 32)) ∧ (ldInfo Tryd.prog 83 = some (false, 1)) ∧ (tyOf Tryd.prog 8 84 = some (.cons .ptr (.cons .ptr (.cons .ptr (.cons .str .nil))))) ∧ (ldInfo Tryd.prog 84 = some (true, 4)) ∧ (ZeroOk Tryd.prog 84 (.cons .ptr (.cons .ptr (.cons .ptr (.cons .str .nil))))) ∧ (fdInfo Tryd.prog 84 0 = some (0, 17)) ∧ (fdInfo Tryd.prog 84 1 = some (1, 17)) ∧ (fdInfo Tryd.prog 84 2 = some (2, 17)) ∧ (fdInfo Tryd.prog 84 3 = some (3, 9)) ∧ (plOf Tryd.prog 84 = [(0, 1), (1, 1), (2, 1), (3, 1)]) ∧ (StructOk Tryd.prog 84 (.cons .ptr (.cons .ptr (.cons .ptr (.cons .str .nil)))) [(0, 1), (1, 1), (2, 1), (3, 1)]) ∧ (tyOf Tryd.prog 8 85 = some (.cons .ptr (.cons .ptr (.cons .ptr (.cons .str .nil))))) ∧ (ldInfo Tryd.prog 85 = some (true, 4)) ∧ (ZeroOk Tryd.prog 85 (.cons .ptr (.cons .ptr (.cons .ptr (.cons .str .nil))))) ∧ (fdInfo Tryd.prog 85 0 = some (0, 17)) ∧ (fdInfo Tryd.prog 85 1 = some (1, 17)) ∧ (fdInfo Tryd.prog 85 2 = some (2, 17)) ∧ (fdInfo Tryd.prog 85 3 = some (3, 9)) ∧ (plOf Tryd.prog 85 = [(0, 1), (1, 1), (2, 1), (3, 1)]) ∧ (StructOk Tryd.prog 85 (.cons .ptr (.cons .ptr (.cons .ptr (.cons .str .nil)))) [(0, 1), (1, 1), (2, 1), (3, 1)]) ∧ (ldInfo Tryd.prog 86 = some (true, 0)) ∧ (ldInfo Tryd.prog 87 = some (true, 0)) ∧ (ldInfo Tryd.prog 88 = some (true, 0)) ∧ (ldInfo Tryd.prog 89 = some (false, 1)) ∧ (tyOf Tryd.prog 8 90 = some (.int .u32)) ∧ (ldInfo Tryd.prog 90 = some (false, 1)) ∧ (ZeroOk Tryd.prog 90 (.int .u32)) ∧ (tyOf Tryd.prog 8 91 = some .u8) ∧ (ldInfo Tryd.prog 91 = some (false, 1)) ∧ (ZeroOk Tryd.prog 91 .u8) ∧ (tyOf Tryd.prog 8 92 = some .u8) ∧ (ldInfo Tryd.prog 92 = some (false, 1)) ∧ (ZeroOk Tryd.prog 92 .u8) ∧ (ldInfo Tryd.prog 93 = some (false, 1)) ∧ (tyOf Tryd.prog 8 94 = some .ptr) ∧ (ldInfo Tryd.prog 94 = some (false, 1)) ∧ (PtrOk Tryd.prog 94) ∧ (ZeroOk Tryd.prog 94 .ptr) ∧ (tyOf Tryd.prog 8 95 = some (.int .i32)) ∧ (ldInfo Tryd.prog 95 = some (false, 1)) ∧ (ZeroOk Tryd.prog 95 (.int .i32)) ∧ (tyOf Tryd.prog 8 96 = some (.int .i32)) ∧ (ldInfo Tryd.prog 96 = some (false, 1)) ∧ (ZeroOk Tryd.prog 96 (.int .i32)) ∧ (ldInfo Tryd.prog 97 = some (true, 11)) ∧ (fdInfo Tryd.prog 97 0 = some (0, 12)) ∧ (fdInfo Tryd.prog 97 1 = some (1, 12)) ∧ (fdInfo Tryd.prog 97 2 = some (2, 90)) ∧ (fdInfo Tryd.prog 97 3 = some (3, 91)) ∧ (fdInfo Tryd.prog 97 4 = some (4, 5)) ∧ (fdInfo Tryd.prog 97 5 = some (5, 5)) ∧ (fdInfo Tryd.prog 97 6 = some (6, 92)) ∧ (fdInfo Tryd.prog 97 7 = some (7, 93)) ∧ (fdInfo Tryd.prog 97 8 = some (8, 94)) ∧ (fdInfo Tryd.prog 97 9 = some (9, 95)) ∧ (fdInfo Tryd.prog 97 10 = some (10, 96)) ∧ (ldInfo Tryd.prog 98 = some (true, 11)) ∧ (fdInfo Tryd.prog 98 0 = some (0, 12)) ∧ (fdInfo Tryd.prog 98 1 = some (1, 12)) ∧ (fdInfo Tryd.prog 98 2 = some (2, 90)) ∧ (fdInfo Tryd.prog 98 3 = some (3, 91)) ∧ (fdInfo Tryd.prog 98 4 = some (4, 5)) ∧ (fdInfo Tryd.prog 98 5 = some (5, 5)) ∧ (fdInfo Tryd.prog 98 6 = some (6, 92)) ∧ (fdInfo Tryd.prog 98 7 = some (7, 93)) ∧ (fdInfo Tryd.prog 98 8 = some (8, 94)) ∧ (fdInfo Tryd.prog 98 9 = some (9, 95)) ∧ (fdInfo Tryd.prog 98 10 = some (10, 96)) ∧ (ldInfo Tryd.prog 99 = some (false, 1)) := ⟨ldF1, tyF2, ldF2, zoF2, tyF3, ldF3, zoF3, tyF4, ldF4, zoF4, tyF5, ldF5, zoF5, tyF6, ldF6, zoF6, tyF7, ldF7, zoF7, fdF7x0, fdF7x1, fdF7x2, fdF7x3, plF7, soF7, tyF8, ldF8, zoF8, fdF8x0, fdF8x1, fdF8x2, fdF8x3, plF8, soF8, tyF9, ldF9, zoF9, tyF10, ldF10, zoF10, tyF11, ldF11, zoF11, tyF12, ldF12, zoF12, tyF13, ldF13, zoF13, fdF13x0, fdF13x1, plF13, soF13, tyF14, ldF14, zoF14, fdF14x0, fdF14x1, plF14, soF14, tyF15, ldF15, ptF15, zoF15, tyF16, ldF16, zoF16, tyF17, ldF17, ptF17, zoF17, tyF18, ldF18, zoF18, fdF18x0, plF18, soF18, tyF19, ldF19, zoF19, fdF19x0, plF19, soF19, ldF20, tyF21, ldF21, zoF21, tyF22, ldF22, zoF22, elF22, etF22, ebF22, mdF22, apF22, ldF23, tyF24, ldF24, zoF24, fdF24x0, fdF24x1, fdF24x2, plF24, soF24, tyF25, ldF25, zoF25, fdF25x0, fdF25x1, fdF25x2, plF25, soF25, tyF26, ldF26, zoF26, elF26, etF26, ebF26, apF26, tyF27, ldF27, zoF27, elF27, etF27, ebF27, mdF27, apF27, ldF28, ldF29, ldF30, ldF31, ldF32, tyF33, ldF33, zoF33, elF33, etF33, ebF33, apF33, tyF34, ldF34, zoF34, fdF34x0, fdF34x1, fdF34x2, plF34, soF34, ldF36, ldF37, ldF38, tyF39, ldF39, zoF39, elF39, etF39, ebF39, apF39, tyF40, ldF40, zoF40, fdF40x0, fdF40x1, fdF40x2, plF40, soF40, ldF41, ldF42, tyF43, ldF43, zoF43, fdF43x0, fdF43x1, fdF43x2, fdF43x3, plF43, soF43, tyF44, ldF44, zoF44, fdF44x0, fdF44x1, fdF44x2, fdF44x3, plF44, eqF44, soF44, ldF45, tyF46, ldF46, zoF46, fdF46x0, fdF46x1, fdF46x2, fdF46x3, plF46, eqF46, soF46, ldF48, ldF49, ldF50, ldF51, ldF52, ldF53, ldF54, ldF56, ldF57, ldF58, ldF59, ldF60, ldF61, ldF62, ldF63, ldF64, ldF65, ldF66, ldF68, ldF69, tyF70, ldF70, ptF70, zoF70, ldF71, ldF72, ldF74, ldF75, ldF76, ldF77, tyF78, ldF78, zoF78, ldF79, tyF80, ldF80, zoF80, fdF80x0, fdF80x1, plF80, soF80, tyF81, ldF81, zoF81, fdF81x0, fdF81x1, plF81, soF81, ldF82, ldF83, tyF84, ldF84, zoF84, fdF84x0, fdF84x1, fdF84x2, fdF84x3, plF84, soF84, tyF85, ldF85, zoF85, fdF85x0, fdF85x1, fdF85x2, fdF85x3, plF85, soF85, ldF86, ldF87, ldF88, ldF89, tyF90, ldF90, zoF90, tyF91, ldF91, zoF91, tyF92, ldF92, zoF92, ldF93, tyF94, ldF94, ptF94, zoF94, tyF95, ldF95, zoF95, tyF96, ldF96, zoF96, ldF97, fdF97x0, fdF97x1, fdF97x2, fdF97x3, fdF97x4, fdF97x5, fdF97x6, fdF97x7, fdF97x8, fdF97x9, fdF97x10, ldF98, fdF98x0, fdF98x1, fdF98x2, fdF98x3, fdF98x4, fdF98x5, fdF98x6, fdF98x7, fdF98x8, fdF98x9, fdF98x10, ldF99⟩
end Go.Proofs.YtoncjokijkjliaaDoor
