/- Facts of the translation's types: printed by facts.py (own work). -/
import Derived.Test.YtmmpphbbbekinaaDoorRows
import Derived.Test.YtmmpphbbbekinaaDoorCore13
import Derived.KernelRfl
namespace Go.Proofs.YtmmpphbbbekinaaDoor
open Go.Sv
set_option linter.unusedSimpArgs false
set_option maxRecDepth 100000
theorem followsF : Tryd.prog.follows .mixedOrders = true := by kernel_rfl
theorem ldF1 : ldInfo Tryd.prog 1 = some (false, 1) := by kernel_rfl
theorem tyF2 : tyOf Tryd.prog 8 2 = some (.int .i64) := by kernel_rfl
theorem ldF2 : ldInfo Tryd.prog 2 = some (false, 1) := by kernel_rfl
theorem zoF2 : ZeroOk Tryd.prog 2 (.int .i64) := ⟨⟨_, _, rfl, rfl, by kernel_rfl⟩⟩
theorem tyF3 : tyOf Tryd.prog 8 3 = some (.int .i64) := by kernel_rfl
theorem ldF3 : ldInfo Tryd.prog 3 = some (false, 1) := by kernel_rfl
theorem zoF3 : ZeroOk Tryd.prog 3 (.int .i64) := ⟨⟨_, _, rfl, rfl, by kernel_rfl⟩⟩
theorem tyF4 : tyOf Tryd.prog 8 4 = some .bool := by kernel_rfl
theorem ldF4 : ldInfo Tryd.prog 4 = some (false, 1) := by kernel_rfl
theorem zoF4 : ZeroOk Tryd.prog 4 .bool := ⟨⟨_, _, rfl, rfl, by kernel_rfl⟩⟩
theorem tyF5 : tyOf Tryd.prog 8 5 = some .u8 := by kernel_rfl
theorem ldF5 : ldInfo Tryd.prog 5 = some (false, 1) := by kernel_rfl
theorem zoF5 : ZeroOk Tryd.prog 5 .u8 := ⟨⟨_, _, rfl, rfl, by kernel_rfl⟩⟩
theorem tyF6 : tyOf Tryd.prog 8 6 = some .u8 := by kernel_rfl
theorem ldF6 : ldInfo Tryd.prog 6 = some (false, 1) := by kernel_rfl
theorem zoF6 : ZeroOk Tryd.prog 6 .u8 := ⟨⟨_, _, rfl, rfl, by kernel_rfl⟩⟩
theorem tyF7 : tyOf Tryd.prog 8 7 = some (.cons (.int .i64) (.cons (.int .i64) (.cons .bool (.cons .u8 .nil)))) := by kernel_rfl
theorem ldF7 : ldInfo Tryd.prog 7 = some (true, 4) := by kernel_rfl
theorem zoF7 : ZeroOk Tryd.prog 7 (.cons (.int .i64) (.cons (.int .i64) (.cons .bool (.cons .u8 .nil)))) := ⟨⟨_, _, rfl, rfl, by kernel_rfl⟩⟩
theorem fdF7x0 : fdInfo Tryd.prog 7 0 = some (0, 2) := by kernel_rfl
theorem fdF7x1 : fdInfo Tryd.prog 7 1 = some (1, 3) := by kernel_rfl
theorem fdF7x2 : fdInfo Tryd.prog 7 2 = some (2, 4) := by kernel_rfl
theorem fdF7x3 : fdInfo Tryd.prog 7 3 = some (3, 6) := by kernel_rfl
theorem plF7 : plOf Tryd.prog 7 = [(0, 1), (1, 1), (2, 1), (3, 1)] := by kernel_rfl
theorem soF7 : StructOk Tryd.prog 7 (.cons (.int .i64) (.cons (.int .i64) (.cons .bool (.cons .u8 .nil)))) [(0, 1), (1, 1), (2, 1), (3, 1)] := ⟨⟨Tryd.prog.fieldsOf 7, _, _, by kernel_rfl, rfl, rfl, by kernel_rfl, fun w => by kernel_rfl⟩⟩
theorem tyF8 : tyOf Tryd.prog 8 8 = some (.cons (.int .i64) (.cons (.int .i64) (.cons .bool (.cons .u8 .nil)))) := by kernel_rfl
theorem ldF8 : ldInfo Tryd.prog 8 = some (true, 4) := by kernel_rfl
theorem zoF8 : ZeroOk Tryd.prog 8 (.cons (.int .i64) (.cons (.int .i64) (.cons .bool (.cons .u8 .nil)))) := ⟨⟨_, _, rfl, rfl, by kernel_rfl⟩⟩
theorem fdF8x0 : fdInfo Tryd.prog 8 0 = some (0, 2) := by kernel_rfl
theorem fdF8x1 : fdInfo Tryd.prog 8 1 = some (1, 3) := by kernel_rfl
theorem fdF8x2 : fdInfo Tryd.prog 8 2 = some (2, 4) := by kernel_rfl
theorem fdF8x3 : fdInfo Tryd.prog 8 3 = some (3, 6) := by kernel_rfl
theorem plF8 : plOf Tryd.prog 8 = [(0, 1), (1, 1), (2, 1), (3, 1)] := by kernel_rfl
theorem soF8 : StructOk Tryd.prog 8 (.cons (.int .i64) (.cons (.int .i64) (.cons .bool (.cons .u8 .nil)))) [(0, 1), (1, 1), (2, 1), (3, 1)] := ⟨⟨Tryd.prog.fieldsOf 8, _, _, by kernel_rfl, rfl, rfl, by kernel_rfl, fun w => by kernel_rfl⟩⟩
theorem tyF9 : tyOf Tryd.prog 8 9 = some .str := by kernel_rfl
theorem ldF9 : ldInfo Tryd.prog 9 = some (false, 1) := by kernel_rfl
theorem zoF9 : ZeroOk Tryd.prog 9 .str := ⟨⟨_, _, rfl, rfl, by kernel_rfl⟩⟩
theorem tyF10 : tyOf Tryd.prog 8 10 = some .str := by kernel_rfl
theorem ldF10 : ldInfo Tryd.prog 10 = some (false, 1) := by kernel_rfl
theorem zoF10 : ZeroOk Tryd.prog 10 .str := ⟨⟨_, _, rfl, rfl, by kernel_rfl⟩⟩
theorem tyF11 : tyOf Tryd.prog 8 11 = some .str := by kernel_rfl
theorem ldF11 : ldInfo Tryd.prog 11 = some (false, 1) := by kernel_rfl
theorem zoF11 : ZeroOk Tryd.prog 11 .str := ⟨⟨_, _, rfl, rfl, by kernel_rfl⟩⟩
theorem tyF12 : tyOf Tryd.prog 8 12 = some (.int .u64) := by kernel_rfl
theorem ldF12 : ldInfo Tryd.prog 12 = some (false, 1) := by kernel_rfl
theorem zoF12 : ZeroOk Tryd.prog 12 (.int .u64) := ⟨⟨_, _, rfl, rfl, by kernel_rfl⟩⟩
theorem tyF13 : tyOf Tryd.prog 8 13 = some (.cons .str (.cons (.int .u64) .nil)) := by kernel_rfl
theorem ldF13 : ldInfo Tryd.prog 13 = some (true, 2) := by kernel_rfl
theorem zoF13 : ZeroOk Tryd.prog 13 (.cons .str (.cons (.int .u64) .nil)) := ⟨⟨_, _, rfl, rfl, by kernel_rfl⟩⟩
theorem fdF13x0 : fdInfo Tryd.prog 13 0 = some (0, 9) := by kernel_rfl
theorem fdF13x1 : fdInfo Tryd.prog 13 1 = some (1, 12) := by kernel_rfl
theorem plF13 : plOf Tryd.prog 13 = [(0, 1), (1, 1)] := by kernel_rfl
theorem soF13 : StructOk Tryd.prog 13 (.cons .str (.cons (.int .u64) .nil)) [(0, 1), (1, 1)] := ⟨⟨Tryd.prog.fieldsOf 13, _, _, by kernel_rfl, rfl, rfl, by kernel_rfl, fun w => by kernel_rfl⟩⟩
theorem tyF14 : tyOf Tryd.prog 8 14 = some (.cons .str (.cons (.int .u64) .nil)) := by kernel_rfl
theorem ldF14 : ldInfo Tryd.prog 14 = some (true, 2) := by kernel_rfl
theorem zoF14 : ZeroOk Tryd.prog 14 (.cons .str (.cons (.int .u64) .nil)) := ⟨⟨_, _, rfl, rfl, by kernel_rfl⟩⟩
theorem fdF14x0 : fdInfo Tryd.prog 14 0 = some (0, 9) := by kernel_rfl
theorem fdF14x1 : fdInfo Tryd.prog 14 1 = some (1, 12) := by kernel_rfl
theorem plF14 : plOf Tryd.prog 14 = [(0, 1), (1, 1)] := by kernel_rfl
theorem soF14 : StructOk Tryd.prog 14 (.cons .str (.cons (.int .u64) .nil)) [(0, 1), (1, 1)] := ⟨⟨Tryd.prog.fieldsOf 14, _, _, by kernel_rfl, rfl, rfl, by kernel_rfl, fun w => by kernel_rfl⟩⟩
theorem tyF15 : tyOf Tryd.prog 8 15 = some .ptr := by kernel_rfl
theorem ldF15 : ldInfo Tryd.prog 15 = some (false, 1) := by kernel_rfl
theorem ptF15 : PtrOk Tryd.prog 15 := ⟨⟨99, _, by kernel_rfl, rfl, by decide +kernel⟩⟩
theorem zoF15 : ZeroOk Tryd.prog 15 .ptr := ⟨⟨_, _, rfl, rfl, by kernel_rfl⟩⟩
theorem tyF16 : tyOf Tryd.prog 8 16 = some .ptr := by kernel_rfl
theorem ldF16 : ldInfo Tryd.prog 16 = some (false, 1) := by kernel_rfl
theorem zoF16 : ZeroOk Tryd.prog 16 .ptr := ⟨⟨_, _, rfl, rfl, by kernel_rfl⟩⟩
theorem tyF17 : tyOf Tryd.prog 8 17 = some .ptr := by kernel_rfl
theorem ldF17 : ldInfo Tryd.prog 17 = some (false, 1) := by kernel_rfl
theorem ptF17 : PtrOk Tryd.prog 17 := ⟨⟨109, _, by kernel_rfl, rfl, by decide +kernel⟩⟩
theorem zoF17 : ZeroOk Tryd.prog 17 .ptr := ⟨⟨_, _, rfl, rfl, by kernel_rfl⟩⟩
theorem tyF18 : tyOf Tryd.prog 8 18 = some (.cons .ptr .nil) := by kernel_rfl
theorem ldF18 : ldInfo Tryd.prog 18 = some (true, 1) := by kernel_rfl
theorem zoF18 : ZeroOk Tryd.prog 18 (.cons .ptr .nil) := ⟨⟨_, _, rfl, rfl, by kernel_rfl⟩⟩
theorem fdF18x0 : fdInfo Tryd.prog 18 0 = some (0, 17) := by kernel_rfl
theorem plF18 : plOf Tryd.prog 18 = [(0, 1)] := by kernel_rfl
theorem soF18 : StructOk Tryd.prog 18 (.cons .ptr .nil) [(0, 1)] := ⟨⟨Tryd.prog.fieldsOf 18, _, _, by kernel_rfl, rfl, rfl, by kernel_rfl, fun w => by kernel_rfl⟩⟩
theorem tyF19 : tyOf Tryd.prog 8 19 = some (.cons .ptr .nil) := by kernel_rfl
theorem ldF19 : ldInfo Tryd.prog 19 = some (true, 1) := by kernel_rfl
theorem zoF19 : ZeroOk Tryd.prog 19 (.cons .ptr .nil) := ⟨⟨_, _, rfl, rfl, by kernel_rfl⟩⟩
theorem fdF19x0 : fdInfo Tryd.prog 19 0 = some (0, 17) := by kernel_rfl
theorem plF19 : plOf Tryd.prog 19 = [(0, 1)] := by kernel_rfl
theorem soF19 : StructOk Tryd.prog 19 (.cons .ptr .nil) [(0, 1)] := ⟨⟨Tryd.prog.fieldsOf 19, _, _, by kernel_rfl, rfl, rfl, by kernel_rfl, fun w => by kernel_rfl⟩⟩
theorem ldF20 : ldInfo Tryd.prog 20 = some (false, 1) := by kernel_rfl
theorem tyF21 : tyOf Tryd.prog 8 21 = some (.int .i32) := by kernel_rfl
theorem ldF21 : ldInfo Tryd.prog 21 = some (false, 1) := by kernel_rfl
theorem zoF21 : ZeroOk Tryd.prog 21 (.int .i32) := ⟨⟨_, _, rfl, rfl, by kernel_rfl⟩⟩
theorem ldF22 : ldInfo Tryd.prog 22 = some (false, 1) := by kernel_rfl
theorem tyF23 : tyOf Tryd.prog 8 23 = some (.sl .u8) := by kernel_rfl
theorem ldF23 : ldInfo Tryd.prog 23 = some (false, 1) := by kernel_rfl
theorem zoF23 : ZeroOk Tryd.prog 23 (.sl .u8) := ⟨⟨_, _, rfl, rfl, by kernel_rfl⟩⟩
theorem elF23 : elemOk Tryd.prog 23 .u8 := ⟨5, _, by kernel_rfl, rfl, by kernel_rfl⟩
theorem etF23 : elTy Tryd.prog 23 = 5 := by kernel_rfl
theorem ebF23 : elBytes Tryd.prog 23 = 1 := by kernel_rfl
theorem apF23 : AppE Tryd.prog 23 .u8 := ⟨⟨5, _, _, by kernel_rfl, rfl, by kernel_rfl, by kernel_rfl, rfl, by kernel_rfl⟩⟩
theorem tyF24 : tyOf Tryd.prog 8 24 = some (.sl .str) := by kernel_rfl
theorem ldF24 : ldInfo Tryd.prog 24 = some (false, 1) := by kernel_rfl
theorem zoF24 : ZeroOk Tryd.prog 24 (.sl .str) := ⟨⟨_, _, rfl, rfl, by kernel_rfl⟩⟩
theorem elF24 : elemOk Tryd.prog 24 .str := ⟨9, _, by kernel_rfl, rfl, by kernel_rfl⟩
theorem etF24 : elTy Tryd.prog 24 = 9 := by kernel_rfl
theorem ebF24 : elBytes Tryd.prog 24 = 16 := by kernel_rfl
theorem apF24 : AppE Tryd.prog 24 .str := ⟨⟨9, _, _, by kernel_rfl, rfl, by kernel_rfl, by kernel_rfl, rfl, by kernel_rfl⟩⟩
theorem ldF25 : ldInfo Tryd.prog 25 = some (false, 1) := by kernel_rfl
theorem ldF26 : ldInfo Tryd.prog 26 = some (false, 1) := by kernel_rfl
theorem tyF27 : tyOf Tryd.prog 8 27 = some (.sl (.int .u16)) := by kernel_rfl
theorem ldF27 : ldInfo Tryd.prog 27 = some (false, 1) := by kernel_rfl
theorem zoF27 : ZeroOk Tryd.prog 27 (.sl (.int .u16)) := ⟨⟨_, _, rfl, rfl, by kernel_rfl⟩⟩
theorem elF27 : elemOk Tryd.prog 27 (.int .u16) := ⟨28, _, by kernel_rfl, rfl, by kernel_rfl⟩
theorem etF27 : elTy Tryd.prog 27 = 28 := by kernel_rfl
theorem ebF27 : elBytes Tryd.prog 27 = 2 := by kernel_rfl
theorem apF27 : AppE Tryd.prog 27 (.int .u16) := ⟨⟨28, _, _, by kernel_rfl, rfl, by kernel_rfl, by kernel_rfl, rfl, by kernel_rfl⟩⟩
theorem tyF28 : tyOf Tryd.prog 8 28 = some (.int .u16) := by kernel_rfl
theorem ldF28 : ldInfo Tryd.prog 28 = some (false, 1) := by kernel_rfl
theorem zoF28 : ZeroOk Tryd.prog 28 (.int .u16) := ⟨⟨_, _, rfl, rfl, by kernel_rfl⟩⟩
theorem ldF29 : ldInfo Tryd.prog 29 = some (false, 1) := by kernel_rfl
theorem ldF30 : ldInfo Tryd.prog 30 = some (false, 1) := by kernel_rfl
theorem ldF31 : ldInfo Tryd.prog 31 = some (false, 1) := by kernel_rfl
theorem ldF32 : ldInfo Tryd.prog 32 = some (false, 1) := by kernel_rfl
theorem tyF33 : tyOf Tryd.prog 8 33 = some (.sl (.int .i32)) := by kernel_rfl
theorem ldF33 : ldInfo Tryd.prog 33 = some (false, 1) := by kernel_rfl
theorem zoF33 : ZeroOk Tryd.prog 33 (.sl (.int .i32)) := ⟨⟨_, _, rfl, rfl, by kernel_rfl⟩⟩
theorem elF33 : elemOk Tryd.prog 33 (.int .i32) := ⟨21, _, by kernel_rfl, rfl, by kernel_rfl⟩
theorem etF33 : elTy Tryd.prog 33 = 21 := by kernel_rfl
theorem ebF33 : elBytes Tryd.prog 33 = 4 := by kernel_rfl
theorem apF33 : AppE Tryd.prog 33 (.int .i32) := ⟨⟨21, _, _, by kernel_rfl, rfl, by kernel_rfl, by kernel_rfl, rfl, by kernel_rfl⟩⟩
theorem ldF34 : ldInfo Tryd.prog 34 = some (false, 1) := by kernel_rfl
theorem ldF35 : ldInfo Tryd.prog 35 = some (false, 1) := by kernel_rfl
theorem ldF36 : ldInfo Tryd.prog 36 = some (false, 1) := by kernel_rfl
theorem tyF37 : tyOf Tryd.prog 8 37 = some (.sl .bool) := by kernel_rfl
theorem ldF37 : ldInfo Tryd.prog 37 = some (false, 1) := by kernel_rfl
theorem zoF37 : ZeroOk Tryd.prog 37 (.sl .bool) := ⟨⟨_, _, rfl, rfl, by kernel_rfl⟩⟩
theorem elF37 : elemOk Tryd.prog 37 .bool := ⟨4, _, by kernel_rfl, rfl, by kernel_rfl⟩
theorem etF37 : elTy Tryd.prog 37 = 4 := by kernel_rfl
theorem ebF37 : elBytes Tryd.prog 37 = 1 := by kernel_rfl
theorem apF37 : AppE Tryd.prog 37 .bool := ⟨⟨4, _, _, by kernel_rfl, rfl, by kernel_rfl, by kernel_rfl, rfl, by kernel_rfl⟩⟩
theorem ldF38 : ldInfo Tryd.prog 38 = some (false, 1) := by kernel_rfl
theorem ldF39 : ldInfo Tryd.prog 39 = some (false, 1) := by kernel_rfl
theorem ldF40 : ldInfo Tryd.prog 40 = some (false, 1) := by kernel_rfl
theorem tyF41 : tyOf Tryd.prog 8 41 = some (.cons .u8 (.cons (.int .i64) (.cons (.int .i64) (.cons .str .nil)))) := by kernel_rfl
theorem ldF41 : ldInfo Tryd.prog 41 = some (true, 4) := by kernel_rfl
theorem zoF41 : ZeroOk Tryd.prog 41 (.cons .u8 (.cons (.int .i64) (.cons (.int .i64) (.cons .str .nil)))) := ⟨⟨_, _, rfl, rfl, by kernel_rfl⟩⟩
theorem fdF41x0 : fdInfo Tryd.prog 41 0 = some (0, 5) := by kernel_rfl
theorem fdF41x1 : fdInfo Tryd.prog 41 1 = some (1, 3) := by kernel_rfl
theorem fdF41x2 : fdInfo Tryd.prog 41 2 = some (2, 3) := by kernel_rfl
theorem fdF41x3 : fdInfo Tryd.prog 41 3 = some (3, 9) := by kernel_rfl
theorem plF41 : plOf Tryd.prog 41 = [(0, 1), (1, 1), (2, 1), (3, 1)] := by kernel_rfl
theorem soF41 : StructOk Tryd.prog 41 (.cons .u8 (.cons (.int .i64) (.cons (.int .i64) (.cons .str .nil)))) [(0, 1), (1, 1), (2, 1), (3, 1)] := ⟨⟨Tryd.prog.fieldsOf 41, _, _, by kernel_rfl, rfl, rfl, by kernel_rfl, fun w => by kernel_rfl⟩⟩
theorem tyF42 : tyOf Tryd.prog 8 42 = some (.cons .u8 (.cons (.int .i64) (.cons (.int .i64) (.cons .str .nil)))) := by kernel_rfl
theorem ldF42 : ldInfo Tryd.prog 42 = some (true, 4) := by kernel_rfl
theorem zoF42 : ZeroOk Tryd.prog 42 (.cons .u8 (.cons (.int .i64) (.cons (.int .i64) (.cons .str .nil)))) := ⟨⟨_, _, rfl, rfl, by kernel_rfl⟩⟩
theorem fdF42x0 : fdInfo Tryd.prog 42 0 = some (0, 5) := by kernel_rfl
theorem fdF42x1 : fdInfo Tryd.prog 42 1 = some (1, 3) := by kernel_rfl
theorem fdF42x2 : fdInfo Tryd.prog 42 2 = some (2, 3) := by kernel_rfl
theorem fdF42x3 : fdInfo Tryd.prog 42 3 = some (3, 9) := by kernel_rfl
theorem plF42 : plOf Tryd.prog 42 = [(0, 1), (1, 1), (2, 1), (3, 1)] := by kernel_rfl
theorem eqF42 : EqOk Tryd.prog 42 [.u8, (.int .i64), (.int .i64), .str] := ⟨⟨Tryd.prog.fieldsOf 42, by kernel_rfl, by kernel_rfl, by kernel_rfl, by kernel_rfl⟩⟩
theorem soF42 : StructOk Tryd.prog 42 (.cons .u8 (.cons (.int .i64) (.cons (.int .i64) (.cons .str .nil)))) [(0, 1), (1, 1), (2, 1), (3, 1)] := ⟨⟨Tryd.prog.fieldsOf 42, _, _, by kernel_rfl, rfl, rfl, by kernel_rfl, fun w => by kernel_rfl⟩⟩
theorem tyF43 : tyOf Tryd.prog 8 43 = some (.cons .u8 (.cons (.int .i64) (.cons (.int .i64) (.cons .str .nil)))) := by kernel_rfl
theorem ldF43 : ldInfo Tryd.prog 43 = some (true, 4) := by kernel_rfl
theorem zoF43 : ZeroOk Tryd.prog 43 (.cons .u8 (.cons (.int .i64) (.cons (.int .i64) (.cons .str .nil)))) := ⟨⟨_, _, rfl, rfl, by kernel_rfl⟩⟩
theorem fdF43x0 : fdInfo Tryd.prog 43 0 = some (0, 5) := by kernel_rfl
theorem fdF43x1 : fdInfo Tryd.prog 43 1 = some (1, 3) := by kernel_rfl
theorem fdF43x2 : fdInfo Tryd.prog 43 2 = some (2, 3) := by kernel_rfl
theorem fdF43x3 : fdInfo Tryd.prog 43 3 = some (3, 9) := by kernel_rfl
theorem plF43 : plOf Tryd.prog 43 = [(0, 1), (1, 1), (2, 1), (3, 1)] := by kernel_rfl
theorem eqF43 : EqOk Tryd.prog 43 [.u8, (.int .i64), (.int .i64), .str] := ⟨⟨Tryd.prog.fieldsOf 43, by kernel_rfl, by kernel_rfl, by kernel_rfl, by kernel_rfl⟩⟩
theorem soF43 : StructOk Tryd.prog 43 (.cons .u8 (.cons (.int .i64) (.cons (.int .i64) (.cons .str .nil)))) [(0, 1), (1, 1), (2, 1), (3, 1)] := ⟨⟨Tryd.prog.fieldsOf 43, _, _, by kernel_rfl, rfl, rfl, by kernel_rfl, fun w => by kernel_rfl⟩⟩
theorem ldF44 : ldInfo Tryd.prog 44 = some (false, 1) := by kernel_rfl
theorem ldF45 : ldInfo Tryd.prog 45 = some (false, 1) := by kernel_rfl
theorem ldF46 : ldInfo Tryd.prog 46 = some (false, 1) := by kernel_rfl
theorem ldF47 : ldInfo Tryd.prog 47 = some (false, 1) := by kernel_rfl
theorem ldF49 : ldInfo Tryd.prog 49 = some (false, 1) := by kernel_rfl
theorem ldF50 : ldInfo Tryd.prog 50 = some (false, 1) := by kernel_rfl
theorem ldF51 : ldInfo Tryd.prog 51 = some (false, 1) := by kernel_rfl
theorem ldF52 : ldInfo Tryd.prog 52 = some (false, 1) := by kernel_rfl
theorem ldF54 : ldInfo Tryd.prog 54 = some (false, 1) := by kernel_rfl
theorem tyF55 : tyOf Tryd.prog 8 55 = some .ptr := by kernel_rfl
theorem ldF55 : ldInfo Tryd.prog 55 = some (false, 1) := by kernel_rfl
theorem ptF55 : PtrOk Tryd.prog 55 := ⟨⟨57, _, by kernel_rfl, rfl, by decide +kernel⟩⟩
theorem utF55x86 : UnsOk Tryd.prog 55 86 57 0 2 := .to 57 _ (by kernel_rfl) (by kernel_rfl) rfl (by decide +kernel) (by decide)
theorem ufF55x86 : UnsOk Tryd.prog 86 55 57 0 2 := .from 57 _ (by kernel_rfl) (by kernel_rfl) rfl (by kernel_rfl)
theorem zoF55 : ZeroOk Tryd.prog 55 .ptr := ⟨⟨_, _, rfl, rfl, by kernel_rfl⟩⟩
theorem tyF56 : tyOf Tryd.prog 8 56 = some (.cons .ptr (.cons (.sl .u8) .nil)) := by kernel_rfl
theorem ldF56 : ldInfo Tryd.prog 56 = some (true, 2) := by kernel_rfl
theorem zoF56 : ZeroOk Tryd.prog 56 (.cons .ptr (.cons (.sl .u8) .nil)) := ⟨⟨_, _, rfl, rfl, by kernel_rfl⟩⟩
theorem fdF56x0 : fdInfo Tryd.prog 56 0 = some (0, 55) := by kernel_rfl
theorem fdF56x1 : fdInfo Tryd.prog 56 1 = some (1, 23) := by kernel_rfl
theorem plF56 : plOf Tryd.prog 56 = [(0, 1), (1, 1)] := by kernel_rfl
theorem soF56 : StructOk Tryd.prog 56 (.cons .ptr (.cons (.sl .u8) .nil)) [(0, 1), (1, 1)] := ⟨⟨Tryd.prog.fieldsOf 56, _, _, by kernel_rfl, rfl, rfl, by kernel_rfl, fun w => by kernel_rfl⟩⟩
theorem tyF57 : tyOf Tryd.prog 8 57 = some (.cons .ptr (.cons (.sl .u8) .nil)) := by kernel_rfl
theorem ldF57 : ldInfo Tryd.prog 57 = some (true, 2) := by kernel_rfl
theorem zoF57 : ZeroOk Tryd.prog 57 (.cons .ptr (.cons (.sl .u8) .nil)) := ⟨⟨_, _, rfl, rfl, by kernel_rfl⟩⟩
theorem fdF57x0 : fdInfo Tryd.prog 57 0 = some (0, 55) := by kernel_rfl
theorem fdF57x1 : fdInfo Tryd.prog 57 1 = some (1, 23) := by kernel_rfl
theorem plF57 : plOf Tryd.prog 57 = [(0, 1), (1, 1)] := by kernel_rfl
theorem soF57 : StructOk Tryd.prog 57 (.cons .ptr (.cons (.sl .u8) .nil)) [(0, 1), (1, 1)] := ⟨⟨Tryd.prog.fieldsOf 57, _, _, by kernel_rfl, rfl, rfl, by kernel_rfl, fun w => by kernel_rfl⟩⟩
theorem ldF58 : ldInfo Tryd.prog 58 = some (false, 1) := by kernel_rfl
theorem ldF59 : ldInfo Tryd.prog 59 = some (false, 1) := by kernel_rfl
theorem ldF60 : ldInfo Tryd.prog 60 = some (false, 1) := by kernel_rfl
theorem ldF61 : ldInfo Tryd.prog 61 = some (false, 1) := by kernel_rfl
theorem ldF63 : ldInfo Tryd.prog 63 = some (false, 1) := by kernel_rfl
theorem ldF64 : ldInfo Tryd.prog 64 = some (false, 1) := by kernel_rfl
theorem ldF66 : ldInfo Tryd.prog 66 = some (false, 1) := by kernel_rfl
theorem ldF68 : ldInfo Tryd.prog 68 = some (false, 1) := by kernel_rfl
theorem ldF69 : ldInfo Tryd.prog 69 = some (false, 1) := by kernel_rfl
theorem ldF70 : ldInfo Tryd.prog 70 = some (false, 1) := by kernel_rfl
theorem ldF71 : ldInfo Tryd.prog 71 = some (false, 1) := by kernel_rfl
theorem ldF73 : ldInfo Tryd.prog 73 = some (false, 1) := by kernel_rfl
theorem ldF74 : ldInfo Tryd.prog 74 = some (false, 1) := by kernel_rfl
theorem tyF75 : tyOf Tryd.prog 8 75 = some .ptr := by kernel_rfl
theorem ldF75 : ldInfo Tryd.prog 75 = some (false, 1) := by kernel_rfl
theorem ptF75 : PtrOk Tryd.prog 75 := ⟨⟨5, _, by kernel_rfl, rfl, by decide +kernel⟩⟩
theorem zoF75 : ZeroOk Tryd.prog 75 .ptr := ⟨⟨_, _, rfl, rfl, by kernel_rfl⟩⟩
theorem ldF76 : ldInfo Tryd.prog 76 = some (false, 1) := by kernel_rfl
theorem ldF77 : ldInfo Tryd.prog 77 = some (false, 1) := by kernel_rfl
theorem ldF78 : ldInfo Tryd.prog 78 = some (false, 1) := by kernel_rfl
theorem ldF79 : ldInfo Tryd.prog 79 = some (false, 1) := by kernel_rfl
theorem ldF80 : ldInfo Tryd.prog 80 = some (true, 256) := by kernel_rfl
theorem ldF81 : ldInfo Tryd.prog 81 = some (true, 256) := by kernel_rfl
theorem ldF83 : ldInfo Tryd.prog 83 = some (false, 1) := by kernel_rfl
theorem ldF84 : ldInfo Tryd.prog 84 = some (false, 1) := by kernel_rfl
theorem tyF85 : tyOf Tryd.prog 8 85 = some .ptr := by kernel_rfl
theorem ldF85 : ldInfo Tryd.prog 85 = some (false, 1) := by kernel_rfl
theorem ptF85 : PtrOk Tryd.prog 85 := ⟨⟨81, _, by kernel_rfl, rfl, by decide +kernel⟩⟩
theorem zoF85 : ZeroOk Tryd.prog 85 .ptr := ⟨⟨_, _, rfl, rfl, by kernel_rfl⟩⟩
theorem ldF86 : ldInfo Tryd.prog 86 = some (false, 1) := by kernel_rfl
theorem ldF87 : ldInfo Tryd.prog 87 = some (false, 1) := by kernel_rfl
theorem tyF88 : tyOf Tryd.prog 8 88 = some (.int .u32) := by kernel_rfl
theorem ldF88 : ldInfo Tryd.prog 88 = some (false, 1) := by kernel_rfl
theorem zoF88 : ZeroOk Tryd.prog 88 (.int .u32) := ⟨⟨_, _, rfl, rfl, by kernel_rfl⟩⟩
theorem ldF89 : ldInfo Tryd.prog 89 = some (false, 1) := by kernel_rfl
theorem tyF90 : tyOf Tryd.prog 8 90 = some (.int .u64) := by kernel_rfl
theorem ldF90 : ldInfo Tryd.prog 90 = some (false, 1) := by kernel_rfl
theorem zoF90 : ZeroOk Tryd.prog 90 (.int .u64) := ⟨⟨_, _, rfl, rfl, by kernel_rfl⟩⟩
theorem ldF91 : ldInfo Tryd.prog 91 = some (false, 1) := by kernel_rfl
theorem ldF92 : ldInfo Tryd.prog 92 = some (true, 256) := by kernel_rfl
theorem tyF93 : tyOf Tryd.prog 8 93 = some (.cons .u8 (.cons .u8 .nil)) := by kernel_rfl
theorem ldF93 : ldInfo Tryd.prog 93 = some (true, 2) := by kernel_rfl
theorem zoF93 : ZeroOk Tryd.prog 93 (.cons .u8 (.cons .u8 .nil)) := ⟨⟨_, _, rfl, rfl, by kernel_rfl⟩⟩
theorem fdF93x0 : fdInfo Tryd.prog 93 0 = some (0, 5) := by kernel_rfl
theorem fdF93x1 : fdInfo Tryd.prog 93 1 = some (1, 5) := by kernel_rfl
theorem plF93 : plOf Tryd.prog 93 = [(0, 1), (1, 1)] := by kernel_rfl
theorem soF93 : StructOk Tryd.prog 93 (.cons .u8 (.cons .u8 .nil)) [(0, 1), (1, 1)] := ⟨⟨Tryd.prog.fieldsOf 93, _, _, by kernel_rfl, rfl, rfl, by kernel_rfl, fun w => by kernel_rfl⟩⟩
theorem tyF94 : tyOf Tryd.prog 8 94 = some (.cons .u8 (.cons .u8 .nil)) := by kernel_rfl
theorem ldF94 : ldInfo Tryd.prog 94 = some (true, 2) := by kernel_rfl
theorem zoF94 : ZeroOk Tryd.prog 94 (.cons .u8 (.cons .u8 .nil)) := ⟨⟨_, _, rfl, rfl, by kernel_rfl⟩⟩
theorem fdF94x0 : fdInfo Tryd.prog 94 0 = some (0, 5) := by kernel_rfl
theorem fdF94x1 : fdInfo Tryd.prog 94 1 = some (1, 5) := by kernel_rfl
theorem plF94 : plOf Tryd.prog 94 = [(0, 1), (1, 1)] := by kernel_rfl
theorem soF94 : StructOk Tryd.prog 94 (.cons .u8 (.cons .u8 .nil)) [(0, 1), (1, 1)] := ⟨⟨Tryd.prog.fieldsOf 94, _, _, by kernel_rfl, rfl, rfl, by kernel_rfl, fun w => by kernel_rfl⟩⟩
theorem ldF95 : ldInfo Tryd.prog 95 = some (true, 32) := by kernel_rfl
theorem ldF96 : ldInfo Tryd.prog 96 = some (false, 1) := by kernel_rfl
theorem ldF97 : ldInfo Tryd.prog 97 = some (false, 1) := by kernel_rfl
theorem tyF98 : tyOf Tryd.prog 8 98 = some (.cons .ptr (.cons .ptr (.cons .ptr (.cons .str .nil)))) := by kernel_rfl
theorem ldF98 : ldInfo Tryd.prog 98 = some (true, 4) := by kernel_rfl
theorem zoF98 : ZeroOk Tryd.prog 98 (.cons .ptr (.cons .ptr (.cons .ptr (.cons .str .nil)))) := ⟨⟨_, _, rfl, rfl, by kernel_rfl⟩⟩
theorem fdF98x0 : fdInfo Tryd.prog 98 0 = some (0, 17) := by kernel_rfl
theorem fdF98x1 : fdInfo Tryd.prog 98 1 = some (1, 17) := by kernel_rfl
theorem fdF98x2 : fdInfo Tryd.prog 98 2 = some (2, 17) := by kernel_rfl
theorem fdF98x3 : fdInfo Tryd.prog 98 3 = some (3, 9) := by kernel_rfl
theorem plF98 : plOf Tryd.prog 98 = [(0, 1), (1, 1), (2, 1), (3, 1)] := by kernel_rfl
theorem soF98 : StructOk Tryd.prog 98 (.cons .ptr (.cons .ptr (.cons .ptr (.cons .str .nil)))) [(0, 1), (1, 1), (2, 1), (3, 1)] := ⟨⟨Tryd.prog.fieldsOf 98, _, _, by kernel_rfl, rfl, rfl, by kernel_rfl, fun w => by kernel_rfl⟩⟩
theorem tyF99 : tyOf Tryd.prog 8 99 = some (.cons .ptr (.cons .ptr (.cons .ptr (.cons .str .nil)))) := by kernel_rfl
theorem ldF99 : ldInfo Tryd.prog 99 = some (true, 4) := by kernel_rfl
theorem zoF99 : ZeroOk Tryd.prog 99 (.cons .ptr (.cons .ptr (.cons .ptr (.cons .str .nil)))) := ⟨⟨_, _, rfl, rfl, by kernel_rfl⟩⟩
theorem fdF99x0 : fdInfo Tryd.prog 99 0 = some (0, 17) := by kernel_rfl
theorem fdF99x1 : fdInfo Tryd.prog 99 1 = some (1, 17) := by kernel_rfl
theorem fdF99x2 : fdInfo Tryd.prog 99 2 = some (2, 17) := by kernel_rfl
theorem fdF99x3 : fdInfo Tryd.prog 99 3 = some (3, 9) := by kernel_rfl
theorem plF99 : plOf Tryd.prog 99 = [(0, 1), (1, 1), (2, 1), (3, 1)] := by kernel_rfl
theorem soF99 : StructOk Tryd.prog 99 (.cons .ptr (.cons .ptr (.cons .ptr (.cons .str .nil)))) [(0, 1), (1, 1), (2, 1), (3, 1)] := ⟨⟨Tryd.prog.fieldsOf 99, _, _, by kernel_rfl, rfl, rfl, by kernel_rfl, fun w => by kernel_rfl⟩⟩
theorem ldF100 : ldInfo Tryd.prog 100 = some (true, 0) := by kernel_rfl
theorem ldF101 : ldInfo Tryd.prog 101 = some (true, 0) := by kernel_rfl
theorem ldF102 : ldInfo Tryd.prog 102 = some (true, 0) := by kernel_rfl
theorem tyF103 : tyOf Tryd.prog 8 103 = some .u8 := by kernel_rfl
theorem ldF103 : ldInfo Tryd.prog 103 = some (false, 1) := by kernel_rfl
theorem zoF103 : ZeroOk Tryd.prog 103 .u8 := ⟨⟨_, _, rfl, rfl, by kernel_rfl⟩⟩
theorem tyF104 : tyOf Tryd.prog 8 104 = some .u8 := by kernel_rfl
theorem ldF104 : ldInfo Tryd.prog 104 = some (false, 1) := by kernel_rfl
theorem zoF104 : ZeroOk Tryd.prog 104 .u8 := ⟨⟨_, _, rfl, rfl, by kernel_rfl⟩⟩
theorem ldF105 : ldInfo Tryd.prog 105 = some (false, 1) := by kernel_rfl
theorem tyF106 : tyOf Tryd.prog 8 106 = some (.int .i32) := by kernel_rfl
theorem ldF106 : ldInfo Tryd.prog 106 = some (false, 1) := by kernel_rfl
theorem zoF106 : ZeroOk Tryd.prog 106 (.int .i32) := ⟨⟨_, _, rfl, rfl, by kernel_rfl⟩⟩
theorem tyF107 : tyOf Tryd.prog 8 107 = some (.int .i32) := by kernel_rfl
theorem ldF107 : ldInfo Tryd.prog 107 = some (false, 1) := by kernel_rfl
theorem zoF107 : ZeroOk Tryd.prog 107 (.int .i32) := ⟨⟨_, _, rfl, rfl, by kernel_rfl⟩⟩
theorem ldF108 : ldInfo Tryd.prog 108 = some (true, 11) := by kernel_rfl
theorem fdF108x0 : fdInfo Tryd.prog 108 0 = some (0, 12) := by kernel_rfl
theorem fdF108x1 : fdInfo Tryd.prog 108 1 = some (1, 12) := by kernel_rfl
theorem fdF108x2 : fdInfo Tryd.prog 108 2 = some (2, 88) := by kernel_rfl
theorem fdF108x3 : fdInfo Tryd.prog 108 3 = some (3, 103) := by kernel_rfl
theorem fdF108x4 : fdInfo Tryd.prog 108 4 = some (4, 5) := by kernel_rfl
theorem fdF108x5 : fdInfo Tryd.prog 108 5 = some (5, 5) := by kernel_rfl
theorem fdF108x6 : fdInfo Tryd.prog 108 6 = some (6, 104) := by kernel_rfl
theorem fdF108x7 : fdInfo Tryd.prog 108 7 = some (7, 105) := by kernel_rfl
theorem fdF108x8 : fdInfo Tryd.prog 108 8 = some (8, 75) := by kernel_rfl
theorem fdF108x9 : fdInfo Tryd.prog 108 9 = some (9, 106) := by kernel_rfl
theorem fdF108x10 : fdInfo Tryd.prog 108 10 = some (10, 107) := by kernel_rfl
theorem ldF109 : ldInfo Tryd.prog 109 = some (true, 11) := by kernel_rfl
theorem fdF109x0 : fdInfo Tryd.prog 109 0 = some (0, 12) := by kernel_rfl
theorem fdF109x1 : fdInfo Tryd.prog 109 1 = some (1, 12) := by kernel_rfl
theorem fdF109x2 : fdInfo Tryd.prog 109 2 = some (2, 88) := by kernel_rfl
theorem fdF109x3 : fdInfo Tryd.prog 109 3 = some (3, 103) := by kernel_rfl
theorem fdF109x4 : fdInfo Tryd.prog 109 4 = some (4, 5) := by kernel_rfl
theorem fdF109x5 : fdInfo Tryd.prog 109 5 = some (5, 5) := by kernel_rfl
theorem fdF109x6 : fdInfo Tryd.prog 109 6 = some (6, 104) := by kernel_rfl
theorem fdF109x7 : fdInfo Tryd.prog 109 7 = some (7, 105) := by kernel_rfl
theorem fdF109x8 : fdInfo Tryd.prog 109 8 = some (8, 75) := by kernel_rfl
theorem fdF109x9 : fdInfo Tryd.prog 109 9 = some (9, 106) := by kernel_rfl
theorem fdF109x10 : fdInfo Tryd.prog 109 10 = some (10, 107) := by kernel_rfl
/-- All of them. -/
theorem F : (ldInfo Tryd.prog 1 = some (false, 1)) ∧ (tyOf Tryd.prog 8 2 = some (.int .i64)) ∧ (ldInfo Tryd.prog 2 = some (false, 1)) ∧ (ZeroOk Tryd.prog 2 (.int .i64)) ∧ (tyOf Tryd.prog 8 3 = some (.int .i64)) ∧ (ldInfo Tryd.prog 3 = some (false, 1)) ∧ (ZeroOk Tryd.prog 3 (.int .i64)) ∧ (tyOf Tryd.prog 8 4 = some .bool) ∧ (ldInfo Tryd.prog 4 = some (false, 1)) ∧ (ZeroOk Tryd.prog 4 .bool) ∧ (tyOf Tryd.prog 8 5 = some .u8) ∧ (ldInfo Tryd.prog 5 = some (false, 1)) ∧ (ZeroOk Tryd.prog 5 .u8) ∧ (tyOf Tryd.prog 8 6 = some .u8) ∧ (ldInfo Tryd.prog 6 = some (false, 1)) ∧ (ZeroOk Tryd.prog 6 .u8) ∧ (tyOf Tryd.prog 8 7 = some (.cons (.int .i64) (.cons (.int .i64) (.cons .bool (.cons .u8 .nil))))) ∧ (ldInfo Tryd.prog 7 = some (true, 4)) ∧ (ZeroOk Tryd.prog 7 (.cons (.int .i64) (.cons (.int .i64) (.cons .bool (.cons .u8 .nil))))) ∧ (fdInfo Tryd.prog 7 0 = some (0, 2)) ∧ (fdInfo Tryd.prog 7 1 = some (1, 3)) ∧ (fdInfo Tryd.prog 7 2 = some (2, 4)) ∧ (fdInfo Tryd.prog 7 3 = some (3, 6)) ∧ (plOf Tryd.prog 7 = [(0, 1), (1, 1), (2, 1), (3, 1)]) ∧ (StructOk Tryd.prog 7 (.cons (.int .i64) (.cons (.int .i64) (.cons .bool (.cons .u8 .nil)))) [(0, 1), (1, 1), (2, 1), (3, 1)]) ∧ (tyOf Tryd.prog 8 8 = some (.cons (.int .i64) (.cons (.int .i64) (.cons .bool (.cons .u8 .nil))))) ∧ (ldInfo Tryd.prog 8 = some (true, 4)) ∧ (ZeroOk Tryd.prog 8 (.cons (.int .i64) (.cons (.int .i64) (.cons .bool (.cons .u8 .nil))))) ∧ (fdInfo Tryd.prog 8 0 = some (0, 2)) ∧ (fdInfo Tryd.prog 8 1 = some (1, 3)) ∧ (fdInfo Tryd.prog 8 2 = some (2, 4)) ∧ (fdInfo Tryd.prog 8 3 = some (3, 6)) ∧ (plOf Tryd.prog 8 = [(0, 1), (1, 1), (2, 1), (3, 1)]) ∧ (StructOk Tryd.prog 8 (.cons (.int .i64) (.cons (.int .i64) (.cons .bool (.cons .u8 .nil)))) [(0, 1), (1, 1), (2, 1), (3, 1)]) ∧ (tyOf Tryd.prog 8 9 = some .str) ∧ (ldInfo Tryd.prog 9 = some (false, 1)) ∧ (ZeroOk Tryd.prog 9 .str) ∧ (tyOf Tryd.prog 8 10 = some .str) ∧ (ldInfo Tryd.prog 10 = some (false, 1)) ∧ (ZeroOk Tryd.prog 10 .str) ∧ (tyOf Tryd.prog 8 11 = some .str) ∧ (ldInfo Tryd.prog 11 = some (false, 1)) ∧ (ZeroOk Tryd.prog 11 .str) ∧ (tyOf Tryd.prog 8 12 = some (.int .u64)) ∧ (ldInfo Tryd.prog 12 = some (false, 1)) ∧ (ZeroOk Tryd.prog 12 (.int .u64)) ∧ (tyOf Tryd.prog 8 13 = some (.cons .str (.cons (.int .u64) .nil))) ∧ (ldInfo Tryd.prog 13 = some (true, 2)) ∧ (ZeroOk Tryd.prog 13 (.cons .str (.cons (.int .u64) .nil))) ∧ (fdInfo Tryd.prog 13 0 = some (0, 9)) ∧ (fdInfo Tryd.prog 13 1 = some (1, 12)) ∧ (plOf Tryd.prog 13 = [(0, 1), (1, 1)]) ∧ (StructOk Tryd.prog 13 (.cons .str (.cons (.int .u64) .nil)) [(0, 1), (1, 1)]) ∧ (tyOf Tryd.prog 8 14 = some (.cons .str (.cons (.int .u64) .nil))) ∧ (ldInfo Tryd.prog 14 = some (true, 2)) ∧ (ZeroOk Tryd.prog 14 (.cons .str (.cons (.int .u64) .nil))) ∧ (fdInfo Tryd.prog 14 0 = some (0, 9)) ∧ (fdInfo Tryd.prog 14 1 = some (1, 12)) ∧ (plOf Tryd.prog 14 = [(0, 1), (1, 1)]) ∧ (StructOk Tryd.prog 14 (.cons .str (.cons (.int .u64) .nil)) [(0, 1), (1, 1)]) ∧ (tyOf Tryd.prog 8 15 = some .ptr) ∧ (ldInfo Tryd.prog 15 = some (false, 1)) ∧ (PtrOk Tryd.prog 15) ∧ (ZeroOk Tryd.prog 15 .ptr) ∧ (tyOf Tryd.prog 8 16 = some .ptr) ∧ (ldInfo Tryd.prog 16 = some (false, 1)) ∧ (ZeroOk Tryd.prog 16 .ptr) ∧ (tyOf Tryd.prog 8 17 = some .ptr) ∧ (ldInfo Tryd.prog 17 = some (false, 1)) ∧ (PtrOk Tryd.prog 17) ∧ (ZeroOk Tryd.prog 17 .ptr) ∧ (tyOf Tryd.prog 8 18 = some (.cons .ptr .nil)) ∧ (ldInfo Tryd.prog 18 = some (true, 1)) ∧ (ZeroOk Tryd.prog 18 (.cons .ptr .nil)) ∧ (fdInfo Tryd.prog 18 0 = some (0, 17)) ∧ (plOf Tryd.prog 18 = [(0, 1)]) ∧ (StructOk Tryd.prog 18 (.cons .ptr .nil) [(0, 1)]) ∧ (tyOf Tryd.prog 8 19 = some (.cons .ptr .nil)) ∧ (ldInfo Tryd.prog 19 = some (true, 1)) ∧ (ZeroOk Tryd.prog 19 (.cons .ptr .nil)) ∧ (fdInfo Tryd.prog 19 0 = some (0, 17)) ∧ (plOf Tryd.prog 19 = [(0, 1)]) ∧ (StructOk Tryd.prog 19 (.cons .ptr .nil) [(0, 1)]) ∧ (ldInfo Tryd.prog 20 = some (false, 1)) ∧ (tyOf Tryd.prog 8 21 = some (.int .i32)) ∧ (ldInfo Tryd.prog 21 = some (false, 1)) ∧ (ZeroOk Tryd.prog 21 (.int .i32)) ∧ (ldInfo Tryd.prog 22 = some (false, 1)) ∧ (tyOf Tryd.prog 8 23 = some (.sl .u8)) ∧ (ldInfo Tryd.prog 23 = some (false, 1)) ∧ (ZeroOk Tryd.prog 23 (.sl .u8)) ∧ (elemOk Tryd.prog 23 .u8) ∧ (elTy Tryd.prog 23 = 5) ∧ (elBytes Tryd.prog 23 = 1) ∧ (AppE Tryd.prog 23 .u8) ∧ (tyOf Tryd.prog 8 24 = some (.sl .str)) ∧ (ldInfo Tryd.prog 24 = some (false, 1)) ∧ (ZeroOk Tryd.prog 24 (.sl .str)) ∧ (elemOk Tryd.prog 24 .str) ∧ (elTy Tryd.prog 24 = 9) ∧ (elBytes Tryd.prog 24 = 16) ∧ (AppE Tryd.prog 24 .str) ∧ (ldInfo Tryd.prog 25 = some (false, 1)) ∧ (ldInfo Tryd.prog 26 = some (false, 1)) ∧ (tyOf Tryd.prog 8 27 = some (.sl (.int .u16))) ∧ (ldInfo Tryd.prog 27 = some (false, 1)) ∧ (ZeroOk Tryd.prog 27 (.sl (.int .u16))) ∧ (elemOk Tryd.prog 27 (.int .u16)) ∧ (elTy Tryd.prog 27 = 28) ∧ (elBytes Tryd.prog 27 = 2) ∧ (AppE Tryd.prog 27 (.int .u16)) ∧ (tyOf Tryd.prog 8 28 = some (.int .u16)) ∧ (ldInfo Tryd.prog 28 = some (false, 1)) ∧ (ZeroOk Tryd.prog 28 (.int .u16)) ∧ (ldInfo Tryd.prog 29 = some (false, 1)) ∧ (ldInfo Tryd.prog 30 = some (false, 1)) ∧ (ldInfo Tryd.prog 31 = some (false, 1)) ∧ (ldInfo Tryd.prog 32 = some (false, 1)) ∧ (tyOf Tryd.prog 8 33 = some (.sl (.int .i32))) ∧ (ldInfo Tryd.prog 33 = some (false, 1)) ∧ (ZeroOk Tryd.prog 33 (.sl (.int .i32))) ∧ (elemOk Tryd.prog 33 (.int .i32)) ∧ (elTy Tryd.prog 33 = 21) ∧ (elBytes Tryd.prog 33 = 4) ∧ (AppE Tryd.prog 33 (.int .i32)) ∧ (ldInfo Tryd.prog 34 = some (false, 1)) ∧ (ldInfo Tryd.prog 35 = some (false, 1)) ∧ (ldInfo Tryd.prog 36 = some (false, 1)) ∧ (tyOf Tryd.prog 8 37 = some (.sl .bool)) ∧ (ldInfo Tryd.prog 37 = some (false, 1)) ∧ (ZeroOk Tryd.prog 37 (.sl .bool)) ∧ (elemOk Tryd.prog 37 .bool) ∧ (elTy Tryd.prog 37 = 4) ∧ (elBytes Tryd.prog 37 = 1) ∧ (AppE Tryd.prog 37 .bool) ∧ (ldInfo Tryd.prog 38 = some (false, 1)) ∧ (ldInfo Tryd.prog 39 = some (false, 1)) ∧ (ldInfo Tryd.prog 40 = some (false, 1)) ∧ (tyOf Tryd.prog 8 41 = some (.cons .u8 (.cons (.int .i64) (.cons (.int .i64) (.cons .str .nil))))) ∧ (ldInfo Tryd.prog 41 = some (true, 4)) ∧ (ZeroOk Tryd.prog 41 (.cons .u8 (.cons (.int .i64) (.cons (.int .i64) (.cons .str .nil))))) ∧ (fdInfo Tryd.prog 41 0 = some (0, 5)) ∧ (fdInfo Tryd.prog 41 1 = some (1, 3)) ∧ (fdInfo Tryd.prog 41 2 = some (2, 3)) ∧ (fdInfo Tryd.prog 41 3 = some (3, 9)) ∧ (plOf Tryd.prog 41 = [(0, 1), (1, 1), (2, 1), (3, 1)]) ∧ (StructOk Tryd.prog 41 (.cons .u8 (.cons (.int .i64) (.cons (.int .i64) (.cons .str .nil)))) [(0, 1), (1, 1), (2, 1), (3, 1)]) ∧ (tyOf Tryd.prog 8 42 = some (.cons .u8 (.cons (.int .i64) (.cons (.int .i64) (.cons .str .nil))))) ∧ (ldInfo Tryd.prog 42 = some (true, 4)) ∧ (ZeroOk Tryd.prog 42 (.cons .u8 (.cons (.int .i64) (.cons (.int .i64) (.cons .str .nil))))) ∧ (fdInfo Tryd.prog 42 0 = some (0, 5)) ∧ (fdInfo Tryd.prog 42 1 = some (1, 3)) ∧ (fdInfo Tryd.prog 42 2 = some (2, 3)) ∧ (fdInfo Tryd.prog 42 3 = some (3, 9)) ∧ (plOf Tryd.prog 42 = [(0, 1), (1, 1), (2, 1), (3, 1)]) ∧ (EqOk Tryd.prog 42 [.u8, (.int .i64), (.int .i64), .str]) ∧ (StructOk Tryd.prog 42 (.cons .u8 (.cons (.int .i64) (.cons (.int .i64) (.cons .str .nil)))) [(0, 1), (1, 1), (2, 1), (3, 1)]) ∧ (tyOf Tryd.prog 8 43 = some (.cons .u8 (.cons (.int .i64) (.cons (.int .i64) (.cons .str .nil))))) ∧ (ldInfo Tryd.prog 43 = some (true, 4)) ∧ (ZeroOk Tryd.prog 43 (.cons .u8 (.cons (.int .i64) (.cons (.int .i64) (.cons .str .nil))))) ∧ (fdInfo Tryd.prog 43 0 = some (0, 5)) ∧ (fdInfo Tryd.prog 43 1 = some (1, 3)) ∧ (fdInfo Tryd.prog 43 2 = some (2, 3)) ∧ (fdInfo Tryd.prog 43 3 = some (3, 9)) ∧ (plOf Tryd.prog 43 = [(0, 1), (1, 1), (2, 1), (3, 1)]) ∧ (EqOk Tryd.prog 43 [.u8, (.int .i64), (.int .i64), .str]) ∧ (StructOk Tryd.prog 43 (.cons .u8 (.cons (.int .i64) (.cons (.int .i64) (.cons .str .nil)))) [(0, 1), (1, 1), (2, 1), (3, 1)]) ∧ (ldInfo Tryd.prog 44 = some (false, 1)) ∧ (ldInfo Tryd.prog 45 = some (false, 1)) ∧ (ldInfo Tryd.prog 46 = some (false, 1)) ∧ (ldInfo Tryd.prog 47 = some (false, 1)) ∧ (ldInfo Tryd.prog 49 = some (false, 1)) ∧ (ldInfo Tryd.prog 50 = some (false, 1)) ∧ (ldInfo Tryd.prog 51 = some (false, 1)) ∧ (ldInfo Tryd.prog 52 = some (false, 1)) ∧ (ldInfo Tryd.prog 54 = some (false, 1)) ∧ (tyOf Tryd.prog 8 55 = some .ptr) ∧ (ldInfo Tryd.prog 55 = some (false, 1)) ∧ (PtrOk Tryd.prog 55) ∧ (UnsOk Tryd.prog 55 86 57 0 2) ∧ (UnsOk Tryd.prog 86 55 57 0 2) ∧ (ZeroOk Tryd.prog 55 .ptr) ∧ (tyOf Tryd.prog 8 56 = some (.cons .ptr (.cons (.sl .u8) .nil))) ∧ (ldInfo Tryd.prog 56 = some (true, 2)) ∧ (ZeroOk Tryd.prog 56 (.cons .ptr (.cons (.sl .u8) .nil))) ∧ (fdInfo Tryd.prog 56 0 = some (0, 55)) ∧ (fdInfo Tryd.prog 56 1 = some (1, 23)) ∧ (plOf Tryd.prog 56 = [(0, 1), (1, 1)]) ∧ (StructOk Tryd.prog 56 (.cons .ptr (.cons (.sl .u8) .nil)) [(0, 1), (1, 1)]) ∧ (tyOf Tryd.prog 8 57 = some (.cons .ptr (.cons (.sl .u8) .nil))) ∧ (ldInfo Tryd.prog 57 = some (true, 2)) ∧ (ZeroOk Tryd.prog 57 (.cons .ptr (.cons (.sl .u8) .nil))) ∧ (fdInfo Tryd.prog 57 0 = some (0, 55)) ∧ (fdInfo Tryd.prog 57 1 = some (1, 23)) ∧ (plOf Tryd.prog 57 = [(0, 1), (1, 1)]) ∧ (StructOk Tryd.prog 57 (.cons .ptr (.cons (.sl .u8) .nil)) [(0, 1), (1, 1)]) ∧ (ldInfo Tryd.prog 58 = some (false, 1)) ∧ (ldInfo Tryd.prog 59 = some (false, 1)) ∧ (ldInfo Tryd.prog 60 = some (false, 1)) ∧ (ldInfo Tryd.prog 61 = some (false, 1)) ∧ (ldInfo Tryd.prog 63 = some (false, 1)) ∧ (ldInfo Tryd.prog 64 = some (false, 1)) ∧ (ldInfo Tryd.prog 66 = some (false, 1)) ∧ (ldInfo Tryd.prog 68 = some (false, 1)) ∧ (ldInfo Tryd.prog 69 = some (false, 1)) ∧ (ldInfo Tryd.prog 70 = some (false, 1)) ∧ (ldInfo Tryd.prog 71 = some (false, 1)) ∧ (ldInfo Tryd.prog 73 = some (false, 1)) ∧ (ldInfo Tryd.prog 74 = some (false, 1)) ∧ (tyOf Tryd.prog 8 75 = some .ptr) ∧ (ldInfo Tryd.prog 75 = some (false, 1)) ∧ (PtrOk Tryd.prog 75) ∧ (ZeroOk Tryd.prog 75 .ptr) ∧ (ldInfo Tryd.prog 76 = some (false, 1)) ∧ (ldInfo Tryd.prog 77 = some (false, 1)) ∧ (ldInfo Tryd.prog 78 = some (false, 1)) ∧ (ldInfo Tryd.prog 79 = some (false, 1)) ∧ (ldInfo Tryd.prog 80 = some (true, 256)) ∧ (ldInfo Tryd.prog 81 = some (true, 256)) ∧ (ldInfo Tryd.prog 83 = some (false, 1)) ∧ (ldInfo Tryd.prog 84 = some (false, 1)) ∧ (tyOf Tryd.prog 8 85 = some .ptr) ∧ (ldInfo Tryd.prog 85 = some (false, 1)) ∧ (PtrOk Tryd.prog 85) ∧ (ZeroOk Tryd.prog 85 .ptr) ∧ (ldInfo Tryd.prog 86 = some (false, 1)) ∧ (ldInfo Tryd.prog 87 = some (false, 1)) ∧ (tyOf Tryd.prog 8 88 = some (.int .u32)) ∧ (ldInfo Tryd.prog 88 = some (false, 1)) ∧ (ZeroOk Tryd.prog 88 (.int .u32)) ∧ (ldInfo Tryd.prog 89 = some (false, 1)) ∧ (tyOf Tryd.prog 8 90 = some (.int .u64)) ∧ (ldInfo Tryd.prog 90 = some (false, 1)) ∧ (ZeroOk Tryd.prog 90 (.int .u64)) ∧ (ldInfo Tryd.prog 91 = some (false, 1)) ∧ (ldInfo Tryd.prog 92 = some (true, 256)) ∧ (tyOf Tryd.prog 8 93 = some (.cons .u8 (.cons .u8 .nil))) ∧ (ldInfo Tryd.prog 93 = some (true, 2)) ∧ (ZeroOk Tryd.prog 93 (.cons .u8 (.cons .u8 .nil))) ∧ (fdInfo Tryd.prog 93 0 = some (0, 5)) ∧ (fdInfo Tryd.prog 93 1 = some (1, 5)) ∧ (plOf Tryd.prog 93 = [(0, 1), (1, 1)]) ∧ (StructOk Tryd.prog 93 (.cons .u8 (.cons .u8 .nil)) [(0, 1), (1, 1)]) ∧ (tyOf Tryd.prog 8 94 = some (.cons .u8 (.cons .u8 .nil))) ∧ (ldInfo Tryd.prog 94 = some (true, 2)) ∧ (ZeroOk Tryd.prog 94 (.cons .u8 (.cons .u8 .nil))) ∧ (fdInfo Tryd.prog 94 0 = some (0, 5)) ∧ (fdInfo Tryd.prog 94 1 = some (1, 5)) ∧ (plOf Tryd.prog 94 = [(0, 1), (1, 1)]) ∧ (StructOk Tryd.prog 94 (.cons .u8 (.cons .u8 .nil)) [(0, 1), (1, 1)]) ∧ (ldInfo Tryd.prog 95 = some (true, 32)) ∧ (ldInfo Tryd.prog 96 = some (false, 1)) ∧ (ldInfo Tryd.prog 97 = some (false, 1)) ∧ (tyOf Tryd.prog 8 98 = some (.cons .ptr (.cons .ptr (.cons .ptr (.cons .str .nil))))) ∧ (ldInfo Tryd.prog 98 = some (true, 4)) ∧ (ZeroOk Tryd.prog 98 (.cons .ptr (.cons .ptr (.cons .ptr (.cons .str .nil))))) ∧ (fdInfo Tryd.prog 98 0 = some (0, 17)) ∧ (fdInfo Tryd.prog 98 1 = some (1, 17)) ∧ (fdInfo Tryd.prog 98 2 = some (2, 17)) ∧ (fdInfo Tryd.prog 98 3 = some (3, 9)) ∧ (plOf Tryd.prog 98 = [(0, 1), (1, 1), (2, 1), (3, 1)]) ∧ (StructOk Tryd.prog 98 (.cons .ptr (.cons .ptr (.cons .ptr (.cons .str .nil)))) [(0, 1), (1, 1), (2, 1), (3, 1)]) ∧ (tyOf Tryd.prog 8 99 = some (.cons .ptr (.cons .ptr (.cons .ptr (.cons .str .nil))))) ∧ (ldInfo Tryd.prog 99 = some (true, 4)) ∧ (ZeroOk Tryd.prog 99 (.cons .ptr (.cons .ptr (.cons .ptr (.cons .str .nil))))) ∧ (fdInfo Tryd.prog 99 0 = some (0, 17)) ∧ (fdInfo Tryd.prog 99 1 = some (1, 17)) ∧ (fdInfo Tryd.prog 99 2 = some (2, 17)) ∧ (fdInfo Tryd.prog 99 3 = some (3, 9)) ∧ (plOf Tryd.prog 99 = [(0, 1), (1, 1), (2, 1), (3, 1)]) ∧ (StructOk Tryd.prog 99 (.cons .ptr (.cons .ptr (.cons .ptr (.cons .str .nil)))) [(0, 1), (1, 1), (2, 1), (3, 1)]) ∧ (ldInfo Tryd.prog 100 = some (true, 0)) ∧ (ldInfo Tryd.prog 101 = some (true, 0)) ∧ (ldInfo Tryd.prog 102 = some (true, 0)) ∧ (tyOf Tryd.prog 8 103 = some .u8) ∧ (ldInfo Tryd.prog 103 = some (false, 1)) ∧ (ZeroOk Tryd.prog 103 .u8) ∧ (tyOf Tryd.prog 8 104 = some .u8) ∧ (ldInfo Tryd.prog 104 = some (false, 1)) ∧ (ZeroOk Tryd.prog 104 .u8) ∧ (ldInfo Tryd.prog 105 = some (false, 1)) ∧ (tyOf Tryd.prog 8 106 = some (.int .i32)) ∧ (ldInfo Tryd.prog 106 = some (false, 1)) ∧ (ZeroOk Tryd.prog 106 (.int .i32)) ∧ (tyOf Tryd.prog 8 107 = some (.int .i32)) ∧ (ldInfo Tryd.prog 107 = some (false, 1)) ∧ (ZeroOk Tryd.prog 107 (.int .i32)) ∧ (ldInfo Tryd.prog 108 = some (true, 11)) ∧ (fdInfo Tryd.prog 108 0 = some (0, 12)) ∧ (fdInfo Tryd.prog 108 1 = some (1, 12)) ∧ (fdInfo Tryd.prog 108 2 = some (2, 88)) ∧ (fdInfo Tryd.prog 108 3 = some (3, 103)) ∧ (fdInfo Tryd.prog 108 4 = some (4, 5)) ∧ (fdInfo Tryd.prog 108 5 = some (5, 5)) ∧ (fdInfo Tryd.prog 108 6 = some (6, 104)) ∧ (fdInfo Tryd.prog 108 7 = some (7, 105)) ∧ (fdInfo Tryd.prog 108 8 = some (8, 75)) ∧ (fdInfo Tryd.prog 108 9 = some (9, 106)) ∧ (fdInfo Tryd.prog 108 10 = some (10, 107)) ∧ (ldInfo Tryd.prog 109 = some (true, 11)) ∧ (fdInfo Tryd.prog 109 0 = some (0, 12)) ∧ (fdInfo Tryd.prog 109 1 = some (1, 12)) ∧ (fdInfo Tryd.prog 109 2 = some (2, 88)) ∧ (fdInfo Tryd.prog 109 3 = some (3, 103)) ∧ (fdInfo Tryd.prog 109 4 = some (4, 5)) ∧ (fdInfo Tryd.prog 109 5 = some (5, 5)) ∧ (fdInfo Tryd.prog 109 6 = some (6, 104)) ∧ (fdInfo Tryd.prog 109 7 = some (7, 105)) ∧ (fdInfo Tryd.prog 109 8 = some (8, 75)) ∧ (fdInfo Tryd.prog 109 9 = some (9, 106)) ∧ (fdInfo Tryd.prog 109 10 = some (10, 107)) := ⟨ldF1, tyF2, ldF2, zoF2, tyF3, ldF3, zoF3, tyF4, ldF4, zoF4, tyF5, ldF5, zoF5, tyF6, ldF6, zoF6, tyF7, ldF7, zoF7, fdF7x0, fdF7x1, fdF7x2, fdF7x3, plF7, soF7, tyF8, ldF8, zoF8, fdF8x0, fdF8x1, fdF8x2, fdF8x3, plF8, soF8, tyF9, ldF9, zoF9, tyF10, ldF10, zoF10, tyF11, ldF11, zoF11, tyF12, ldF12, zoF12, tyF13, ldF13, zoF13, fdF13x0, fdF13x1, plF13, soF13, tyF14, ldF14, zoF14, fdF14x0, fdF14x1, plF14, soF14, tyF15, ldF15, ptF15, zoF15, tyF16, ldF16, zoF16, tyF17, ldF17, ptF17, zoF17, tyF18, ldF18, zoF18, fdF18x0, plF18, soF18, tyF19, ldF19, zoF19, fdF19x0, plF19, soF19, ldF20, tyF21, ldF21, zoF21, ldF22, tyF23, ldF23, zoF23, elF23, etF23, ebF23, apF23, tyF24, ldF24, zoF24, elF24, etF24, ebF24, apF24, ldF25, ldF26, tyF27, ldF27, zoF27, elF27, etF27, ebF27, apF27, tyF28, ldF28, zoF28, ldF29, ldF30, ldF31, ldF32, tyF33, ldF33, zoF33, elF33, etF33, ebF33, apF33, ldF34, ldF35, ldF36, tyF37, ldF37, zoF37, elF37, etF37, ebF37, apF37, ldF38, ldF39, ldF40, tyF41, ldF41, zoF41, fdF41x0, fdF41x1, fdF41x2, fdF41x3, plF41, soF41, tyF42, ldF42, zoF42, fdF42x0, fdF42x1, fdF42x2, fdF42x3, plF42, eqF42, soF42, tyF43, ldF43, zoF43, fdF43x0, fdF43x1, fdF43x2, fdF43x3, plF43, eqF43, soF43, ldF44, ldF45, ldF46, ldF47, ldF49, ldF50, ldF51, ldF52, ldF54, tyF55, ldF55, ptF55, utF55x86, ufF55x86, zoF55, tyF56, ldF56, zoF56, fdF56x0, fdF56x1, plF56, soF56, tyF57, ldF57, zoF57, fdF57x0, fdF57x1, plF57, soF57, ldF58, ldF59, ldF60, ldF61, ldF63, ldF64, ldF66, ldF68, ldF69, ldF70, ldF71, ldF73, ldF74, tyF75, ldF75, ptF75, zoF75, ldF76, ldF77, ldF78, ldF79, ldF80, ldF81, ldF83, ldF84, tyF85, ldF85, ptF85, zoF85, ldF86, ldF87, tyF88, ldF88, zoF88, ldF89, tyF90, ldF90, zoF90, ldF91, ldF92, tyF93, ldF93, zoF93, fdF93x0, fdF93x1, plF93, soF93, tyF94, ldF94, zoF94, fdF94x0, fdF94x1, plF94, soF94, ldF95, ldF96, ldF97, tyF98, ldF98, zoF98, fdF98x0, fdF98x1, fdF98x2, fdF98x3, plF98, soF98, tyF99, ldF99, zoF99, fdF99x0, fdF99x1, fdF99x2, fdF99x3, plF99, soF99, ldF100, ldF101, ldF102, tyF103, ldF103, zoF103, tyF104, ldF104, zoF104, ldF105, tyF106, ldF106, zoF106, tyF107, ldF107, zoF107, ldF108, fdF108x0, fdF108x1, fdF108x2, fdF108x3, fdF108x4, fdF108x5, fdF108x6, fdF108x7, fdF108x8, fdF108x9, fdF108x10, ldF109, fdF109x0, fdF109x1, fdF109x2, fdF109x3, fdF109x4, fdF109x5, fdF109x6, fdF109x7, fdF109x8, fdF109x9, fdF109x10⟩
end Go.Proofs.YtmmpphbbbekinaaDoor
