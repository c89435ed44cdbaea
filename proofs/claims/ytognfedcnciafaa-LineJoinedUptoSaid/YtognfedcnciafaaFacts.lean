/- Facts of the translation's types: printed by facts.py (own work). -/
import Derived.Test.YtognfedcnciafaaRows
import Derived.Test.YtognfedcnciafaaCore13
import Derived.KernelRfl
namespace Go.Proofs.Ytognfedcnciafaa
open Go.Sv
set_option linter.unusedSimpArgs false
set_option maxRecDepth 100000
theorem followsF : Try.prog.follows .mixedOrders = true := by kernel_rfl
theorem ldF1 : ldInfo Try.prog 1 = some (false, 1) := by kernel_rfl
theorem tyF2 : tyOf Try.prog 8 2 = some (.int .i64) := by kernel_rfl
theorem ldF2 : ldInfo Try.prog 2 = some (false, 1) := by kernel_rfl
theorem zoF2 : ZeroOk Try.prog 2 (.int .i64) := ⟨⟨_, _, rfl, rfl, by kernel_rfl⟩⟩
theorem tyF3 : tyOf Try.prog 8 3 = some (.int .i64) := by kernel_rfl
theorem ldF3 : ldInfo Try.prog 3 = some (false, 1) := by kernel_rfl
theorem zoF3 : ZeroOk Try.prog 3 (.int .i64) := ⟨⟨_, _, rfl, rfl, by kernel_rfl⟩⟩
theorem tyF4 : tyOf Try.prog 8 4 = some .bool := by kernel_rfl
theorem ldF4 : ldInfo Try.prog 4 = some (false, 1) := by kernel_rfl
theorem zoF4 : ZeroOk Try.prog 4 .bool := ⟨⟨_, _, rfl, rfl, by kernel_rfl⟩⟩
theorem tyF5 : tyOf Try.prog 8 5 = some .u8 := by kernel_rfl
theorem ldF5 : ldInfo Try.prog 5 = some (false, 1) := by kernel_rfl
theorem zoF5 : ZeroOk Try.prog 5 .u8 := ⟨⟨_, _, rfl, rfl, by kernel_rfl⟩⟩
theorem tyF6 : tyOf Try.prog 8 6 = some .u8 := by kernel_rfl
theorem ldF6 : ldInfo Try.prog 6 = some (false, 1) := by kernel_rfl
theorem zoF6 : ZeroOk Try.prog 6 .u8 := ⟨⟨_, _, rfl, rfl, by kernel_rfl⟩⟩
theorem tyF7 : tyOf Try.prog 8 7 = some (.cons (.int .i64) (.cons (.int .i64) (.cons .bool (.cons .u8 .nil)))) := by kernel_rfl
theorem ldF7 : ldInfo Try.prog 7 = some (true, 4) := by kernel_rfl
theorem zoF7 : ZeroOk Try.prog 7 (.cons (.int .i64) (.cons (.int .i64) (.cons .bool (.cons .u8 .nil)))) := ⟨⟨_, _, rfl, rfl, by kernel_rfl⟩⟩
theorem fdF7x0 : fdInfo Try.prog 7 0 = some (0, 2) := by kernel_rfl
theorem fdF7x1 : fdInfo Try.prog 7 1 = some (1, 3) := by kernel_rfl
theorem fdF7x2 : fdInfo Try.prog 7 2 = some (2, 4) := by kernel_rfl
theorem fdF7x3 : fdInfo Try.prog 7 3 = some (3, 6) := by kernel_rfl
theorem plF7 : plOf Try.prog 7 = [(0, 1), (1, 1), (2, 1), (3, 1)] := by kernel_rfl
theorem soF7 : StructOk Try.prog 7 (.cons (.int .i64) (.cons (.int .i64) (.cons .bool (.cons .u8 .nil)))) [(0, 1), (1, 1), (2, 1), (3, 1)] := ⟨⟨Try.prog.fieldsOf 7, _, _, by kernel_rfl, rfl, rfl, by kernel_rfl, fun w => by kernel_rfl⟩⟩
theorem tyF8 : tyOf Try.prog 8 8 = some (.cons (.int .i64) (.cons (.int .i64) (.cons .bool (.cons .u8 .nil)))) := by kernel_rfl
theorem ldF8 : ldInfo Try.prog 8 = some (true, 4) := by kernel_rfl
theorem zoF8 : ZeroOk Try.prog 8 (.cons (.int .i64) (.cons (.int .i64) (.cons .bool (.cons .u8 .nil)))) := ⟨⟨_, _, rfl, rfl, by kernel_rfl⟩⟩
theorem fdF8x0 : fdInfo Try.prog 8 0 = some (0, 2) := by kernel_rfl
theorem fdF8x1 : fdInfo Try.prog 8 1 = some (1, 3) := by kernel_rfl
theorem fdF8x2 : fdInfo Try.prog 8 2 = some (2, 4) := by kernel_rfl
theorem fdF8x3 : fdInfo Try.prog 8 3 = some (3, 6) := by kernel_rfl
theorem plF8 : plOf Try.prog 8 = [(0, 1), (1, 1), (2, 1), (3, 1)] := by kernel_rfl
theorem soF8 : StructOk Try.prog 8 (.cons (.int .i64) (.cons (.int .i64) (.cons .bool (.cons .u8 .nil)))) [(0, 1), (1, 1), (2, 1), (3, 1)] := ⟨⟨Try.prog.fieldsOf 8, _, _, by kernel_rfl, rfl, rfl, by kernel_rfl, fun w => by kernel_rfl⟩⟩
theorem tyF9 : tyOf Try.prog 8 9 = some .str := by kernel_rfl
theorem ldF9 : ldInfo Try.prog 9 = some (false, 1) := by kernel_rfl
theorem zoF9 : ZeroOk Try.prog 9 .str := ⟨⟨_, _, rfl, rfl, by kernel_rfl⟩⟩
theorem tyF10 : tyOf Try.prog 8 10 = some .str := by kernel_rfl
theorem ldF10 : ldInfo Try.prog 10 = some (false, 1) := by kernel_rfl
theorem zoF10 : ZeroOk Try.prog 10 .str := ⟨⟨_, _, rfl, rfl, by kernel_rfl⟩⟩
theorem tyF11 : tyOf Try.prog 8 11 = some .str := by kernel_rfl
theorem ldF11 : ldInfo Try.prog 11 = some (false, 1) := by kernel_rfl
theorem zoF11 : ZeroOk Try.prog 11 .str := ⟨⟨_, _, rfl, rfl, by kernel_rfl⟩⟩
theorem tyF12 : tyOf Try.prog 8 12 = some (.int .u64) := by kernel_rfl
theorem ldF12 : ldInfo Try.prog 12 = some (false, 1) := by kernel_rfl
theorem zoF12 : ZeroOk Try.prog 12 (.int .u64) := ⟨⟨_, _, rfl, rfl, by kernel_rfl⟩⟩
theorem tyF13 : tyOf Try.prog 8 13 = some (.cons .str (.cons (.int .u64) .nil)) := by kernel_rfl
theorem ldF13 : ldInfo Try.prog 13 = some (true, 2) := by kernel_rfl
theorem zoF13 : ZeroOk Try.prog 13 (.cons .str (.cons (.int .u64) .nil)) := ⟨⟨_, _, rfl, rfl, by kernel_rfl⟩⟩
theorem fdF13x0 : fdInfo Try.prog 13 0 = some (0, 9) := by kernel_rfl
theorem fdF13x1 : fdInfo Try.prog 13 1 = some (1, 12) := by kernel_rfl
theorem plF13 : plOf Try.prog 13 = [(0, 1), (1, 1)] := by kernel_rfl
theorem soF13 : StructOk Try.prog 13 (.cons .str (.cons (.int .u64) .nil)) [(0, 1), (1, 1)] := ⟨⟨Try.prog.fieldsOf 13, _, _, by kernel_rfl, rfl, rfl, by kernel_rfl, fun w => by kernel_rfl⟩⟩
theorem tyF14 : tyOf Try.prog 8 14 = some (.cons .str (.cons (.int .u64) .nil)) := by kernel_rfl
theorem ldF14 : ldInfo Try.prog 14 = some (true, 2) := by kernel_rfl
theorem zoF14 : ZeroOk Try.prog 14 (.cons .str (.cons (.int .u64) .nil)) := ⟨⟨_, _, rfl, rfl, by kernel_rfl⟩⟩
theorem fdF14x0 : fdInfo Try.prog 14 0 = some (0, 9) := by kernel_rfl
theorem fdF14x1 : fdInfo Try.prog 14 1 = some (1, 12) := by kernel_rfl
theorem plF14 : plOf Try.prog 14 = [(0, 1), (1, 1)] := by kernel_rfl
theorem soF14 : StructOk Try.prog 14 (.cons .str (.cons (.int .u64) .nil)) [(0, 1), (1, 1)] := ⟨⟨Try.prog.fieldsOf 14, _, _, by kernel_rfl, rfl, rfl, by kernel_rfl, fun w => by kernel_rfl⟩⟩
theorem tyF15 : tyOf Try.prog 8 15 = some .ptr := by kernel_rfl
theorem ldF15 : ldInfo Try.prog 15 = some (false, 1) := by kernel_rfl
theorem ptF15 : PtrOk Try.prog 15 := ⟨⟨74, _, by kernel_rfl, rfl, by decide +kernel⟩⟩
theorem zoF15 : ZeroOk Try.prog 15 .ptr := ⟨⟨_, _, rfl, rfl, by kernel_rfl⟩⟩
theorem tyF16 : tyOf Try.prog 8 16 = some .ptr := by kernel_rfl
theorem ldF16 : ldInfo Try.prog 16 = some (false, 1) := by kernel_rfl
theorem zoF16 : ZeroOk Try.prog 16 .ptr := ⟨⟨_, _, rfl, rfl, by kernel_rfl⟩⟩
theorem tyF17 : tyOf Try.prog 8 17 = some .ptr := by kernel_rfl
theorem ldF17 : ldInfo Try.prog 17 = some (false, 1) := by kernel_rfl
theorem ptF17 : PtrOk Try.prog 17 := ⟨⟨85, _, by kernel_rfl, rfl, by decide +kernel⟩⟩
theorem zoF17 : ZeroOk Try.prog 17 .ptr := ⟨⟨_, _, rfl, rfl, by kernel_rfl⟩⟩
theorem tyF18 : tyOf Try.prog 8 18 = some (.cons .ptr .nil) := by kernel_rfl
theorem ldF18 : ldInfo Try.prog 18 = some (true, 1) := by kernel_rfl
theorem zoF18 : ZeroOk Try.prog 18 (.cons .ptr .nil) := ⟨⟨_, _, rfl, rfl, by kernel_rfl⟩⟩
theorem fdF18x0 : fdInfo Try.prog 18 0 = some (0, 17) := by kernel_rfl
theorem plF18 : plOf Try.prog 18 = [(0, 1)] := by kernel_rfl
theorem soF18 : StructOk Try.prog 18 (.cons .ptr .nil) [(0, 1)] := ⟨⟨Try.prog.fieldsOf 18, _, _, by kernel_rfl, rfl, rfl, by kernel_rfl, fun w => by kernel_rfl⟩⟩
theorem tyF19 : tyOf Try.prog 8 19 = some (.cons .ptr .nil) := by kernel_rfl
theorem ldF19 : ldInfo Try.prog 19 = some (true, 1) := by kernel_rfl
theorem zoF19 : ZeroOk Try.prog 19 (.cons .ptr .nil) := ⟨⟨_, _, rfl, rfl, by kernel_rfl⟩⟩
theorem fdF19x0 : fdInfo Try.prog 19 0 = some (0, 17) := by kernel_rfl
theorem plF19 : plOf Try.prog 19 = [(0, 1)] := by kernel_rfl
theorem soF19 : StructOk Try.prog 19 (.cons .ptr .nil) [(0, 1)] := ⟨⟨Try.prog.fieldsOf 19, _, _, by kernel_rfl, rfl, rfl, by kernel_rfl, fun w => by kernel_rfl⟩⟩
theorem ldF20 : ldInfo Try.prog 20 = some (false, 1) := by kernel_rfl
theorem tyF21 : tyOf Try.prog 8 21 = some (.int .i32) := by kernel_rfl
theorem ldF21 : ldInfo Try.prog 21 = some (false, 1) := by kernel_rfl
theorem zoF21 : ZeroOk Try.prog 21 (.int .i32) := ⟨⟨_, _, rfl, rfl, by kernel_rfl⟩⟩
theorem tyF22 : tyOf Try.prog 8 22 = some (.sl .u8) := by kernel_rfl
theorem ldF22 : ldInfo Try.prog 22 = some (false, 1) := by kernel_rfl
theorem zoF22 : ZeroOk Try.prog 22 (.sl .u8) := ⟨⟨_, _, rfl, rfl, by kernel_rfl⟩⟩
theorem elF22 : elemOk Try.prog 22 .u8 := ⟨5, _, by kernel_rfl, rfl, by kernel_rfl⟩
theorem etF22 : elTy Try.prog 22 = 5 := by kernel_rfl
theorem ebF22 : elBytes Try.prog 22 = 1 := by kernel_rfl
theorem apF22 : AppE Try.prog 22 .u8 := ⟨⟨5, _, _, by kernel_rfl, rfl, by kernel_rfl, by kernel_rfl, rfl, by kernel_rfl⟩⟩
theorem ldF23 : ldInfo Try.prog 23 = some (false, 1) := by kernel_rfl
theorem ldF24 : ldInfo Try.prog 24 = some (false, 1) := by kernel_rfl
theorem tyF25 : tyOf Try.prog 8 25 = some (.sl .str) := by kernel_rfl
theorem ldF25 : ldInfo Try.prog 25 = some (false, 1) := by kernel_rfl
theorem zoF25 : ZeroOk Try.prog 25 (.sl .str) := ⟨⟨_, _, rfl, rfl, by kernel_rfl⟩⟩
theorem elF25 : elemOk Try.prog 25 .str := ⟨9, _, by kernel_rfl, rfl, by kernel_rfl⟩
theorem etF25 : elTy Try.prog 25 = 9 := by kernel_rfl
theorem ebF25 : elBytes Try.prog 25 = 16 := by kernel_rfl
theorem apF25 : AppE Try.prog 25 .str := ⟨⟨9, _, _, by kernel_rfl, rfl, by kernel_rfl, by kernel_rfl, rfl, by kernel_rfl⟩⟩
theorem ldF26 : ldInfo Try.prog 26 = some (false, 1) := by kernel_rfl
theorem ldF27 : ldInfo Try.prog 27 = some (false, 1) := by kernel_rfl
theorem tyF28 : tyOf Try.prog 8 28 = some (.sl (.cons (.int .i64) (.cons (.int .i64) (.cons (.int .i64) .nil)))) := by kernel_rfl
theorem ldF28 : ldInfo Try.prog 28 = some (false, 1) := by kernel_rfl
theorem zoF28 : ZeroOk Try.prog 28 (.sl (.cons (.int .i64) (.cons (.int .i64) (.cons (.int .i64) .nil)))) := ⟨⟨_, _, rfl, rfl, by kernel_rfl⟩⟩
theorem elF28 : elemOk Try.prog 28 (.cons (.int .i64) (.cons (.int .i64) (.cons (.int .i64) .nil))) := ⟨31, _, by kernel_rfl, rfl, by kernel_rfl⟩
theorem etF28 : elTy Try.prog 28 = 31 := by kernel_rfl
theorem ebF28 : elBytes Try.prog 28 = 24 := by kernel_rfl
theorem apF28 : AppE Try.prog 28 (.cons (.int .i64) (.cons (.int .i64) (.cons (.int .i64) .nil))) := ⟨⟨31, _, _, by kernel_rfl, rfl, by kernel_rfl, by kernel_rfl, rfl, by kernel_rfl⟩⟩
theorem ldF29 : ldInfo Try.prog 29 = some (false, 1) := by kernel_rfl
theorem tyF30 : tyOf Try.prog 8 30 = some (.cons (.int .i64) (.cons (.int .i64) (.cons (.int .i64) .nil))) := by kernel_rfl
theorem ldF30 : ldInfo Try.prog 30 = some (true, 3) := by kernel_rfl
theorem zoF30 : ZeroOk Try.prog 30 (.cons (.int .i64) (.cons (.int .i64) (.cons (.int .i64) .nil))) := ⟨⟨_, _, rfl, rfl, by kernel_rfl⟩⟩
theorem fdF30x0 : fdInfo Try.prog 30 0 = some (0, 3) := by kernel_rfl
theorem fdF30x1 : fdInfo Try.prog 30 1 = some (1, 3) := by kernel_rfl
theorem fdF30x2 : fdInfo Try.prog 30 2 = some (2, 3) := by kernel_rfl
theorem plF30 : plOf Try.prog 30 = [(0, 1), (1, 1), (2, 1)] := by kernel_rfl
theorem soF30 : StructOk Try.prog 30 (.cons (.int .i64) (.cons (.int .i64) (.cons (.int .i64) .nil))) [(0, 1), (1, 1), (2, 1)] := ⟨⟨Try.prog.fieldsOf 30, _, _, by kernel_rfl, rfl, rfl, by kernel_rfl, fun w => by kernel_rfl⟩⟩
theorem tyF31 : tyOf Try.prog 8 31 = some (.cons (.int .i64) (.cons (.int .i64) (.cons (.int .i64) .nil))) := by kernel_rfl
theorem ldF31 : ldInfo Try.prog 31 = some (true, 3) := by kernel_rfl
theorem zoF31 : ZeroOk Try.prog 31 (.cons (.int .i64) (.cons (.int .i64) (.cons (.int .i64) .nil))) := ⟨⟨_, _, rfl, rfl, by kernel_rfl⟩⟩
theorem fdF31x0 : fdInfo Try.prog 31 0 = some (0, 3) := by kernel_rfl
theorem fdF31x1 : fdInfo Try.prog 31 1 = some (1, 3) := by kernel_rfl
theorem fdF31x2 : fdInfo Try.prog 31 2 = some (2, 3) := by kernel_rfl
theorem plF31 : plOf Try.prog 31 = [(0, 1), (1, 1), (2, 1)] := by kernel_rfl
theorem eqF31 : EqOk Try.prog 31 [(.int .i64), (.int .i64), (.int .i64)] := ⟨⟨Try.prog.fieldsOf 31, by kernel_rfl, by kernel_rfl, by kernel_rfl, by kernel_rfl⟩⟩
theorem soF31 : StructOk Try.prog 31 (.cons (.int .i64) (.cons (.int .i64) (.cons (.int .i64) .nil))) [(0, 1), (1, 1), (2, 1)] := ⟨⟨Try.prog.fieldsOf 31, _, _, by kernel_rfl, rfl, rfl, by kernel_rfl, fun w => by kernel_rfl⟩⟩
theorem ldF32 : ldInfo Try.prog 32 = some (false, 1) := by kernel_rfl
theorem ldF33 : ldInfo Try.prog 33 = some (false, 1) := by kernel_rfl
theorem ldF34 : ldInfo Try.prog 34 = some (false, 1) := by kernel_rfl
theorem ldF35 : ldInfo Try.prog 35 = some (false, 1) := by kernel_rfl
theorem ldF36 : ldInfo Try.prog 36 = some (false, 1) := by kernel_rfl
theorem ldF37 : ldInfo Try.prog 37 = some (false, 1) := by kernel_rfl
theorem ldF38 : ldInfo Try.prog 38 = some (false, 1) := by kernel_rfl
theorem tyF39 : tyOf Try.prog 8 39 = some (.sl (.int .u16)) := by kernel_rfl
theorem ldF39 : ldInfo Try.prog 39 = some (false, 1) := by kernel_rfl
theorem zoF39 : ZeroOk Try.prog 39 (.sl (.int .u16)) := ⟨⟨_, _, rfl, rfl, by kernel_rfl⟩⟩
theorem elF39 : elemOk Try.prog 39 (.int .u16) := ⟨40, _, by kernel_rfl, rfl, by kernel_rfl⟩
theorem etF39 : elTy Try.prog 39 = 40 := by kernel_rfl
theorem ebF39 : elBytes Try.prog 39 = 2 := by kernel_rfl
theorem apF39 : AppE Try.prog 39 (.int .u16) := ⟨⟨40, _, _, by kernel_rfl, rfl, by kernel_rfl, by kernel_rfl, rfl, by kernel_rfl⟩⟩
theorem tyF40 : tyOf Try.prog 8 40 = some (.int .u16) := by kernel_rfl
theorem ldF40 : ldInfo Try.prog 40 = some (false, 1) := by kernel_rfl
theorem zoF40 : ZeroOk Try.prog 40 (.int .u16) := ⟨⟨_, _, rfl, rfl, by kernel_rfl⟩⟩
theorem ldF41 : ldInfo Try.prog 41 = some (false, 1) := by kernel_rfl
theorem ldF42 : ldInfo Try.prog 42 = some (false, 1) := by kernel_rfl
theorem tyF43 : tyOf Try.prog 8 43 = some (.sl (.int .i32)) := by kernel_rfl
theorem ldF43 : ldInfo Try.prog 43 = some (false, 1) := by kernel_rfl
theorem zoF43 : ZeroOk Try.prog 43 (.sl (.int .i32)) := ⟨⟨_, _, rfl, rfl, by kernel_rfl⟩⟩
theorem elF43 : elemOk Try.prog 43 (.int .i32) := ⟨21, _, by kernel_rfl, rfl, by kernel_rfl⟩
theorem etF43 : elTy Try.prog 43 = 21 := by kernel_rfl
theorem ebF43 : elBytes Try.prog 43 = 4 := by kernel_rfl
theorem apF43 : AppE Try.prog 43 (.int .i32) := ⟨⟨21, _, _, by kernel_rfl, rfl, by kernel_rfl, by kernel_rfl, rfl, by kernel_rfl⟩⟩
theorem ldF45 : ldInfo Try.prog 45 = some (false, 1) := by kernel_rfl
theorem ldF46 : ldInfo Try.prog 46 = some (false, 1) := by kernel_rfl
theorem tyF47 : tyOf Try.prog 8 47 = some (.sl (.cons (.int .i64) (.cons (.int .i64) (.cons (.int .i64) .nil)))) := by kernel_rfl
theorem ldF47 : ldInfo Try.prog 47 = some (false, 1) := by kernel_rfl
theorem zoF47 : ZeroOk Try.prog 47 (.sl (.cons (.int .i64) (.cons (.int .i64) (.cons (.int .i64) .nil)))) := ⟨⟨_, _, rfl, rfl, by kernel_rfl⟩⟩
theorem elF47 : elemOk Try.prog 47 (.cons (.int .i64) (.cons (.int .i64) (.cons (.int .i64) .nil))) := ⟨49, _, by kernel_rfl, rfl, by kernel_rfl⟩
theorem etF47 : elTy Try.prog 47 = 49 := by kernel_rfl
theorem ebF47 : elBytes Try.prog 47 = 24 := by kernel_rfl
theorem apF47 : AppE Try.prog 47 (.cons (.int .i64) (.cons (.int .i64) (.cons (.int .i64) .nil))) := ⟨⟨49, _, _, by kernel_rfl, rfl, by kernel_rfl, by kernel_rfl, rfl, by kernel_rfl⟩⟩
theorem ldF48 : ldInfo Try.prog 48 = some (false, 1) := by kernel_rfl
theorem tyF49 : tyOf Try.prog 8 49 = some (.cons (.int .i64) (.cons (.int .i64) (.cons (.int .i64) .nil))) := by kernel_rfl
theorem ldF49 : ldInfo Try.prog 49 = some (true, 3) := by kernel_rfl
theorem zoF49 : ZeroOk Try.prog 49 (.cons (.int .i64) (.cons (.int .i64) (.cons (.int .i64) .nil))) := ⟨⟨_, _, rfl, rfl, by kernel_rfl⟩⟩
theorem fdF49x0 : fdInfo Try.prog 49 0 = some (0, 3) := by kernel_rfl
theorem fdF49x1 : fdInfo Try.prog 49 1 = some (1, 3) := by kernel_rfl
theorem fdF49x2 : fdInfo Try.prog 49 2 = some (2, 3) := by kernel_rfl
theorem plF49 : plOf Try.prog 49 = [(0, 1), (1, 1), (2, 1)] := by kernel_rfl
theorem eqF49 : EqOk Try.prog 49 [(.int .i64), (.int .i64), (.int .i64)] := ⟨⟨Try.prog.fieldsOf 49, by kernel_rfl, by kernel_rfl, by kernel_rfl, by kernel_rfl⟩⟩
theorem soF49 : StructOk Try.prog 49 (.cons (.int .i64) (.cons (.int .i64) (.cons (.int .i64) .nil))) [(0, 1), (1, 1), (2, 1)] := ⟨⟨Try.prog.fieldsOf 49, _, _, by kernel_rfl, rfl, rfl, by kernel_rfl, fun w => by kernel_rfl⟩⟩
theorem ldF50 : ldInfo Try.prog 50 = some (false, 1) := by kernel_rfl
theorem ldF51 : ldInfo Try.prog 51 = some (false, 1) := by kernel_rfl
theorem ldF52 : ldInfo Try.prog 52 = some (false, 1) := by kernel_rfl
theorem tyF53 : tyOf Try.prog 8 53 = some .ptr := by kernel_rfl
theorem ldF53 : ldInfo Try.prog 53 = some (false, 1) := by kernel_rfl
theorem ptF53 : PtrOk Try.prog 53 := ⟨⟨55, _, by kernel_rfl, rfl, by decide +kernel⟩⟩
theorem utF53x69 : UnsOk Try.prog 53 69 55 0 2 := .to 55 _ (by kernel_rfl) (by kernel_rfl) rfl (by decide +kernel) (by decide)
theorem ufF53x69 : UnsOk Try.prog 69 53 55 0 2 := .from 55 _ (by kernel_rfl) (by kernel_rfl) rfl (by kernel_rfl)
theorem zoF53 : ZeroOk Try.prog 53 .ptr := ⟨⟨_, _, rfl, rfl, by kernel_rfl⟩⟩
theorem tyF54 : tyOf Try.prog 8 54 = some (.cons .ptr (.cons (.sl .u8) .nil)) := by kernel_rfl
theorem ldF54 : ldInfo Try.prog 54 = some (true, 2) := by kernel_rfl
theorem zoF54 : ZeroOk Try.prog 54 (.cons .ptr (.cons (.sl .u8) .nil)) := ⟨⟨_, _, rfl, rfl, by kernel_rfl⟩⟩
theorem fdF54x0 : fdInfo Try.prog 54 0 = some (0, 53) := by kernel_rfl
theorem fdF54x1 : fdInfo Try.prog 54 1 = some (1, 22) := by kernel_rfl
theorem plF54 : plOf Try.prog 54 = [(0, 1), (1, 1)] := by kernel_rfl
theorem soF54 : StructOk Try.prog 54 (.cons .ptr (.cons (.sl .u8) .nil)) [(0, 1), (1, 1)] := ⟨⟨Try.prog.fieldsOf 54, _, _, by kernel_rfl, rfl, rfl, by kernel_rfl, fun w => by kernel_rfl⟩⟩
theorem tyF55 : tyOf Try.prog 8 55 = some (.cons .ptr (.cons (.sl .u8) .nil)) := by kernel_rfl
theorem ldF55 : ldInfo Try.prog 55 = some (true, 2) := by kernel_rfl
theorem zoF55 : ZeroOk Try.prog 55 (.cons .ptr (.cons (.sl .u8) .nil)) := ⟨⟨_, _, rfl, rfl, by kernel_rfl⟩⟩
theorem fdF55x0 : fdInfo Try.prog 55 0 = some (0, 53) := by kernel_rfl
theorem fdF55x1 : fdInfo Try.prog 55 1 = some (1, 22) := by kernel_rfl
theorem plF55 : plOf Try.prog 55 = [(0, 1), (1, 1)] := by kernel_rfl
theorem soF55 : StructOk Try.prog 55 (.cons .ptr (.cons (.sl .u8) .nil)) [(0, 1), (1, 1)] := ⟨⟨Try.prog.fieldsOf 55, _, _, by kernel_rfl, rfl, rfl, by kernel_rfl, fun w => by kernel_rfl⟩⟩
theorem ldF56 : ldInfo Try.prog 56 = some (false, 1) := by kernel_rfl
theorem ldF57 : ldInfo Try.prog 57 = some (false, 1) := by kernel_rfl
theorem ldF59 : ldInfo Try.prog 59 = some (false, 1) := by kernel_rfl
theorem ldF60 : ldInfo Try.prog 60 = some (false, 1) := by kernel_rfl
theorem ldF61 : ldInfo Try.prog 61 = some (false, 1) := by kernel_rfl
theorem ldF62 : ldInfo Try.prog 62 = some (false, 1) := by kernel_rfl
theorem ldF63 : ldInfo Try.prog 63 = some (false, 1) := by kernel_rfl
theorem ldF64 : ldInfo Try.prog 64 = some (false, 1) := by kernel_rfl
theorem ldF66 : ldInfo Try.prog 66 = some (false, 1) := by kernel_rfl
theorem tyF67 : tyOf Try.prog 8 67 = some .ptr := by kernel_rfl
theorem ldF67 : ldInfo Try.prog 67 = some (false, 1) := by kernel_rfl
theorem ptF67 : PtrOk Try.prog 67 := ⟨⟨5, _, by kernel_rfl, rfl, by decide +kernel⟩⟩
theorem zoF67 : ZeroOk Try.prog 67 .ptr := ⟨⟨_, _, rfl, rfl, by kernel_rfl⟩⟩
theorem ldF68 : ldInfo Try.prog 68 = some (false, 1) := by kernel_rfl
theorem ldF69 : ldInfo Try.prog 69 = some (false, 1) := by kernel_rfl
theorem ldF70 : ldInfo Try.prog 70 = some (false, 1) := by kernel_rfl
theorem tyF71 : tyOf Try.prog 8 71 = some (.int .u32) := by kernel_rfl
theorem ldF71 : ldInfo Try.prog 71 = some (false, 1) := by kernel_rfl
theorem zoF71 : ZeroOk Try.prog 71 (.int .u32) := ⟨⟨_, _, rfl, rfl, by kernel_rfl⟩⟩
theorem tyF72 : tyOf Try.prog 8 72 = some (.int .u64) := by kernel_rfl
theorem ldF72 : ldInfo Try.prog 72 = some (false, 1) := by kernel_rfl
theorem zoF72 : ZeroOk Try.prog 72 (.int .u64) := ⟨⟨_, _, rfl, rfl, by kernel_rfl⟩⟩
theorem tyF73 : tyOf Try.prog 8 73 = some (.cons .ptr (.cons .ptr (.cons .ptr (.cons .str .nil)))) := by kernel_rfl
theorem ldF73 : ldInfo Try.prog 73 = some (true, 4) := by kernel_rfl
theorem zoF73 : ZeroOk Try.prog 73 (.cons .ptr (.cons .ptr (.cons .ptr (.cons .str .nil)))) := ⟨⟨_, _, rfl, rfl, by kernel_rfl⟩⟩
theorem fdF73x0 : fdInfo Try.prog 73 0 = some (0, 17) := by kernel_rfl
theorem fdF73x1 : fdInfo Try.prog 73 1 = some (1, 17) := by kernel_rfl
theorem fdF73x2 : fdInfo Try.prog 73 2 = some (2, 17) := by kernel_rfl
theorem fdF73x3 : fdInfo Try.prog 73 3 = some (3, 9) := by kernel_rfl
theorem plF73 : plOf Try.prog 73 = [(0, 1), (1, 1), (2, 1), (3, 1)] := by kernel_rfl
theorem soF73 : StructOk Try.prog 73 (.cons .ptr (.cons .ptr (.cons .ptr (.cons .str .nil)))) [(0, 1), (1, 1), (2, 1), (3, 1)] := ⟨⟨Try.prog.fieldsOf 73, _, _, by kernel_rfl, rfl, rfl, by kernel_rfl, fun w => by kernel_rfl⟩⟩
theorem tyF74 : tyOf Try.prog 8 74 = some (.cons .ptr (.cons .ptr (.cons .ptr (.cons .str .nil)))) := by kernel_rfl
theorem ldF74 : ldInfo Try.prog 74 = some (true, 4) := by kernel_rfl
theorem zoF74 : ZeroOk Try.prog 74 (.cons .ptr (.cons .ptr (.cons .ptr (.cons .str .nil)))) := ⟨⟨_, _, rfl, rfl, by kernel_rfl⟩⟩
theorem fdF74x0 : fdInfo Try.prog 74 0 = some (0, 17) := by kernel_rfl
theorem fdF74x1 : fdInfo Try.prog 74 1 = some (1, 17) := by kernel_rfl
theorem fdF74x2 : fdInfo Try.prog 74 2 = some (2, 17) := by kernel_rfl
theorem fdF74x3 : fdInfo Try.prog 74 3 = some (3, 9) := by kernel_rfl
theorem plF74 : plOf Try.prog 74 = [(0, 1), (1, 1), (2, 1), (3, 1)] := by kernel_rfl
theorem soF74 : StructOk Try.prog 74 (.cons .ptr (.cons .ptr (.cons .ptr (.cons .str .nil)))) [(0, 1), (1, 1), (2, 1), (3, 1)] := ⟨⟨Try.prog.fieldsOf 74, _, _, by kernel_rfl, rfl, rfl, by kernel_rfl, fun w => by kernel_rfl⟩⟩
theorem ldF75 : ldInfo Try.prog 75 = some (true, 0) := by kernel_rfl
theorem ldF76 : ldInfo Try.prog 76 = some (true, 0) := by kernel_rfl
theorem ldF77 : ldInfo Try.prog 77 = some (true, 0) := by kernel_rfl
theorem ldF78 : ldInfo Try.prog 78 = some (false, 1) := by kernel_rfl
theorem tyF79 : tyOf Try.prog 8 79 = some .u8 := by kernel_rfl
theorem ldF79 : ldInfo Try.prog 79 = some (false, 1) := by kernel_rfl
theorem zoF79 : ZeroOk Try.prog 79 .u8 := ⟨⟨_, _, rfl, rfl, by kernel_rfl⟩⟩
theorem tyF80 : tyOf Try.prog 8 80 = some .u8 := by kernel_rfl
theorem ldF80 : ldInfo Try.prog 80 = some (false, 1) := by kernel_rfl
theorem zoF80 : ZeroOk Try.prog 80 .u8 := ⟨⟨_, _, rfl, rfl, by kernel_rfl⟩⟩
theorem ldF81 : ldInfo Try.prog 81 = some (false, 1) := by kernel_rfl
theorem tyF82 : tyOf Try.prog 8 82 = some (.int .i32) := by kernel_rfl
theorem ldF82 : ldInfo Try.prog 82 = some (false, 1) := by kernel_rfl
theorem zoF82 : ZeroOk Try.prog 82 (.int .i32) := ⟨⟨_, _, rfl, rfl, by kernel_rfl⟩⟩
theorem tyF83 : tyOf Try.prog 8 83 = some (.int .i32) := by kernel_rfl
theorem ldF83 : ldInfo Try.prog 83 = some (false, 1) := by kernel_rfl
theorem zoF83 : ZeroOk Try.prog 83 (.int .i32) := ⟨⟨_, _, rfl, rfl, by kernel_rfl⟩⟩
theorem ldF84 : ldInfo Try.prog 84 = some (true, 11) := by kernel_rfl
theorem fdF84x0 : fdInfo Try.prog 84 0 = some (0, 12) := by kernel_rfl
theorem fdF84x1 : fdInfo Try.prog 84 1 = some (1, 12) := by kernel_rfl
theorem fdF84x2 : fdInfo Try.prog 84 2 = some (2, 71) := by kernel_rfl
theorem fdF84x3 : fdInfo Try.prog 84 3 = some (3, 79) := by kernel_rfl
theorem fdF84x4 : fdInfo Try.prog 84 4 = some (4, 5) := by kernel_rfl
theorem fdF84x5 : fdInfo Try.prog 84 5 = some (5, 5) := by kernel_rfl
theorem fdF84x6 : fdInfo Try.prog 84 6 = some (6, 80) := by kernel_rfl
theorem fdF84x7 : fdInfo Try.prog 84 7 = some (7, 81) := by kernel_rfl
theorem fdF84x8 : fdInfo Try.prog 84 8 = some (8, 67) := by kernel_rfl
theorem fdF84x9 : fdInfo Try.prog 84 9 = some (9, 82) := by kernel_rfl
theorem fdF84x10 : fdInfo Try.prog 84 10 = some (10, 83) := by kernel_rfl
theorem ldF85 : ldInfo Try.prog 85 = some (true, 11) := by kernel_rfl
theorem fdF85x0 : fdInfo Try.prog 85 0 = some (0, 12) := by kernel_rfl
theorem fdF85x1 : fdInfo Try.prog 85 1 = some (1, 12) := by kernel_rfl
theorem fdF85x2 : fdInfo Try.prog 85 2 = some (2, 71) := by kernel_rfl
theorem fdF85x3 : fdInfo Try.prog 85 3 = some (3, 79) := by kernel_rfl
theorem fdF85x4 : fdInfo Try.prog 85 4 = some (4, 5) := by kernel_rfl
theorem fdF85x5 : fdInfo Try.prog 85 5 = some (5, 5) := by kernel_rfl
theorem fdF85x6 : fdInfo Try.prog 85 6 = some (6, 80) := by kernel_rfl
theorem fdF85x7 : fdInfo Try.prog 85 7 = some (7, 81) := by kernel_rfl
theorem fdF85x8 : fdInfo Try.prog 85 8 = some (8, 67) := by kernel_rfl
theorem fdF85x9 : fdInfo Try.prog 85 9 = some (9, 82) := by kernel_rfl
theorem fdF85x10 : fdInfo Try.prog 85 10 = some (10, 83) := by kernel_rfl
/-- All of them. -/
theorem F : (ldInfo Try.prog 1 = some (false, 1)) ∧ (tyOf Try.prog 8 2 = some (.int .i64)) ∧ (ldInfo Try.prog 2 = some (false, 1)) ∧ (ZeroOk Try.prog 2 (.int .i64)) ∧ (tyOf Try.prog 8 3 = some (.int .i64)) ∧ (ldInfo Try.prog 3 = some (false, 1)) ∧ (ZeroOk Try.prog 3 (.int .i64)) ∧ (tyOf Try.prog 8 4 = some .bool) ∧ (ldInfo Try.prog 4 = some (false, 1)) ∧ (ZeroOk Try.prog 4 .bool) ∧ (tyOf Try.prog 8 5 = some .u8) ∧ (ldInfo Try.prog 5 = some (false, 1)) ∧ (ZeroOk Try.prog 5 .u8) ∧ (tyOf Try.prog 8 6 = some .u8) ∧ (ldInfo Try.prog 6 = some (false, 1)) ∧ (ZeroOk Try.prog 6 .u8) ∧ (tyOf Try.prog 8 7 = some (.cons (.int .i64) (.cons (.int .i64) (.cons .bool (.cons .u8 .nil))))) ∧ (ldInfo Try.prog 7 = some (true, 4)) ∧ (ZeroOk Try.prog 7 (.cons (.int .i64) (.cons (.int .i64) (.cons .bool (.cons .u8 .nil))))) ∧ (fdInfo Try.prog 7 0 = some (0, 2)) ∧ (fdInfo Try.prog 7 1 = some (1, 3)) ∧ (fdInfo Try.prog 7 2 = some (2, 4)) ∧ (fdInfo Try.prog 7 3 = some (3, 6)) ∧ (plOf Try.prog 7 = [(0, 1), (1, 1), (2, 1), (3, 1)]) ∧ (StructOk Try.prog 7 (.cons (.int .i64) (.cons (.int .i64) (.cons .bool (.cons .u8 .nil)))) [(0, 1), (1, 1), (2, 1), (3, 1)]) ∧ (tyOf Try.prog 8 8 = some (.cons (.int .i64) (.cons (.int .i64) (.cons .bool (.cons .u8 .nil))))) ∧ (ldInfo Try.prog 8 = some (true, 4)) ∧ (ZeroOk Try.prog 8 (.cons (.int .i64) (.cons (.int .i64) (.cons .bool (.cons .u8 .nil))))) ∧ (fdInfo Try.prog 8 0 = some (0, 2)) ∧ (fdInfo Try.prog 8 1 = some (1, 3)) ∧ (fdInfo Try.prog 8 2 = some (2, 4)) ∧ (fdInfo Try.prog 8 3 = some (3, 6)) ∧ (plOf Try.prog 8 = [(0, 1), (1, 1), (2, 1), (3, 1)]) ∧ (StructOk Try.prog 8 (.cons (.int .i64) (.cons (.int .i64) (.cons .bool (.cons .u8 .nil)))) [(0, 1), (1, 1), (2, 1), (3, 1)]) ∧ (tyOf Try.prog 8 9 = some .str) ∧ (ldInfo Try.prog 9 = some (false, 1)) ∧ (ZeroOk Try.prog 9 .str) ∧ (tyOf Try.prog 8 10 = some .str) ∧ (ldInfo Try.prog 10 = some (false, 1)) ∧ (ZeroOk Try.prog 10 .str) ∧ (tyOf Try.prog 8 11 = some .str) ∧ (ldInfo Try.prog 11 = some (false, 1)) ∧ (ZeroOk Try.prog 11 .str) ∧ (tyOf Try.prog 8 12 = some (.int .u64)) ∧ (ldInfo Try.prog 12 = some (false, 1)) ∧ (ZeroOk Try.prog 12 (.int .u64)) ∧ (tyOf Try.prog 8 13 = some (.cons .str (.cons (.int .u64) .nil))) ∧ (ldInfo Try.prog 13 = some (true, 2)) ∧ (ZeroOk Try.prog 13 (.cons .str (.cons (.int .u64) .nil))) ∧ (fdInfo Try.prog 13 0 = some (0, 9)) ∧ (fdInfo Try.prog 13 1 = some (1, 12)) ∧ (plOf Try.prog 13 = [(0, 1), (1, 1)]) ∧ (StructOk Try.prog 13 (.cons .str (.cons (.int .u64) .nil)) [(0, 1), (1, 1)]) ∧ (tyOf Try.prog 8 14 = some (.cons .str (.cons (.int .u64) .nil))) ∧ (ldInfo Try.prog 14 = some (true, 2)) ∧ (ZeroOk Try.prog 14 (.cons .str (.cons (.int .u64) .nil))) ∧ (fdInfo Try.prog 14 0 = some (0, 9)) ∧ (fdInfo Try.prog 14 1 = some (1, 12)) ∧ (plOf Try.prog 14 = [(0, 1), (1, 1)]) ∧ (StructOk Try.prog 14 (.cons .str (.cons (.int .u64) .nil)) [(0, 1), (1, 1)]) ∧ (tyOf Try.prog 8 15 = some .ptr) ∧ (ldInfo Try.prog 15 = some (false, 1)) ∧ (PtrOk Try.prog 15) ∧ (ZeroOk Try.prog 15 .ptr) ∧ (tyOf Try.prog 8 16 = some .ptr) ∧ (ldInfo Try.prog 16 = some (false, 1)) ∧ (ZeroOk Try.prog 16 .ptr) ∧ (tyOf Try.prog 8 17 = some .ptr) ∧ (ldInfo Try.prog 17 = some (false, 1)) ∧ (PtrOk Try.prog 17) ∧ (ZeroOk Try.prog 17 .ptr) ∧ (tyOf Try.prog 8 18 = some (.cons .ptr .nil)) ∧ (ldInfo Try.prog 18 = some (true, 1)) ∧ (ZeroOk Try.prog 18 (.cons .ptr .nil)) ∧ (fdInfo Try.prog 18 0 = some (0, 17)) ∧ (plOf Try.prog 18 = [(0, 1)]) ∧ (StructOk Try.prog 18 (.cons .ptr .nil) [(0, 1)]) ∧ (tyOf Try.prog 8 19 = some (.cons .ptr .nil)) ∧ (ldInfo Try.prog 19 = some (true, 1)) ∧ (ZeroOk Try.prog 19 (.cons .ptr .nil)) ∧ (fdInfo Try.prog 19 0 = some (0, 17)) ∧ (plOf Try.prog 19 = [(0, 1)]) ∧ (StructOk Try.prog 19 (.cons .ptr .nil) [(0, 1)]) ∧ (ldInfo Try.prog 20 = some (false, 1)) ∧ (tyOf Try.prog 8 21 = some (.int .i32)) ∧ (ldInfo Try.prog 21 = some (false, 1)) ∧ (ZeroOk Try.prog 21 (.int .i32)) ∧ (tyOf Try.prog 8 22 = some (.sl .u8)) ∧ (ldInfo Try.prog 22 = some (false, 1)) ∧ (ZeroOk Try.prog 22 (.sl .u8)) ∧ (elemOk Try.prog 22 .u8) ∧ (elTy Try.prog 22 = 5) ∧ (elBytes Try.prog 22 = 1) ∧ (AppE Try.prog 22 .u8) ∧ (ldInfo Try.prog 23 = some (false, 1)) ∧ (ldInfo Try.prog 24 = some (false, 1)) ∧ (tyOf Try.prog 8 25 = some (.sl .str)) ∧ (ldInfo Try.prog 25 = some (false, 1)) ∧ (ZeroOk Try.prog 25 (.sl .str)) ∧ (elemOk Try.prog 25 .str) ∧ (elTy Try.prog 25 = 9) ∧ (elBytes Try.prog 25 = 16) ∧ (AppE Try.prog 25 .str) ∧ (ldInfo Try.prog 26 = some (false, 1)) ∧ (ldInfo Try.prog 27 = some (false, 1)) ∧ (tyOf Try.prog 8 28 = some (.sl (.cons (.int .i64) (.cons (.int .i64) (.cons (.int .i64) .nil))))) ∧ (ldInfo Try.prog 28 = some (false, 1)) ∧ (ZeroOk Try.prog 28 (.sl (.cons (.int .i64) (.cons (.int .i64) (.cons (.int .i64) .nil))))) ∧ (elemOk Try.prog 28 (.cons (.int .i64) (.cons (.int .i64) (.cons (.int .i64) .nil)))) ∧ (elTy Try.prog 28 = 31) ∧ (elBytes Try.prog 28 = 24) ∧ (AppE Try.prog 28 (.cons (.int .i64) (.cons (.int .i64) (.cons (.int .i64) .nil)))) ∧ (ldInfo Try.prog 29 = some (false, 1)) ∧ (tyOf Try.prog 8 30 = some (.cons (.int .i64) (.cons (.int .i64) (.cons (.int .i64) .nil)))) ∧ (ldInfo Try.prog 30 = some (true, 3)) ∧ (ZeroOk Try.prog 30 (.cons (.int .i64) (.cons (.int .i64) (.cons (.int .i64) .nil)))) ∧ (fdInfo Try.prog 30 0 = some (0, 3)) ∧ (fdInfo Try.prog 30 1 = some (1, 3)) ∧ (fdInfo Try.prog 30 2 = some (2, 3)) ∧ (plOf Try.prog 30 = [(0, 1), (1, 1), (2, 1)]) ∧ (StructOk Try.prog 30 (.cons (.int .i64) (.cons (.int .i64) (.cons (.int .i64) .nil))) [(0, 1), (1, 1), (2, 1)]) ∧ (tyOf Try.prog 8 31 = some (.cons (.int .i64) (.cons (.int .i64) (.cons (.int .i64) .nil)))) ∧ (ldInfo Try.prog 31 = some (true, 3)) ∧ (ZeroOk Try.prog 31 (.cons (.int .i64) (.cons (.int .i64) (.cons (.int .i64) .nil)))) ∧ (fdInfo Try.prog 31 0 = some (0, 3)) ∧ (fdInfo Try.prog 31 1 = some (1, 3)) ∧ (fdInfo Try.prog 31 2 = some (2, 3)) ∧ (plOf Try.prog 31 = [(0, 1), (1, 1), (2, 1)]) ∧ (EqOk Try.prog 31 [(.int .i64), (.int .i64), (.int .i64)]) ∧ (StructOk Try.prog 31 (.cons (.int .i64) (.cons (.int .i64) (.cons (.int .i64) .nil))) [(0, 1), (1, 1), (2, 1)]) ∧ (ldInfo Try.prog 32 = some (false, 1)) ∧ (ldInfo Try.prog 33 = some (false, 1)) ∧ (ldInfo Try.prog 34 = some (false, 1)) ∧ (ldInfo Try.prog 35 = some (false, 1)) ∧ (ldInfo Try.prog 36 = some (false, 1)) ∧ (ldInfo Try.prog 37 = some (false, 1)) ∧ (ldInfo Try.prog 38 = some (false, 1)) ∧ (tyOf Try.prog 8 39 = some (.sl (.int .u16))) ∧ (ldInfo Try.prog 39 = some (false, 1)) ∧ (ZeroOk Try.prog 39 (.sl (.int .u16))) ∧ (elemOk Try.prog 39 (.int .u16)) ∧ (elTy Try.prog 39 = 40) ∧ (elBytes Try.prog 39 = 2) ∧ (AppE Try.prog 39 (.int .u16)) ∧ (tyOf Try.prog 8 40 = some (.int .u16)) ∧ (ldInfo Try.prog 40 = some (false, 1)) ∧ (ZeroOk Try.prog 40 (.int .u16)) ∧ (ldInfo Try.prog 41 = some (false, 1)) ∧ (ldInfo Try.prog 42 = some (false, 1)) ∧ (tyOf Try.prog 8 43 = some (.sl (.int .i32))) ∧ (ldInfo Try.prog 43 = some (false, 1)) ∧ (ZeroOk Try.prog 43 (.sl (.int .i32))) ∧ (elemOk Try.prog 43 (.int .i32)) ∧ (elTy Try.prog 43 = 21) ∧ (elBytes Try.prog 43 = 4) ∧ (AppE Try.prog 43 (.int .i32)) ∧ (ldInfo Try.prog 45 = some (false, 1)) ∧ (ldInfo Try.prog 46 = some (false, 1)) ∧ (tyOf Try.prog 8 47 = some (.sl (.cons (.int .i64) (.cons (.int .i64) (.cons (.int .i64) .nil))))) ∧ (ldInfo Try.prog 47 = some (false, 1)) ∧ (ZeroOk Try.prog 47 (.sl (.cons (.int .i64) (.cons (.int .i64) (.cons (.int .i64) .nil))))) ∧ (elemOk Try.prog 47 (.cons (.int .i64) (.cons (.int .i64) (.cons (.int .i64) .nil)))) ∧ (elTy Try.prog 47 = 49) ∧ (elBytes Try.prog 47 = 24) ∧ (AppE Try.prog 47 (.cons (.int .i64) (.cons (.int .i64) (.cons (.int .i64) .nil)))) ∧ (ldInfo Try.prog 48 = some (false, 1)) ∧ (tyOf Try.prog 8 49 = some (.cons (.int .i64) (.cons (.int .i64) (.cons (.int .i64) .nil)))) ∧ (ldInfo Try.prog 49 = some (true, 3)) ∧ (ZeroOk Try.prog 49 (.cons (.int .i64) (.cons (.int .i64) (.cons (.int .i64) .nil)))) ∧ (fdInfo Try.prog 49 0 = some (0, 3)) ∧ (fdInfo Try.prog 49 1 = some (1, 3)) ∧ (fdInfo Try.prog 49 2 = some (2, 3)) ∧ (plOf Try.prog 49 = [(0, 1), (1, 1), (2, 1)]) ∧ (EqOk Try.prog 49 [(.int .i64), (.int .i64), (.int .i64)]) ∧ (StructOk Try.prog 49 (.cons (.int .i64) (.cons (.int .i64) (.cons (.int .i64) .nil))) [(0, 1), (1, 1), (2, 1)]) ∧ (ldInfo Try.prog 50 = some (false, 1)) ∧ (ldInfo Try.prog 51 = some (false, 1)) ∧ (ldInfo Try.prog 52 = some (false, 1)) ∧ (tyOf Try.prog 8 53 = some .ptr) ∧ (ldInfo Try.prog 53 = some (false, 1)) ∧ (PtrOk Try.prog 53) ∧ (UnsOk Try.prog 53 69 55 0 2) ∧ (UnsOk Try.prog 69 53 55 0 2) ∧ (ZeroOk Try.prog 53 .ptr) ∧ (tyOf Try.prog 8 54 = some (.cons .ptr (.cons (.sl .u8) .nil))) ∧ (ldInfo Try.prog 54 = some (true, 2)) ∧ (ZeroOk Try.prog 54 (.cons .ptr (.cons (.sl .u8) .nil))) ∧ (fdInfo Try.prog 54 0 = some (0, 53)) ∧ (fdInfo Try.prog 54 1 = some (1, 22)) ∧ (plOf Try.prog 54 = [(0, 1), (1, 1)]) ∧ (StructOk Try.prog 54 (.cons .ptr (.cons (.sl .u8) .nil)) [(0, 1), (1, 1)]) ∧ (tyOf Try.prog 8 55 = some (.cons .ptr (.cons (.sl .u8) .nil))) ∧ (ldInfo Try.prog 55 = some (true, 2)) ∧ (ZeroOk Try.prog 55 (.cons .ptr (.cons (.sl .u8) .nil))) ∧ (fdInfo Try.prog 55 0 = some (0, 53)) ∧ (fdInfo Try.prog 55 1 = some (1, 22)) ∧ (plOf Try.prog 55 = [(0, 1), (1, 1)]) ∧ (StructOk Try.prog 55 (.cons .ptr (.cons (.sl .u8) .nil)) [(0, 1), (1, 1)]) ∧ (ldInfo Try.prog 56 = some (false, 1)) ∧ (ldInfo Try.prog 57 = some (false, 1)) ∧ (ldInfo Try.prog 59 = some (false, 1)) ∧ (ldInfo Try.prog 60 = some (false, 1)) ∧ (ldInfo Try.prog 61 = some (false, 1)) ∧ (ldInfo Try.prog 62 = some (false, 1)) ∧ (ldInfo Try.prog 63 = some (false, 1)) ∧ (ldInfo Try.prog 64 = some (false, 1)) ∧ (ldInfo Try.prog 66 = some (false, 1)) ∧ (tyOf Try.prog 8 67 = some .ptr) ∧ (ldInfo Try.prog 67 = some (false, 1)) ∧ (PtrOk Try.prog 67) ∧ (ZeroOk Try.prog 67 .ptr) ∧ (ldInfo Try.prog 68 = some (false, 1)) ∧ (ldInfo Try.prog 69 = some (false, 1)) ∧ (ldInfo Try.prog 70 = some (false, 1)) ∧ (tyOf Try.prog 8 71 = some (.int .u32)) ∧ (ldInfo Try.prog 71 = some (false, 1)) ∧ (ZeroOk Try.prog 71 (.int .u32)) ∧ (tyOf Try.prog 8 72 = some (.int .u64)) ∧ (ldInfo Try.prog 72 = some (false, 1)) ∧ (ZeroOk Try.prog 72 (.int .u64)) ∧ (tyOf Try.prog 8 73 = some (.cons .ptr (.cons .ptr (.cons .ptr (.cons .str .nil))))) ∧ (ldInfo Try.prog 73 = some (true, 4)) ∧ (ZeroOk Try.prog 73 (.cons .ptr (.cons .ptr (.cons .ptr (.cons .str .nil))))) ∧ (fdInfo Try.prog 73 0 = some (0, 17)) ∧ (fdInfo Try.prog 73 1 = some (1, 17)) ∧ (fdInfo Try.prog 73 2 = some (2, 17)) ∧ (fdInfo Try.prog 73 3 = some (3, 9)) ∧ (plOf Try.prog 73 = [(0, 1), (1, 1), (2, 1), (3, 1)]) ∧ (StructOk Try.prog 73 (.cons .ptr (.cons .ptr (.cons .ptr (.cons .str .nil)))) [(0, 1), (1, 1), (2, 1), (3, 1)]) ∧ (tyOf Try.prog 8 74 = some (.cons .ptr (.cons .ptr (.cons .ptr (.cons .str .nil))))) ∧ (ldInfo Try.prog 74 = some (true, 4)) ∧ (ZeroOk Try.prog 74 (.cons .ptr (.cons .ptr (.cons .ptr (.cons .str .nil))))) ∧ (fdInfo Try.prog 74 0 = some (0, 17)) ∧ (fdInfo Try.prog 74 1 = some (1, 17)) ∧ (fdInfo Try.prog 74 2 = some (2, 17)) ∧ (fdInfo Try.prog 74 3 = some (3, 9)) ∧ (plOf Try.prog 74 = [(0, 1), (1, 1), (2, 1), (3, 1)]) ∧ (StructOk Try.prog 74 (.cons .ptr (.cons .ptr (.cons .ptr (.cons .str .nil)))) [(0, 1), (1, 1), (2, 1), (3, 1)]) ∧ (ldInfo Try.prog 75 = some (true, 0)) ∧ (ldInfo Try.prog 76 = some (true, 0)) ∧ (ldInfo Try.prog 77 = some (true, 0)) ∧ (ldInfo Try.prog 78 = some (false, 1)) ∧ (tyOf Try.prog 8 79 = some .u8) ∧ (ldInfo Try.prog 79 = some (false, 1)) ∧ (ZeroOk Try.prog 79 .u8) ∧ (tyOf Try.prog 8 80 = some .u8) ∧ (ldInfo Try.prog 80 = some (false, 1)) ∧ (ZeroOk Try.prog 80 .u8) ∧ (ldInfo Try.prog 81 = some (false, 1)) ∧ (tyOf Try.prog 8 82 = some (.int .i32)) ∧ (ldInfo Try.prog 82 = some (false, 1)) ∧ (ZeroOk Try.prog 82 (.int .i32)) ∧ (tyOf Try.prog 8 83 = some (.int .i32)) ∧ (ldInfo Try.prog 83 = some (false, 1)) ∧ (ZeroOk Try.prog 83 (.int .i32)) ∧ (ldInfo Try.prog 84 = some (true, 11)) ∧ (fdInfo Try.prog 84 0 = some (0, 12)) ∧ (fdInfo Try.prog 84 1 = some (1, 12)) ∧ (fdInfo Try.prog 84 2 = some (2, 71)) ∧ (fdInfo Try.prog 84 3 = some (3, 79)) ∧ (fdInfo Try.prog 84 4 = some (4, 5)) ∧ (fdInfo Try.prog 84 5 = some (5, 5)) ∧ (fdInfo Try.prog 84 6 = some (6, 80)) ∧ (fdInfo Try.prog 84 7 = some (7, 81)) ∧ (fdInfo Try.prog 84 8 = some (8, 67)) ∧ (fdInfo Try.prog 84 9 = some (9, 82)) ∧ (fdInfo Try.prog 84 10 = some (10, 83)) ∧ (ldInfo Try.prog 85 = some (true, 11)) ∧ (fdInfo Try.prog 85 0 = some (0, 12)) ∧ (fdInfo Try.prog 85 1 = some (1, 12)) ∧ (fdInfo Try.prog 85 2 = some (2, 71)) ∧ (fdInfo Try.prog 85 3 = some (3, 79)) ∧ (fdInfo Try.prog 85 4 = some (4, 5)) ∧ (fdInfo Try.prog 85 5 = some (5, 5)) ∧ (fdInfo Try.prog 85 6 = some (6, 80)) ∧ (fdInfo Try.prog 85 7 = some (7, 81)) ∧ (fdInfo Try.prog 85 8 = some (8, 67)) ∧ (fdInfo Try.prog 85 9 = some (9, 82)) ∧ (fdInfo Try.prog 85 10 = some (10, 83)) := ⟨ldF1, tyF2, ldF2, zoF2, tyF3, ldF3, zoF3, tyF4, ldF4, zoF4, tyF5, ldF5, zoF5, tyF6, ldF6, zoF6, tyF7, ldF7, zoF7, fdF7x0, fdF7x1, fdF7x2, fdF7x3, plF7, soF7, tyF8, ldF8, zoF8, fdF8x0, fdF8x1, fdF8x2, fdF8x3, plF8, soF8, tyF9, ldF9, zoF9, tyF10, ldF10, zoF10, tyF11, ldF11, zoF11, tyF12, ldF12, zoF12, tyF13, ldF13, zoF13, fdF13x0, fdF13x1, plF13, soF13, tyF14, ldF14, zoF14, fdF14x0, fdF14x1, plF14, soF14, tyF15, ldF15, ptF15, zoF15, tyF16, ldF16, zoF16, tyF17, ldF17, ptF17, zoF17, tyF18, ldF18, zoF18, fdF18x0, plF18, soF18, tyF19, ldF19, zoF19, fdF19x0, plF19, soF19, ldF20, tyF21, ldF21, zoF21, tyF22, ldF22, zoF22, elF22, etF22, ebF22, apF22, ldF23, ldF24, tyF25, ldF25, zoF25, elF25, etF25, ebF25, apF25, ldF26, ldF27, tyF28, ldF28, zoF28, elF28, etF28, ebF28, apF28, ldF29, tyF30, ldF30, zoF30, fdF30x0, fdF30x1, fdF30x2, plF30, soF30, tyF31, ldF31, zoF31, fdF31x0, fdF31x1, fdF31x2, plF31, eqF31, soF31, ldF32, ldF33, ldF34, ldF35, ldF36, ldF37, ldF38, tyF39, ldF39, zoF39, elF39, etF39, ebF39, apF39, tyF40, ldF40, zoF40, ldF41, ldF42, tyF43, ldF43, zoF43, elF43, etF43, ebF43, apF43, ldF45, ldF46, tyF47, ldF47, zoF47, elF47, etF47, ebF47, apF47, ldF48, tyF49, ldF49, zoF49, fdF49x0, fdF49x1, fdF49x2, plF49, eqF49, soF49, ldF50, ldF51, ldF52, tyF53, ldF53, ptF53, utF53x69, ufF53x69, zoF53, tyF54, ldF54, zoF54, fdF54x0, fdF54x1, plF54, soF54, tyF55, ldF55, zoF55, fdF55x0, fdF55x1, plF55, soF55, ldF56, ldF57, ldF59, ldF60, ldF61, ldF62, ldF63, ldF64, ldF66, tyF67, ldF67, ptF67, zoF67, ldF68, ldF69, ldF70, tyF71, ldF71, zoF71, tyF72, ldF72, zoF72, tyF73, ldF73, zoF73, fdF73x0, fdF73x1, fdF73x2, fdF73x3, plF73, soF73, tyF74, ldF74, zoF74, fdF74x0, fdF74x1, fdF74x2, fdF74x3, plF74, soF74, ldF75, ldF76, ldF77, ldF78, tyF79, ldF79, zoF79, tyF80, ldF80, zoF80, ldF81, tyF82, ldF82, zoF82, tyF83, ldF83, zoF83, ldF84, fdF84x0, fdF84x1, fdF84x2, fdF84x3, fdF84x4, fdF84x5, fdF84x6, fdF84x7, fdF84x8, fdF84x9, fdF84x10, ldF85, fdF85x0, fdF85x1, fdF85x2, fdF85x3, fdF85x4, fdF85x5, fdF85x6, fdF85x7, fdF85x8, fdF85x9, fdF85x10⟩
end Go.Proofs.Ytognfedcnciafaa
