/- Facts of the translation's types: printed by facts.py (own work). -/
import Derived.Test.YtopegdkhoafajaaRows
import Derived.Test.YtopegdkhoafajaaCore13
import Derived.KernelRfl
namespace Go.Proofs.Ytopegdkhoafajaa
open Go.Sv
set_option linter.unusedSimpArgs false
set_option maxRecDepth 100000
theorem followsF : Try.prog.follows .mixedOrders = true := by kernel_rfl
theorem ldF1 : ldInfo Try.prog 1 = some (false, 1) := by kernel_rfl
theorem tyF2 : tyOf Try.prog 8 2 = some (.int .i64) := by kernel_rfl
theorem ldF2 : ldInfo Try.prog 2 = some (false, 1) := by kernel_rfl
theorem zoF2 : ZeroOk Try.prog 2 (.int .i64) := ⟨⟨_, _, rfl, rfl, by kernel_rfl⟩⟩
theorem tyF3 : tyOf Try.prog 8 3 = some (.int .i64) := by kernel_rfl
theorem ldF3 : ldInfo Try.prog 3 = some (false, 1) := by kernel_rfl
theorem zoF3 : ZeroOk Try.prog 3 (.int .i64) := ⟨⟨_, _, rfl, rfl, by kernel_rfl⟩⟩
theorem tyF4 : tyOf Try.prog 8 4 = some .bool := by kernel_rfl
theorem ldF4 : ldInfo Try.prog 4 = some (false, 1) := by kernel_rfl
theorem zoF4 : ZeroOk Try.prog 4 .bool := ⟨⟨_, _, rfl, rfl, by kernel_rfl⟩⟩
theorem tyF5 : tyOf Try.prog 8 5 = some .u8 := by kernel_rfl
theorem ldF5 : ldInfo Try.prog 5 = some (false, 1) := by kernel_rfl
theorem zoF5 : ZeroOk Try.prog 5 .u8 := ⟨⟨_, _, rfl, rfl, by kernel_rfl⟩⟩
theorem tyF6 : tyOf Try.prog 8 6 = some .u8 := by kernel_rfl
theorem ldF6 : ldInfo Try.prog 6 = some (false, 1) := by kernel_rfl
theorem zoF6 : ZeroOk Try.prog 6 .u8 := ⟨⟨_, _, rfl, rfl, by kernel_rfl⟩⟩
theorem tyF7 : tyOf Try.prog 8 7 = some (.cons (.int .i64) (.cons (.int .i64) (.cons .bool (.cons .u8 .nil)))) := by kernel_rfl
theorem ldF7 : ldInfo Try.prog 7 = some (true, 4) := by kernel_rfl
theorem zoF7 : ZeroOk Try.prog 7 (.cons (.int .i64) (.cons (.int .i64) (.cons .bool (.cons .u8 .nil)))) := ⟨⟨_, _, rfl, rfl, by kernel_rfl⟩⟩
theorem fdF7x0 : fdInfo Try.prog 7 0 = some (0, 2) := by kernel_rfl
theorem fdF7x1 : fdInfo Try.prog 7 1 = some (1, 3) := by kernel_rfl
theorem fdF7x2 : fdInfo Try.prog 7 2 = some (2, 4) := by kernel_rfl
theorem fdF7x3 : fdInfo Try.prog 7 3 = some (3, 6) := by kernel_rfl
theorem plF7 : plOf Try.prog 7 = [(0, 1), (1, 1), (2, 1), (3, 1)] := by kernel_rfl
theorem soF7 : StructOk Try.prog 7 (.cons (.int .i64) (.cons (.int .i64) (.cons .bool (.cons .u8 .nil)))) [(0, 1), (1, 1), (2, 1), (3, 1)] := ⟨⟨Try.prog.fieldsOf 7, _, _, by kernel_rfl, rfl, rfl, by kernel_rfl, fun w => by kernel_rfl⟩⟩
theorem tyF8 : tyOf Try.prog 8 8 = some (.cons (.int .i64) (.cons (.int .i64) (.cons .bool (.cons .u8 .nil)))) := by kernel_rfl
theorem ldF8 : ldInfo Try.prog 8 = some (true, 4) := by kernel_rfl
theorem zoF8 : ZeroOk Try.prog 8 (.cons (.int .i64) (.cons (.int .i64) (.cons .bool (.cons .u8 .nil)))) := ⟨⟨_, _, rfl, rfl, by kernel_rfl⟩⟩
theorem fdF8x0 : fdInfo Try.prog 8 0 = some (0, 2) := by kernel_rfl
theorem fdF8x1 : fdInfo Try.prog 8 1 = some (1, 3) := by kernel_rfl
theorem fdF8x2 : fdInfo Try.prog 8 2 = some (2, 4) := by kernel_rfl
theorem fdF8x3 : fdInfo Try.prog 8 3 = some (3, 6) := by kernel_rfl
theorem plF8 : plOf Try.prog 8 = [(0, 1), (1, 1), (2, 1), (3, 1)] := by kernel_rfl
theorem soF8 : StructOk Try.prog 8 (.cons (.int .i64) (.cons (.int .i64) (.cons .bool (.cons .u8 .nil)))) [(0, 1), (1, 1), (2, 1), (3, 1)] := ⟨⟨Try.prog.fieldsOf 8, _, _, by kernel_rfl, rfl, rfl, by kernel_rfl, fun w => by kernel_rfl⟩⟩
theorem tyF9 : tyOf Try.prog 8 9 = some .str := by kernel_rfl
theorem ldF9 : ldInfo Try.prog 9 = some (false, 1) := by kernel_rfl
theorem zoF9 : ZeroOk Try.prog 9 .str := ⟨⟨_, _, rfl, rfl, by kernel_rfl⟩⟩
theorem tyF10 : tyOf Try.prog 8 10 = some .str := by kernel_rfl
theorem ldF10 : ldInfo Try.prog 10 = some (false, 1) := by kernel_rfl
theorem zoF10 : ZeroOk Try.prog 10 .str := ⟨⟨_, _, rfl, rfl, by kernel_rfl⟩⟩
theorem tyF11 : tyOf Try.prog 8 11 = some .str := by kernel_rfl
theorem ldF11 : ldInfo Try.prog 11 = some (false, 1) := by kernel_rfl
theorem zoF11 : ZeroOk Try.prog 11 .str := ⟨⟨_, _, rfl, rfl, by kernel_rfl⟩⟩
theorem tyF12 : tyOf Try.prog 8 12 = some (.int .u64) := by kernel_rfl
theorem ldF12 : ldInfo Try.prog 12 = some (false, 1) := by kernel_rfl
theorem zoF12 : ZeroOk Try.prog 12 (.int .u64) := ⟨⟨_, _, rfl, rfl, by kernel_rfl⟩⟩
theorem tyF13 : tyOf Try.prog 8 13 = some (.cons .str (.cons (.int .u64) .nil)) := by kernel_rfl
theorem ldF13 : ldInfo Try.prog 13 = some (true, 2) := by kernel_rfl
theorem zoF13 : ZeroOk Try.prog 13 (.cons .str (.cons (.int .u64) .nil)) := ⟨⟨_, _, rfl, rfl, by kernel_rfl⟩⟩
theorem fdF13x0 : fdInfo Try.prog 13 0 = some (0, 9) := by kernel_rfl
theorem fdF13x1 : fdInfo Try.prog 13 1 = some (1, 12) := by kernel_rfl
theorem plF13 : plOf Try.prog 13 = [(0, 1), (1, 1)] := by kernel_rfl
theorem soF13 : StructOk Try.prog 13 (.cons .str (.cons (.int .u64) .nil)) [(0, 1), (1, 1)] := ⟨⟨Try.prog.fieldsOf 13, _, _, by kernel_rfl, rfl, rfl, by kernel_rfl, fun w => by kernel_rfl⟩⟩
theorem tyF14 : tyOf Try.prog 8 14 = some (.cons .str (.cons (.int .u64) .nil)) := by kernel_rfl
theorem ldF14 : ldInfo Try.prog 14 = some (true, 2) := by kernel_rfl
theorem zoF14 : ZeroOk Try.prog 14 (.cons .str (.cons (.int .u64) .nil)) := ⟨⟨_, _, rfl, rfl, by kernel_rfl⟩⟩
theorem fdF14x0 : fdInfo Try.prog 14 0 = some (0, 9) := by kernel_rfl
theorem fdF14x1 : fdInfo Try.prog 14 1 = some (1, 12) := by kernel_rfl
theorem plF14 : plOf Try.prog 14 = [(0, 1), (1, 1)] := by kernel_rfl
theorem soF14 : StructOk Try.prog 14 (.cons .str (.cons (.int .u64) .nil)) [(0, 1), (1, 1)] := ⟨⟨Try.prog.fieldsOf 14, _, _, by kernel_rfl, rfl, rfl, by kernel_rfl, fun w => by kernel_rfl⟩⟩
theorem tyF15 : tyOf Try.prog 8 15 = some .ptr := by kernel_rfl
theorem ldF15 : ldInfo Try.prog 15 = some (false, 1) := by kernel_rfl
theorem ptF15 : PtrOk Try.prog 15 := ⟨⟨74, _, by kernel_rfl, rfl, by decide +kernel⟩⟩
theorem zoF15 : ZeroOk Try.prog 15 .ptr := ⟨⟨_, _, rfl, rfl, by kernel_rfl⟩⟩
theorem tyF16 : tyOf Try.prog 8 16 = some .ptr := by kernel_rfl
theorem ldF16 : ldInfo Try.prog 16 = some (false, 1) := by kernel_rfl
theorem zoF16 : ZeroOk Try.prog 16 .ptr := ⟨⟨_, _, rfl, rfl, by kernel_rfl⟩⟩
theorem tyF17 : tyOf Try.prog 8 17 = some .ptr := by kernel_rfl
theorem ldF17 : ldInfo Try.prog 17 = some (false, 1) := by kernel_rfl
theorem ptF17 : PtrOk Try.prog 17 := ⟨⟨86, _, by kernel_rfl, rfl, by decide +kernel⟩⟩
theorem zoF17 : ZeroOk Try.prog 17 .ptr := ⟨⟨_, _, rfl, rfl, by kernel_rfl⟩⟩
theorem tyF18 : tyOf Try.prog 8 18 = some (.cons .ptr .nil) := by kernel_rfl
theorem ldF18 : ldInfo Try.prog 18 = some (true, 1) := by kernel_rfl
theorem zoF18 : ZeroOk Try.prog 18 (.cons .ptr .nil) := ⟨⟨_, _, rfl, rfl, by kernel_rfl⟩⟩
theorem fdF18x0 : fdInfo Try.prog 18 0 = some (0, 17) := by kernel_rfl
theorem plF18 : plOf Try.prog 18 = [(0, 1)] := by kernel_rfl
theorem soF18 : StructOk Try.prog 18 (.cons .ptr .nil) [(0, 1)] := ⟨⟨Try.prog.fieldsOf 18, _, _, by kernel_rfl, rfl, rfl, by kernel_rfl, fun w => by kernel_rfl⟩⟩
theorem tyF19 : tyOf Try.prog 8 19 = some (.cons .ptr .nil) := by kernel_rfl
theorem ldF19 : ldInfo Try.prog 19 = some (true, 1) := by kernel_rfl
theorem zoF19 : ZeroOk Try.prog 19 (.cons .ptr .nil) := ⟨⟨_, _, rfl, rfl, by kernel_rfl⟩⟩
theorem fdF19x0 : fdInfo Try.prog 19 0 = some (0, 17) := by kernel_rfl
theorem plF19 : plOf Try.prog 19 = [(0, 1)] := by kernel_rfl
theorem soF19 : StructOk Try.prog 19 (.cons .ptr .nil) [(0, 1)] := ⟨⟨Try.prog.fieldsOf 19, _, _, by kernel_rfl, rfl, rfl, by kernel_rfl, fun w => by kernel_rfl⟩⟩
theorem ldF20 : ldInfo Try.prog 20 = some (false, 1) := by kernel_rfl
theorem tyF21 : tyOf Try.prog 8 21 = some (.int .i32) := by kernel_rfl
theorem ldF21 : ldInfo Try.prog 21 = some (false, 1) := by kernel_rfl
theorem zoF21 : ZeroOk Try.prog 21 (.int .i32) := ⟨⟨_, _, rfl, rfl, by kernel_rfl⟩⟩
theorem tyF22 : tyOf Try.prog 8 22 = some (.sl .u8) := by kernel_rfl
theorem ldF22 : ldInfo Try.prog 22 = some (false, 1) := by kernel_rfl
theorem zoF22 : ZeroOk Try.prog 22 (.sl .u8) := ⟨⟨_, _, rfl, rfl, by kernel_rfl⟩⟩
theorem elF22 : elemOk Try.prog 22 .u8 := ⟨5, _, by kernel_rfl, rfl, by kernel_rfl⟩
theorem etF22 : elTy Try.prog 22 = 5 := by kernel_rfl
theorem ebF22 : elBytes Try.prog 22 = 1 := by kernel_rfl
theorem mdF22 : MadeOk Try.prog 22 .u8 := ⟨⟨5, _, _, _, by kernel_rfl, rfl, rfl, by kernel_rfl, fun w S => by simp only [RepD]; rfl⟩⟩
theorem apF22 : AppE Try.prog 22 .u8 := ⟨⟨5, _, _, by kernel_rfl, rfl, by kernel_rfl, by kernel_rfl, rfl, by kernel_rfl⟩⟩
theorem ldF23 : ldInfo Try.prog 23 = some (false, 1) := by kernel_rfl
theorem tyF24 : tyOf Try.prog 8 24 = some (.cons .str (.cons (.sl .u8) .nil)) := by kernel_rfl
theorem ldF24 : ldInfo Try.prog 24 = some (true, 2) := by kernel_rfl
theorem zoF24 : ZeroOk Try.prog 24 (.cons .str (.cons (.sl .u8) .nil)) := ⟨⟨_, _, rfl, rfl, by kernel_rfl⟩⟩
theorem fdF24x0 : fdInfo Try.prog 24 0 = some (0, 9) := by kernel_rfl
theorem fdF24x1 : fdInfo Try.prog 24 1 = some (1, 22) := by kernel_rfl
theorem plF24 : plOf Try.prog 24 = [(0, 1), (1, 1)] := by kernel_rfl
theorem soF24 : StructOk Try.prog 24 (.cons .str (.cons (.sl .u8) .nil)) [(0, 1), (1, 1)] := ⟨⟨Try.prog.fieldsOf 24, _, _, by kernel_rfl, rfl, rfl, by kernel_rfl, fun w => by kernel_rfl⟩⟩
theorem tyF25 : tyOf Try.prog 8 25 = some (.cons .str (.cons (.sl .u8) .nil)) := by kernel_rfl
theorem ldF25 : ldInfo Try.prog 25 = some (true, 2) := by kernel_rfl
theorem zoF25 : ZeroOk Try.prog 25 (.cons .str (.cons (.sl .u8) .nil)) := ⟨⟨_, _, rfl, rfl, by kernel_rfl⟩⟩
theorem fdF25x0 : fdInfo Try.prog 25 0 = some (0, 9) := by kernel_rfl
theorem fdF25x1 : fdInfo Try.prog 25 1 = some (1, 22) := by kernel_rfl
theorem plF25 : plOf Try.prog 25 = [(0, 1), (1, 1)] := by kernel_rfl
theorem soF25 : StructOk Try.prog 25 (.cons .str (.cons (.sl .u8) .nil)) [(0, 1), (1, 1)] := ⟨⟨Try.prog.fieldsOf 25, _, _, by kernel_rfl, rfl, rfl, by kernel_rfl, fun w => by kernel_rfl⟩⟩
theorem tyF26 : tyOf Try.prog 8 26 = some (.sl (.cons .str (.cons (.sl .u8) .nil))) := by kernel_rfl
theorem ldF26 : ldInfo Try.prog 26 = some (false, 1) := by kernel_rfl
theorem zoF26 : ZeroOk Try.prog 26 (.sl (.cons .str (.cons (.sl .u8) .nil))) := ⟨⟨_, _, rfl, rfl, by kernel_rfl⟩⟩
theorem elF26 : elemOk Try.prog 26 (.cons .str (.cons (.sl .u8) .nil)) := ⟨25, _, by kernel_rfl, rfl, by kernel_rfl⟩
theorem etF26 : elTy Try.prog 26 = 25 := by kernel_rfl
theorem ebF26 : elBytes Try.prog 26 = 40 := by kernel_rfl
theorem apF26 : AppE Try.prog 26 (.cons .str (.cons (.sl .u8) .nil)) := ⟨⟨25, _, _, by kernel_rfl, rfl, by kernel_rfl, by kernel_rfl, rfl, by kernel_rfl⟩⟩
theorem ldF27 : ldInfo Try.prog 27 = some (false, 1) := by kernel_rfl
theorem ldF28 : ldInfo Try.prog 28 = some (false, 1) := by kernel_rfl
theorem ldF29 : ldInfo Try.prog 29 = some (false, 1) := by kernel_rfl
theorem tyF30 : tyOf Try.prog 8 30 = some (.sl (.int .u16)) := by kernel_rfl
theorem ldF30 : ldInfo Try.prog 30 = some (false, 1) := by kernel_rfl
theorem zoF30 : ZeroOk Try.prog 30 (.sl (.int .u16)) := ⟨⟨_, _, rfl, rfl, by kernel_rfl⟩⟩
theorem elF30 : elemOk Try.prog 30 (.int .u16) := ⟨32, _, by kernel_rfl, rfl, by kernel_rfl⟩
theorem etF30 : elTy Try.prog 30 = 32 := by kernel_rfl
theorem ebF30 : elBytes Try.prog 30 = 2 := by kernel_rfl
theorem mdF30 : MadeOk Try.prog 30 (.int .u16) := ⟨⟨32, _, _, _, by kernel_rfl, rfl, rfl, by kernel_rfl, fun w S => by simp only [RepD]; rfl⟩⟩
theorem apF30 : AppE Try.prog 30 (.int .u16) := ⟨⟨32, _, _, by kernel_rfl, rfl, by kernel_rfl, by kernel_rfl, rfl, by kernel_rfl⟩⟩
theorem tyF31 : tyOf Try.prog 8 31 = some (.sl .str) := by kernel_rfl
theorem ldF31 : ldInfo Try.prog 31 = some (false, 1) := by kernel_rfl
theorem zoF31 : ZeroOk Try.prog 31 (.sl .str) := ⟨⟨_, _, rfl, rfl, by kernel_rfl⟩⟩
theorem elF31 : elemOk Try.prog 31 .str := ⟨9, _, by kernel_rfl, rfl, by kernel_rfl⟩
theorem etF31 : elTy Try.prog 31 = 9 := by kernel_rfl
theorem ebF31 : elBytes Try.prog 31 = 16 := by kernel_rfl
theorem mdF31 : MadeOk Try.prog 31 .str := ⟨⟨9, _, _, _, by kernel_rfl, rfl, rfl, by kernel_rfl, fun w S => by simp only [RepD]; rfl⟩⟩
theorem apF31 : AppE Try.prog 31 .str := ⟨⟨9, _, _, by kernel_rfl, rfl, by kernel_rfl, by kernel_rfl, rfl, by kernel_rfl⟩⟩
theorem tyF32 : tyOf Try.prog 8 32 = some (.int .u16) := by kernel_rfl
theorem ldF32 : ldInfo Try.prog 32 = some (false, 1) := by kernel_rfl
theorem zoF32 : ZeroOk Try.prog 32 (.int .u16) := ⟨⟨_, _, rfl, rfl, by kernel_rfl⟩⟩
theorem ldF33 : ldInfo Try.prog 33 = some (false, 1) := by kernel_rfl
theorem ldF34 : ldInfo Try.prog 34 = some (false, 1) := by kernel_rfl
theorem ldF35 : ldInfo Try.prog 35 = some (false, 1) := by kernel_rfl
theorem ldF36 : ldInfo Try.prog 36 = some (false, 1) := by kernel_rfl
theorem ldF37 : ldInfo Try.prog 37 = some (false, 1) := by kernel_rfl
theorem ldF38 : ldInfo Try.prog 38 = some (false, 1) := by kernel_rfl
theorem moF38 : MapOk Try.prog 38 := ⟨⟨9, 3, _, by kernel_rfl, by kernel_rfl, rfl, by kernel_rfl⟩⟩
theorem tyF39 : tyOf Try.prog 8 39 = some (.cons .str (.cons .str (.cons .str (.cons .str (.cons .bool (.cons .bool .nil)))))) := by kernel_rfl
theorem ldF39 : ldInfo Try.prog 39 = some (true, 6) := by kernel_rfl
theorem zoF39 : ZeroOk Try.prog 39 (.cons .str (.cons .str (.cons .str (.cons .str (.cons .bool (.cons .bool .nil)))))) := ⟨⟨_, _, rfl, rfl, by kernel_rfl⟩⟩
theorem fdF39x0 : fdInfo Try.prog 39 0 = some (0, 9) := by kernel_rfl
theorem fdF39x1 : fdInfo Try.prog 39 1 = some (1, 9) := by kernel_rfl
theorem fdF39x2 : fdInfo Try.prog 39 2 = some (2, 9) := by kernel_rfl
theorem fdF39x3 : fdInfo Try.prog 39 3 = some (3, 9) := by kernel_rfl
theorem fdF39x4 : fdInfo Try.prog 39 4 = some (4, 4) := by kernel_rfl
theorem fdF39x5 : fdInfo Try.prog 39 5 = some (5, 4) := by kernel_rfl
theorem plF39 : plOf Try.prog 39 = [(0, 1), (1, 1), (2, 1), (3, 1), (4, 1), (5, 1)] := by kernel_rfl
theorem soF39 : StructOk Try.prog 39 (.cons .str (.cons .str (.cons .str (.cons .str (.cons .bool (.cons .bool .nil)))))) [(0, 1), (1, 1), (2, 1), (3, 1), (4, 1), (5, 1)] := ⟨⟨Try.prog.fieldsOf 39, _, _, by kernel_rfl, rfl, rfl, by kernel_rfl, fun w => by kernel_rfl⟩⟩
theorem tyF40 : tyOf Try.prog 8 40 = some (.cons .str (.cons .str (.cons .str (.cons .str (.cons .bool (.cons .bool .nil)))))) := by kernel_rfl
theorem ldF40 : ldInfo Try.prog 40 = some (true, 6) := by kernel_rfl
theorem zoF40 : ZeroOk Try.prog 40 (.cons .str (.cons .str (.cons .str (.cons .str (.cons .bool (.cons .bool .nil)))))) := ⟨⟨_, _, rfl, rfl, by kernel_rfl⟩⟩
theorem fdF40x0 : fdInfo Try.prog 40 0 = some (0, 9) := by kernel_rfl
theorem fdF40x1 : fdInfo Try.prog 40 1 = some (1, 9) := by kernel_rfl
theorem fdF40x2 : fdInfo Try.prog 40 2 = some (2, 9) := by kernel_rfl
theorem fdF40x3 : fdInfo Try.prog 40 3 = some (3, 9) := by kernel_rfl
theorem fdF40x4 : fdInfo Try.prog 40 4 = some (4, 4) := by kernel_rfl
theorem fdF40x5 : fdInfo Try.prog 40 5 = some (5, 4) := by kernel_rfl
theorem plF40 : plOf Try.prog 40 = [(0, 1), (1, 1), (2, 1), (3, 1), (4, 1), (5, 1)] := by kernel_rfl
theorem eqF40 : EqOk Try.prog 40 [.str, .str, .str, .str, .bool, .bool] := ⟨⟨Try.prog.fieldsOf 40, by kernel_rfl, by kernel_rfl, by kernel_rfl, by kernel_rfl⟩⟩
theorem soF40 : StructOk Try.prog 40 (.cons .str (.cons .str (.cons .str (.cons .str (.cons .bool (.cons .bool .nil)))))) [(0, 1), (1, 1), (2, 1), (3, 1), (4, 1), (5, 1)] := ⟨⟨Try.prog.fieldsOf 40, _, _, by kernel_rfl, rfl, rfl, by kernel_rfl, fun w => by kernel_rfl⟩⟩
theorem tyF41 : tyOf Try.prog 8 41 = some (.cons (.int .i64) (.cons (.int .i64) (.cons (.int .i64) (.cons (.int .i64) (.cons (.cons .str (.cons .str (.cons .str (.cons .str (.cons .bool (.cons .bool .nil)))))) (.cons .str (.cons (.sl .str) .nil))))))) := by kernel_rfl
theorem ldF41 : ldInfo Try.prog 41 = some (true, 12) := by kernel_rfl
theorem zoF41 : ZeroOk Try.prog 41 (.cons (.int .i64) (.cons (.int .i64) (.cons (.int .i64) (.cons (.int .i64) (.cons (.cons .str (.cons .str (.cons .str (.cons .str (.cons .bool (.cons .bool .nil)))))) (.cons .str (.cons (.sl .str) .nil))))))) := ⟨⟨_, _, rfl, rfl, by kernel_rfl⟩⟩
theorem fdF41x0 : fdInfo Try.prog 41 0 = some (0, 3) := by kernel_rfl
theorem fdF41x1 : fdInfo Try.prog 41 1 = some (1, 3) := by kernel_rfl
theorem fdF41x2 : fdInfo Try.prog 41 2 = some (2, 3) := by kernel_rfl
theorem fdF41x3 : fdInfo Try.prog 41 3 = some (3, 3) := by kernel_rfl
theorem fdF41x4 : fdInfo Try.prog 41 4 = some (4, 40) := by kernel_rfl
theorem fdF41x5 : fdInfo Try.prog 41 5 = some (10, 9) := by kernel_rfl
theorem fdF41x6 : fdInfo Try.prog 41 6 = some (11, 31) := by kernel_rfl
theorem plF41 : plOf Try.prog 41 = [(0, 1), (1, 1), (2, 1), (3, 1), (4, 6), (10, 1), (11, 1)] := by kernel_rfl
theorem soF41 : StructOk Try.prog 41 (.cons (.int .i64) (.cons (.int .i64) (.cons (.int .i64) (.cons (.int .i64) (.cons (.cons .str (.cons .str (.cons .str (.cons .str (.cons .bool (.cons .bool .nil)))))) (.cons .str (.cons (.sl .str) .nil))))))) [(0, 1), (1, 1), (2, 1), (3, 1), (4, 6), (10, 1), (11, 1)] := ⟨⟨Try.prog.fieldsOf 41, _, _, by kernel_rfl, rfl, rfl, by kernel_rfl, fun w => by kernel_rfl⟩⟩
theorem tyF42 : tyOf Try.prog 8 42 = some (.cons (.int .i64) (.cons (.int .i64) (.cons (.int .i64) (.cons (.int .i64) (.cons (.cons .str (.cons .str (.cons .str (.cons .str (.cons .bool (.cons .bool .nil)))))) (.cons .str (.cons (.sl .str) .nil))))))) := by kernel_rfl
theorem ldF42 : ldInfo Try.prog 42 = some (true, 12) := by kernel_rfl
theorem zoF42 : ZeroOk Try.prog 42 (.cons (.int .i64) (.cons (.int .i64) (.cons (.int .i64) (.cons (.int .i64) (.cons (.cons .str (.cons .str (.cons .str (.cons .str (.cons .bool (.cons .bool .nil)))))) (.cons .str (.cons (.sl .str) .nil))))))) := ⟨⟨_, _, rfl, rfl, by kernel_rfl⟩⟩
theorem fdF42x0 : fdInfo Try.prog 42 0 = some (0, 3) := by kernel_rfl
theorem fdF42x1 : fdInfo Try.prog 42 1 = some (1, 3) := by kernel_rfl
theorem fdF42x2 : fdInfo Try.prog 42 2 = some (2, 3) := by kernel_rfl
theorem fdF42x3 : fdInfo Try.prog 42 3 = some (3, 3) := by kernel_rfl
theorem fdF42x4 : fdInfo Try.prog 42 4 = some (4, 40) := by kernel_rfl
theorem fdF42x5 : fdInfo Try.prog 42 5 = some (10, 9) := by kernel_rfl
theorem fdF42x6 : fdInfo Try.prog 42 6 = some (11, 31) := by kernel_rfl
theorem plF42 : plOf Try.prog 42 = [(0, 1), (1, 1), (2, 1), (3, 1), (4, 6), (10, 1), (11, 1)] := by kernel_rfl
theorem soF42 : StructOk Try.prog 42 (.cons (.int .i64) (.cons (.int .i64) (.cons (.int .i64) (.cons (.int .i64) (.cons (.cons .str (.cons .str (.cons .str (.cons .str (.cons .bool (.cons .bool .nil)))))) (.cons .str (.cons (.sl .str) .nil))))))) [(0, 1), (1, 1), (2, 1), (3, 1), (4, 6), (10, 1), (11, 1)] := ⟨⟨Try.prog.fieldsOf 42, _, _, by kernel_rfl, rfl, rfl, by kernel_rfl, fun w => by kernel_rfl⟩⟩
theorem tyF43 : tyOf Try.prog 8 43 = some (.sl (.cons (.int .i64) (.cons (.int .i64) (.cons (.int .i64) (.cons (.int .i64) (.cons (.cons .str (.cons .str (.cons .str (.cons .str (.cons .bool (.cons .bool .nil)))))) (.cons .str (.cons (.sl .str) .nil)))))))) := by kernel_rfl
theorem ldF43 : ldInfo Try.prog 43 = some (false, 1) := by kernel_rfl
theorem zoF43 : ZeroOk Try.prog 43 (.sl (.cons (.int .i64) (.cons (.int .i64) (.cons (.int .i64) (.cons (.int .i64) (.cons (.cons .str (.cons .str (.cons .str (.cons .str (.cons .bool (.cons .bool .nil)))))) (.cons .str (.cons (.sl .str) .nil)))))))) := ⟨⟨_, _, rfl, rfl, by kernel_rfl⟩⟩
theorem elF43 : elemOk Try.prog 43 (.cons (.int .i64) (.cons (.int .i64) (.cons (.int .i64) (.cons (.int .i64) (.cons (.cons .str (.cons .str (.cons .str (.cons .str (.cons .bool (.cons .bool .nil)))))) (.cons .str (.cons (.sl .str) .nil))))))) := ⟨42, _, by kernel_rfl, rfl, by kernel_rfl⟩
theorem etF43 : elTy Try.prog 43 = 42 := by kernel_rfl
theorem ebF43 : elBytes Try.prog 43 = 144 := by kernel_rfl
theorem apF43 : AppE Try.prog 43 (.cons (.int .i64) (.cons (.int .i64) (.cons (.int .i64) (.cons (.int .i64) (.cons (.cons .str (.cons .str (.cons .str (.cons .str (.cons .bool (.cons .bool .nil)))))) (.cons .str (.cons (.sl .str) .nil))))))) := ⟨⟨42, _, _, by kernel_rfl, rfl, by kernel_rfl, by kernel_rfl, rfl, by kernel_rfl⟩⟩
theorem ldF44 : ldInfo Try.prog 44 = some (false, 1) := by kernel_rfl
theorem ldF45 : ldInfo Try.prog 45 = some (false, 1) := by kernel_rfl
theorem ldF46 : ldInfo Try.prog 46 = some (false, 1) := by kernel_rfl
theorem ldF47 : ldInfo Try.prog 47 = some (false, 1) := by kernel_rfl
theorem tyF48 : tyOf Try.prog 8 48 = some (.sl (.sl .u8)) := by kernel_rfl
theorem ldF48 : ldInfo Try.prog 48 = some (false, 1) := by kernel_rfl
theorem zoF48 : ZeroOk Try.prog 48 (.sl (.sl .u8)) := ⟨⟨_, _, rfl, rfl, by kernel_rfl⟩⟩
theorem elF48 : elemOk Try.prog 48 (.sl .u8) := ⟨22, _, by kernel_rfl, rfl, by kernel_rfl⟩
theorem etF48 : elTy Try.prog 48 = 22 := by kernel_rfl
theorem ebF48 : elBytes Try.prog 48 = 24 := by kernel_rfl
theorem apF48 : AppE Try.prog 48 (.sl .u8) := ⟨⟨22, _, _, by kernel_rfl, rfl, by kernel_rfl, by kernel_rfl, rfl, by kernel_rfl⟩⟩
theorem ldF50 : ldInfo Try.prog 50 = some (false, 1) := by kernel_rfl
theorem ldF51 : ldInfo Try.prog 51 = some (false, 1) := by kernel_rfl
theorem ldF52 : ldInfo Try.prog 52 = some (false, 1) := by kernel_rfl
theorem ldF53 : ldInfo Try.prog 53 = some (false, 1) := by kernel_rfl
theorem ldF54 : ldInfo Try.prog 54 = some (false, 1) := by kernel_rfl
theorem ldF56 : ldInfo Try.prog 56 = some (false, 1) := by kernel_rfl
theorem ldF57 : ldInfo Try.prog 57 = some (false, 1) := by kernel_rfl
theorem ldF59 : ldInfo Try.prog 59 = some (false, 1) := by kernel_rfl
theorem ldF61 : ldInfo Try.prog 61 = some (false, 1) := by kernel_rfl
theorem ldF62 : ldInfo Try.prog 62 = some (false, 1) := by kernel_rfl
theorem ldF63 : ldInfo Try.prog 63 = some (false, 1) := by kernel_rfl
theorem ldF64 : ldInfo Try.prog 64 = some (false, 1) := by kernel_rfl
theorem ldF65 : ldInfo Try.prog 65 = some (false, 1) := by kernel_rfl
theorem tyF66 : tyOf Try.prog 8 66 = some (.int .u64) := by kernel_rfl
theorem ldF66 : ldInfo Try.prog 66 = some (false, 1) := by kernel_rfl
theorem zoF66 : ZeroOk Try.prog 66 (.int .u64) := ⟨⟨_, _, rfl, rfl, by kernel_rfl⟩⟩
theorem ldF67 : ldInfo Try.prog 67 = some (false, 1) := by kernel_rfl
theorem tyF68 : tyOf Try.prog 8 68 = some (.int .u32) := by kernel_rfl
theorem ldF68 : ldInfo Try.prog 68 = some (false, 1) := by kernel_rfl
theorem zoF68 : ZeroOk Try.prog 68 (.int .u32) := ⟨⟨_, _, rfl, rfl, by kernel_rfl⟩⟩
theorem ldF70 : ldInfo Try.prog 70 = some (false, 1) := by kernel_rfl
theorem ldF71 : ldInfo Try.prog 71 = some (false, 1) := by kernel_rfl
theorem ldF72 : ldInfo Try.prog 72 = some (false, 1) := by kernel_rfl
theorem tyF73 : tyOf Try.prog 8 73 = some (.cons .ptr (.cons .ptr (.cons .ptr (.cons .str .nil)))) := by kernel_rfl
theorem ldF73 : ldInfo Try.prog 73 = some (true, 4) := by kernel_rfl
theorem zoF73 : ZeroOk Try.prog 73 (.cons .ptr (.cons .ptr (.cons .ptr (.cons .str .nil)))) := ⟨⟨_, _, rfl, rfl, by kernel_rfl⟩⟩
theorem fdF73x0 : fdInfo Try.prog 73 0 = some (0, 17) := by kernel_rfl
theorem fdF73x1 : fdInfo Try.prog 73 1 = some (1, 17) := by kernel_rfl
theorem fdF73x2 : fdInfo Try.prog 73 2 = some (2, 17) := by kernel_rfl
theorem fdF73x3 : fdInfo Try.prog 73 3 = some (3, 9) := by kernel_rfl
theorem plF73 : plOf Try.prog 73 = [(0, 1), (1, 1), (2, 1), (3, 1)] := by kernel_rfl
theorem soF73 : StructOk Try.prog 73 (.cons .ptr (.cons .ptr (.cons .ptr (.cons .str .nil)))) [(0, 1), (1, 1), (2, 1), (3, 1)] := ⟨⟨Try.prog.fieldsOf 73, _, _, by kernel_rfl, rfl, rfl, by kernel_rfl, fun w => by kernel_rfl⟩⟩
theorem tyF74 : tyOf Try.prog 8 74 = some (.cons .ptr (.cons .ptr (.cons .ptr (.cons .str .nil)))) := by kernel_rfl
theorem ldF74 : ldInfo Try.prog 74 = some (true, 4) := by kernel_rfl
theorem zoF74 : ZeroOk Try.prog 74 (.cons .ptr (.cons .ptr (.cons .ptr (.cons .str .nil)))) := ⟨⟨_, _, rfl, rfl, by kernel_rfl⟩⟩
theorem fdF74x0 : fdInfo Try.prog 74 0 = some (0, 17) := by kernel_rfl
theorem fdF74x1 : fdInfo Try.prog 74 1 = some (1, 17) := by kernel_rfl
theorem fdF74x2 : fdInfo Try.prog 74 2 = some (2, 17) := by kernel_rfl
theorem fdF74x3 : fdInfo Try.prog 74 3 = some (3, 9) := by kernel_rfl
theorem plF74 : plOf Try.prog 74 = [(0, 1), (1, 1), (2, 1), (3, 1)] := by kernel_rfl
theorem soF74 : StructOk Try.prog 74 (.cons .ptr (.cons .ptr (.cons .ptr (.cons .str .nil)))) [(0, 1), (1, 1), (2, 1), (3, 1)] := ⟨⟨Try.prog.fieldsOf 74, _, _, by kernel_rfl, rfl, rfl, by kernel_rfl, fun w => by kernel_rfl⟩⟩
theorem ldF75 : ldInfo Try.prog 75 = some (true, 0) := by kernel_rfl
theorem ldF76 : ldInfo Try.prog 76 = some (true, 0) := by kernel_rfl
theorem ldF77 : ldInfo Try.prog 77 = some (true, 0) := by kernel_rfl
theorem ldF78 : ldInfo Try.prog 78 = some (false, 1) := by kernel_rfl
theorem tyF79 : tyOf Try.prog 8 79 = some .u8 := by kernel_rfl
theorem ldF79 : ldInfo Try.prog 79 = some (false, 1) := by kernel_rfl
theorem zoF79 : ZeroOk Try.prog 79 .u8 := ⟨⟨_, _, rfl, rfl, by kernel_rfl⟩⟩
theorem tyF80 : tyOf Try.prog 8 80 = some .u8 := by kernel_rfl
theorem ldF80 : ldInfo Try.prog 80 = some (false, 1) := by kernel_rfl
theorem zoF80 : ZeroOk Try.prog 80 .u8 := ⟨⟨_, _, rfl, rfl, by kernel_rfl⟩⟩
theorem ldF81 : ldInfo Try.prog 81 = some (false, 1) := by kernel_rfl
theorem tyF82 : tyOf Try.prog 8 82 = some .ptr := by kernel_rfl
theorem ldF82 : ldInfo Try.prog 82 = some (false, 1) := by kernel_rfl
theorem ptF82 : PtrOk Try.prog 82 := ⟨⟨5, _, by kernel_rfl, rfl, by decide +kernel⟩⟩
theorem zoF82 : ZeroOk Try.prog 82 .ptr := ⟨⟨_, _, rfl, rfl, by kernel_rfl⟩⟩
theorem tyF83 : tyOf Try.prog 8 83 = some (.int .i32) := by kernel_rfl
theorem ldF83 : ldInfo Try.prog 83 = some (false, 1) := by kernel_rfl
theorem zoF83 : ZeroOk Try.prog 83 (.int .i32) := ⟨⟨_, _, rfl, rfl, by kernel_rfl⟩⟩
theorem tyF84 : tyOf Try.prog 8 84 = some (.int .i32) := by kernel_rfl
theorem ldF84 : ldInfo Try.prog 84 = some (false, 1) := by kernel_rfl
theorem zoF84 : ZeroOk Try.prog 84 (.int .i32) := ⟨⟨_, _, rfl, rfl, by kernel_rfl⟩⟩
theorem ldF85 : ldInfo Try.prog 85 = some (true, 11) := by kernel_rfl
theorem fdF85x0 : fdInfo Try.prog 85 0 = some (0, 12) := by kernel_rfl
theorem fdF85x1 : fdInfo Try.prog 85 1 = some (1, 12) := by kernel_rfl
theorem fdF85x2 : fdInfo Try.prog 85 2 = some (2, 68) := by kernel_rfl
theorem fdF85x3 : fdInfo Try.prog 85 3 = some (3, 79) := by kernel_rfl
theorem fdF85x4 : fdInfo Try.prog 85 4 = some (4, 5) := by kernel_rfl
theorem fdF85x5 : fdInfo Try.prog 85 5 = some (5, 5) := by kernel_rfl
theorem fdF85x6 : fdInfo Try.prog 85 6 = some (6, 80) := by kernel_rfl
theorem fdF85x7 : fdInfo Try.prog 85 7 = some (7, 81) := by kernel_rfl
theorem fdF85x8 : fdInfo Try.prog 85 8 = some (8, 82) := by kernel_rfl
theorem fdF85x9 : fdInfo Try.prog 85 9 = some (9, 83) := by kernel_rfl
theorem fdF85x10 : fdInfo Try.prog 85 10 = some (10, 84) := by kernel_rfl
theorem ldF86 : ldInfo Try.prog 86 = some (true, 11) := by kernel_rfl
theorem fdF86x0 : fdInfo Try.prog 86 0 = some (0, 12) := by kernel_rfl
theorem fdF86x1 : fdInfo Try.prog 86 1 = some (1, 12) := by kernel_rfl
theorem fdF86x2 : fdInfo Try.prog 86 2 = some (2, 68) := by kernel_rfl
theorem fdF86x3 : fdInfo Try.prog 86 3 = some (3, 79) := by kernel_rfl
theorem fdF86x4 : fdInfo Try.prog 86 4 = some (4, 5) := by kernel_rfl
theorem fdF86x5 : fdInfo Try.prog 86 5 = some (5, 5) := by kernel_rfl
theorem fdF86x6 : fdInfo Try.prog 86 6 = some (6, 80) := by kernel_rfl
theorem fdF86x7 : fdInfo Try.prog 86 7 = some (7, 81) := by kernel_rfl
theorem fdF86x8 : fdInfo Try.prog 86 8 = some (8, 82) := by kernel_rfl
theorem fdF86x9 : fdInfo Try.prog 86 9 = some (9, 83) := by kernel_rfl
theorem fdF86x10 : fdInfo Try.prog 86 10 = some (10, 84) := by kernel_rfl
theorem ldF87 : ldInfo Try.prog 87 = some (false, 1) := by kernel_rfl
/-- All of them. -/
theorem F : (ldInfo Try.prog 1 = some (false, 1)) ∧ (tyOf Try.prog 8 2 = some (.int .i64)) ∧ (ldInfo Try.prog 2 = some (false, 1)) ∧ (ZeroOk Try.prog 2 (.int .i64)) ∧ (tyOf Try.prog 8 3 = some (.int .i64)) ∧ (ldInfo Try.prog 3 = some (false, 1)) ∧ (ZeroOk Try.prog 3 (.int .i64)) ∧ (tyOf Try.prog 8 4 = some .bool) ∧ (ldInfo Try.prog 4 = some (false, 1)) ∧ (ZeroOk Try.prog 4 .bool) ∧ (tyOf Try.prog 8 5 = some .u8) ∧ (ldInfo Try.prog 5 = some (false, 1)) ∧ (ZeroOk Try.prog 5 .u8) ∧ (tyOf Try.prog 8 6 = some .u8) ∧ (ldInfo Try.prog 6 = some (false, 1)) ∧ (ZeroOk Try.prog 6 .u8) ∧ (tyOf Try.prog 8 7 = some (.cons (.int .i64) (.cons (.int .i64) (.cons .bool (.cons .u8 .nil))))) ∧ (ldInfo Try.prog 7 = some (true, 4)) ∧ (ZeroOk Try.prog 7 (.cons (.int .i64) (.cons (.int .i64) (.cons .bool (.cons .u8 .nil))))) ∧ (fdInfo Try.prog 7 0 = some (0, 2)) ∧ (fdInfo Try.prog 7 1 = some (1, 3)) ∧ (fdInfo Try.prog 7 2 = some (2, 4)) ∧ (fdInfo Try.prog 7 3 = some (3, 6)) ∧ (plOf Try.prog 7 = [(0, 1), (1, 1), (2, 1), (3, 1)]) ∧ (StructOk Try.prog 7 (.cons (.int .i64) (.cons (.int .i64) (.cons .bool (.cons .u8 .nil)))) [(0, 1), (1, 1), (2, 1), (3, 1)]) ∧ (tyOf Try.prog 8 8 = some (.cons (.int .i64) (.cons (.int .i64) (.cons .bool (.cons .u8 .nil))))) ∧ (ldInfo Try.prog 8 = some (true, 4)) ∧ (ZeroOk Try.prog 8 (.cons (.int .i64) (.cons (.int .i64) (.cons .bool (.cons .u8 .nil))))) ∧ (fdInfo Try.prog 8 0 = some (0, 2)) ∧ (fdInfo Try.prog 8 1 = some (1, 3)) ∧ (fdInfo Try.prog 8 2 = some (2, 4)) ∧ (fdInfo Try.prog 8 3 = some (3, 6)) ∧ (plOf Try.prog 8 = [(0, 1), (1, 1), (2, 1), (3, 1)]) ∧ (StructOk Try.prog 8 (.cons (.int .i64) (.cons (.int .i64) (.cons .bool (.cons .u8 .nil)))) [(0, 1), (1, 1), (2, 1), (3, 1)]) ∧ (tyOf Try.prog 8 9 = some .str) ∧ (ldInfo Try.prog 9 = some (false, 1)) ∧ (ZeroOk Try.prog 9 .str) ∧ (tyOf Try.prog 8 10 = some .str) ∧ (ldInfo Try.prog 10 = some (false, 1)) ∧ (ZeroOk Try.prog 10 .str) ∧ (tyOf Try.prog 8 11 = some .str) ∧ (ldInfo Try.prog 11 = some (false, 1)) ∧ (ZeroOk Try.prog 11 .str) ∧ (tyOf Try.prog 8 12 = some (.int .u64)) ∧ (ldInfo Try.prog 12 = some (false, 1)) ∧ (ZeroOk Try.prog 12 (.int .u64)) ∧ (tyOf Try.prog 8 13 = some (.cons .str (.cons (.int .u64) .nil))) ∧ (ldInfo Try.prog 13 = some (true, 2)) ∧ (ZeroOk Try.prog 13 (.cons .str (.cons (.int .u64) .nil))) ∧ (fdInfo Try.prog 13 0 = some (0, 9)) ∧ (fdInfo Try.prog 13 1 = some (1, 12)) ∧ (plOf Try.prog 13 = [(0, 1), (1, 1)]) ∧ (StructOk Try.prog 13 (.cons .str (.cons (.int .u64) .nil)) [(0, 1), (1, 1)]) ∧ (tyOf Try.prog 8 14 = some (.cons .str (.cons (.int .u64) .nil))) ∧ (ldInfo Try.prog 14 = some (true, 2)) ∧ (ZeroOk Try.prog 14 (.cons .str (.cons (.int .u64) .nil))) ∧ (fdInfo Try.prog 14 0 = some (0, 9)) ∧ (fdInfo Try.prog 14 1 = some (1, 12)) ∧ (plOf Try.prog 14 = [(0, 1), (1, 1)]) ∧ (StructOk Try.prog 14 (.cons .str (.cons (.int .u64) .nil)) [(0, 1), (1, 1)]) ∧ (tyOf Try.prog 8 15 = some .ptr) ∧ (ldInfo Try.prog 15 = some (false, 1)) ∧ (PtrOk Try.prog 15) ∧ (ZeroOk Try.prog 15 .ptr) ∧ (tyOf Try.prog 8 16 = some .ptr) ∧ (ldInfo Try.prog 16 = some (false, 1)) ∧ (ZeroOk Try.prog 16 .ptr) ∧ (tyOf Try.prog 8 17 = some .ptr) ∧ (ldInfo Try.prog 17 = some (false, 1)) ∧ (PtrOk Try.prog 17) ∧ (ZeroOk Try.prog 17 .ptr) ∧ (tyOf Try.prog 8 18 = some (.cons .ptr .nil)) ∧ (ldInfo Try.prog 18 = some (true, 1)) ∧ (ZeroOk Try.prog 18 (.cons .ptr .nil)) ∧ (fdInfo Try.prog 18 0 = some (0, 17)) ∧ (plOf Try.prog 18 = [(0, 1)]) ∧ (StructOk Try.prog 18 (.cons .ptr .nil) [(0, 1)]) ∧ (tyOf Try.prog 8 19 = some (.cons .ptr .nil)) ∧ (ldInfo Try.prog 19 = some (true, 1)) ∧ (ZeroOk Try.prog 19 (.cons .ptr .nil)) ∧ (fdInfo Try.prog 19 0 = some (0, 17)) ∧ (plOf Try.prog 19 = [(0, 1)]) ∧ (StructOk Try.prog 19 (.cons .ptr .nil) [(0, 1)]) ∧ (ldInfo Try.prog 20 = some (false, 1)) ∧ (tyOf Try.prog 8 21 = some (.int .i32)) ∧ (ldInfo Try.prog 21 = some (false, 1)) ∧ (ZeroOk Try.prog 21 (.int .i32)) ∧ (tyOf Try.prog 8 22 = some (.sl .u8)) ∧ (ldInfo Try.prog 22 = some (false, 1)) ∧ (ZeroOk Try.prog 22 (.sl .u8)) ∧ (elemOk Try.prog 22 .u8) ∧ (elTy Try.prog 22 = 5) ∧ (elBytes Try.prog 22 = 1) ∧ (MadeOk Try.prog 22 .u8) ∧ (AppE Try.prog 22 .u8) ∧ (ldInfo Try.prog 23 = some (false, 1)) ∧ (tyOf Try.prog 8 24 = some (.cons .str (.cons (.sl .u8) .nil))) ∧ (ldInfo Try.prog 24 = some (true, 2)) ∧ (ZeroOk Try.prog 24 (.cons .str (.cons (.sl .u8) .nil))) ∧ (fdInfo Try.prog 24 0 = some (0, 9)) ∧ (fdInfo Try.prog 24 1 = some (1, 22)) ∧ (plOf Try.prog 24 = [(0, 1), (1, 1)]) ∧ (StructOk Try.prog 24 (.cons .str (.cons (.sl .u8) .nil)) [(0, 1), (1, 1)]) ∧ (tyOf Try.prog 8 25 = some (.cons .str (.cons (.sl .u8) .nil))) ∧ (ldInfo Try.prog 25 = some (true, 2)) ∧ (ZeroOk Try.prog 25 (.cons .str (.cons (.sl .u8) .nil))) ∧ (fdInfo Try.prog 25 0 = some (0, 9)) ∧ (fdInfo Try.prog 25 1 = some (1, 22)) ∧ (plOf Try.prog 25 = [(0, 1), (1, 1)]) ∧ (StructOk Try.prog 25 (.cons .str (.cons (.sl .u8) .nil)) [(0, 1), (1, 1)]) ∧ (tyOf Try.prog 8 26 = some (.sl (.cons .str (.cons (.sl .u8) .nil)))) ∧ (ldInfo Try.prog 26 = some (false, 1)) ∧ (ZeroOk Try.prog 26 (.sl (.cons .str (.cons (.sl .u8) .nil)))) ∧ (elemOk Try.prog 26 (.cons .str (.cons (.sl .u8) .nil))) ∧ (elTy Try.prog 26 = 25) ∧ (elBytes Try.prog 26 = 40) ∧ (AppE Try.prog 26 (.cons .str (.cons (.sl .u8) .nil))) ∧ (ldInfo Try.prog 27 = some (false, 1)) ∧ (ldInfo Try.prog 28 = some (false, 1)) ∧ (ldInfo Try.prog 29 = some (false, 1)) ∧ (tyOf Try.prog 8 30 = some (.sl (.int .u16))) ∧ (ldInfo Try.prog 30 = some (false, 1)) ∧ (ZeroOk Try.prog 30 (.sl (.int .u16))) ∧ (elemOk Try.prog 30 (.int .u16)) ∧ (elTy Try.prog 30 = 32) ∧ (elBytes Try.prog 30 = 2) ∧ (MadeOk Try.prog 30 (.int .u16)) ∧ (AppE Try.prog 30 (.int .u16)) ∧ (tyOf Try.prog 8 31 = some (.sl .str)) ∧ (ldInfo Try.prog 31 = some (false, 1)) ∧ (ZeroOk Try.prog 31 (.sl .str)) ∧ (elemOk Try.prog 31 .str) ∧ (elTy Try.prog 31 = 9) ∧ (elBytes Try.prog 31 = 16) ∧ (MadeOk Try.prog 31 .str) ∧ (AppE Try.prog 31 .str) ∧ (tyOf Try.prog 8 32 = some (.int .u16)) ∧ (ldInfo Try.prog 32 = some (false, 1)) ∧ (ZeroOk Try.prog 32 (.int .u16)) ∧ (ldInfo Try.prog 33 = some (false, 1)) ∧ (ldInfo Try.prog 34 = some (false, 1)) ∧ (ldInfo Try.prog 35 = some (false, 1)) ∧ (ldInfo Try.prog 36 = some (false, 1)) ∧ (ldInfo Try.prog 37 = some (false, 1)) ∧ (ldInfo Try.prog 38 = some (false, 1)) ∧ (MapOk Try.prog 38) ∧ (tyOf Try.prog 8 39 = some (.cons .str (.cons .str (.cons .str (.cons .str (.cons .bool (.cons .bool .nil))))))) ∧ (ldInfo Try.prog 39 = some (true, 6)) ∧ (ZeroOk Try.prog 39 (.cons .str (.cons .str (.cons .str (.cons .str (.cons .bool (.cons .bool .nil))))))) ∧ (fdInfo Try.prog 39 0 = some (0, 9)) ∧ (fdInfo Try.prog 39 1 = some (1, 9)) ∧ (fdInfo Try.prog 39 2 = some (2, 9)) ∧ (fdInfo Try.prog 39 3 = some (3, 9)) ∧ (fdInfo Try.prog 39 4 = some (4, 4)) ∧ (fdInfo Try.prog 39 5 = some (5, 4)) ∧ (plOf Try.prog 39 = [(0, 1), (1, 1), (2, 1), (3, 1), (4, 1), (5, 1)]) ∧ (StructOk Try.prog 39 (.cons .str (.cons .str (.cons .str (.cons .str (.cons .bool (.cons .bool .nil)))))) [(0, 1), (1, 1), (2, 1), (3, 1), (4, 1), (5, 1)]) ∧ (tyOf Try.prog 8 40 = some (.cons .str (.cons .str (.cons .str (.cons .str (.cons .bool (.cons .bool .nil))))))) ∧ (ldInfo Try.prog 40 = some (true, 6)) ∧ (ZeroOk Try.prog 40 (.cons .str (.cons .str (.cons .str (.cons .str (.cons .bool (.cons .bool .nil))))))) ∧ (fdInfo Try.prog 40 0 = some (0, 9)) ∧ (fdInfo Try.prog 40 1 = some (1, 9)) ∧ (fdInfo Try.prog 40 2 = some (2, 9)) ∧ (fdInfo Try.prog 40 3 = some (3, 9)) ∧ (fdInfo Try.prog 40 4 = some (4, 4)) ∧ (fdInfo Try.prog 40 5 = some (5, 4)) ∧ (plOf Try.prog 40 = [(0, 1), (1, 1), (2, 1), (3, 1), (4, 1), (5, 1)]) ∧ (EqOk Try.prog 40 [.str, .str, .str, .str, .bool, .bool]) ∧ (StructOk Try.prog 40 (.cons .str (.cons .str (.cons .str (.cons .str (.cons .bool (.cons .bool .nil)))))) [(0, 1), (1, 1), (2, 1), (3, 1), (4, 1), (5, 1)]) ∧ (tyOf Try.prog 8 41 = some (.cons (.int .i64) (.cons (.int .i64) (.cons (.int .i64) (.cons (.int .i64) (.cons (.cons .str (.cons .str (.cons .str (.cons .str (.cons .bool (.cons .bool .nil)))))) (.cons .str (.cons (.sl .str) .nil)))))))) ∧ (ldInfo Try.prog 41 = some (true, 12)) ∧ (ZeroOk Try.prog 41 (.cons (.int .i64) (.cons (.int .i64) (.cons (.int .i64) (.cons (.int .i64) (.cons (.cons .str (.cons .str (.cons .str (.cons .str (.cons .bool (.cons .bool .nil)))))) (.cons .str (.cons (.sl .str) .nil)))))))) ∧ (fdInfo Try.prog 41 0 = some (0, 3)) ∧ (fdInfo Try.prog 41 1 = some (1, 3)) ∧ (fdInfo Try.prog 41 2 = some (2, 3)) ∧ (fdInfo Try.prog 41 3 = some (3, 3)) ∧ (fdInfo Try.prog 41 4 = some (4, 40)) ∧ (fdInfo Try.prog 41 5 = some (10, 9)) ∧ (fdInfo Try.prog 41 6 = some (11, 31)) ∧ (plOf Try.prog 41 = [(0, 1), (1, 1), (2, 1), (3, 1), (4, 6), (10, 1), (11, 1)]) ∧ (StructOk Try.prog 41 (.cons (.int .i64) (.cons (.int .i64) (.cons (.int .i64) (.cons (.int .i64) (.cons (.cons .str (.cons .str (.cons .str (.cons .str (.cons .bool (.cons .bool .nil)))))) (.cons .str (.cons (.sl .str) .nil))))))) [(0, 1), (1, 1), (2, 1), (3, 1), (4, 6), (10, 1), (11, 1)]) ∧ (tyOf Try.prog 8 42 = some (.cons (.int .i64) (.cons (.int .i64) (.cons (.int .i64) (.cons (.int .i64) (.cons (.cons .str (.cons .str (.cons .str (.cons .str (.cons .bool (.cons .bool .nil)))))) (.cons .str (.cons (.sl .str) .nil)))))))) ∧ (ldInfo Try.prog 42 = some (true, 12)) ∧ (ZeroOk Try.prog 42 (.cons (.int .i64) (.cons (.int .i64) (.cons (.int .i64) (.cons (.int .i64) (.cons (.cons .str (.cons .str (.cons .str (.cons .str (.cons .bool (.cons .bool .nil)))))) (.cons .str (.cons (.sl .str) .nil)))))))) ∧ (fdInfo Try.prog 42 0 = some (0, 3)) ∧ (fdInfo Try.prog 42 1 = some (1, 3)) ∧ (fdInfo Try.prog 42 2 = some (2, 3)) ∧ (fdInfo Try.prog 42 3 = some (3, 3)) ∧ (fdInfo Try.prog 42 4 = some (4, 40)) ∧ (fdInfo Try.prog 42 5 = some (10, 9)) ∧ (fdInfo Try.prog 42 6 = some (11, 31)) ∧ (plOf Try.prog 42 = [(0, 1), (1, 1), (2, 1), (3, 1), (4, 6), (10, 1), (11, 1)]) ∧ (StructOk Try.prog 42 (.cons (.int .i64) (.cons (.int .i64) (.cons (.int .i64) (.cons (.int .i64) (.cons (.cons .str (.cons .str (.cons .str (.cons .str (.cons .bool (.cons .bool .nil)))))) (.cons .str (.cons (.sl .str) .nil))))))) [(0, 1), (1, 1), (2, 1), (3, 1), (4, 6), (10, 1), (11, 1)]) ∧ (tyOf Try.prog 8 43 = some (.sl (.cons (.int .i64) (.cons (.int .i64) (.cons (.int .i64) (.cons (.int .i64) (.cons (.cons .str (.cons .str (.cons .str (.cons .str (.cons .bool (.cons .bool .nil)))))) (.cons .str (.cons (.sl .str) .nil))))))))) ∧ (ldInfo Try.prog 43 = some (false, 1)) ∧ (ZeroOk Try.prog 43 (.sl (.cons (.int .i64) (.cons (.int .i64) (.cons (.int .i64) (.cons (.int .i64) (.cons (.cons .str (.cons .str (.cons .str (.cons .str (.cons .bool (.cons .bool .nil)))))) (.cons .str (.cons (.sl .str) .nil))))))))) ∧ (elemOk Try.prog 43 (.cons (.int .i64) (.cons (.int .i64) (.cons (.int .i64) (.cons (.int .i64) (.cons (.cons .str (.cons .str (.cons .str (.cons .str (.cons .bool (.cons .bool .nil)))))) (.cons .str (.cons (.sl .str) .nil)))))))) ∧ (elTy Try.prog 43 = 42) ∧ (elBytes Try.prog 43 = 144) ∧ (AppE Try.prog 43 (.cons (.int .i64) (.cons (.int .i64) (.cons (.int .i64) (.cons (.int .i64) (.cons (.cons .str (.cons .str (.cons .str (.cons .str (.cons .bool (.cons .bool .nil)))))) (.cons .str (.cons (.sl .str) .nil)))))))) ∧ (ldInfo Try.prog 44 = some (false, 1)) ∧ (ldInfo Try.prog 45 = some (false, 1)) ∧ (ldInfo Try.prog 46 = some (false, 1)) ∧ (ldInfo Try.prog 47 = some (false, 1)) ∧ (tyOf Try.prog 8 48 = some (.sl (.sl .u8))) ∧ (ldInfo Try.prog 48 = some (false, 1)) ∧ (ZeroOk Try.prog 48 (.sl (.sl .u8))) ∧ (elemOk Try.prog 48 (.sl .u8)) ∧ (elTy Try.prog 48 = 22) ∧ (elBytes Try.prog 48 = 24) ∧ (AppE Try.prog 48 (.sl .u8)) ∧ (ldInfo Try.prog 50 = some (false, 1)) ∧ (ldInfo Try.prog 51 = some (false, 1)) ∧ (ldInfo Try.prog 52 = some (false, 1)) ∧ (ldInfo Try.prog 53 = some (false, 1)) ∧ (ldInfo Try.prog 54 = some (false, 1)) ∧ (ldInfo Try.prog 56 = some (false, 1)) ∧ (ldInfo Try.prog 57 = some (false, 1)) ∧ (ldInfo Try.prog 59 = some (false, 1)) ∧ (ldInfo Try.prog 61 = some (false, 1)) ∧ (ldInfo Try.prog 62 = some (false, 1)) ∧ (ldInfo Try.prog 63 = some (false, 1)) ∧ (ldInfo Try.prog 64 = some (false, 1)) ∧ (ldInfo Try.prog 65 = some (false, 1)) ∧ (tyOf Try.prog 8 66 = some (.int .u64)) ∧ (ldInfo Try.prog 66 = some (false, 1)) ∧ (ZeroOk Try.prog 66 (.int .u64)) ∧ (ldInfo Try.prog 67 = some (false, 1)) ∧ (tyOf Try.prog 8 68 = some (.int .u32)) ∧ (ldInfo Try.prog 68 = some (false, 1)) ∧ (ZeroOk Try.prog 68 (.int .u32)) ∧ (ldInfo Try.prog 70 = some (false, 1)) ∧ (ldInfo Try.prog 71 = some (false, 1)) ∧ (ldInfo Try.prog 72 = some (false, 1)) ∧ (tyOf Try.prog 8 73 = some (.cons .ptr (.cons .ptr (.cons .ptr (.cons .str .nil))))) ∧ (ldInfo Try.prog 73 = some (true, 4)) ∧ (ZeroOk Try.prog 73 (.cons .ptr (.cons .ptr (.cons .ptr (.cons .str .nil))))) ∧ (fdInfo Try.prog 73 0 = some (0, 17)) ∧ (fdInfo Try.prog 73 1 = some (1, 17)) ∧ (fdInfo Try.prog 73 2 = some (2, 17)) ∧ (fdInfo Try.prog 73 3 = some (3, 9)) ∧ (plOf Try.prog 73 = [(0, 1), (1, 1), (2, 1), (3, 1)]) ∧ (StructOk Try.prog 73 (.cons .ptr (.cons .ptr (.cons .ptr (.cons .str .nil)))) [(0, 1), (1, 1), (2, 1), (3, 1)]) ∧ (tyOf Try.prog 8 74 = some (.cons .ptr (.cons .ptr (.cons .ptr (.cons .str .nil))))) ∧ (ldInfo Try.prog 74 = some (true, 4)) ∧ (ZeroOk Try.prog 74 (.cons .ptr (.cons .ptr (.cons .ptr (.cons .str .nil))))) ∧ (fdInfo Try.prog 74 0 = some (0, 17)) ∧ (fdInfo Try.prog 74 1 = some (1, 17)) ∧ (fdInfo Try.prog 74 2 = some (2, 17)) ∧ (fdInfo Try.prog 74 3 = some (3, 9)) ∧ (plOf Try.prog 74 = [(0, 1), (1, 1), (2, 1), (3, 1)]) ∧ (StructOk Try.prog 74 (.cons .ptr (.cons .ptr (.cons .ptr (.cons .str .nil)))) [(0, 1), (1, 1), (2, 1), (3, 1)]) ∧ (ldInfo Try.prog 75 = some (true, 0)) ∧ (ldInfo Try.prog 76 = some (true, 0)) ∧ (ldInfo Try.prog 77 = some (true, 0)) ∧ (ldInfo Try.prog 78 = some (false, 1)) ∧ (tyOf Try.prog 8 79 = some .u8) ∧ (ldInfo Try.prog 79 = some (false, 1)) ∧ (ZeroOk Try.prog 79 .u8) ∧ (tyOf Try.prog 8 80 = some .u8) ∧ (ldInfo Try.prog 80 = some (false, 1)) ∧ (ZeroOk Try.prog 80 .u8) ∧ (ldInfo Try.prog 81 = some (false, 1)) ∧ (tyOf Try.prog 8 82 = some .ptr) ∧ (ldInfo Try.prog 82 = some (false, 1)) ∧ (PtrOk Try.prog 82) ∧ (ZeroOk Try.prog 82 .ptr) ∧ (tyOf Try.prog 8 83 = some (.int .i32)) ∧ (ldInfo Try.prog 83 = some (false, 1)) ∧ (ZeroOk Try.prog 83 (.int .i32)) ∧ (tyOf Try.prog 8 84 = some (.int .i32)) ∧ (ldInfo Try.prog 84 = some (false, 1)) ∧ (ZeroOk Try.prog 84 (.int .i32)) ∧ (ldInfo Try.prog 85 = some (true, 11)) ∧ (fdInfo Try.prog 85 0 = some (0, 12)) ∧ (fdInfo Try.prog 85 1 = some (1, 12)) ∧ (fdInfo Try.prog 85 2 = some (2, 68)) ∧ (fdInfo Try.prog 85 3 = some (3, 79)) ∧ (fdInfo Try.prog 85 4 = some (4, 5)) ∧ (fdInfo Try.prog 85 5 = some (5, 5)) ∧ (fdInfo Try.prog 85 6 = some (6, 80)) ∧ (fdInfo Try.prog 85 7 = some (7, 81)) ∧ (fdInfo Try.prog 85 8 = some (8, 82)) ∧ (fdInfo Try.prog 85 9 = some (9, 83)) ∧ (fdInfo Try.prog 85 10 = some (10, 84)) ∧ (ldInfo Try.prog 86 = some (true, 11)) ∧ (fdInfo Try.prog 86 0 = some (0, 12)) ∧ (fdInfo Try.prog 86 1 = some (1, 12)) ∧ (fdInfo Try.prog 86 2 = some (2, 68)) ∧ (fdInfo Try.prog 86 3 = some (3, 79)) ∧ (fdInfo Try.prog 86 4 = some (4, 5)) ∧ (fdInfo Try.prog 86 5 = some (5, 5)) ∧ (fdInfo Try.prog 86 6 = some (6, 80)) ∧ (fdInfo Try.prog 86 7 = some (7, 81)) ∧ (fdInfo Try.prog 86 8 = some (8, 82)) ∧ (fdInfo Try.prog 86 9 = some (9, 83)) ∧ (fdInfo Try.prog 86 10 = some (10, 84)) ∧ (ldInfo Try.prog 87 = some (false, 1)) := ⟨ldF1, tyF2, ldF2, zoF2, tyF3, ldF3, zoF3, tyF4, ldF4, zoF4, tyF5, ldF5, zoF5, tyF6, ldF6, zoF6, tyF7, ldF7, zoF7, fdF7x0, fdF7x1, fdF7x2, fdF7x3, plF7, soF7, tyF8, ldF8, zoF8, fdF8x0, fdF8x1, fdF8x2, fdF8x3, plF8, soF8, tyF9, ldF9, zoF9, tyF10, ldF10, zoF10, tyF11, ldF11, zoF11, tyF12, ldF12, zoF12, tyF13, ldF13, zoF13, fdF13x0, fdF13x1, plF13, soF13, tyF14, ldF14, zoF14, fdF14x0, fdF14x1, plF14, soF14, tyF15, ldF15, ptF15, zoF15, tyF16, ldF16, zoF16, tyF17, ldF17, ptF17, zoF17, tyF18, ldF18, zoF18, fdF18x0, plF18, soF18, tyF19, ldF19, zoF19, fdF19x0, plF19, soF19, ldF20, tyF21, ldF21, zoF21, tyF22, ldF22, zoF22, elF22, etF22, ebF22, mdF22, apF22, ldF23, tyF24, ldF24, zoF24, fdF24x0, fdF24x1, plF24, soF24, tyF25, ldF25, zoF25, fdF25x0, fdF25x1, plF25, soF25, tyF26, ldF26, zoF26, elF26, etF26, ebF26, apF26, ldF27, ldF28, ldF29, tyF30, ldF30, zoF30, elF30, etF30, ebF30, mdF30, apF30, tyF31, ldF31, zoF31, elF31, etF31, ebF31, mdF31, apF31, tyF32, ldF32, zoF32, ldF33, ldF34, ldF35, ldF36, ldF37, ldF38, moF38, tyF39, ldF39, zoF39, fdF39x0, fdF39x1, fdF39x2, fdF39x3, fdF39x4, fdF39x5, plF39, soF39, tyF40, ldF40, zoF40, fdF40x0, fdF40x1, fdF40x2, fdF40x3, fdF40x4, fdF40x5, plF40, eqF40, soF40, tyF41, ldF41, zoF41, fdF41x0, fdF41x1, fdF41x2, fdF41x3, fdF41x4, fdF41x5, fdF41x6, plF41, soF41, tyF42, ldF42, zoF42, fdF42x0, fdF42x1, fdF42x2, fdF42x3, fdF42x4, fdF42x5, fdF42x6, plF42, soF42, tyF43, ldF43, zoF43, elF43, etF43, ebF43, apF43, ldF44, ldF45, ldF46, ldF47, tyF48, ldF48, zoF48, elF48, etF48, ebF48, apF48, ldF50, ldF51, ldF52, ldF53, ldF54, ldF56, ldF57, ldF59, ldF61, ldF62, ldF63, ldF64, ldF65, tyF66, ldF66, zoF66, ldF67, tyF68, ldF68, zoF68, ldF70, ldF71, ldF72, tyF73, ldF73, zoF73, fdF73x0, fdF73x1, fdF73x2, fdF73x3, plF73, soF73, tyF74, ldF74, zoF74, fdF74x0, fdF74x1, fdF74x2, fdF74x3, plF74, soF74, ldF75, ldF76, ldF77, ldF78, tyF79, ldF79, zoF79, tyF80, ldF80, zoF80, ldF81, tyF82, ldF82, ptF82, zoF82, tyF83, ldF83, zoF83, tyF84, ldF84, zoF84, ldF85, fdF85x0, fdF85x1, fdF85x2, fdF85x3, fdF85x4, fdF85x5, fdF85x6, fdF85x7, fdF85x8, fdF85x9, fdF85x10, ldF86, fdF86x0, fdF86x1, fdF86x2, fdF86x3, fdF86x4, fdF86x5, fdF86x6, fdF86x7, fdF86x8, fdF86x9, fdF86x10, ldF87⟩
end Go.Proofs.Ytopegdkhoafajaa
