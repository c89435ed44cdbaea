/- Facts of the translation's types: printed by facts.py (own work). -/
import Derived.Test.YtdjfcjlpemckoaaRows
import Derived.Test.YtdjfcjlpemckoaaCore13
import Derived.KernelRfl
namespace Go.Proofs.Ytdjfcjlpemckoaa
open Go.Sv
set_option linter.unusedSimpArgs false
set_option maxRecDepth 100000
theorem followsF : Try.prog.follows .mixedOrders = true := by kernel_rfl
theorem ldF1 : ldInfo Try.prog 1 = some (false, 1) := by kernel_rfl
theorem tyF2 : tyOf Try.prog 8 2 = some (.int .i64) := by kernel_rfl
theorem ldF2 : ldInfo Try.prog 2 = some (false, 1) := by kernel_rfl
theorem zoF2 : ZeroOk Try.prog 2 (.int .i64) := ⟨⟨_, _, rfl, rfl, by kernel_rfl⟩⟩
theorem tyF3 : tyOf Try.prog 8 3 = some (.int .i64) := by kernel_rfl
theorem ldF3 : ldInfo Try.prog 3 = some (false, 1) := by kernel_rfl
theorem zoF3 : ZeroOk Try.prog 3 (.int .i64) := ⟨⟨_, _, rfl, rfl, by kernel_rfl⟩⟩
theorem tyF4 : tyOf Try.prog 8 4 = some .bool := by kernel_rfl
theorem ldF4 : ldInfo Try.prog 4 = some (false, 1) := by kernel_rfl
theorem zoF4 : ZeroOk Try.prog 4 .bool := ⟨⟨_, _, rfl, rfl, by kernel_rfl⟩⟩
theorem tyF5 : tyOf Try.prog 8 5 = some .u8 := by kernel_rfl
theorem ldF5 : ldInfo Try.prog 5 = some (false, 1) := by kernel_rfl
theorem zoF5 : ZeroOk Try.prog 5 .u8 := ⟨⟨_, _, rfl, rfl, by kernel_rfl⟩⟩
theorem tyF6 : tyOf Try.prog 8 6 = some .u8 := by kernel_rfl
theorem ldF6 : ldInfo Try.prog 6 = some (false, 1) := by kernel_rfl
theorem zoF6 : ZeroOk Try.prog 6 .u8 := ⟨⟨_, _, rfl, rfl, by kernel_rfl⟩⟩
theorem tyF7 : tyOf Try.prog 8 7 = some (.cons (.int .i64) (.cons (.int .i64) (.cons .bool (.cons .u8 .nil)))) := by kernel_rfl
theorem ldF7 : ldInfo Try.prog 7 = some (true, 4) := by kernel_rfl
theorem zoF7 : ZeroOk Try.prog 7 (.cons (.int .i64) (.cons (.int .i64) (.cons .bool (.cons .u8 .nil)))) := ⟨⟨_, _, rfl, rfl, by kernel_rfl⟩⟩
theorem fdF7x0 : fdInfo Try.prog 7 0 = some (0, 2) := by kernel_rfl
theorem fdF7x1 : fdInfo Try.prog 7 1 = some (1, 3) := by kernel_rfl
theorem fdF7x2 : fdInfo Try.prog 7 2 = some (2, 4) := by kernel_rfl
theorem fdF7x3 : fdInfo Try.prog 7 3 = some (3, 6) := by kernel_rfl
theorem plF7 : plOf Try.prog 7 = [(0, 1), (1, 1), (2, 1), (3, 1)] := by kernel_rfl
theorem soF7 : StructOk Try.prog 7 (.cons (.int .i64) (.cons (.int .i64) (.cons .bool (.cons .u8 .nil)))) [(0, 1), (1, 1), (2, 1), (3, 1)] := ⟨⟨Try.prog.fieldsOf 7, _, _, by kernel_rfl, rfl, rfl, by kernel_rfl, fun w => by kernel_rfl⟩⟩
theorem tyF8 : tyOf Try.prog 8 8 = some (.cons (.int .i64) (.cons (.int .i64) (.cons .bool (.cons .u8 .nil)))) := by kernel_rfl
theorem ldF8 : ldInfo Try.prog 8 = some (true, 4) := by kernel_rfl
theorem zoF8 : ZeroOk Try.prog 8 (.cons (.int .i64) (.cons (.int .i64) (.cons .bool (.cons .u8 .nil)))) := ⟨⟨_, _, rfl, rfl, by kernel_rfl⟩⟩
theorem fdF8x0 : fdInfo Try.prog 8 0 = some (0, 2) := by kernel_rfl
theorem fdF8x1 : fdInfo Try.prog 8 1 = some (1, 3) := by kernel_rfl
theorem fdF8x2 : fdInfo Try.prog 8 2 = some (2, 4) := by kernel_rfl
theorem fdF8x3 : fdInfo Try.prog 8 3 = some (3, 6) := by kernel_rfl
theorem plF8 : plOf Try.prog 8 = [(0, 1), (1, 1), (2, 1), (3, 1)] := by kernel_rfl
theorem soF8 : StructOk Try.prog 8 (.cons (.int .i64) (.cons (.int .i64) (.cons .bool (.cons .u8 .nil)))) [(0, 1), (1, 1), (2, 1), (3, 1)] := ⟨⟨Try.prog.fieldsOf 8, _, _, by kernel_rfl, rfl, rfl, by kernel_rfl, fun w => by kernel_rfl⟩⟩
theorem tyF9 : tyOf Try.prog 8 9 = some .str := by kernel_rfl
theorem ldF9 : ldInfo Try.prog 9 = some (false, 1) := by kernel_rfl
theorem zoF9 : ZeroOk Try.prog 9 .str := ⟨⟨_, _, rfl, rfl, by kernel_rfl⟩⟩
theorem tyF10 : tyOf Try.prog 8 10 = some .str := by kernel_rfl
theorem ldF10 : ldInfo Try.prog 10 = some (false, 1) := by kernel_rfl
theorem zoF10 : ZeroOk Try.prog 10 .str := ⟨⟨_, _, rfl, rfl, by kernel_rfl⟩⟩
theorem tyF11 : tyOf Try.prog 8 11 = some .str := by kernel_rfl
theorem ldF11 : ldInfo Try.prog 11 = some (false, 1) := by kernel_rfl
theorem zoF11 : ZeroOk Try.prog 11 .str := ⟨⟨_, _, rfl, rfl, by kernel_rfl⟩⟩
theorem tyF12 : tyOf Try.prog 8 12 = some (.int .u64) := by kernel_rfl
theorem ldF12 : ldInfo Try.prog 12 = some (false, 1) := by kernel_rfl
theorem zoF12 : ZeroOk Try.prog 12 (.int .u64) := ⟨⟨_, _, rfl, rfl, by kernel_rfl⟩⟩
theorem tyF13 : tyOf Try.prog 8 13 = some (.cons .str (.cons (.int .u64) .nil)) := by kernel_rfl
theorem ldF13 : ldInfo Try.prog 13 = some (true, 2) := by kernel_rfl
theorem zoF13 : ZeroOk Try.prog 13 (.cons .str (.cons (.int .u64) .nil)) := ⟨⟨_, _, rfl, rfl, by kernel_rfl⟩⟩
theorem fdF13x0 : fdInfo Try.prog 13 0 = some (0, 9) := by kernel_rfl
theorem fdF13x1 : fdInfo Try.prog 13 1 = some (1, 12) := by kernel_rfl
theorem plF13 : plOf Try.prog 13 = [(0, 1), (1, 1)] := by kernel_rfl
theorem soF13 : StructOk Try.prog 13 (.cons .str (.cons (.int .u64) .nil)) [(0, 1), (1, 1)] := ⟨⟨Try.prog.fieldsOf 13, _, _, by kernel_rfl, rfl, rfl, by kernel_rfl, fun w => by kernel_rfl⟩⟩
theorem tyF14 : tyOf Try.prog 8 14 = some (.cons .str (.cons (.int .u64) .nil)) := by kernel_rfl
theorem ldF14 : ldInfo Try.prog 14 = some (true, 2) := by kernel_rfl
theorem zoF14 : ZeroOk Try.prog 14 (.cons .str (.cons (.int .u64) .nil)) := ⟨⟨_, _, rfl, rfl, by kernel_rfl⟩⟩
theorem fdF14x0 : fdInfo Try.prog 14 0 = some (0, 9) := by kernel_rfl
theorem fdF14x1 : fdInfo Try.prog 14 1 = some (1, 12) := by kernel_rfl
theorem plF14 : plOf Try.prog 14 = [(0, 1), (1, 1)] := by kernel_rfl
theorem soF14 : StructOk Try.prog 14 (.cons .str (.cons (.int .u64) .nil)) [(0, 1), (1, 1)] := ⟨⟨Try.prog.fieldsOf 14, _, _, by kernel_rfl, rfl, rfl, by kernel_rfl, fun w => by kernel_rfl⟩⟩
theorem tyF15 : tyOf Try.prog 8 15 = some .ptr := by kernel_rfl
theorem ldF15 : ldInfo Try.prog 15 = some (false, 1) := by kernel_rfl
theorem ptF15 : PtrOk Try.prog 15 := ⟨⟨62, _, by kernel_rfl, rfl, by decide +kernel⟩⟩
theorem zoF15 : ZeroOk Try.prog 15 .ptr := ⟨⟨_, _, rfl, rfl, by kernel_rfl⟩⟩
theorem tyF16 : tyOf Try.prog 8 16 = some .ptr := by kernel_rfl
theorem ldF16 : ldInfo Try.prog 16 = some (false, 1) := by kernel_rfl
theorem zoF16 : ZeroOk Try.prog 16 .ptr := ⟨⟨_, _, rfl, rfl, by kernel_rfl⟩⟩
theorem tyF17 : tyOf Try.prog 8 17 = some .ptr := by kernel_rfl
theorem ldF17 : ldInfo Try.prog 17 = some (false, 1) := by kernel_rfl
theorem ptF17 : PtrOk Try.prog 17 := ⟨⟨72, _, by kernel_rfl, rfl, by decide +kernel⟩⟩
theorem zoF17 : ZeroOk Try.prog 17 .ptr := ⟨⟨_, _, rfl, rfl, by kernel_rfl⟩⟩
theorem tyF18 : tyOf Try.prog 8 18 = some (.cons .ptr .nil) := by kernel_rfl
theorem ldF18 : ldInfo Try.prog 18 = some (true, 1) := by kernel_rfl
theorem zoF18 : ZeroOk Try.prog 18 (.cons .ptr .nil) := ⟨⟨_, _, rfl, rfl, by kernel_rfl⟩⟩
theorem fdF18x0 : fdInfo Try.prog 18 0 = some (0, 17) := by kernel_rfl
theorem plF18 : plOf Try.prog 18 = [(0, 1)] := by kernel_rfl
theorem soF18 : StructOk Try.prog 18 (.cons .ptr .nil) [(0, 1)] := ⟨⟨Try.prog.fieldsOf 18, _, _, by kernel_rfl, rfl, rfl, by kernel_rfl, fun w => by kernel_rfl⟩⟩
theorem tyF19 : tyOf Try.prog 8 19 = some (.cons .ptr .nil) := by kernel_rfl
theorem ldF19 : ldInfo Try.prog 19 = some (true, 1) := by kernel_rfl
theorem zoF19 : ZeroOk Try.prog 19 (.cons .ptr .nil) := ⟨⟨_, _, rfl, rfl, by kernel_rfl⟩⟩
theorem fdF19x0 : fdInfo Try.prog 19 0 = some (0, 17) := by kernel_rfl
theorem plF19 : plOf Try.prog 19 = [(0, 1)] := by kernel_rfl
theorem soF19 : StructOk Try.prog 19 (.cons .ptr .nil) [(0, 1)] := ⟨⟨Try.prog.fieldsOf 19, _, _, by kernel_rfl, rfl, rfl, by kernel_rfl, fun w => by kernel_rfl⟩⟩
theorem ldF20 : ldInfo Try.prog 20 = some (false, 1) := by kernel_rfl
theorem tyF21 : tyOf Try.prog 8 21 = some (.int .i32) := by kernel_rfl
theorem ldF21 : ldInfo Try.prog 21 = some (false, 1) := by kernel_rfl
theorem zoF21 : ZeroOk Try.prog 21 (.int .i32) := ⟨⟨_, _, rfl, rfl, by kernel_rfl⟩⟩
theorem ldF22 : ldInfo Try.prog 22 = some (false, 1) := by kernel_rfl
theorem ldF23 : ldInfo Try.prog 23 = some (false, 1) := by kernel_rfl
theorem tyF24 : tyOf Try.prog 8 24 = some (.sl .u8) := by kernel_rfl
theorem ldF24 : ldInfo Try.prog 24 = some (false, 1) := by kernel_rfl
theorem zoF24 : ZeroOk Try.prog 24 (.sl .u8) := ⟨⟨_, _, rfl, rfl, by kernel_rfl⟩⟩
theorem elF24 : elemOk Try.prog 24 .u8 := ⟨5, _, by kernel_rfl, rfl, by kernel_rfl⟩
theorem etF24 : elTy Try.prog 24 = 5 := by kernel_rfl
theorem ebF24 : elBytes Try.prog 24 = 1 := by kernel_rfl
theorem apF24 : AppE Try.prog 24 .u8 := ⟨⟨5, _, _, by kernel_rfl, rfl, by kernel_rfl, by kernel_rfl, rfl, by kernel_rfl⟩⟩
theorem ldF25 : ldInfo Try.prog 25 = some (false, 1) := by kernel_rfl
theorem ldF26 : ldInfo Try.prog 26 = some (false, 1) := by kernel_rfl
theorem ldF28 : ldInfo Try.prog 28 = some (false, 1) := by kernel_rfl
theorem ldF29 : ldInfo Try.prog 29 = some (false, 1) := by kernel_rfl
theorem ldF30 : ldInfo Try.prog 30 = some (false, 1) := by kernel_rfl
theorem ldF31 : ldInfo Try.prog 31 = some (false, 1) := by kernel_rfl
theorem ldF32 : ldInfo Try.prog 32 = some (false, 1) := by kernel_rfl
theorem ldF33 : ldInfo Try.prog 33 = some (false, 1) := by kernel_rfl
theorem tyF34 : tyOf Try.prog 8 34 = some (.sl .str) := by kernel_rfl
theorem ldF34 : ldInfo Try.prog 34 = some (false, 1) := by kernel_rfl
theorem zoF34 : ZeroOk Try.prog 34 (.sl .str) := ⟨⟨_, _, rfl, rfl, by kernel_rfl⟩⟩
theorem elF34 : elemOk Try.prog 34 .str := ⟨9, _, by kernel_rfl, rfl, by kernel_rfl⟩
theorem etF34 : elTy Try.prog 34 = 9 := by kernel_rfl
theorem ebF34 : elBytes Try.prog 34 = 16 := by kernel_rfl
theorem apF34 : AppE Try.prog 34 .str := ⟨⟨9, _, _, by kernel_rfl, rfl, by kernel_rfl, by kernel_rfl, rfl, by kernel_rfl⟩⟩
theorem ldF35 : ldInfo Try.prog 35 = some (false, 1) := by kernel_rfl
theorem ldF36 : ldInfo Try.prog 36 = some (false, 1) := by kernel_rfl
theorem tyF37 : tyOf Try.prog 8 37 = some (.int .u64) := by kernel_rfl
theorem ldF37 : ldInfo Try.prog 37 = some (false, 1) := by kernel_rfl
theorem zoF37 : ZeroOk Try.prog 37 (.int .u64) := ⟨⟨_, _, rfl, rfl, by kernel_rfl⟩⟩
theorem ldF39 : ldInfo Try.prog 39 = some (false, 1) := by kernel_rfl
theorem ldF40 : ldInfo Try.prog 40 = some (false, 1) := by kernel_rfl
theorem tyF41 : tyOf Try.prog 8 41 = some .ptr := by kernel_rfl
theorem ldF41 : ldInfo Try.prog 41 = some (false, 1) := by kernel_rfl
theorem ptF41 : PtrOk Try.prog 41 := ⟨⟨43, _, by kernel_rfl, rfl, by decide +kernel⟩⟩
theorem utF41x58 : UnsOk Try.prog 41 58 43 0 2 := .to 43 _ (by kernel_rfl) (by kernel_rfl) rfl (by decide +kernel) (by decide)
theorem ufF41x58 : UnsOk Try.prog 58 41 43 0 2 := .from 43 _ (by kernel_rfl) (by kernel_rfl) rfl (by kernel_rfl)
theorem zoF41 : ZeroOk Try.prog 41 .ptr := ⟨⟨_, _, rfl, rfl, by kernel_rfl⟩⟩
theorem tyF42 : tyOf Try.prog 8 42 = some (.cons .ptr (.cons (.sl .u8) .nil)) := by kernel_rfl
theorem ldF42 : ldInfo Try.prog 42 = some (true, 2) := by kernel_rfl
theorem zoF42 : ZeroOk Try.prog 42 (.cons .ptr (.cons (.sl .u8) .nil)) := ⟨⟨_, _, rfl, rfl, by kernel_rfl⟩⟩
theorem fdF42x0 : fdInfo Try.prog 42 0 = some (0, 41) := by kernel_rfl
theorem fdF42x1 : fdInfo Try.prog 42 1 = some (1, 24) := by kernel_rfl
theorem plF42 : plOf Try.prog 42 = [(0, 1), (1, 1)] := by kernel_rfl
theorem soF42 : StructOk Try.prog 42 (.cons .ptr (.cons (.sl .u8) .nil)) [(0, 1), (1, 1)] := ⟨⟨Try.prog.fieldsOf 42, _, _, by kernel_rfl, rfl, rfl, by kernel_rfl, fun w => by kernel_rfl⟩⟩
theorem tyF43 : tyOf Try.prog 8 43 = some (.cons .ptr (.cons (.sl .u8) .nil)) := by kernel_rfl
theorem ldF43 : ldInfo Try.prog 43 = some (true, 2) := by kernel_rfl
theorem zoF43 : ZeroOk Try.prog 43 (.cons .ptr (.cons (.sl .u8) .nil)) := ⟨⟨_, _, rfl, rfl, by kernel_rfl⟩⟩
theorem fdF43x0 : fdInfo Try.prog 43 0 = some (0, 41) := by kernel_rfl
theorem fdF43x1 : fdInfo Try.prog 43 1 = some (1, 24) := by kernel_rfl
theorem plF43 : plOf Try.prog 43 = [(0, 1), (1, 1)] := by kernel_rfl
theorem soF43 : StructOk Try.prog 43 (.cons .ptr (.cons (.sl .u8) .nil)) [(0, 1), (1, 1)] := ⟨⟨Try.prog.fieldsOf 43, _, _, by kernel_rfl, rfl, rfl, by kernel_rfl, fun w => by kernel_rfl⟩⟩
theorem ldF44 : ldInfo Try.prog 44 = some (false, 1) := by kernel_rfl
theorem ldF45 : ldInfo Try.prog 45 = some (false, 1) := by kernel_rfl
theorem ldF46 : ldInfo Try.prog 46 = some (false, 1) := by kernel_rfl
theorem ldF48 : ldInfo Try.prog 48 = some (false, 1) := by kernel_rfl
theorem ldF49 : ldInfo Try.prog 49 = some (false, 1) := by kernel_rfl
theorem ldF50 : ldInfo Try.prog 50 = some (false, 1) := by kernel_rfl
theorem tyF51 : tyOf Try.prog 8 51 = some (.int .u32) := by kernel_rfl
theorem ldF51 : ldInfo Try.prog 51 = some (false, 1) := by kernel_rfl
theorem zoF51 : ZeroOk Try.prog 51 (.int .u32) := ⟨⟨_, _, rfl, rfl, by kernel_rfl⟩⟩
theorem ldF53 : ldInfo Try.prog 53 = some (false, 1) := by kernel_rfl
theorem tyF54 : tyOf Try.prog 8 54 = some (.int .u64) := by kernel_rfl
theorem ldF54 : ldInfo Try.prog 54 = some (false, 1) := by kernel_rfl
theorem zoF54 : ZeroOk Try.prog 54 (.int .u64) := ⟨⟨_, _, rfl, rfl, by kernel_rfl⟩⟩
theorem ldF56 : ldInfo Try.prog 56 = some (false, 1) := by kernel_rfl
theorem tyF57 : tyOf Try.prog 8 57 = some .ptr := by kernel_rfl
theorem ldF57 : ldInfo Try.prog 57 = some (false, 1) := by kernel_rfl
theorem ptF57 : PtrOk Try.prog 57 := ⟨⟨5, _, by kernel_rfl, rfl, by decide +kernel⟩⟩
theorem zoF57 : ZeroOk Try.prog 57 .ptr := ⟨⟨_, _, rfl, rfl, by kernel_rfl⟩⟩
theorem ldF58 : ldInfo Try.prog 58 = some (false, 1) := by kernel_rfl
theorem ldF59 : ldInfo Try.prog 59 = some (false, 1) := by kernel_rfl
theorem ldF60 : ldInfo Try.prog 60 = some (false, 1) := by kernel_rfl
theorem tyF61 : tyOf Try.prog 8 61 = some (.cons .ptr (.cons .ptr (.cons .ptr (.cons .str .nil)))) := by kernel_rfl
theorem ldF61 : ldInfo Try.prog 61 = some (true, 4) := by kernel_rfl
theorem zoF61 : ZeroOk Try.prog 61 (.cons .ptr (.cons .ptr (.cons .ptr (.cons .str .nil)))) := ⟨⟨_, _, rfl, rfl, by kernel_rfl⟩⟩
theorem fdF61x0 : fdInfo Try.prog 61 0 = some (0, 17) := by kernel_rfl
theorem fdF61x1 : fdInfo Try.prog 61 1 = some (1, 17) := by kernel_rfl
theorem fdF61x2 : fdInfo Try.prog 61 2 = some (2, 17) := by kernel_rfl
theorem fdF61x3 : fdInfo Try.prog 61 3 = some (3, 9) := by kernel_rfl
theorem plF61 : plOf Try.prog 61 = [(0, 1), (1, 1), (2, 1), (3, 1)] := by kernel_rfl
theorem soF61 : StructOk Try.prog 61 (.cons .ptr (.cons .ptr (.cons .ptr (.cons .str .nil)))) [(0, 1), (1, 1), (2, 1), (3, 1)] := ⟨⟨Try.prog.fieldsOf 61, _, _, by kernel_rfl, rfl, rfl, by kernel_rfl, fun w => by kernel_rfl⟩⟩
theorem tyF62 : tyOf Try.prog 8 62 = some (.cons .ptr (.cons .ptr (.cons .ptr (.cons .str .nil)))) := by kernel_rfl
theorem ldF62 : ldInfo Try.prog 62 = some (true, 4) := by kernel_rfl
theorem zoF62 : ZeroOk Try.prog 62 (.cons .ptr (.cons .ptr (.cons .ptr (.cons .str .nil)))) := ⟨⟨_, _, rfl, rfl, by kernel_rfl⟩⟩
theorem fdF62x0 : fdInfo Try.prog 62 0 = some (0, 17) := by kernel_rfl
theorem fdF62x1 : fdInfo Try.prog 62 1 = some (1, 17) := by kernel_rfl
theorem fdF62x2 : fdInfo Try.prog 62 2 = some (2, 17) := by kernel_rfl
theorem fdF62x3 : fdInfo Try.prog 62 3 = some (3, 9) := by kernel_rfl
theorem plF62 : plOf Try.prog 62 = [(0, 1), (1, 1), (2, 1), (3, 1)] := by kernel_rfl
theorem soF62 : StructOk Try.prog 62 (.cons .ptr (.cons .ptr (.cons .ptr (.cons .str .nil)))) [(0, 1), (1, 1), (2, 1), (3, 1)] := ⟨⟨Try.prog.fieldsOf 62, _, _, by kernel_rfl, rfl, rfl, by kernel_rfl, fun w => by kernel_rfl⟩⟩
theorem ldF63 : ldInfo Try.prog 63 = some (true, 0) := by kernel_rfl
theorem ldF64 : ldInfo Try.prog 64 = some (true, 0) := by kernel_rfl
theorem ldF65 : ldInfo Try.prog 65 = some (true, 0) := by kernel_rfl
theorem tyF66 : tyOf Try.prog 8 66 = some .u8 := by kernel_rfl
theorem ldF66 : ldInfo Try.prog 66 = some (false, 1) := by kernel_rfl
theorem zoF66 : ZeroOk Try.prog 66 .u8 := ⟨⟨_, _, rfl, rfl, by kernel_rfl⟩⟩
theorem tyF67 : tyOf Try.prog 8 67 = some .u8 := by kernel_rfl
theorem ldF67 : ldInfo Try.prog 67 = some (false, 1) := by kernel_rfl
theorem zoF67 : ZeroOk Try.prog 67 .u8 := ⟨⟨_, _, rfl, rfl, by kernel_rfl⟩⟩
theorem ldF68 : ldInfo Try.prog 68 = some (false, 1) := by kernel_rfl
theorem tyF69 : tyOf Try.prog 8 69 = some (.int .i32) := by kernel_rfl
theorem ldF69 : ldInfo Try.prog 69 = some (false, 1) := by kernel_rfl
theorem zoF69 : ZeroOk Try.prog 69 (.int .i32) := ⟨⟨_, _, rfl, rfl, by kernel_rfl⟩⟩
theorem tyF70 : tyOf Try.prog 8 70 = some (.int .i32) := by kernel_rfl
theorem ldF70 : ldInfo Try.prog 70 = some (false, 1) := by kernel_rfl
theorem zoF70 : ZeroOk Try.prog 70 (.int .i32) := ⟨⟨_, _, rfl, rfl, by kernel_rfl⟩⟩
theorem ldF71 : ldInfo Try.prog 71 = some (true, 11) := by kernel_rfl
theorem fdF71x0 : fdInfo Try.prog 71 0 = some (0, 12) := by kernel_rfl
theorem fdF71x1 : fdInfo Try.prog 71 1 = some (1, 12) := by kernel_rfl
theorem fdF71x2 : fdInfo Try.prog 71 2 = some (2, 51) := by kernel_rfl
theorem fdF71x3 : fdInfo Try.prog 71 3 = some (3, 66) := by kernel_rfl
theorem fdF71x4 : fdInfo Try.prog 71 4 = some (4, 5) := by kernel_rfl
theorem fdF71x5 : fdInfo Try.prog 71 5 = some (5, 5) := by kernel_rfl
theorem fdF71x6 : fdInfo Try.prog 71 6 = some (6, 67) := by kernel_rfl
theorem fdF71x7 : fdInfo Try.prog 71 7 = some (7, 68) := by kernel_rfl
theorem fdF71x8 : fdInfo Try.prog 71 8 = some (8, 57) := by kernel_rfl
theorem fdF71x9 : fdInfo Try.prog 71 9 = some (9, 69) := by kernel_rfl
theorem fdF71x10 : fdInfo Try.prog 71 10 = some (10, 70) := by kernel_rfl
theorem ldF72 : ldInfo Try.prog 72 = some (true, 11) := by kernel_rfl
theorem fdF72x0 : fdInfo Try.prog 72 0 = some (0, 12) := by kernel_rfl
theorem fdF72x1 : fdInfo Try.prog 72 1 = some (1, 12) := by kernel_rfl
theorem fdF72x2 : fdInfo Try.prog 72 2 = some (2, 51) := by kernel_rfl
theorem fdF72x3 : fdInfo Try.prog 72 3 = some (3, 66) := by kernel_rfl
theorem fdF72x4 : fdInfo Try.prog 72 4 = some (4, 5) := by kernel_rfl
theorem fdF72x5 : fdInfo Try.prog 72 5 = some (5, 5) := by kernel_rfl
theorem fdF72x6 : fdInfo Try.prog 72 6 = some (6, 67) := by kernel_rfl
theorem fdF72x7 : fdInfo Try.prog 72 7 = some (7, 68) := by kernel_rfl
theorem fdF72x8 : fdInfo Try.prog 72 8 = some (8, 57) := by kernel_rfl
theorem fdF72x9 : fdInfo Try.prog 72 9 = some (9, 69) := by kernel_rfl
theorem fdF72x10 : fdInfo Try.prog 72 10 = some (10, 70) := by kernel_rfl
/-- All of them. -/
theorem F : (ldInfo Try.prog 1 = some (false, 1)) ∧ (tyOf Try.prog 8 2 = some (.int .i64)) ∧ (ldInfo Try.prog 2 = some (false, 1)) ∧ (ZeroOk Try.prog 2 (.int .i64)) ∧ (tyOf Try.prog 8 3 = some (.int .i64)) ∧ (ldInfo Try.prog 3 = some (false, 1)) ∧ (ZeroOk Try.prog 3 (.int .i64)) ∧ (tyOf Try.prog 8 4 = some .bool) ∧ (ldInfo Try.prog 4 = some (false, 1)) ∧ (ZeroOk Try.prog 4 .bool) ∧ (tyOf Try.prog 8 5 = some .u8) ∧ (ldInfo Try.prog 5 = some (false, 1)) ∧ (ZeroOk Try.prog 5 .u8) ∧ (tyOf Try.prog 8 6 = some .u8) ∧ (ldInfo Try.prog 6 = some (false, 1)) ∧ (ZeroOk Try.prog 6 .u8) ∧ (tyOf Try.prog 8 7 = some (.cons (.int .i64) (.cons (.int .i64) (.cons .bool (.cons .u8 .nil))))) ∧ (ldInfo Try.prog 7 = some (true, 4)) ∧ (ZeroOk Try.prog 7 (.cons (.int .i64) (.cons (.int .i64) (.cons .bool (.cons .u8 .nil))))) ∧ (fdInfo Try.prog 7 0 = some (0, 2)) ∧ (fdInfo Try.prog 7 1 = some (1, 3)) ∧ (fdInfo Try.prog 7 2 = some (2, 4)) ∧ (fdInfo Try.prog 7 3 = some (3, 6)) ∧ (plOf Try.prog 7 = [(0, 1), (1, 1), (2, 1), (3, 1)]) ∧ (StructOk Try.prog 7 (.cons (.int .i64) (.cons (.int .i64) (.cons .bool (.cons .u8 .nil)))) [(0, 1), (1, 1), (2, 1), (3, 1)]) ∧ (tyOf Try.prog 8 8 = some (.cons (.int .i64) (.cons (.int .i64) (.cons .bool (.cons .u8 .nil))))) ∧ (ldInfo Try.prog 8 = some (true, 4)) ∧ (ZeroOk Try.prog 8 (.cons (.int .i64) (.cons (.int .i64) (.cons .bool (.cons .u8 .nil))))) ∧ (fdInfo Try.prog 8 0 = some (0, 2)) ∧ (fdInfo Try.prog 8 1 = some (1, 3)) ∧ (fdInfo Try.prog 8 2 = some (2, 4)) ∧ (fdInfo Try.prog 8 3 = some (3, 6)) ∧ (plOf Try.prog 8 = [(0, 1), (1, 1), (2, 1), (3, 1)]) ∧ (StructOk Try.prog 8 (.cons (.int .i64) (.cons (.int .i64) (.cons .bool (.cons .u8 .nil)))) [(0, 1), (1, 1), (2, 1), (3, 1)]) ∧ (tyOf Try.prog 8 9 = some .str) ∧ (ldInfo Try.prog 9 = some (false, 1)) ∧ (ZeroOk Try.prog 9 .str) ∧ (tyOf Try.prog 8 10 = some .str) ∧ (ldInfo Try.prog 10 = some (false, 1)) ∧ (ZeroOk Try.prog 10 .str) ∧ (tyOf Try.prog 8 11 = some .str) ∧ (ldInfo Try.prog 11 = some (false, 1)) ∧ (ZeroOk Try.prog 11 .str) ∧ (tyOf Try.prog 8 12 = some (.int .u64)) ∧ (ldInfo Try.prog 12 = some (false, 1)) ∧ (ZeroOk Try.prog 12 (.int .u64)) ∧ (tyOf Try.prog 8 13 = some (.cons .str (.cons (.int .u64) .nil))) ∧ (ldInfo Try.prog 13 = some (true, 2)) ∧ (ZeroOk Try.prog 13 (.cons .str (.cons (.int .u64) .nil))) ∧ (fdInfo Try.prog 13 0 = some (0, 9)) ∧ (fdInfo Try.prog 13 1 = some (1, 12)) ∧ (plOf Try.prog 13 = [(0, 1), (1, 1)]) ∧ (StructOk Try.prog 13 (.cons .str (.cons (.int .u64) .nil)) [(0, 1), (1, 1)]) ∧ (tyOf Try.prog 8 14 = some (.cons .str (.cons (.int .u64) .nil))) ∧ (ldInfo Try.prog 14 = some (true, 2)) ∧ (ZeroOk Try.prog 14 (.cons .str (.cons (.int .u64) .nil))) ∧ (fdInfo Try.prog 14 0 = some (0, 9)) ∧ (fdInfo Try.prog 14 1 = some (1, 12)) ∧ (plOf Try.prog 14 = [(0, 1), (1, 1)]) ∧ (StructOk Try.prog 14 (.cons .str (.cons (.int .u64) .nil)) [(0, 1), (1, 1)]) ∧ (tyOf Try.prog 8 15 = some .ptr) ∧ (ldInfo Try.prog 15 = some (false, 1)) ∧ (PtrOk Try.prog 15) ∧ (ZeroOk Try.prog 15 .ptr) ∧ (tyOf Try.prog 8 16 = some .ptr) ∧ (ldInfo Try.prog 16 = some (false, 1)) ∧ (ZeroOk Try.prog 16 .ptr) ∧ (tyOf Try.prog 8 17 = some .ptr) ∧ (ldInfo Try.prog 17 = some (false, 1)) ∧ (PtrOk Try.prog 17) ∧ (ZeroOk Try.prog 17 .ptr) ∧ (tyOf Try.prog 8 18 = some (.cons .ptr .nil)) ∧ (ldInfo Try.prog 18 = some (true, 1)) ∧ (ZeroOk Try.prog 18 (.cons .ptr .nil)) ∧ (fdInfo Try.prog 18 0 = some (0, 17)) ∧ (plOf Try.prog 18 = [(0, 1)]) ∧ (StructOk Try.prog 18 (.cons .ptr .nil) [(0, 1)]) ∧ (tyOf Try.prog 8 19 = some (.cons .ptr .nil)) ∧ (ldInfo Try.prog 19 = some (true, 1)) ∧ (ZeroOk Try.prog 19 (.cons .ptr .nil)) ∧ (fdInfo Try.prog 19 0 = some (0, 17)) ∧ (plOf Try.prog 19 = [(0, 1)]) ∧ (StructOk Try.prog 19 (.cons .ptr .nil) [(0, 1)]) ∧ (ldInfo Try.prog 20 = some (false, 1)) ∧ (tyOf Try.prog 8 21 = some (.int .i32)) ∧ (ldInfo Try.prog 21 = some (false, 1)) ∧ (ZeroOk Try.prog 21 (.int .i32)) ∧ (ldInfo Try.prog 22 = some (false, 1)) ∧ (ldInfo Try.prog 23 = some (false, 1)) ∧ (tyOf Try.prog 8 24 = some (.sl .u8)) ∧ (ldInfo Try.prog 24 = some (false, 1)) ∧ (ZeroOk Try.prog 24 (.sl .u8)) ∧ (elemOk Try.prog 24 .u8) ∧ (elTy Try.prog 24 = 5) ∧ (elBytes Try.prog 24 = 1) ∧ (AppE Try.prog 24 .u8) ∧ (ldInfo Try.prog 25 = some (false, 1)) ∧ (ldInfo Try.prog 26 = some (false, 1)) ∧ (ldInfo Try.prog 28 = some (false, 1)) ∧ (ldInfo Try.prog 29 = some (false, 1)) ∧ (ldInfo Try.prog 30 = some (false, 1)) ∧ (ldInfo Try.prog 31 = some (false, 1)) ∧ (ldInfo Try.prog 32 = some (false, 1)) ∧ (ldInfo Try.prog 33 = some (false, 1)) ∧ (tyOf Try.prog 8 34 = some (.sl .str)) ∧ (ldInfo Try.prog 34 = some (false, 1)) ∧ (ZeroOk Try.prog 34 (.sl .str)) ∧ (elemOk Try.prog 34 .str) ∧ (elTy Try.prog 34 = 9) ∧ (elBytes Try.prog 34 = 16) ∧ (AppE Try.prog 34 .str) ∧ (ldInfo Try.prog 35 = some (false, 1)) ∧ (ldInfo Try.prog 36 = some (false, 1)) ∧ (tyOf Try.prog 8 37 = some (.int .u64)) ∧ (ldInfo Try.prog 37 = some (false, 1)) ∧ (ZeroOk Try.prog 37 (.int .u64)) ∧ (ldInfo Try.prog 39 = some (false, 1)) ∧ (ldInfo Try.prog 40 = some (false, 1)) ∧ (tyOf Try.prog 8 41 = some .ptr) ∧ (ldInfo Try.prog 41 = some (false, 1)) ∧ (PtrOk Try.prog 41) ∧ (UnsOk Try.prog 41 58 43 0 2) ∧ (UnsOk Try.prog 58 41 43 0 2) ∧ (ZeroOk Try.prog 41 .ptr) ∧ (tyOf Try.prog 8 42 = some (.cons .ptr (.cons (.sl .u8) .nil))) ∧ (ldInfo Try.prog 42 = some (true, 2)) ∧ (ZeroOk Try.prog 42 (.cons .ptr (.cons (.sl .u8) .nil))) ∧ (fdInfo Try.prog 42 0 = some (0, 41)) ∧ (fdInfo Try.prog 42 1 = some (1, 24)) ∧ (plOf Try.prog 42 = [(0, 1), (1, 1)]) ∧ (StructOk Try.prog 42 (.cons .ptr (.cons (.sl .u8) .nil)) [(0, 1), (1, 1)]) ∧ (tyOf Try.prog 8 43 = some (.cons .ptr (.cons (.sl .u8) .nil))) ∧ (ldInfo Try.prog 43 = some (true, 2)) ∧ (ZeroOk Try.prog 43 (.cons .ptr (.cons (.sl .u8) .nil))) ∧ (fdInfo Try.prog 43 0 = some (0, 41)) ∧ (fdInfo Try.prog 43 1 = some (1, 24)) ∧ (plOf Try.prog 43 = [(0, 1), (1, 1)]) ∧ (StructOk Try.prog 43 (.cons .ptr (.cons (.sl .u8) .nil)) [(0, 1), (1, 1)]) ∧ (ldInfo Try.prog 44 = some (false, 1)) ∧ (ldInfo Try.prog 45 = some (false, 1)) ∧ (ldInfo Try.prog 46 = some (false, 1)) ∧ (ldInfo Try.prog 48 = some (false, 1)) ∧ (ldInfo Try.prog 49 = some (false, 1)) ∧ (ldInfo Try.prog 50 = some (false, 1)) ∧ (tyOf Try.prog 8 51 = some (.int .u32)) ∧ (ldInfo Try.prog 51 = some (false, 1)) ∧ (ZeroOk Try.prog 51 (.int .u32)) ∧ (ldInfo Try.prog 53 = some (false, 1)) ∧ (tyOf Try.prog 8 54 = some (.int .u64)) ∧ (ldInfo Try.prog 54 = some (false, 1)) ∧ (ZeroOk Try.prog 54 (.int .u64)) ∧ (ldInfo Try.prog 56 = some (false, 1)) ∧ (tyOf Try.prog 8 57 = some .ptr) ∧ (ldInfo Try.prog 57 = some (false, 1)) ∧ (PtrOk Try.prog 57) ∧ (ZeroOk Try.prog 57 .ptr) ∧ (ldInfo Try.prog 58 = some (false, 1)) ∧ (ldInfo Try.prog 59 = some (false, 1)) ∧ (ldInfo Try.prog 60 = some (false, 1)) ∧ (tyOf Try.prog 8 61 = some (.cons .ptr (.cons .ptr (.cons .ptr (.cons .str .nil))))) ∧ (ldInfo Try.prog 61 = some (true, 4)) ∧ (ZeroOk Try.prog 61 (.cons .ptr (.cons .ptr (.cons .ptr (.cons .str .nil))))) ∧ (fdInfo Try.prog 61 0 = some (0, 17)) ∧ (fdInfo Try.prog 61 1 = some (1, 17)) ∧ (fdInfo Try.prog 61 2 = some (2, 17)) ∧ (fdInfo Try.prog 61 3 = some (3, 9)) ∧ (plOf Try.prog 61 = [(0, 1), (1, 1), (2, 1), (3, 1)]) ∧ (StructOk Try.prog 61 (.cons .ptr (.cons .ptr (.cons .ptr (.cons .str .nil)))) [(0, 1), (1, 1), (2, 1), (3, 1)]) ∧ (tyOf Try.prog 8 62 = some (.cons .ptr (.cons .ptr (.cons .ptr (.cons .str .nil))))) ∧ (ldInfo Try.prog 62 = some (true, 4)) ∧ (ZeroOk Try.prog 62 (.cons .ptr (.cons .ptr (.cons .ptr (.cons .str .nil))))) ∧ (fdInfo Try.prog 62 0 = some (0, 17)) ∧ (fdInfo Try.prog 62 1 = some (1, 17)) ∧ (fdInfo Try.prog 62 2 = some (2, 17)) ∧ (fdInfo Try.prog 62 3 = some (3, 9)) ∧ (plOf Try.prog 62 = [(0, 1), (1, 1), (2, 1), (3, 1)]) ∧ (StructOk Try.prog 62 (.cons .ptr (.cons .ptr (.cons .ptr (.cons .str .nil)))) [(0, 1), (1, 1), (2, 1), (3, 1)]) ∧ (ldInfo Try.prog 63 = some (true, 0)) ∧ (ldInfo Try.prog 64 = some (true, 0)) ∧ (ldInfo Try.prog 65 = some (true, 0)) ∧ (tyOf Try.prog 8 66 = some .u8) ∧ (ldInfo Try.prog 66 = some (false, 1)) ∧ (ZeroOk Try.prog 66 .u8) ∧ (tyOf Try.prog 8 67 = some .u8) ∧ (ldInfo Try.prog 67 = some (false, 1)) ∧ (ZeroOk Try.prog 67 .u8) ∧ (ldInfo Try.prog 68 = some (false, 1)) ∧ (tyOf Try.prog 8 69 = some (.int .i32)) ∧ (ldInfo Try.prog 69 = some (false, 1)) ∧ (ZeroOk Try.prog 69 (.int .i32)) ∧ (tyOf Try.prog 8 70 = some (.int .i32)) ∧ (ldInfo Try.prog 70 = some (false, 1)) ∧ (ZeroOk Try.prog 70 (.int .i32)) ∧ (ldInfo Try.prog 71 = some (true, 11)) ∧ (fdInfo Try.prog 71 0 = some (0, 12)) ∧ (fdInfo Try.prog 71 1 = some (1, 12)) ∧ (fdInfo Try.prog 71 2 = some (2, 51)) ∧ (fdInfo Try.prog 71 3 = some (3, 66)) ∧ (fdInfo Try.prog 71 4 = some (4, 5)) ∧ (fdInfo Try.prog 71 5 = some (5, 5)) ∧ (fdInfo Try.prog 71 6 = some (6, 67)) ∧ (fdInfo Try.prog 71 7 = some (7, 68)) ∧ (fdInfo Try.prog 71 8 = some (8, 57)) ∧ (fdInfo Try.prog 71 9 = some (9, 69)) ∧ (fdInfo Try.prog 71 10 = some (10, 70)) ∧ (ldInfo Try.prog 72 = some (true, 11)) ∧ (fdInfo Try.prog 72 0 = some (0, 12)) ∧ (fdInfo Try.prog 72 1 = some (1, 12)) ∧ (fdInfo Try.prog 72 2 = some (2, 51)) ∧ (fdInfo Try.prog 72 3 = some (3, 66)) ∧ (fdInfo Try.prog 72 4 = some (4, 5)) ∧ (fdInfo Try.prog 72 5 = some (5, 5)) ∧ (fdInfo Try.prog 72 6 = some (6, 67)) ∧ (fdInfo Try.prog 72 7 = some (7, 68)) ∧ (fdInfo Try.prog 72 8 = some (8, 57)) ∧ (fdInfo Try.prog 72 9 = some (9, 69)) ∧ (fdInfo Try.prog 72 10 = some (10, 70)) := ⟨ldF1, tyF2, ldF2, zoF2, tyF3, ldF3, zoF3, tyF4, ldF4, zoF4, tyF5, ldF5, zoF5, tyF6, ldF6, zoF6, tyF7, ldF7, zoF7, fdF7x0, fdF7x1, fdF7x2, fdF7x3, plF7, soF7, tyF8, ldF8, zoF8, fdF8x0, fdF8x1, fdF8x2, fdF8x3, plF8, soF8, tyF9, ldF9, zoF9, tyF10, ldF10, zoF10, tyF11, ldF11, zoF11, tyF12, ldF12, zoF12, tyF13, ldF13, zoF13, fdF13x0, fdF13x1, plF13, soF13, tyF14, ldF14, zoF14, fdF14x0, fdF14x1, plF14, soF14, tyF15, ldF15, ptF15, zoF15, tyF16, ldF16, zoF16, tyF17, ldF17, ptF17, zoF17, tyF18, ldF18, zoF18, fdF18x0, plF18, soF18, tyF19, ldF19, zoF19, fdF19x0, plF19, soF19, ldF20, tyF21, ldF21, zoF21, ldF22, ldF23, tyF24, ldF24, zoF24, elF24, etF24, ebF24, apF24, ldF25, ldF26, ldF28, ldF29, ldF30, ldF31, ldF32, ldF33, tyF34, ldF34, zoF34, elF34, etF34, ebF34, apF34, ldF35, ldF36, tyF37, ldF37, zoF37, ldF39, ldF40, tyF41, ldF41, ptF41, utF41x58, ufF41x58, zoF41, tyF42, ldF42, zoF42, fdF42x0, fdF42x1, plF42, soF42, tyF43, ldF43, zoF43, fdF43x0, fdF43x1, plF43, soF43, ldF44, ldF45, ldF46, ldF48, ldF49, ldF50, tyF51, ldF51, zoF51, ldF53, tyF54, ldF54, zoF54, ldF56, tyF57, ldF57, ptF57, zoF57, ldF58, ldF59, ldF60, tyF61, ldF61, zoF61, fdF61x0, fdF61x1, fdF61x2, fdF61x3, plF61, soF61, tyF62, ldF62, zoF62, fdF62x0, fdF62x1, fdF62x2, fdF62x3, plF62, soF62, ldF63, ldF64, ldF65, tyF66, ldF66, zoF66, tyF67, ldF67, zoF67, ldF68, tyF69, ldF69, zoF69, tyF70, ldF70, zoF70, ldF71, fdF71x0, fdF71x1, fdF71x2, fdF71x3, fdF71x4, fdF71x5, fdF71x6, fdF71x7, fdF71x8, fdF71x9, fdF71x10, ldF72, fdF72x0, fdF72x1, fdF72x2, fdF72x3, fdF72x4, fdF72x5, fdF72x6, fdF72x7, fdF72x8, fdF72x9, fdF72x10⟩
end Go.Proofs.Ytdjfcjlpemckoaa
