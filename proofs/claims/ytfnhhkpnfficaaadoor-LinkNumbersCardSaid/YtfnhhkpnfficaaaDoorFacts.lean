/- Facts of the translation's types: printed by facts.py (own work). -/
import Derived.Test.YtfnhhkpnfficaaaDoorRows
import Derived.Test.YtfnhhkpnfficaaaDoorCore13
import Derived.KernelRfl
namespace Go.Proofs.YtfnhhkpnfficaaaDoor
open Go.Sv
set_option linter.unusedSimpArgs false
set_option maxRecDepth 100000
theorem followsF : Tryd.prog.follows .mixedOrders = true := by kernel_rfl
theorem ldF1 : ldInfo Tryd.prog 1 = some (false, 1) := by kernel_rfl
theorem tyF2 : tyOf Tryd.prog 8 2 = some (.int .i64) := by kernel_rfl
theorem ldF2 : ldInfo Tryd.prog 2 = some (false, 1) := by kernel_rfl
theorem zoF2 : ZeroOk Tryd.prog 2 (.int .i64) := ⟨⟨_, _, rfl, rfl, by kernel_rfl⟩⟩
theorem tyF3 : tyOf Tryd.prog 8 3 = some (.int .i64) := by kernel_rfl
theorem ldF3 : ldInfo Tryd.prog 3 = some (false, 1) := by kernel_rfl
theorem zoF3 : ZeroOk Tryd.prog 3 (.int .i64) := ⟨⟨_, _, rfl, rfl, by kernel_rfl⟩⟩
theorem tyF4 : tyOf Tryd.prog 8 4 = some .bool := by kernel_rfl
theorem ldF4 : ldInfo Tryd.prog 4 = some (false, 1) := by kernel_rfl
theorem zoF4 : ZeroOk Tryd.prog 4 .bool := ⟨⟨_, _, rfl, rfl, by kernel_rfl⟩⟩
theorem tyF5 : tyOf Tryd.prog 8 5 = some .u8 := by kernel_rfl
theorem ldF5 : ldInfo Tryd.prog 5 = some (false, 1) := by kernel_rfl
theorem zoF5 : ZeroOk Tryd.prog 5 .u8 := ⟨⟨_, _, rfl, rfl, by kernel_rfl⟩⟩
theorem tyF6 : tyOf Tryd.prog 8 6 = some .u8 := by kernel_rfl
theorem ldF6 : ldInfo Tryd.prog 6 = some (false, 1) := by kernel_rfl
theorem zoF6 : ZeroOk Tryd.prog 6 .u8 := ⟨⟨_, _, rfl, rfl, by kernel_rfl⟩⟩
theorem tyF7 : tyOf Tryd.prog 8 7 = some (.cons (.int .i64) (.cons (.int .i64) (.cons .bool (.cons .u8 .nil)))) := by kernel_rfl
theorem ldF7 : ldInfo Tryd.prog 7 = some (true, 4) := by kernel_rfl
theorem zoF7 : ZeroOk Tryd.prog 7 (.cons (.int .i64) (.cons (.int .i64) (.cons .bool (.cons .u8 .nil)))) := ⟨⟨_, _, rfl, rfl, by kernel_rfl⟩⟩
theorem fdF7x0 : fdInfo Tryd.prog 7 0 = some (0, 2) := by kernel_rfl
theorem fdF7x1 : fdInfo Tryd.prog 7 1 = some (1, 3) := by kernel_rfl
theorem fdF7x2 : fdInfo Tryd.prog 7 2 = some (2, 4) := by kernel_rfl
theorem fdF7x3 : fdInfo Tryd.prog 7 3 = some (3, 6) := by kernel_rfl
theorem plF7 : plOf Tryd.prog 7 = [(0, 1), (1, 1), (2, 1), (3, 1)] := by kernel_rfl
theorem soF7 : StructOk Tryd.prog 7 (.cons (.int .i64) (.cons (.int .i64) (.cons .bool (.cons .u8 .nil)))) [(0, 1), (1, 1), (2, 1), (3, 1)] := ⟨⟨Tryd.prog.fieldsOf 7, _, _, by kernel_rfl, rfl, rfl, by kernel_rfl, fun w => by kernel_rfl⟩⟩
theorem tyF8 : tyOf Tryd.prog 8 8 = some (.cons (.int .i64) (.cons (.int .i64) (.cons .bool (.cons .u8 .nil)))) := by kernel_rfl
theorem ldF8 : ldInfo Tryd.prog 8 = some (true, 4) := by kernel_rfl
theorem zoF8 : ZeroOk Tryd.prog 8 (.cons (.int .i64) (.cons (.int .i64) (.cons .bool (.cons .u8 .nil)))) := ⟨⟨_, _, rfl, rfl, by kernel_rfl⟩⟩
theorem fdF8x0 : fdInfo Tryd.prog 8 0 = some (0, 2) := by kernel_rfl
theorem fdF8x1 : fdInfo Tryd.prog 8 1 = some (1, 3) := by kernel_rfl
theorem fdF8x2 : fdInfo Tryd.prog 8 2 = some (2, 4) := by kernel_rfl
theorem fdF8x3 : fdInfo Tryd.prog 8 3 = some (3, 6) := by kernel_rfl
theorem plF8 : plOf Tryd.prog 8 = [(0, 1), (1, 1), (2, 1), (3, 1)] := by kernel_rfl
theorem soF8 : StructOk Tryd.prog 8 (.cons (.int .i64) (.cons (.int .i64) (.cons .bool (.cons .u8 .nil)))) [(0, 1), (1, 1), (2, 1), (3, 1)] := ⟨⟨Tryd.prog.fieldsOf 8, _, _, by kernel_rfl, rfl, rfl, by kernel_rfl, fun w => by kernel_rfl⟩⟩
theorem tyF9 : tyOf Tryd.prog 8 9 = some .str := by kernel_rfl
theorem ldF9 : ldInfo Tryd.prog 9 = some (false, 1) := by kernel_rfl
theorem zoF9 : ZeroOk Tryd.prog 9 .str := ⟨⟨_, _, rfl, rfl, by kernel_rfl⟩⟩
theorem tyF10 : tyOf Tryd.prog 8 10 = some .str := by kernel_rfl
theorem ldF10 : ldInfo Tryd.prog 10 = some (false, 1) := by kernel_rfl
theorem zoF10 : ZeroOk Tryd.prog 10 .str := ⟨⟨_, _, rfl, rfl, by kernel_rfl⟩⟩
theorem tyF11 : tyOf Tryd.prog 8 11 = some .str := by kernel_rfl
theorem ldF11 : ldInfo Tryd.prog 11 = some (false, 1) := by kernel_rfl
theorem zoF11 : ZeroOk Tryd.prog 11 .str := ⟨⟨_, _, rfl, rfl, by kernel_rfl⟩⟩
theorem tyF12 : tyOf Tryd.prog 8 12 = some (.int .u64) := by kernel_rfl
theorem ldF12 : ldInfo Tryd.prog 12 = some (false, 1) := by kernel_rfl
theorem zoF12 : ZeroOk Tryd.prog 12 (.int .u64) := ⟨⟨_, _, rfl, rfl, by kernel_rfl⟩⟩
theorem tyF13 : tyOf Tryd.prog 8 13 = some (.cons .str (.cons (.int .u64) .nil)) := by kernel_rfl
theorem ldF13 : ldInfo Tryd.prog 13 = some (true, 2) := by kernel_rfl
theorem zoF13 : ZeroOk Tryd.prog 13 (.cons .str (.cons (.int .u64) .nil)) := ⟨⟨_, _, rfl, rfl, by kernel_rfl⟩⟩
theorem fdF13x0 : fdInfo Tryd.prog 13 0 = some (0, 9) := by kernel_rfl
theorem fdF13x1 : fdInfo Tryd.prog 13 1 = some (1, 12) := by kernel_rfl
theorem plF13 : plOf Tryd.prog 13 = [(0, 1), (1, 1)] := by kernel_rfl
theorem soF13 : StructOk Tryd.prog 13 (.cons .str (.cons (.int .u64) .nil)) [(0, 1), (1, 1)] := ⟨⟨Tryd.prog.fieldsOf 13, _, _, by kernel_rfl, rfl, rfl, by kernel_rfl, fun w => by kernel_rfl⟩⟩
theorem tyF14 : tyOf Tryd.prog 8 14 = some (.cons .str (.cons (.int .u64) .nil)) := by kernel_rfl
theorem ldF14 : ldInfo Tryd.prog 14 = some (true, 2) := by kernel_rfl
theorem zoF14 : ZeroOk Tryd.prog 14 (.cons .str (.cons (.int .u64) .nil)) := ⟨⟨_, _, rfl, rfl, by kernel_rfl⟩⟩
theorem fdF14x0 : fdInfo Tryd.prog 14 0 = some (0, 9) := by kernel_rfl
theorem fdF14x1 : fdInfo Tryd.prog 14 1 = some (1, 12) := by kernel_rfl
theorem plF14 : plOf Tryd.prog 14 = [(0, 1), (1, 1)] := by kernel_rfl
theorem soF14 : StructOk Tryd.prog 14 (.cons .str (.cons (.int .u64) .nil)) [(0, 1), (1, 1)] := ⟨⟨Tryd.prog.fieldsOf 14, _, _, by kernel_rfl, rfl, rfl, by kernel_rfl, fun w => by kernel_rfl⟩⟩
theorem tyF15 : tyOf Tryd.prog 8 15 = some .ptr := by kernel_rfl
theorem ldF15 : ldInfo Tryd.prog 15 = some (false, 1) := by kernel_rfl
theorem ptF15 : PtrOk Tryd.prog 15 := ⟨⟨145, _, by kernel_rfl, rfl, by decide +kernel⟩⟩
theorem zoF15 : ZeroOk Tryd.prog 15 .ptr := ⟨⟨_, _, rfl, rfl, by kernel_rfl⟩⟩
theorem tyF16 : tyOf Tryd.prog 8 16 = some .ptr := by kernel_rfl
theorem ldF16 : ldInfo Tryd.prog 16 = some (false, 1) := by kernel_rfl
theorem zoF16 : ZeroOk Tryd.prog 16 .ptr := ⟨⟨_, _, rfl, rfl, by kernel_rfl⟩⟩
theorem tyF17 : tyOf Tryd.prog 8 17 = some .ptr := by kernel_rfl
theorem ldF17 : ldInfo Tryd.prog 17 = some (false, 1) := by kernel_rfl
theorem ptF17 : PtrOk Tryd.prog 17 := ⟨⟨155, _, by kernel_rfl, rfl, by decide +kernel⟩⟩
theorem zoF17 : ZeroOk Tryd.prog 17 .ptr := ⟨⟨_, _, rfl, rfl, by kernel_rfl⟩⟩
theorem tyF18 : tyOf Tryd.prog 8 18 = some (.cons .ptr .nil) := by kernel_rfl
theorem ldF18 : ldInfo Tryd.prog 18 = some (true, 1) := by kernel_rfl
theorem zoF18 : ZeroOk Tryd.prog 18 (.cons .ptr .nil) := ⟨⟨_, _, rfl, rfl, by kernel_rfl⟩⟩
theorem fdF18x0 : fdInfo Tryd.prog 18 0 = some (0, 17) := by kernel_rfl
theorem plF18 : plOf Tryd.prog 18 = [(0, 1)] := by kernel_rfl
theorem soF18 : StructOk Tryd.prog 18 (.cons .ptr .nil) [(0, 1)] := ⟨⟨Tryd.prog.fieldsOf 18, _, _, by kernel_rfl, rfl, rfl, by kernel_rfl, fun w => by kernel_rfl⟩⟩
theorem tyF19 : tyOf Tryd.prog 8 19 = some (.cons .ptr .nil) := by kernel_rfl
theorem ldF19 : ldInfo Tryd.prog 19 = some (true, 1) := by kernel_rfl
theorem zoF19 : ZeroOk Tryd.prog 19 (.cons .ptr .nil) := ⟨⟨_, _, rfl, rfl, by kernel_rfl⟩⟩
theorem fdF19x0 : fdInfo Tryd.prog 19 0 = some (0, 17) := by kernel_rfl
theorem plF19 : plOf Tryd.prog 19 = [(0, 1)] := by kernel_rfl
theorem soF19 : StructOk Tryd.prog 19 (.cons .ptr .nil) [(0, 1)] := ⟨⟨Tryd.prog.fieldsOf 19, _, _, by kernel_rfl, rfl, rfl, by kernel_rfl, fun w => by kernel_rfl⟩⟩
theorem ldF20 : ldInfo Tryd.prog 20 = some (false, 1) := by kernel_rfl
theorem tyF21 : tyOf Tryd.prog 8 21 = some (.int .i32) := by kernel_rfl
theorem ldF21 : ldInfo Tryd.prog 21 = some (false, 1) := by kernel_rfl
theorem zoF21 : ZeroOk Tryd.prog 21 (.int .i32) := ⟨⟨_, _, rfl, rfl, by kernel_rfl⟩⟩
theorem tyF22 : tyOf Tryd.prog 8 22 = some (.sl .u8) := by kernel_rfl
theorem ldF22 : ldInfo Tryd.prog 22 = some (false, 1) := by kernel_rfl
theorem zoF22 : ZeroOk Tryd.prog 22 (.sl .u8) := ⟨⟨_, _, rfl, rfl, by kernel_rfl⟩⟩
theorem elF22 : elemOk Tryd.prog 22 .u8 := ⟨5, _, by kernel_rfl, rfl, by kernel_rfl⟩
theorem etF22 : elTy Tryd.prog 22 = 5 := by kernel_rfl
theorem ebF22 : elBytes Tryd.prog 22 = 1 := by kernel_rfl
theorem mdF22 : MadeOk Tryd.prog 22 .u8 := ⟨⟨5, _, _, _, by kernel_rfl, rfl, rfl, by kernel_rfl, fun w S => by simp only [RepD]; rfl⟩⟩
theorem apF22 : AppE Tryd.prog 22 .u8 := ⟨⟨5, _, _, by kernel_rfl, rfl, by kernel_rfl, by kernel_rfl, rfl, by kernel_rfl⟩⟩
theorem ldF23 : ldInfo Tryd.prog 23 = some (false, 1) := by kernel_rfl
theorem ldF24 : ldInfo Tryd.prog 24 = some (false, 1) := by kernel_rfl
theorem ldF25 : ldInfo Tryd.prog 25 = some (false, 1) := by kernel_rfl
theorem ldF26 : ldInfo Tryd.prog 26 = some (false, 1) := by kernel_rfl
theorem tyF27 : tyOf Tryd.prog 8 27 = some (.sl (.int .i64)) := by kernel_rfl
theorem ldF27 : ldInfo Tryd.prog 27 = some (false, 1) := by kernel_rfl
theorem zoF27 : ZeroOk Tryd.prog 27 (.sl (.int .i64)) := ⟨⟨_, _, rfl, rfl, by kernel_rfl⟩⟩
theorem elF27 : elemOk Tryd.prog 27 (.int .i64) := ⟨3, _, by kernel_rfl, rfl, by kernel_rfl⟩
theorem etF27 : elTy Tryd.prog 27 = 3 := by kernel_rfl
theorem ebF27 : elBytes Tryd.prog 27 = 8 := by kernel_rfl
theorem mdF27 : MadeOk Tryd.prog 27 (.int .i64) := ⟨⟨3, _, _, _, by kernel_rfl, rfl, rfl, by kernel_rfl, fun w S => by simp only [RepD]; rfl⟩⟩
theorem apF27 : AppE Tryd.prog 27 (.int .i64) := ⟨⟨3, _, _, by kernel_rfl, rfl, by kernel_rfl, by kernel_rfl, rfl, by kernel_rfl⟩⟩
theorem tyF28 : tyOf Tryd.prog 8 28 = some .ptr := by kernel_rfl
theorem ldF28 : ldInfo Tryd.prog 28 = some (false, 1) := by kernel_rfl
theorem ptF28 : PtrOk Tryd.prog 28 := ⟨⟨30, _, by kernel_rfl, rfl, by decide +kernel⟩⟩
theorem zoF28 : ZeroOk Tryd.prog 28 .ptr := ⟨⟨_, _, rfl, rfl, by kernel_rfl⟩⟩
theorem tyF29 : tyOf Tryd.prog 8 29 = some (.cons (.sl (.int .i64)) (.cons (.int .i64) .nil)) := by kernel_rfl
theorem ldF29 : ldInfo Tryd.prog 29 = some (true, 2) := by kernel_rfl
theorem zoF29 : ZeroOk Tryd.prog 29 (.cons (.sl (.int .i64)) (.cons (.int .i64) .nil)) := ⟨⟨_, _, rfl, rfl, by kernel_rfl⟩⟩
theorem fdF29x0 : fdInfo Tryd.prog 29 0 = some (0, 27) := by kernel_rfl
theorem fdF29x1 : fdInfo Tryd.prog 29 1 = some (1, 3) := by kernel_rfl
theorem plF29 : plOf Tryd.prog 29 = [(0, 1), (1, 1)] := by kernel_rfl
theorem soF29 : StructOk Tryd.prog 29 (.cons (.sl (.int .i64)) (.cons (.int .i64) .nil)) [(0, 1), (1, 1)] := ⟨⟨Tryd.prog.fieldsOf 29, _, _, by kernel_rfl, rfl, rfl, by kernel_rfl, fun w => by kernel_rfl⟩⟩
theorem tyF30 : tyOf Tryd.prog 8 30 = some (.cons (.sl (.int .i64)) (.cons (.int .i64) .nil)) := by kernel_rfl
theorem ldF30 : ldInfo Tryd.prog 30 = some (true, 2) := by kernel_rfl
theorem zoF30 : ZeroOk Tryd.prog 30 (.cons (.sl (.int .i64)) (.cons (.int .i64) .nil)) := ⟨⟨_, _, rfl, rfl, by kernel_rfl⟩⟩
theorem fdF30x0 : fdInfo Tryd.prog 30 0 = some (0, 27) := by kernel_rfl
theorem fdF30x1 : fdInfo Tryd.prog 30 1 = some (1, 3) := by kernel_rfl
theorem plF30 : plOf Tryd.prog 30 = [(0, 1), (1, 1)] := by kernel_rfl
theorem soF30 : StructOk Tryd.prog 30 (.cons (.sl (.int .i64)) (.cons (.int .i64) .nil)) [(0, 1), (1, 1)] := ⟨⟨Tryd.prog.fieldsOf 30, _, _, by kernel_rfl, rfl, rfl, by kernel_rfl, fun w => by kernel_rfl⟩⟩
theorem ldF31 : ldInfo Tryd.prog 31 = some (false, 1) := by kernel_rfl
theorem ldF32 : ldInfo Tryd.prog 32 = some (false, 1) := by kernel_rfl
theorem ldF34 : ldInfo Tryd.prog 34 = some (false, 1) := by kernel_rfl
theorem ldF35 : ldInfo Tryd.prog 35 = some (false, 1) := by kernel_rfl
theorem ldF36 : ldInfo Tryd.prog 36 = some (false, 1) := by kernel_rfl
theorem tyF37 : tyOf Tryd.prog 8 37 = some (.sl .str) := by kernel_rfl
theorem ldF37 : ldInfo Tryd.prog 37 = some (false, 1) := by kernel_rfl
theorem zoF37 : ZeroOk Tryd.prog 37 (.sl .str) := ⟨⟨_, _, rfl, rfl, by kernel_rfl⟩⟩
theorem elF37 : elemOk Tryd.prog 37 .str := ⟨9, _, by kernel_rfl, rfl, by kernel_rfl⟩
theorem etF37 : elTy Tryd.prog 37 = 9 := by kernel_rfl
theorem ebF37 : elBytes Tryd.prog 37 = 16 := by kernel_rfl
theorem mdF37 : MadeOk Tryd.prog 37 .str := ⟨⟨9, _, _, _, by kernel_rfl, rfl, rfl, by kernel_rfl, fun w S => by simp only [RepD]; rfl⟩⟩
theorem apF37 : AppE Tryd.prog 37 .str := ⟨⟨9, _, _, by kernel_rfl, rfl, by kernel_rfl, by kernel_rfl, rfl, by kernel_rfl⟩⟩
theorem ldF38 : ldInfo Tryd.prog 38 = some (false, 1) := by kernel_rfl
theorem ldF40 : ldInfo Tryd.prog 40 = some (false, 1) := by kernel_rfl
theorem ldF41 : ldInfo Tryd.prog 41 = some (false, 1) := by kernel_rfl
theorem ldF42 : ldInfo Tryd.prog 42 = some (false, 1) := by kernel_rfl
theorem tyF43 : tyOf Tryd.prog 8 43 = some (.sl (.int .u16)) := by kernel_rfl
theorem ldF43 : ldInfo Tryd.prog 43 = some (false, 1) := by kernel_rfl
theorem zoF43 : ZeroOk Tryd.prog 43 (.sl (.int .u16)) := ⟨⟨_, _, rfl, rfl, by kernel_rfl⟩⟩
theorem elF43 : elemOk Tryd.prog 43 (.int .u16) := ⟨44, _, by kernel_rfl, rfl, by kernel_rfl⟩
theorem etF43 : elTy Tryd.prog 43 = 44 := by kernel_rfl
theorem ebF43 : elBytes Tryd.prog 43 = 2 := by kernel_rfl
theorem mdF43 : MadeOk Tryd.prog 43 (.int .u16) := ⟨⟨44, _, _, _, by kernel_rfl, rfl, rfl, by kernel_rfl, fun w S => by simp only [RepD]; rfl⟩⟩
theorem apF43 : AppE Tryd.prog 43 (.int .u16) := ⟨⟨44, _, _, by kernel_rfl, rfl, by kernel_rfl, by kernel_rfl, rfl, by kernel_rfl⟩⟩
theorem tyF44 : tyOf Tryd.prog 8 44 = some (.int .u16) := by kernel_rfl
theorem ldF44 : ldInfo Tryd.prog 44 = some (false, 1) := by kernel_rfl
theorem zoF44 : ZeroOk Tryd.prog 44 (.int .u16) := ⟨⟨_, _, rfl, rfl, by kernel_rfl⟩⟩
theorem ldF45 : ldInfo Tryd.prog 45 = some (false, 1) := by kernel_rfl
theorem ldF46 : ldInfo Tryd.prog 46 = some (false, 1) := by kernel_rfl
theorem ldF47 : ldInfo Tryd.prog 47 = some (false, 1) := by kernel_rfl
theorem ldF48 : ldInfo Tryd.prog 48 = some (false, 1) := by kernel_rfl
theorem ldF49 : ldInfo Tryd.prog 49 = some (false, 1) := by kernel_rfl
theorem ldF50 : ldInfo Tryd.prog 50 = some (true, 4) := by kernel_rfl
theorem fdF50x0 : fdInfo Tryd.prog 50 0 = some (0, 3) := by kernel_rfl
theorem fdF50x1 : fdInfo Tryd.prog 50 1 = some (1, 9) := by kernel_rfl
theorem fdF50x2 : fdInfo Tryd.prog 50 2 = some (2, 9) := by kernel_rfl
theorem fdF50x3 : fdInfo Tryd.prog 50 3 = some (3, 47) := by kernel_rfl
theorem ldF51 : ldInfo Tryd.prog 51 = some (true, 4) := by kernel_rfl
theorem fdF51x0 : fdInfo Tryd.prog 51 0 = some (0, 3) := by kernel_rfl
theorem fdF51x1 : fdInfo Tryd.prog 51 1 = some (1, 9) := by kernel_rfl
theorem fdF51x2 : fdInfo Tryd.prog 51 2 = some (2, 9) := by kernel_rfl
theorem fdF51x3 : fdInfo Tryd.prog 51 3 = some (3, 47) := by kernel_rfl
theorem ldF52 : ldInfo Tryd.prog 52 = some (false, 1) := by kernel_rfl
theorem ldF53 : ldInfo Tryd.prog 53 = some (false, 1) := by kernel_rfl
theorem ldF54 : ldInfo Tryd.prog 54 = some (false, 1) := by kernel_rfl
theorem ldF55 : ldInfo Tryd.prog 55 = some (false, 1) := by kernel_rfl
theorem ldF56 : ldInfo Tryd.prog 56 = some (false, 1) := by kernel_rfl
theorem ldF57 : ldInfo Tryd.prog 57 = some (false, 1) := by kernel_rfl
theorem ldF58 : ldInfo Tryd.prog 58 = some (false, 1) := by kernel_rfl
theorem ldF60 : ldInfo Tryd.prog 60 = some (false, 1) := by kernel_rfl
theorem ldF61 : ldInfo Tryd.prog 61 = some (false, 1) := by kernel_rfl
theorem tyF62 : tyOf Tryd.prog 8 62 = some .ptr := by kernel_rfl
theorem ldF62 : ldInfo Tryd.prog 62 = some (false, 1) := by kernel_rfl
theorem ptF62 : PtrOk Tryd.prog 62 := ⟨⟨64, _, by kernel_rfl, rfl, by decide +kernel⟩⟩
theorem utF62x121 : UnsOk Tryd.prog 62 121 64 0 2 := .to 64 _ (by kernel_rfl) (by kernel_rfl) rfl (by decide +kernel) (by decide)
theorem ufF62x121 : UnsOk Tryd.prog 121 62 64 0 2 := .from 64 _ (by kernel_rfl) (by kernel_rfl) rfl (by kernel_rfl)
theorem zoF62 : ZeroOk Tryd.prog 62 .ptr := ⟨⟨_, _, rfl, rfl, by kernel_rfl⟩⟩
theorem tyF63 : tyOf Tryd.prog 8 63 = some (.cons .ptr (.cons (.sl .u8) .nil)) := by kernel_rfl
theorem ldF63 : ldInfo Tryd.prog 63 = some (true, 2) := by kernel_rfl
theorem zoF63 : ZeroOk Tryd.prog 63 (.cons .ptr (.cons (.sl .u8) .nil)) := ⟨⟨_, _, rfl, rfl, by kernel_rfl⟩⟩
theorem fdF63x0 : fdInfo Tryd.prog 63 0 = some (0, 62) := by kernel_rfl
theorem fdF63x1 : fdInfo Tryd.prog 63 1 = some (1, 22) := by kernel_rfl
theorem plF63 : plOf Tryd.prog 63 = [(0, 1), (1, 1)] := by kernel_rfl
theorem soF63 : StructOk Tryd.prog 63 (.cons .ptr (.cons (.sl .u8) .nil)) [(0, 1), (1, 1)] := ⟨⟨Tryd.prog.fieldsOf 63, _, _, by kernel_rfl, rfl, rfl, by kernel_rfl, fun w => by kernel_rfl⟩⟩
theorem tyF64 : tyOf Tryd.prog 8 64 = some (.cons .ptr (.cons (.sl .u8) .nil)) := by kernel_rfl
theorem ldF64 : ldInfo Tryd.prog 64 = some (true, 2) := by kernel_rfl
theorem zoF64 : ZeroOk Tryd.prog 64 (.cons .ptr (.cons (.sl .u8) .nil)) := ⟨⟨_, _, rfl, rfl, by kernel_rfl⟩⟩
theorem fdF64x0 : fdInfo Tryd.prog 64 0 = some (0, 62) := by kernel_rfl
theorem fdF64x1 : fdInfo Tryd.prog 64 1 = some (1, 22) := by kernel_rfl
theorem plF64 : plOf Tryd.prog 64 = [(0, 1), (1, 1)] := by kernel_rfl
theorem soF64 : StructOk Tryd.prog 64 (.cons .ptr (.cons (.sl .u8) .nil)) [(0, 1), (1, 1)] := ⟨⟨Tryd.prog.fieldsOf 64, _, _, by kernel_rfl, rfl, rfl, by kernel_rfl, fun w => by kernel_rfl⟩⟩
theorem ldF65 : ldInfo Tryd.prog 65 = some (false, 1) := by kernel_rfl
theorem ldF66 : ldInfo Tryd.prog 66 = some (false, 1) := by kernel_rfl
theorem ldF67 : ldInfo Tryd.prog 67 = some (false, 1) := by kernel_rfl
theorem ldF68 : ldInfo Tryd.prog 68 = some (false, 1) := by kernel_rfl
theorem ldF70 : ldInfo Tryd.prog 70 = some (false, 1) := by kernel_rfl
theorem ldF71 : ldInfo Tryd.prog 71 = some (false, 1) := by kernel_rfl
theorem ldF73 : ldInfo Tryd.prog 73 = some (false, 1) := by kernel_rfl
theorem ldF74 : ldInfo Tryd.prog 74 = some (false, 1) := by kernel_rfl
theorem ldF75 : ldInfo Tryd.prog 75 = some (false, 1) := by kernel_rfl
theorem ldF76 : ldInfo Tryd.prog 76 = some (false, 1) := by kernel_rfl
theorem ldF78 : ldInfo Tryd.prog 78 = some (false, 1) := by kernel_rfl
theorem tyF79 : tyOf Tryd.prog 8 79 = some .ptr := by kernel_rfl
theorem ldF79 : ldInfo Tryd.prog 79 = some (false, 1) := by kernel_rfl
theorem ptF79 : PtrOk Tryd.prog 79 := ⟨⟨83, _, by kernel_rfl, rfl, by decide +kernel⟩⟩
theorem zoF79 : ZeroOk Tryd.prog 79 .ptr := ⟨⟨_, _, rfl, rfl, by kernel_rfl⟩⟩
theorem ldF80 : ldInfo Tryd.prog 80 = some (false, 1) := by kernel_rfl
theorem tyF81 : tyOf Tryd.prog 8 81 = some (.sl (.cons .u8 (.cons (.int .i64) (.cons .bool (.cons .bool .nil))))) := by kernel_rfl
theorem ldF81 : ldInfo Tryd.prog 81 = some (false, 1) := by kernel_rfl
theorem zoF81 : ZeroOk Tryd.prog 81 (.sl (.cons .u8 (.cons (.int .i64) (.cons .bool (.cons .bool .nil))))) := ⟨⟨_, _, rfl, rfl, by kernel_rfl⟩⟩
theorem elF81 : elemOk Tryd.prog 81 (.cons .u8 (.cons (.int .i64) (.cons .bool (.cons .bool .nil)))) := ⟨104, _, by kernel_rfl, rfl, by kernel_rfl⟩
theorem etF81 : elTy Tryd.prog 81 = 104 := by kernel_rfl
theorem ebF81 : elBytes Tryd.prog 81 = 24 := by kernel_rfl
theorem apF81 : AppE Tryd.prog 81 (.cons .u8 (.cons (.int .i64) (.cons .bool (.cons .bool .nil)))) := ⟨⟨104, _, _, by kernel_rfl, rfl, by kernel_rfl, by kernel_rfl, rfl, by kernel_rfl⟩⟩
theorem ldF82 : ldInfo Tryd.prog 82 = some (true, 7) := by kernel_rfl
theorem fdF82x0 : fdInfo Tryd.prog 82 0 = some (0, 9) := by kernel_rfl
theorem fdF82x1 : fdInfo Tryd.prog 82 1 = some (1, 4) := by kernel_rfl
theorem fdF82x2 : fdInfo Tryd.prog 82 2 = some (2, 3) := by kernel_rfl
theorem fdF82x3 : fdInfo Tryd.prog 82 3 = some (3, 64) := by kernel_rfl
theorem fdF82x4 : fdInfo Tryd.prog 82 4 = some (5, 80) := by kernel_rfl
theorem fdF82x5 : fdInfo Tryd.prog 82 5 = some (6, 81) := by kernel_rfl
theorem ldF83 : ldInfo Tryd.prog 83 = some (true, 7) := by kernel_rfl
theorem fdF83x0 : fdInfo Tryd.prog 83 0 = some (0, 9) := by kernel_rfl
theorem fdF83x1 : fdInfo Tryd.prog 83 1 = some (1, 4) := by kernel_rfl
theorem fdF83x2 : fdInfo Tryd.prog 83 2 = some (2, 3) := by kernel_rfl
theorem fdF83x3 : fdInfo Tryd.prog 83 3 = some (3, 64) := by kernel_rfl
theorem fdF83x4 : fdInfo Tryd.prog 83 4 = some (5, 80) := by kernel_rfl
theorem fdF83x5 : fdInfo Tryd.prog 83 5 = some (6, 81) := by kernel_rfl
theorem ldF84 : ldInfo Tryd.prog 84 = some (false, 1) := by kernel_rfl
theorem ldF85 : ldInfo Tryd.prog 85 = some (false, 1) := by kernel_rfl
theorem ldF86 : ldInfo Tryd.prog 86 = some (false, 1) := by kernel_rfl
theorem tyF87 : tyOf Tryd.prog 8 87 = some .ptr := by kernel_rfl
theorem ldF87 : ldInfo Tryd.prog 87 = some (false, 1) := by kernel_rfl
theorem ptF87 : PtrOk Tryd.prog 87 := ⟨⟨5, _, by kernel_rfl, rfl, by decide +kernel⟩⟩
theorem zoF87 : ZeroOk Tryd.prog 87 .ptr := ⟨⟨_, _, rfl, rfl, by kernel_rfl⟩⟩
theorem ldF88 : ldInfo Tryd.prog 88 = some (false, 1) := by kernel_rfl
theorem ldF89 : ldInfo Tryd.prog 89 = some (false, 1) := by kernel_rfl
theorem ldF90 : ldInfo Tryd.prog 90 = some (true, 256) := by kernel_rfl
theorem ldF91 : ldInfo Tryd.prog 91 = some (true, 256) := by kernel_rfl
theorem ldF93 : ldInfo Tryd.prog 93 = some (false, 1) := by kernel_rfl
theorem ldF94 : ldInfo Tryd.prog 94 = some (false, 1) := by kernel_rfl
theorem tyF95 : tyOf Tryd.prog 8 95 = some .ptr := by kernel_rfl
theorem ldF95 : ldInfo Tryd.prog 95 = some (false, 1) := by kernel_rfl
theorem ptF95 : PtrOk Tryd.prog 95 := ⟨⟨91, _, by kernel_rfl, rfl, by decide +kernel⟩⟩
theorem zoF95 : ZeroOk Tryd.prog 95 .ptr := ⟨⟨_, _, rfl, rfl, by kernel_rfl⟩⟩
theorem tyF96 : tyOf Tryd.prog 8 96 = some (.sl (.int .i32)) := by kernel_rfl
theorem ldF96 : ldInfo Tryd.prog 96 = some (false, 1) := by kernel_rfl
theorem zoF96 : ZeroOk Tryd.prog 96 (.sl (.int .i32)) := ⟨⟨_, _, rfl, rfl, by kernel_rfl⟩⟩
theorem elF96 : elemOk Tryd.prog 96 (.int .i32) := ⟨21, _, by kernel_rfl, rfl, by kernel_rfl⟩
theorem etF96 : elTy Tryd.prog 96 = 21 := by kernel_rfl
theorem ebF96 : elBytes Tryd.prog 96 = 4 := by kernel_rfl
theorem mdF96 : MadeOk Tryd.prog 96 (.int .i32) := ⟨⟨21, _, _, _, by kernel_rfl, rfl, rfl, by kernel_rfl, fun w S => by simp only [RepD]; rfl⟩⟩
theorem apF96 : AppE Tryd.prog 96 (.int .i32) := ⟨⟨21, _, _, by kernel_rfl, rfl, by kernel_rfl, by kernel_rfl, rfl, by kernel_rfl⟩⟩
theorem ldF97 : ldInfo Tryd.prog 97 = some (false, 1) := by kernel_rfl
theorem ldF98 : ldInfo Tryd.prog 98 = some (false, 1) := by kernel_rfl
theorem ldF99 : ldInfo Tryd.prog 99 = some (false, 1) := by kernel_rfl
theorem ldF100 : ldInfo Tryd.prog 100 = some (true, 5) := by kernel_rfl
theorem fdF100x0 : fdInfo Tryd.prog 100 0 = some (0, 51) := by kernel_rfl
theorem fdF100x1 : fdInfo Tryd.prog 100 1 = some (4, 3) := by kernel_rfl
theorem ldF101 : ldInfo Tryd.prog 101 = some (true, 5) := by kernel_rfl
theorem fdF101x0 : fdInfo Tryd.prog 101 0 = some (0, 51) := by kernel_rfl
theorem fdF101x1 : fdInfo Tryd.prog 101 1 = some (4, 3) := by kernel_rfl
theorem tyF102 : tyOf Tryd.prog 8 102 = some (.sl (.sl (.int .i64))) := by kernel_rfl
theorem ldF102 : ldInfo Tryd.prog 102 = some (false, 1) := by kernel_rfl
theorem zoF102 : ZeroOk Tryd.prog 102 (.sl (.sl (.int .i64))) := ⟨⟨_, _, rfl, rfl, by kernel_rfl⟩⟩
theorem elF102 : elemOk Tryd.prog 102 (.sl (.int .i64)) := ⟨27, _, by kernel_rfl, rfl, by kernel_rfl⟩
theorem etF102 : elTy Tryd.prog 102 = 27 := by kernel_rfl
theorem ebF102 : elBytes Tryd.prog 102 = 24 := by kernel_rfl
theorem apF102 : AppE Tryd.prog 102 (.sl (.int .i64)) := ⟨⟨27, _, _, by kernel_rfl, rfl, by kernel_rfl, by kernel_rfl, rfl, by kernel_rfl⟩⟩
theorem tyF103 : tyOf Tryd.prog 8 103 = some (.cons .u8 (.cons (.int .i64) (.cons .bool (.cons .bool .nil)))) := by kernel_rfl
theorem ldF103 : ldInfo Tryd.prog 103 = some (true, 4) := by kernel_rfl
theorem zoF103 : ZeroOk Tryd.prog 103 (.cons .u8 (.cons (.int .i64) (.cons .bool (.cons .bool .nil)))) := ⟨⟨_, _, rfl, rfl, by kernel_rfl⟩⟩
theorem fdF103x0 : fdInfo Tryd.prog 103 0 = some (0, 5) := by kernel_rfl
theorem fdF103x1 : fdInfo Tryd.prog 103 1 = some (1, 3) := by kernel_rfl
theorem fdF103x2 : fdInfo Tryd.prog 103 2 = some (2, 4) := by kernel_rfl
theorem fdF103x3 : fdInfo Tryd.prog 103 3 = some (3, 4) := by kernel_rfl
theorem plF103 : plOf Tryd.prog 103 = [(0, 1), (1, 1), (2, 1), (3, 1)] := by kernel_rfl
theorem soF103 : StructOk Tryd.prog 103 (.cons .u8 (.cons (.int .i64) (.cons .bool (.cons .bool .nil)))) [(0, 1), (1, 1), (2, 1), (3, 1)] := ⟨⟨Tryd.prog.fieldsOf 103, _, _, by kernel_rfl, rfl, rfl, by kernel_rfl, fun w => by kernel_rfl⟩⟩
theorem tyF104 : tyOf Tryd.prog 8 104 = some (.cons .u8 (.cons (.int .i64) (.cons .bool (.cons .bool .nil)))) := by kernel_rfl
theorem ldF104 : ldInfo Tryd.prog 104 = some (true, 4) := by kernel_rfl
theorem zoF104 : ZeroOk Tryd.prog 104 (.cons .u8 (.cons (.int .i64) (.cons .bool (.cons .bool .nil)))) := ⟨⟨_, _, rfl, rfl, by kernel_rfl⟩⟩
theorem fdF104x0 : fdInfo Tryd.prog 104 0 = some (0, 5) := by kernel_rfl
theorem fdF104x1 : fdInfo Tryd.prog 104 1 = some (1, 3) := by kernel_rfl
theorem fdF104x2 : fdInfo Tryd.prog 104 2 = some (2, 4) := by kernel_rfl
theorem fdF104x3 : fdInfo Tryd.prog 104 3 = some (3, 4) := by kernel_rfl
theorem plF104 : plOf Tryd.prog 104 = [(0, 1), (1, 1), (2, 1), (3, 1)] := by kernel_rfl
theorem eqF104 : EqOk Tryd.prog 104 [.u8, (.int .i64), .bool, .bool] := ⟨⟨Tryd.prog.fieldsOf 104, by kernel_rfl, by kernel_rfl, by kernel_rfl, by kernel_rfl⟩⟩
theorem soF104 : StructOk Tryd.prog 104 (.cons .u8 (.cons (.int .i64) (.cons .bool (.cons .bool .nil)))) [(0, 1), (1, 1), (2, 1), (3, 1)] := ⟨⟨Tryd.prog.fieldsOf 104, _, _, by kernel_rfl, rfl, rfl, by kernel_rfl, fun w => by kernel_rfl⟩⟩
theorem tyF105 : tyOf Tryd.prog 8 105 = some (.sl (.cons (.int .i64) (.cons (.int .i64) (.cons (.int .i64) .nil)))) := by kernel_rfl
theorem ldF105 : ldInfo Tryd.prog 105 = some (false, 1) := by kernel_rfl
theorem zoF105 : ZeroOk Tryd.prog 105 (.sl (.cons (.int .i64) (.cons (.int .i64) (.cons (.int .i64) .nil)))) := ⟨⟨_, _, rfl, rfl, by kernel_rfl⟩⟩
theorem elF105 : elemOk Tryd.prog 105 (.cons (.int .i64) (.cons (.int .i64) (.cons (.int .i64) .nil))) := ⟨108, _, by kernel_rfl, rfl, by kernel_rfl⟩
theorem etF105 : elTy Tryd.prog 105 = 108 := by kernel_rfl
theorem ebF105 : elBytes Tryd.prog 105 = 24 := by kernel_rfl
theorem apF105 : AppE Tryd.prog 105 (.cons (.int .i64) (.cons (.int .i64) (.cons (.int .i64) .nil))) := ⟨⟨108, _, _, by kernel_rfl, rfl, by kernel_rfl, by kernel_rfl, rfl, by kernel_rfl⟩⟩
theorem ldF106 : ldInfo Tryd.prog 106 = some (false, 1) := by kernel_rfl
theorem tyF107 : tyOf Tryd.prog 8 107 = some (.cons (.int .i64) (.cons (.int .i64) (.cons (.int .i64) .nil))) := by kernel_rfl
theorem ldF107 : ldInfo Tryd.prog 107 = some (true, 3) := by kernel_rfl
theorem zoF107 : ZeroOk Tryd.prog 107 (.cons (.int .i64) (.cons (.int .i64) (.cons (.int .i64) .nil))) := ⟨⟨_, _, rfl, rfl, by kernel_rfl⟩⟩
theorem fdF107x0 : fdInfo Tryd.prog 107 0 = some (0, 3) := by kernel_rfl
theorem fdF107x1 : fdInfo Tryd.prog 107 1 = some (1, 3) := by kernel_rfl
theorem fdF107x2 : fdInfo Tryd.prog 107 2 = some (2, 3) := by kernel_rfl
theorem plF107 : plOf Tryd.prog 107 = [(0, 1), (1, 1), (2, 1)] := by kernel_rfl
theorem soF107 : StructOk Tryd.prog 107 (.cons (.int .i64) (.cons (.int .i64) (.cons (.int .i64) .nil))) [(0, 1), (1, 1), (2, 1)] := ⟨⟨Tryd.prog.fieldsOf 107, _, _, by kernel_rfl, rfl, rfl, by kernel_rfl, fun w => by kernel_rfl⟩⟩
theorem tyF108 : tyOf Tryd.prog 8 108 = some (.cons (.int .i64) (.cons (.int .i64) (.cons (.int .i64) .nil))) := by kernel_rfl
theorem ldF108 : ldInfo Tryd.prog 108 = some (true, 3) := by kernel_rfl
theorem zoF108 : ZeroOk Tryd.prog 108 (.cons (.int .i64) (.cons (.int .i64) (.cons (.int .i64) .nil))) := ⟨⟨_, _, rfl, rfl, by kernel_rfl⟩⟩
theorem fdF108x0 : fdInfo Tryd.prog 108 0 = some (0, 3) := by kernel_rfl
theorem fdF108x1 : fdInfo Tryd.prog 108 1 = some (1, 3) := by kernel_rfl
theorem fdF108x2 : fdInfo Tryd.prog 108 2 = some (2, 3) := by kernel_rfl
theorem plF108 : plOf Tryd.prog 108 = [(0, 1), (1, 1), (2, 1)] := by kernel_rfl
theorem eqF108 : EqOk Tryd.prog 108 [(.int .i64), (.int .i64), (.int .i64)] := ⟨⟨Tryd.prog.fieldsOf 108, by kernel_rfl, by kernel_rfl, by kernel_rfl, by kernel_rfl⟩⟩
theorem soF108 : StructOk Tryd.prog 108 (.cons (.int .i64) (.cons (.int .i64) (.cons (.int .i64) .nil))) [(0, 1), (1, 1), (2, 1)] := ⟨⟨Tryd.prog.fieldsOf 108, _, _, by kernel_rfl, rfl, rfl, by kernel_rfl, fun w => by kernel_rfl⟩⟩
theorem ldF109 : ldInfo Tryd.prog 109 = some (true, 2) := by kernel_rfl
theorem fdF109x0 : fdInfo Tryd.prog 109 0 = some (0, 3) := by kernel_rfl
theorem fdF109x1 : fdInfo Tryd.prog 109 1 = some (1, 47) := by kernel_rfl
theorem ldF110 : ldInfo Tryd.prog 110 = some (true, 2) := by kernel_rfl
theorem fdF110x0 : fdInfo Tryd.prog 110 0 = some (0, 3) := by kernel_rfl
theorem fdF110x1 : fdInfo Tryd.prog 110 1 = some (1, 47) := by kernel_rfl
theorem ldF111 : ldInfo Tryd.prog 111 = some (false, 1) := by kernel_rfl
theorem ldF112 : ldInfo Tryd.prog 112 = some (false, 1) := by kernel_rfl
theorem ldF113 : ldInfo Tryd.prog 113 = some (false, 1) := by kernel_rfl
theorem ldF114 : ldInfo Tryd.prog 114 = some (false, 1) := by kernel_rfl
theorem ldF115 : ldInfo Tryd.prog 115 = some (false, 1) := by kernel_rfl
theorem ldF116 : ldInfo Tryd.prog 116 = some (false, 1) := by kernel_rfl
theorem ldF117 : ldInfo Tryd.prog 117 = some (false, 1) := by kernel_rfl
theorem ldF118 : ldInfo Tryd.prog 118 = some (false, 1) := by kernel_rfl
theorem ldF119 : ldInfo Tryd.prog 119 = some (false, 1) := by kernel_rfl
theorem ldF120 : ldInfo Tryd.prog 120 = some (false, 1) := by kernel_rfl
theorem ldF121 : ldInfo Tryd.prog 121 = some (false, 1) := by kernel_rfl
theorem ldF122 : ldInfo Tryd.prog 122 = some (false, 1) := by kernel_rfl
theorem tyF123 : tyOf Tryd.prog 8 123 = some (.int .u32) := by kernel_rfl
theorem ldF123 : ldInfo Tryd.prog 123 = some (false, 1) := by kernel_rfl
theorem zoF123 : ZeroOk Tryd.prog 123 (.int .u32) := ⟨⟨_, _, rfl, rfl, by kernel_rfl⟩⟩
theorem ldF125 : ldInfo Tryd.prog 125 = some (false, 1) := by kernel_rfl
theorem ldF126 : ldInfo Tryd.prog 126 = some (false, 1) := by kernel_rfl
theorem ldF127 : ldInfo Tryd.prog 127 = some (false, 1) := by kernel_rfl
theorem ldF128 : ldInfo Tryd.prog 128 = some (false, 1) := by kernel_rfl
theorem ldF129 : ldInfo Tryd.prog 129 = some (false, 1) := by kernel_rfl
theorem ldF130 : ldInfo Tryd.prog 130 = some (false, 1) := by kernel_rfl
theorem ldF131 : ldInfo Tryd.prog 131 = some (false, 1) := by kernel_rfl
theorem ldF132 : ldInfo Tryd.prog 132 = some (false, 1) := by kernel_rfl
theorem tyF133 : tyOf Tryd.prog 8 133 = some (.int .u64) := by kernel_rfl
theorem ldF133 : ldInfo Tryd.prog 133 = some (false, 1) := by kernel_rfl
theorem zoF133 : ZeroOk Tryd.prog 133 (.int .u64) := ⟨⟨_, _, rfl, rfl, by kernel_rfl⟩⟩
theorem ldF135 : ldInfo Tryd.prog 135 = some (false, 1) := by kernel_rfl
theorem ldF136 : ldInfo Tryd.prog 136 = some (false, 1) := by kernel_rfl
theorem ldF137 : ldInfo Tryd.prog 137 = some (false, 1) := by kernel_rfl
theorem ldF138 : ldInfo Tryd.prog 138 = some (true, 256) := by kernel_rfl
theorem tyF139 : tyOf Tryd.prog 8 139 = some (.cons .u8 (.cons .u8 .nil)) := by kernel_rfl
theorem ldF139 : ldInfo Tryd.prog 139 = some (true, 2) := by kernel_rfl
theorem zoF139 : ZeroOk Tryd.prog 139 (.cons .u8 (.cons .u8 .nil)) := ⟨⟨_, _, rfl, rfl, by kernel_rfl⟩⟩
theorem fdF139x0 : fdInfo Tryd.prog 139 0 = some (0, 5) := by kernel_rfl
theorem fdF139x1 : fdInfo Tryd.prog 139 1 = some (1, 5) := by kernel_rfl
theorem plF139 : plOf Tryd.prog 139 = [(0, 1), (1, 1)] := by kernel_rfl
theorem soF139 : StructOk Tryd.prog 139 (.cons .u8 (.cons .u8 .nil)) [(0, 1), (1, 1)] := ⟨⟨Tryd.prog.fieldsOf 139, _, _, by kernel_rfl, rfl, rfl, by kernel_rfl, fun w => by kernel_rfl⟩⟩
theorem tyF140 : tyOf Tryd.prog 8 140 = some (.cons .u8 (.cons .u8 .nil)) := by kernel_rfl
theorem ldF140 : ldInfo Tryd.prog 140 = some (true, 2) := by kernel_rfl
theorem zoF140 : ZeroOk Tryd.prog 140 (.cons .u8 (.cons .u8 .nil)) := ⟨⟨_, _, rfl, rfl, by kernel_rfl⟩⟩
theorem fdF140x0 : fdInfo Tryd.prog 140 0 = some (0, 5) := by kernel_rfl
theorem fdF140x1 : fdInfo Tryd.prog 140 1 = some (1, 5) := by kernel_rfl
theorem plF140 : plOf Tryd.prog 140 = [(0, 1), (1, 1)] := by kernel_rfl
theorem soF140 : StructOk Tryd.prog 140 (.cons .u8 (.cons .u8 .nil)) [(0, 1), (1, 1)] := ⟨⟨Tryd.prog.fieldsOf 140, _, _, by kernel_rfl, rfl, rfl, by kernel_rfl, fun w => by kernel_rfl⟩⟩
theorem ldF141 : ldInfo Tryd.prog 141 = some (true, 32) := by kernel_rfl
theorem ldF143 : ldInfo Tryd.prog 143 = some (false, 1) := by kernel_rfl
theorem tyF144 : tyOf Tryd.prog 8 144 = some (.cons .ptr (.cons .ptr (.cons .ptr (.cons .str .nil)))) := by kernel_rfl
theorem ldF144 : ldInfo Tryd.prog 144 = some (true, 4) := by kernel_rfl
theorem zoF144 : ZeroOk Tryd.prog 144 (.cons .ptr (.cons .ptr (.cons .ptr (.cons .str .nil)))) := ⟨⟨_, _, rfl, rfl, by kernel_rfl⟩⟩
theorem fdF144x0 : fdInfo Tryd.prog 144 0 = some (0, 17) := by kernel_rfl
theorem fdF144x1 : fdInfo Tryd.prog 144 1 = some (1, 17) := by kernel_rfl
theorem fdF144x2 : fdInfo Tryd.prog 144 2 = some (2, 17) := by kernel_rfl
theorem fdF144x3 : fdInfo Tryd.prog 144 3 = some (3, 9) := by kernel_rfl
theorem plF144 : plOf Tryd.prog 144 = [(0, 1), (1, 1), (2, 1), (3, 1)] := by kernel_rfl
theorem soF144 : StructOk Tryd.prog 144 (.cons .ptr (.cons .ptr (.cons .ptr (.cons .str .nil)))) [(0, 1), (1, 1), (2, 1), (3, 1)] := ⟨⟨Tryd.prog.fieldsOf 144, _, _, by kernel_rfl, rfl, rfl, by kernel_rfl, fun w => by kernel_rfl⟩⟩
theorem tyF145 : tyOf Tryd.prog 8 145 = some (.cons .ptr (.cons .ptr (.cons .ptr (.cons .str .nil)))) := by kernel_rfl
theorem ldF145 : ldInfo Tryd.prog 145 = some (true, 4) := by kernel_rfl
theorem zoF145 : ZeroOk Tryd.prog 145 (.cons .ptr (.cons .ptr (.cons .ptr (.cons .str .nil)))) := ⟨⟨_, _, rfl, rfl, by kernel_rfl⟩⟩
theorem fdF145x0 : fdInfo Tryd.prog 145 0 = some (0, 17) := by kernel_rfl
theorem fdF145x1 : fdInfo Tryd.prog 145 1 = some (1, 17) := by kernel_rfl
theorem fdF145x2 : fdInfo Tryd.prog 145 2 = some (2, 17) := by kernel_rfl
theorem fdF145x3 : fdInfo Tryd.prog 145 3 = some (3, 9) := by kernel_rfl
theorem plF145 : plOf Tryd.prog 145 = [(0, 1), (1, 1), (2, 1), (3, 1)] := by kernel_rfl
theorem soF145 : StructOk Tryd.prog 145 (.cons .ptr (.cons .ptr (.cons .ptr (.cons .str .nil)))) [(0, 1), (1, 1), (2, 1), (3, 1)] := ⟨⟨Tryd.prog.fieldsOf 145, _, _, by kernel_rfl, rfl, rfl, by kernel_rfl, fun w => by kernel_rfl⟩⟩
theorem ldF146 : ldInfo Tryd.prog 146 = some (true, 0) := by kernel_rfl
theorem ldF147 : ldInfo Tryd.prog 147 = some (true, 0) := by kernel_rfl
theorem ldF148 : ldInfo Tryd.prog 148 = some (true, 0) := by kernel_rfl
theorem tyF149 : tyOf Tryd.prog 8 149 = some .u8 := by kernel_rfl
theorem ldF149 : ldInfo Tryd.prog 149 = some (false, 1) := by kernel_rfl
theorem zoF149 : ZeroOk Tryd.prog 149 .u8 := ⟨⟨_, _, rfl, rfl, by kernel_rfl⟩⟩
theorem tyF150 : tyOf Tryd.prog 8 150 = some .u8 := by kernel_rfl
theorem ldF150 : ldInfo Tryd.prog 150 = some (false, 1) := by kernel_rfl
theorem zoF150 : ZeroOk Tryd.prog 150 .u8 := ⟨⟨_, _, rfl, rfl, by kernel_rfl⟩⟩
theorem ldF151 : ldInfo Tryd.prog 151 = some (false, 1) := by kernel_rfl
theorem tyF152 : tyOf Tryd.prog 8 152 = some (.int .i32) := by kernel_rfl
theorem ldF152 : ldInfo Tryd.prog 152 = some (false, 1) := by kernel_rfl
theorem zoF152 : ZeroOk Tryd.prog 152 (.int .i32) := ⟨⟨_, _, rfl, rfl, by kernel_rfl⟩⟩
theorem tyF153 : tyOf Tryd.prog 8 153 = some (.int .i32) := by kernel_rfl
theorem ldF153 : ldInfo Tryd.prog 153 = some (false, 1) := by kernel_rfl
theorem zoF153 : ZeroOk Tryd.prog 153 (.int .i32) := ⟨⟨_, _, rfl, rfl, by kernel_rfl⟩⟩
theorem ldF154 : ldInfo Tryd.prog 154 = some (true, 11) := by kernel_rfl
theorem fdF154x0 : fdInfo Tryd.prog 154 0 = some (0, 12) := by kernel_rfl
theorem fdF154x1 : fdInfo Tryd.prog 154 1 = some (1, 12) := by kernel_rfl
theorem fdF154x2 : fdInfo Tryd.prog 154 2 = some (2, 123) := by kernel_rfl
theorem fdF154x3 : fdInfo Tryd.prog 154 3 = some (3, 149) := by kernel_rfl
theorem fdF154x4 : fdInfo Tryd.prog 154 4 = some (4, 5) := by kernel_rfl
theorem fdF154x5 : fdInfo Tryd.prog 154 5 = some (5, 5) := by kernel_rfl
theorem fdF154x6 : fdInfo Tryd.prog 154 6 = some (6, 150) := by kernel_rfl
theorem fdF154x7 : fdInfo Tryd.prog 154 7 = some (7, 151) := by kernel_rfl
theorem fdF154x8 : fdInfo Tryd.prog 154 8 = some (8, 87) := by kernel_rfl
theorem fdF154x9 : fdInfo Tryd.prog 154 9 = some (9, 152) := by kernel_rfl
theorem fdF154x10 : fdInfo Tryd.prog 154 10 = some (10, 153) := by kernel_rfl
theorem ldF155 : ldInfo Tryd.prog 155 = some (true, 11) := by kernel_rfl
theorem fdF155x0 : fdInfo Tryd.prog 155 0 = some (0, 12) := by kernel_rfl
theorem fdF155x1 : fdInfo Tryd.prog 155 1 = some (1, 12) := by kernel_rfl
theorem fdF155x2 : fdInfo Tryd.prog 155 2 = some (2, 123) := by kernel_rfl
theorem fdF155x3 : fdInfo Tryd.prog 155 3 = some (3, 149) := by kernel_rfl
theorem fdF155x4 : fdInfo Tryd.prog 155 4 = some (4, 5) := by kernel_rfl
theorem fdF155x5 : fdInfo Tryd.prog 155 5 = some (5, 5) := by kernel_rfl
theorem fdF155x6 : fdInfo Tryd.prog 155 6 = some (6, 150) := by kernel_rfl
theorem fdF155x7 : fdInfo Tryd.prog 155 7 = some (7, 151) := by kernel_rfl
theorem fdF155x8 : fdInfo Tryd.prog 155 8 = some (8, 87) := by kernel_rfl
theorem fdF155x9 : fdInfo Tryd.prog 155 9 = some (9, 152) := by kernel_rfl
theorem fdF155x10 : fdInfo Tryd.prog 155 10 = some (10, 153) := by kernel_rfl
/-- All of them. -/
theorem F : (ldInfo Tryd.prog 1 = some (false, 1)) ∧ (tyOf Tryd.prog 8 2 = some (.int .i64)) ∧ (ldInfo Tryd.prog 2 = some (false, 1)) ∧ (ZeroOk Tryd.prog 2 (.int .i64)) ∧ (tyOf Tryd.prog 8 3 = some (.int .i64)) ∧ (ldInfo Tryd.prog 3 = some (false, 1)) ∧ (ZeroOk Tryd.prog 3 (.int .i64)) ∧ (tyOf Tryd.prog 8 4 = some .bool) ∧ (ldInfo Tryd.prog 4 = some (false, 1)) ∧ (ZeroOk Tryd.prog 4 .bool) ∧ (tyOf Tryd.prog 8 5 = some .u8) ∧ (ldInfo Tryd.prog 5 = some (false, 1)) ∧ (ZeroOk Tryd.prog 5 .u8) ∧ (tyOf Tryd.prog 8 6 = some .u8) ∧ (ldInfo Tryd.prog 6 = some (false, 1)) ∧ (ZeroOk Tryd.prog 6 .u8) ∧ (tyOf Tryd.prog 8 7 = some (.cons (.int .i64) (.cons (.int .i64) (.cons .bool (.cons .u8 .nil))))) ∧ (ldInfo Tryd.prog 7 = some (true, 4)) ∧ (ZeroOk Tryd.prog 7 (.cons (.int .i64) (.cons (.int .i64) (.cons .bool (.cons .u8 .nil))))) ∧ (fdInfo Tryd.prog 7 0 = some (0, 2)) ∧ (fdInfo Tryd.prog 7 1 = some (1, 3)) ∧ (fdInfo Tryd.prog 7 2 = some (2, 4)) ∧ (fdInfo Tryd.prog 7 3 = some (3, 6)) ∧ (plOf Tryd.prog 7 = [(0, 1), (1, 1), (2, 1), (3, 1)]) ∧ (StructOk Tryd.prog 7 (.cons (.int .i64) (.cons (.int .i64) (.cons .bool (.cons .u8 .nil)))) [(0, 1), (1, 1), (2, 1), (3, 1)]) ∧ (tyOf Tryd.prog 8 8 = some (.cons (.int .i64) (.cons (.int .i64) (.cons .bool (.cons .u8 .nil))))) ∧ (ldInfo Tryd.prog 8 = some (true, 4)) ∧ (ZeroOk Tryd.prog 8 (.cons (.int .i64) (.cons (.int .i64) (.cons .bool (.cons .u8 .nil))))) ∧ (fdInfo Tryd.prog 8 0 = some (0, 2)) ∧ (fdInfo Tryd.prog 8 1 = some (1, 3)) ∧ (fdInfo Tryd.prog 8 2 = some (2, 4)) ∧ (fdInfo Tryd.prog 8 3 = some (3, 6)) ∧ (plOf Tryd.prog 8 = [(0, 1), (1, 1), (2, 1), (3, 1)]) ∧ (StructOk Tryd.prog 8 (.cons (.int .i64) (.cons (.int .i64) (.cons .bool (.cons .u8 .nil)))) [(0, 1), (1, 1), (2, 1), (3, 1)]) ∧ (tyOf Tryd.prog 8 9 = some .str) ∧ (ldInfo Tryd.prog 9 = some (false, 1)) ∧ (ZeroOk Tryd.prog 9 .str) ∧ (tyOf Tryd.prog 8 10 = some .str) ∧ (ldInfo Tryd.prog 10 = some (false, 1)) ∧ (ZeroOk Tryd.prog 10 .str) ∧ (tyOf Tryd.prog 8 11 = some .str) ∧ (ldInfo Tryd.prog 11 = some (false, 1)) ∧ (ZeroOk Tryd.prog 11 .str) ∧ (tyOf Tryd.prog 8 12 = some (.int .u64)) ∧ (ldInfo Tryd.prog 12 = some (false, 1)) ∧ (ZeroOk Tryd.prog 12 (.int .u64)) ∧ (tyOf Tryd.prog 8 13 = some (.cons .str (.cons (.int .u64) .nil))) ∧ (ldInfo Tryd.prog 13 = some (true, 2)) ∧ (ZeroOk Tryd.prog 13 (.cons .str (.cons (.int .u64) .nil))) ∧ (fdInfo Tryd.prog 13 0 = some (0, 9)) ∧ (fdInfo Tryd.prog 13 1 = some (1, 12)) ∧ (plOf Tryd.prog 13 = [(0, 1), (1, 1)]) ∧ (StructOk Tryd.prog 13 (.cons .str (.cons (.int .u64) .nil)) [(0, 1), (1, 1)]) ∧ (tyOf Tryd.prog 8 14 = some (.cons .str (.cons (.int .u64) .nil))) ∧ (ldInfo Tryd.prog 14 = some (true, 2)) ∧ (ZeroOk Tryd.prog 14 (.cons .str (.cons (.int .u64) .nil))) ∧ (fdInfo Tryd.prog 14 0 = some (0, 9)) ∧ (fdInfo Tryd.prog 14 1 = some (1, 12)) ∧ (plOf Tryd.prog 14 = [(0, 1), (1, 1)]) ∧ (StructOk Tryd.prog 14 (.cons .str (.cons (.int .u64) .nil)) [(0, 1), (1, 1)]) ∧ (tyOf Tryd.prog 8 15 = some .ptr) ∧ (ldInfo Tryd.prog 15 = some (false, 1)) ∧ (PtrOk Tryd.prog 15) ∧ (ZeroOk Tryd.prog 15 .ptr) ∧ (tyOf Tryd.prog 8 16 = some .ptr) ∧ (ldInfo Tryd.prog 16 = some (false, 1)) ∧ (ZeroOk Tryd.prog 16 .ptr) ∧ (tyOf Tryd.prog 8 17 = some .ptr) ∧ (ldInfo Tryd.prog 17 = some (false, 1)) ∧ (PtrOk Tryd.prog 17) ∧ (ZeroOk Tryd.prog 17 .ptr) ∧ (tyOf Tryd.prog 8 18 = some (.cons .ptr .nil)) ∧ (ldInfo Tryd.prog 18 = some (true, 1)) ∧ (ZeroOk Tryd.prog 18 (.cons .ptr .nil)) ∧ (fdInfo Tryd.prog 18 0 = some (0, 17)) ∧ (plOf Tryd.prog 18 = [(0, 1)]) ∧ (StructOk Tryd.prog 18 (.cons .ptr .nil) [(0, 1)]) ∧ (tyOf Tryd.prog 8 19 = some (.cons .ptr .nil)) ∧ (ldInfo Tryd.prog 19 = some (true, 1)) ∧ (ZeroOk Tryd.prog 19 (.cons .ptr .nil)) ∧ (fdInfo Tryd.prog 19 0 = some (0, 17)) ∧ (plOf Tryd.prog 19 = [(0, 1)]) ∧ (StructOk Tryd.prog 19 (.cons .ptr .nil) [(0, 1)]) ∧ (ldInfo Tryd.prog 20 = some (false, 1)) ∧ (tyOf Tryd.prog 8 21 = some (.int .i32)) ∧ (ldInfo Tryd.prog 21 = some (false, 1)) ∧ (ZeroOk Tryd.prog 21 (.int .i32)) ∧ (tyOf Tryd.prog 8 22 = some (.sl .u8)) ∧ (ldInfo Tryd.prog 22 = some (false, 1)) ∧ (ZeroOk Tryd.prog 22 (.sl .u8)) ∧ (elemOk Tryd.prog 22 .u8) ∧ (elTy Tryd.prog 22 = 5) ∧ (elBytes Tryd.prog 22 = 1) ∧ (MadeOk Tryd.prog 22 .u8) ∧ (AppE Tryd.prog 22 .u8) ∧ (ldInfo Tryd.prog 23 = some (false, 1)) ∧ (ldInfo Tryd.prog 24 = some (false, 1)) ∧ (ldInfo Tryd.prog 25 = some (false, 1)) ∧ (ldInfo Tryd.prog 26 = some (false, 1)) ∧ (tyOf Tryd.prog 8 27 = some (.sl (.int .i64))) ∧ (ldInfo Tryd.prog 27 = some (false, 1)) ∧ (ZeroOk Tryd.prog 27 (.sl (.int .i64))) ∧ (elemOk Tryd.prog 27 (.int .i64)) ∧ (elTy Tryd.prog 27 = 3) ∧ (elBytes Tryd.prog 27 = 8) ∧ (MadeOk Tryd.prog 27 (.int .i64)) ∧ (AppE Tryd.prog 27 (.int .i64)) ∧ (tyOf Tryd.prog 8 28 = some .ptr) ∧ (ldInfo Tryd.prog 28 = some (false, 1)) ∧ (PtrOk Tryd.prog 28) ∧ (ZeroOk Tryd.prog 28 .ptr) ∧ (tyOf Tryd.prog 8 29 = some (.cons (.sl (.int .i64)) (.cons (.int .i64) .nil))) ∧ (ldInfo Tryd.prog 29 = some (true, 2)) ∧ (ZeroOk Tryd.prog 29 (.cons (.sl (.int .i64)) (.cons (.int .i64) .nil))) ∧ (fdInfo Tryd.prog 29 0 = some (0, 27)) ∧ (fdInfo Tryd.prog 29 1 = some (1, 3)) ∧ (plOf Tryd.prog 29 = [(0, 1), (1, 1)]) ∧ (StructOk Tryd.prog 29 (.cons (.sl (.int .i64)) (.cons (.int .i64) .nil)) [(0, 1), (1, 1)]) ∧ (tyOf Tryd.prog 8 30 = some (.cons (.sl (.int .i64)) (.cons (.int .i64) .nil))) ∧ (ldInfo Tryd.prog 30 = some (true, 2)) ∧ (ZeroOk Tryd.prog 30 (.cons (.sl (.int .i64)) (.cons (.int .i64) .nil))) ∧ (fdInfo Tryd.prog 30 0 = some (0, 27)) ∧ (fdInfo Tryd.prog 30 1 = some (1, 3)) ∧ (plOf Tryd.prog 30 = [(0, 1), (1, 1)]) ∧ (StructOk Tryd.prog 30 (.cons (.sl (.int .i64)) (.cons (.int .i64) .nil)) [(0, 1), (1, 1)]) ∧ (ldInfo Tryd.prog 31 = some (false, 1)) ∧ (ldInfo Tryd.prog 32 = some (false, 1)) ∧ (ldInfo Tryd.prog 34 = some (false, 1)) ∧ (ldInfo Tryd.prog 35 = some (false, 1)) ∧ (ldInfo Tryd.prog 36 = some (false, 1)) ∧ (tyOf Tryd.prog 8 37 = some (.sl .str)) ∧ (ldInfo Tryd.prog 37 = some (false, 1)) ∧ (ZeroOk Tryd.prog 37 (.sl .str)) ∧ (elemOk Tryd.prog 37 .str) ∧ (elTy Tryd.prog 37 = 9) ∧ (elBytes Tryd.prog 37 = 16) ∧ (MadeOk Tryd.prog 37 .str) ∧ (AppE Tryd.prog 37 .str) ∧ (ldInfo Tryd.prog 38 = some (false, 1)) ∧ (ldInfo Tryd.prog 40 = some (false, 1)) ∧ (ldInfo Tryd.prog 41 = some (false, 1)) ∧ (ldInfo Tryd.prog 42 = some (false, 1)) ∧ (tyOf Tryd.prog 8 43 = some (.sl (.int .u16))) ∧ (ldInfo Tryd.prog 43 = some (false, 1)) ∧ (ZeroOk Tryd.prog 43 (.sl (.int .u16))) ∧ (elemOk Tryd.prog 43 (.int .u16)) ∧ (elTy Tryd.prog 43 = 44) ∧ (elBytes Tryd.prog 43 = 2) ∧ (MadeOk Tryd.prog 43 (.int .u16)) ∧ (AppE Tryd.prog 43 (.int .u16)) ∧ (tyOf Tryd.prog 8 44 = some (.int .u16)) ∧ (ldInfo Tryd.prog 44 = some (false, 1)) ∧ (ZeroOk Tryd.prog 44 (.int .u16)) ∧ (ldInfo Tryd.prog 45 = some (false, 1)) ∧ (ldInfo Tryd.prog 46 = some (false, 1)) ∧ (ldInfo Tryd.prog 47 = some (false, 1)) ∧ (ldInfo Tryd.prog 48 = some (false, 1)) ∧ (ldInfo Tryd.prog 49 = some (false, 1)) ∧ (ldInfo Tryd.prog 50 = some (true, 4)) ∧ (fdInfo Tryd.prog 50 0 = some (0, 3)) ∧ (fdInfo Tryd.prog 50 1 = some (1, 9)) ∧ (fdInfo Tryd.prog 50 2 = some (2, 9)) ∧ (fdInfo Tryd.prog 50 3 = some (3, 47)) ∧ (ldInfo Tryd.prog 51 = some (true, 4)) ∧ (fdInfo Tryd.prog 51 0 = some (0, 3)) ∧ (fdInfo Tryd.prog 51 1 = some (1, 9)) ∧ (fdInfo Tryd.prog 51 2 = some (2, 9)) ∧ (fdInfo Tryd.prog 51 3 = some (3, 47)) ∧ (ldInfo Tryd.prog 52 = some (false, 1)) ∧ (ldInfo Tryd.prog 53 = some (false, 1)) ∧ (ldInfo Tryd.prog 54 = some (false, 1)) ∧ (ldInfo Tryd.prog 55 = some (false, 1)) ∧ (ldInfo Tryd.prog 56 = some (false, 1)) ∧ (ldInfo Tryd.prog 57 = some (false, 1)) ∧ (ldInfo Tryd.prog 58 = some (false, 1)) ∧ (ldInfo Tryd.prog 60 = some (false, 1)) ∧ (ldInfo Tryd.prog 61 = some (false, 1)) ∧ (tyOf Tryd.prog 8 62 = some .ptr) ∧ (ldInfo Tryd.prog 62 = some (false, 1)) ∧ (PtrOk Tryd.prog 62) ∧ (UnsOk Tryd.prog 62 121 64 0 2) ∧ (UnsOk Tryd.prog 121 62 64 0 2) ∧ (ZeroOk Tryd.prog 62 .ptr) ∧ (tyOf Tryd.prog 8 63 = some (.cons .ptr (.cons (.sl .u8) .nil))) ∧ (ldInfo Tryd.prog 63 = some (true, 2)) ∧ (ZeroOk Tryd.prog 63 (.cons .ptr (.cons (.sl .u8) .nil))) ∧ (fdInfo Tryd.prog 63 0 = some (0, 62)) ∧ (fdInfo Tryd.prog 63 1 = some (1, 22)) ∧ (plOf Tryd.prog 63 = [(0, 1), (1, 1)]) ∧ (StructOk Tryd.prog 63 (.cons .ptr (.cons (.sl .u8) .nil)) [(0, 1), (1, 1)]) ∧ (tyOf Tryd.prog 8 64 = some (.cons .ptr (.cons (.sl .u8) .nil))) ∧ (ldInfo Tryd.prog 64 = some (true, 2)) ∧ (ZeroOk Tryd.prog 64 (.cons .ptr (.cons (.sl .u8) .nil))) ∧ (fdInfo Tryd.prog 64 0 = some (0, 62)) ∧ (fdInfo Tryd.prog 64 1 = some (1, 22)) ∧ (plOf Tryd.prog 64 = [(0, 1), (1, 1)]) ∧ (StructOk Tryd.prog 64 (.cons .ptr (.cons (.sl .u8) .nil)) [(0, 1), (1, 1)]) ∧ (ldInfo Tryd.prog 65 = some (false, 1)) ∧ (ldInfo Tryd.prog 66 = some (false, 1)) ∧ (ldInfo Tryd.prog 67 = some (false, 1)) ∧ (ldInfo Tryd.prog 68 = some (false, 1)) ∧ (ldInfo Tryd.prog 70 = some (false, 1)) ∧ (ldInfo Tryd.prog 71 = some (false, 1)) ∧ (ldInfo Tryd.prog 73 = some (false, 1)) ∧ (ldInfo Tryd.prog 74 = some (false, 1)) ∧ (ldInfo Tryd.prog 75 = some (false, 1)) ∧ (ldInfo Tryd.prog 76 = some (false, 1)) ∧ (ldInfo Tryd.prog 78 = some (false, 1)) ∧ (tyOf Tryd.prog 8 79 = some .ptr) ∧ (ldInfo Tryd.prog 79 = some (false, 1)) ∧ (PtrOk Tryd.prog 79) ∧ (ZeroOk Tryd.prog 79 .ptr) ∧ (ldInfo Tryd.prog 80 = some (false, 1)) ∧ (tyOf Tryd.prog 8 81 = some (.sl (.cons .u8 (.cons (.int .i64) (.cons .bool (.cons .bool .nil)))))) ∧ (ldInfo Tryd.prog 81 = some (false, 1)) ∧ (ZeroOk Tryd.prog 81 (.sl (.cons .u8 (.cons (.int .i64) (.cons .bool (.cons .bool .nil)))))) ∧ (elemOk Tryd.prog 81 (.cons .u8 (.cons (.int .i64) (.cons .bool (.cons .bool .nil))))) ∧ (elTy Tryd.prog 81 = 104) ∧ (elBytes Tryd.prog 81 = 24) ∧ (AppE Tryd.prog 81 (.cons .u8 (.cons (.int .i64) (.cons .bool (.cons .bool .nil))))) ∧ (ldInfo Tryd.prog 82 = some (true, 7)) ∧ (fdInfo Tryd.prog 82 0 = some (0, 9)) ∧ (fdInfo Tryd.prog 82 1 = some (1, 4)) ∧ (fdInfo Tryd.prog 82 2 = some (2, 3)) ∧ (fdInfo Tryd.prog 82 3 = some (3, 64)) ∧ (fdInfo Tryd.prog 82 4 = some (5, 80)) ∧ (fdInfo Tryd.prog 82 5 = some (6, 81)) ∧ (ldInfo Tryd.prog 83 = some (true, 7)) ∧ (fdInfo Tryd.prog 83 0 = some (0, 9)) ∧ (fdInfo Tryd.prog 83 1 = some (1, 4)) ∧ (fdInfo Tryd.prog 83 2 = some (2, 3)) ∧ (fdInfo Tryd.prog 83 3 = some (3, 64)) ∧ (fdInfo Tryd.prog 83 4 = some (5, 80)) ∧ (fdInfo Tryd.prog 83 5 = some (6, 81)) ∧ (ldInfo Tryd.prog 84 = some (false, 1)) ∧ (ldInfo Tryd.prog 85 = some (false, 1)) ∧ (ldInfo Tryd.prog 86 = some (false, 1)) ∧ (tyOf Tryd.prog 8 87 = some .ptr) ∧ (ldInfo Tryd.prog 87 = some (false, 1)) ∧ (PtrOk Tryd.prog 87) ∧ (ZeroOk Tryd.prog 87 .ptr) ∧ (ldInfo Tryd.prog 88 = some (false, 1)) ∧ (ldInfo Tryd.prog 89 = some (false, 1)) ∧ (ldInfo Tryd.prog 90 = some (true, 256)) ∧ (ldInfo Tryd.prog 91 = some (true, 256)) ∧ (ldInfo Tryd.prog 93 = some (false, 1)) ∧ (ldInfo Tryd.prog 94 = some (false, 1)) ∧ (tyOf Tryd.prog 8 95 = some .ptr) ∧ (ldInfo Tryd.prog 95 = some (false, 1)) ∧ (PtrOk Tryd.prog 95) ∧ (ZeroOk Tryd.prog 95 .ptr) ∧ (tyOf Tryd.prog 8 96 = some (.sl (.int .i32))) ∧ (ldInfo Tryd.prog 96 = some (false, 1)) ∧ (ZeroOk Tryd.prog 96 (.sl (.int .i32))) ∧ (elemOk Tryd.prog 96 (.int .i32)) ∧ (elTy Tryd.prog 96 = 21) ∧ (elBytes Tryd.prog 96 = 4) ∧ (MadeOk Tryd.prog 96 (.int .i32)) ∧ (AppE Tryd.prog 96 (.int .i32)) ∧ (ldInfo Tryd.prog 97 = some (false, 1)) ∧ (ldInfo Tryd.prog 98 = some (false, 1)) ∧ (ldInfo Tryd.prog 99 = some (false, 1)) ∧ (ldInfo Tryd.prog 100 = some (true, 5)) ∧ (fdInfo Tryd.prog 100 0 = some (0, 51)) ∧ (fdInfo Tryd.prog 100 1 = some (4, 3)) ∧ (ldInfo Tryd.prog 101 = some (true, 5)) ∧ (fdInfo Tryd.prog 101 0 = some (0, 51)) ∧ (fdInfo Tryd.prog 101 1 = some (4, 3)) ∧ (tyOf Tryd.prog 8 102 = some (.sl (.sl (.int .i64)))) ∧ (ldInfo Tryd.prog 102 = some (false, 1)) ∧ (ZeroOk Tryd.prog 102 (.sl (.sl (.int .i64)))) ∧ (elemOk Tryd.prog 102 (.sl (.int .i64))) ∧ (elTy Tryd.prog 102 = 27) ∧ (elBytes Tryd.prog 102 = 24) ∧ (AppE Tryd.prog 102 (.sl (.int .i64))) ∧ (tyOf Tryd.prog 8 103 = some (.cons .u8 (.cons (.int .i64) (.cons .bool (.cons .bool .nil))))) ∧ (ldInfo Tryd.prog 103 = some (true, 4)) ∧ (ZeroOk Tryd.prog 103 (.cons .u8 (.cons (.int .i64) (.cons .bool (.cons .bool .nil))))) ∧ (fdInfo Tryd.prog 103 0 = some (0, 5)) ∧ (fdInfo Tryd.prog 103 1 = some (1, 3)) ∧ (fdInfo Tryd.prog 103 2 = some (2, 4)) ∧ (fdInfo Tryd.prog 103 3 = some (3, 4)) ∧ (plOf Tryd.prog 103 = [(0, 1), (1, 1), (2, 1), (3, 1)]) ∧ (StructOk Tryd.prog 103 (.cons .u8 (.cons (.int .i64) (.cons .bool (.cons .bool .nil)))) [(0, 1), (1, 1), (2, 1), (3, 1)]) ∧ (tyOf Tryd.prog 8 104 = some (.cons .u8 (.cons (.int .i64) (.cons .bool (.cons .bool .nil))))) ∧ (ldInfo Tryd.prog 104 = some (true, 4)) ∧ (ZeroOk Tryd.prog 104 (.cons .u8 (.cons (.int .i64) (.cons .bool (.cons .bool .nil))))) ∧ (fdInfo Tryd.prog 104 0 = some (0, 5)) ∧ (fdInfo Tryd.prog 104 1 = some (1, 3)) ∧ (fdInfo Tryd.prog 104 2 = some (2, 4)) ∧ (fdInfo Tryd.prog 104 3 = some (3, 4)) ∧ (plOf Tryd.prog 104 = [(0, 1), (1, 1), (2, 1), (3, 1)]) ∧ (EqOk Tryd.prog 104 [.u8, (.int .i64), .bool, .bool]) ∧ (StructOk Tryd.prog 104 (.cons .u8 (.cons (.int .i64) (.cons .bool (.cons .bool .nil)))) [(0, 1), (1, 1), (2, 1), (3, 1)]) ∧ (tyOf Tryd.prog 8 105 = some (.sl (.cons (.int .i64) (.cons (.int .i64) (.cons (.int .i64) .nil))))) ∧ (ldInfo Tryd.prog 105 = some (false, 1)) ∧ (ZeroOk Tryd.prog 105 (.sl (.cons (.int .i64) (.cons (.int .i64) (.cons (.int .i64) .nil))))) ∧ (elemOk Tryd.prog 105 (.cons (.int .i64) (.cons (.int .i64) (.cons (.int .i64) .nil)))) ∧ (elTy Tryd.prog 105 = 108) ∧ (elBytes Tryd.prog 105 = 24) ∧ (AppE Tryd.prog 105 (.cons (.int .i64) (.cons (.int .i64) (.cons (.int .i64) .nil)))) ∧ (ldInfo Tryd.prog 106 = some (false, 1)) ∧ (tyOf Tryd.prog 8 107 = some (.cons (.int .i64) (.cons (.int .i64) (.cons (.int .i64) .nil)))) ∧ (ldInfo Tryd.prog 107 = some (true, 3)) ∧ (ZeroOk Tryd.prog 107 (.cons (.int .i64) (.cons (.int .i64) (.cons (.int .i64) .nil)))) ∧ (fdInfo Tryd.prog 107 0 = some (0, 3)) ∧ (fdInfo Tryd.prog 107 1 = some (1, 3)) ∧ (fdInfo Tryd.prog 107 2 = some (2, 3)) ∧ (plOf Tryd.prog 107 = [(0, 1), (1, 1), (2, 1)]) ∧ (StructOk Tryd.prog 107 (.cons (.int .i64) (.cons (.int .i64) (.cons (.int .i64) .nil))) [(0, 1), (1, 1), (2, 1)]) ∧ (tyOf Tryd.prog 8 108 = some (.cons (.int .i64) (.cons (.int .i64) (.cons (.int .i64) .nil)))) ∧ (ldInfo Tryd.prog 108 = some (true, 3)) ∧ (ZeroOk Tryd.prog 108 (.cons (.int .i64) (.cons (.int .i64) (.cons (.int .i64) .nil)))) ∧ (fdInfo Tryd.prog 108 0 = some (0, 3)) ∧ (fdInfo Tryd.prog 108 1 = some (1, 3)) ∧ (fdInfo Tryd.prog 108 2 = some (2, 3)) ∧ (plOf Tryd.prog 108 = [(0, 1), (1, 1), (2, 1)]) ∧ (EqOk Tryd.prog 108 [(.int .i64), (.int .i64), (.int .i64)]) ∧ (StructOk Tryd.prog 108 (.cons (.int .i64) (.cons (.int .i64) (.cons (.int .i64) .nil))) [(0, 1), (1, 1), (2, 1)]) ∧ (ldInfo Tryd.prog 109 = some (true, 2)) ∧ (fdInfo Tryd.prog 109 0 = some (0, 3)) ∧ (fdInfo Tryd.prog 109 1 = some (1, 47)) ∧ (ldInfo Tryd.prog 110 = some (true, 2)) ∧ (fdInfo Tryd.prog 110 0 = some (0, 3)) ∧ (fdInfo Tryd.prog 110 1 = some (1, 47)) ∧ (ldInfo Tryd.prog 111 = some (false, 1)) ∧ (ldInfo Tryd.prog 112 = some (false, 1)) ∧ (ldInfo Tryd.prog 113 = some (false, 1)) ∧ (ldInfo Tryd.prog 114 = some (false, 1)) ∧ (ldInfo Tryd.prog 115 = some (false, 1)) ∧ (ldInfo Tryd.prog 116 = some (false, 1)) ∧ (ldInfo Tryd.prog 117 = some (false, 1)) ∧ (ldInfo Tryd.prog 118 = some (false, 1)) ∧ (ldInfo Tryd.prog 119 = some (false, 1)) ∧ (ldInfo Tryd.prog 120 = some (false, 1)) ∧ (ldInfo Tryd.prog 121 = some (false, 1)) ∧ (ldInfo Tryd.prog 122 = some (false, 1)) ∧ (tyOf Tryd.prog 8 123 = some (.int .u32)) ∧ (ldInfo Tryd.prog 123 = some (false, 1)) ∧ (ZeroOk Tryd.prog 123 (.int .u32)) ∧ (ldInfo Tryd.prog 125 = some (false, 1)) ∧ (ldInfo Tryd.prog 126 = some (false, 1)) ∧ (ldInfo Tryd.prog 127 = some (false, 1)) ∧ (ldInfo Tryd.prog 128 = some (false, 1)) ∧ (ldInfo Tryd.prog 129 = some (false, 1)) ∧ (ldInfo Tryd.prog 130 = some (false, 1)) ∧ (ldInfo Tryd.prog 131 = some (false, 1)) ∧ (ldInfo Tryd.prog 132 = some (false, 1)) ∧ (tyOf Tryd.prog 8 133 = some (.int .u64)) ∧ (ldInfo Tryd.prog 133 = some (false, 1)) ∧ (ZeroOk Tryd.prog 133 (.int .u64)) ∧ (ldInfo Tryd.prog 135 = some (false, 1)) ∧ (ldInfo Tryd.prog 136 = some (false, 1)) ∧ (ldInfo Tryd.prog 137 = some (false, 1)) ∧ (ldInfo Tryd.prog 138 = some (true, 256)) ∧ (tyOf Tryd.prog 8 139 = some (.cons .u8 (.cons .u8 .nil))) ∧ (ldInfo Tryd.prog 139 = some (true, 2)) ∧ (ZeroOk Tryd.prog 139 (.cons .u8 (.cons .u8 .nil))) ∧ (fdInfo Tryd.prog 139 0 = some (0, 5)) ∧ (fdInfo Tryd.prog 139 1 = some (1, 5)) ∧ (plOf Tryd.prog 139 = [(0, 1), (1, 1)]) ∧ (StructOk Tryd.prog 139 (.cons .u8 (.cons .u8 .nil)) [(0, 1), (1, 1)]) ∧ (tyOf Tryd.prog 8 140 = some (.cons .u8 (.cons .u8 .nil))) ∧ (ldInfo Tryd.prog 140 = some (true, 2)) ∧ (ZeroOk Tryd.prog 140 (.cons .u8 (.cons .u8 .nil))) ∧ (fdInfo Tryd.prog 140 0 = some (0, 5)) ∧ (fdInfo Tryd.prog 140 1 = some (1, 5)) ∧ (plOf Tryd.prog 140 = [(0, 1), (1, 1)]) ∧ (StructOk Tryd.prog 140 (.cons .u8 (.cons .u8 .nil)) [(0, 1), (1, 1)]) ∧ (ldInfo Tryd.prog 141 = some (true, 32)) ∧ (ldInfo Tryd.prog 143 = some (false, 1)) ∧ (tyOf Tryd.prog 8 144 = some (.cons .ptr (.cons .ptr (.cons .ptr (.cons .str .nil))))) ∧ (ldInfo Tryd.prog 144 = some (true, 4)) ∧ (ZeroOk Tryd.prog 144 (.cons .ptr (.cons .ptr (.cons .ptr (.cons .str .nil))))) ∧ (fdInfo Tryd.prog 144 0 = some (0, 17)) ∧ (fdInfo Tryd.prog 144 1 = some (1, 17)) ∧ (fdInfo Tryd.prog 144 2 = some (2, 17)) ∧ (fdInfo Tryd.prog 144 3 = some (3, 9)) ∧ (plOf Tryd.prog 144 = [(0, 1), (1, 1), (2, 1), (3, 1)]) ∧ (StructOk Tryd.prog 144 (.cons .ptr (.cons .ptr (.cons .ptr (.cons .str .nil)))) [(0, 1), (1, 1), (2, 1), (3, 1)]) ∧ (tyOf Tryd.prog 8 145 = some (.cons .ptr (.cons .ptr (.cons .ptr (.cons .str .nil))))) ∧ (ldInfo Tryd.prog 145 = some (true, 4)) ∧ (ZeroOk Tryd.prog 145 (.cons .ptr (.cons .ptr (.cons .ptr (.cons .str .nil))))) ∧ (fdInfo Tryd.prog 145 0 = some (0, 17)) ∧ (fdInfo Tryd.prog 145 1 = some (1, 17)) ∧ (fdInfo Tryd.prog 145 2 = some (2, 17)) ∧ (fdInfo Tryd.prog 145 3 = some (3, 9)) ∧ (plOf Tryd.prog 145 = [(0, 1), (1, 1), (2, 1), (3, 1)]) ∧ (StructOk Tryd.prog 145 (.cons .ptr (.cons .ptr (.cons .ptr (.cons .str .nil)))) [(0, 1), (1, 1), (2, 1), (3, 1)]) ∧ (ldInfo Tryd.prog 146 = some (true, 0)) ∧ (ldInfo Tryd.prog 147 = some (true, 0)) ∧ (ldInfo Tryd.prog 148 = some (true, 0)) ∧ (tyOf Tryd.prog 8 149 = some .u8) ∧ (ldInfo Tryd.prog 149 = some (false, 1)) ∧ (ZeroOk Tryd.prog 149 .u8) ∧ (tyOf Tryd.prog 8 150 = some .u8) ∧ (ldInfo Tryd.prog 150 = some (false, 1)) ∧ (ZeroOk Tryd.prog 150 .u8) ∧ (ldInfo Tryd.prog 151 = some (false, 1)) ∧ (tyOf Tryd.prog 8 152 = some (.int .i32)) ∧ (ldInfo Tryd.prog 152 = some (false, 1)) ∧ (ZeroOk Tryd.prog 152 (.int .i32)) ∧ (tyOf Tryd.prog 8 153 = some (.int .i32)) ∧ (ldInfo Tryd.prog 153 = some (false, 1)) ∧ (ZeroOk Tryd.prog 153 (.int .i32)) ∧ (ldInfo Tryd.prog 154 = some (true, 11)) ∧ (fdInfo Tryd.prog 154 0 = some (0, 12)) ∧ (fdInfo Tryd.prog 154 1 = some (1, 12)) ∧ (fdInfo Tryd.prog 154 2 = some (2, 123)) ∧ (fdInfo Tryd.prog 154 3 = some (3, 149)) ∧ (fdInfo Tryd.prog 154 4 = some (4, 5)) ∧ (fdInfo Tryd.prog 154 5 = some (5, 5)) ∧ (fdInfo Tryd.prog 154 6 = some (6, 150)) ∧ (fdInfo Tryd.prog 154 7 = some (7, 151)) ∧ (fdInfo Tryd.prog 154 8 = some (8, 87)) ∧ (fdInfo Tryd.prog 154 9 = some (9, 152)) ∧ (fdInfo Tryd.prog 154 10 = some (10, 153)) ∧ (ldInfo Tryd.prog 155 = some (true, 11)) ∧ (fdInfo Tryd.prog 155 0 = some (0, 12)) ∧ (fdInfo Tryd.prog 155 1 = some (1, 12)) ∧ (fdInfo Tryd.prog 155 2 = some (2, 123)) ∧ (fdInfo Tryd.prog 155 3 = some (3, 149)) ∧ (fdInfo Tryd.prog 155 4 = some (4, 5)) ∧ (fdInfo Tryd.prog 155 5 = some (5, 5)) ∧ (fdInfo Tryd.prog 155 6 = some (6, 150)) ∧ (fdInfo Tryd.prog 155 7 = some (7, 151)) ∧ (fdInfo Tryd.prog 155 8 = some (8, 87)) ∧ (fdInfo Tryd.prog 155 9 = some (9, 152)) ∧ (fdInfo Tryd.prog 155 10 = some (10, 153)) := ⟨ldF1, tyF2, ldF2, zoF2, tyF3, ldF3, zoF3, tyF4, ldF4, zoF4, tyF5, ldF5, zoF5, tyF6, ldF6, zoF6, tyF7, ldF7, zoF7, fdF7x0, fdF7x1, fdF7x2, fdF7x3, plF7, soF7, tyF8, ldF8, zoF8, fdF8x0, fdF8x1, fdF8x2, fdF8x3, plF8, soF8, tyF9, ldF9, zoF9, tyF10, ldF10, zoF10, tyF11, ldF11, zoF11, tyF12, ldF12, zoF12, tyF13, ldF13, zoF13, fdF13x0, fdF13x1, plF13, soF13, tyF14, ldF14, zoF14, fdF14x0, fdF14x1, plF14, soF14, tyF15, ldF15, ptF15, zoF15, tyF16, ldF16, zoF16, tyF17, ldF17, ptF17, zoF17, tyF18, ldF18, zoF18, fdF18x0, plF18, soF18, tyF19, ldF19, zoF19, fdF19x0, plF19, soF19, ldF20, tyF21, ldF21, zoF21, tyF22, ldF22, zoF22, elF22, etF22, ebF22, mdF22, apF22, ldF23, ldF24, ldF25, ldF26, tyF27, ldF27, zoF27, elF27, etF27, ebF27, mdF27, apF27, tyF28, ldF28, ptF28, zoF28, tyF29, ldF29, zoF29, fdF29x0, fdF29x1, plF29, soF29, tyF30, ldF30, zoF30, fdF30x0, fdF30x1, plF30, soF30, ldF31, ldF32, ldF34, ldF35, ldF36, tyF37, ldF37, zoF37, elF37, etF37, ebF37, mdF37, apF37, ldF38, ldF40, ldF41, ldF42, tyF43, ldF43, zoF43, elF43, etF43, ebF43, mdF43, apF43, tyF44, ldF44, zoF44, ldF45, ldF46, ldF47, ldF48, ldF49, ldF50, fdF50x0, fdF50x1, fdF50x2, fdF50x3, ldF51, fdF51x0, fdF51x1, fdF51x2, fdF51x3, ldF52, ldF53, ldF54, ldF55, ldF56, ldF57, ldF58, ldF60, ldF61, tyF62, ldF62, ptF62, utF62x121, ufF62x121, zoF62, tyF63, ldF63, zoF63, fdF63x0, fdF63x1, plF63, soF63, tyF64, ldF64, zoF64, fdF64x0, fdF64x1, plF64, soF64, ldF65, ldF66, ldF67, ldF68, ldF70, ldF71, ldF73, ldF74, ldF75, ldF76, ldF78, tyF79, ldF79, ptF79, zoF79, ldF80, tyF81, ldF81, zoF81, elF81, etF81, ebF81, apF81, ldF82, fdF82x0, fdF82x1, fdF82x2, fdF82x3, fdF82x4, fdF82x5, ldF83, fdF83x0, fdF83x1, fdF83x2, fdF83x3, fdF83x4, fdF83x5, ldF84, ldF85, ldF86, tyF87, ldF87, ptF87, zoF87, ldF88, ldF89, ldF90, ldF91, ldF93, ldF94, tyF95, ldF95, ptF95, zoF95, tyF96, ldF96, zoF96, elF96, etF96, ebF96, mdF96, apF96, ldF97, ldF98, ldF99, ldF100, fdF100x0, fdF100x1, ldF101, fdF101x0, fdF101x1, tyF102, ldF102, zoF102, elF102, etF102, ebF102, apF102, tyF103, ldF103, zoF103, fdF103x0, fdF103x1, fdF103x2, fdF103x3, plF103, soF103, tyF104, ldF104, zoF104, fdF104x0, fdF104x1, fdF104x2, fdF104x3, plF104, eqF104, soF104, tyF105, ldF105, zoF105, elF105, etF105, ebF105, apF105, ldF106, tyF107, ldF107, zoF107, fdF107x0, fdF107x1, fdF107x2, plF107, soF107, tyF108, ldF108, zoF108, fdF108x0, fdF108x1, fdF108x2, plF108, eqF108, soF108, ldF109, fdF109x0, fdF109x1, ldF110, fdF110x0, fdF110x1, ldF111, ldF112, ldF113, ldF114, ldF115, ldF116, ldF117, ldF118, ldF119, ldF120, ldF121, ldF122, tyF123, ldF123, zoF123, ldF125, ldF126, ldF127, ldF128, ldF129, ldF130, ldF131, ldF132, tyF133, ldF133, zoF133, ldF135, ldF136, ldF137, ldF138, tyF139, ldF139, zoF139, fdF139x0, fdF139x1, plF139, soF139, tyF140, ldF140, zoF140, fdF140x0, fdF140x1, plF140, soF140, ldF141, ldF143, tyF144, ldF144, zoF144, fdF144x0, fdF144x1, fdF144x2, fdF144x3, plF144, soF144, tyF145, ldF145, zoF145, fdF145x0, fdF145x1, fdF145x2, fdF145x3, plF145, soF145, ldF146, ldF147, ldF148, tyF149, ldF149, zoF149, tyF150, ldF150, zoF150, ldF151, tyF152, ldF152, zoF152, tyF153, ldF153, zoF153, ldF154, fdF154x0, fdF154x1, fdF154x2, fdF154x3, fdF154x4, fdF154x5, fdF154x6, fdF154x7, fdF154x8, fdF154x9, fdF154x10, ldF155, fdF155x0, fdF155x1, fdF155x2, fdF155x3, fdF155x4, fdF155x5, fdF155x6, fdF155x7, fdF155x8, fdF155x9, fdF155x10⟩
end Go.Proofs.YtfnhhkpnfficaaaDoor
