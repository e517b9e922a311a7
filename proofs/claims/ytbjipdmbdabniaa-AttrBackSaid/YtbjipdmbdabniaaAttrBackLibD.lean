/- The types of this program, as the abstract machine asks for them. No conditions: facts alone. Written by a program of this session (types.py). -/
import Derived.Test.YtbjipdmbdabniaaAttrBackLibC
import Derived.Test.YtbjipdmbdabniaaProg
namespace Go.Proofs.Ytbjipdmbdabniaa.Ax
open Go Go.RowKit
set_option linter.unusedVariables false
set_option linter.unusedSimpArgs false
set_option maxRecDepth 100000
@[push_cast] theorem TU : (Try.prog.underlying 2 = some (.int .i64)) ∧
  (Try.prog.underlying 3 = some (.int .i64)) ∧
  (Try.prog.underlying 4 = some (.bool)) ∧
  (Try.prog.underlying 5 = some (.int .u8)) ∧
  (Try.prog.underlying 9 = some (.string)) ∧
  (Try.prog.underlying 12 = some (.int .u64)) ∧
  (Try.prog.underlying 21 = some (.int .i32)) ∧
  (Try.prog.underlying 22 = some (.slice 5)) ∧
  (Try.prog.underlying 24 = some (.slice 25)) ∧
  (Try.prog.underlying 25 = some (.int .u32)) ∧
  (Try.prog.underlying 41 = some (.int .i64)) ∧
  (Try.prog.underlying 50 = some (.array 256 4)) ∧
  (Try.prog.underlying 56 = some (.pointer 58)) ∧
  (Try.prog.underlying 70 = some (.int .u64)) ∧
  (Try.prog.underlying 71 = some (.pointer 27)) ∧
  (Try.prog.underlying 78 = some (.pointer 30)) ∧
  (Try.prog.underlying 89 = some (.int .u64)) ∧
  (Try.prog.underlying 93 = some (.int .i64)) ∧
  (Try.prog.underlying 103 = some (.int .u64)) ∧
  (Try.prog.underlying 107 = some (.pointer 3)) ∧
  (Try.prog.underlying 109 = some (.pointer 103)) ∧
  (Try.prog.underlying 122 = some (.pointer 5)) := by
  refine ⟨?_, ?_, ?_, ?_, ?_, ?_, ?_, ?_, ?_, ?_, ?_, ?_, ?_, ?_, ?_, ?_, ?_, ?_, ?_, ?_, ?_, ?_⟩
  all_goals (first | kernel_rfl)
@[push_cast] theorem TS : (tsz Try.prog 1 = some 1) ∧
  (tsz Try.prog 2 = some 1) ∧
  (tsz Try.prog 3 = some 1) ∧
  (tsz Try.prog 4 = some 1) ∧
  (tsz Try.prog 5 = some 1) ∧
  (tsz Try.prog 9 = some 1) ∧
  (tsz Try.prog 12 = some 1) ∧
  (tsz Try.prog 13 = some 2) ∧
  (tsz Try.prog 20 = some 1) ∧
  (tsz Try.prog 21 = some 1) ∧
  (tsz Try.prog 22 = some 1) ∧
  (tsz Try.prog 23 = some 1) ∧
  (tsz Try.prog 24 = some 1) ∧
  (tsz Try.prog 25 = some 1) ∧
  (tsz Try.prog 26 = some 8) ∧
  (tsz Try.prog 27 = some 8) ∧
  (tsz Try.prog 29 = some 1) ∧
  (tsz Try.prog 30 = some 8) ∧
  (tsz Try.prog 32 = some 1) ∧
  (tsz Try.prog 33 = some 1) ∧
  (tsz Try.prog 34 = some 1) ∧
  (tsz Try.prog 35 = some 1) ∧
  (tsz Try.prog 36 = some 4) ∧
  (tsz Try.prog 37 = some 4) ∧
  (tsz Try.prog 38 = some 1) ∧
  (tsz Try.prog 39 = some 8) ∧
  (tsz Try.prog 40 = some 1) ∧
  (tsz Try.prog 41 = some 1) ∧
  (tsz Try.prog 43 = some 1) ∧
  (tsz Try.prog 45 = some 1) ∧
  (tsz Try.prog 46 = some 1) ∧
  (tsz Try.prog 47 = some 1) ∧
  (tsz Try.prog 48 = some 1) ∧
  (tsz Try.prog 49 = some 1) ∧
  (tsz Try.prog 50 = some 256) ∧
  (tsz Try.prog 52 = some 1) ∧
  (tsz Try.prog 53 = some 1) ∧
  (tsz Try.prog 54 = some 1) ∧
  (tsz Try.prog 55 = some 1) ∧
  (tsz Try.prog 56 = some 1) ∧
  (tsz Try.prog 57 = some 1) ∧
  (tsz Try.prog 58 = some 1) ∧
  (tsz Try.prog 59 = some 1) ∧
  (tsz Try.prog 60 = some 1) ∧
  (tsz Try.prog 61 = some 1) ∧
  (tsz Try.prog 62 = some 1) ∧
  (tsz Try.prog 63 = some 1) ∧
  (tsz Try.prog 64 = some 1) ∧
  (tsz Try.prog 65 = some 2) ∧
  (tsz Try.prog 66 = some 2) ∧
  (tsz Try.prog 67 = some 8) ∧
  (tsz Try.prog 68 = some 8) ∧
  (tsz Try.prog 69 = some 1) ∧
  (tsz Try.prog 70 = some 1) ∧
  (tsz Try.prog 71 = some 1) ∧
  (tsz Try.prog 72 = some 1) ∧
  (tsz Try.prog 74 = some 1) ∧
  (tsz Try.prog 75 = some 1) ∧
  (tsz Try.prog 76 = some 1) ∧
  (tsz Try.prog 77 = some 1) ∧
  (tsz Try.prog 78 = some 1) ∧
  (tsz Try.prog 79 = some 1) ∧
  (tsz Try.prog 80 = some 1) ∧
  (tsz Try.prog 81 = some 1) ∧
  (tsz Try.prog 82 = some 1) ∧
  (tsz Try.prog 83 = some 1) ∧
  (tsz Try.prog 84 = some 1) ∧
  (tsz Try.prog 85 = some 1) ∧
  (tsz Try.prog 86 = some 1) ∧
  (tsz Try.prog 87 = some 1) ∧
  (tsz Try.prog 88 = some 1) ∧
  (tsz Try.prog 89 = some 1) ∧
  (tsz Try.prog 90 = some 1) ∧
  (tsz Try.prog 91 = some 1) ∧
  (tsz Try.prog 92 = some 1) ∧
  (tsz Try.prog 93 = some 1) ∧
  (tsz Try.prog 95 = some 1) ∧
  (tsz Try.prog 96 = some 1) ∧
  (tsz Try.prog 97 = some 1) ∧
  (tsz Try.prog 98 = some 1) ∧
  (tsz Try.prog 100 = some 1) ∧
  (tsz Try.prog 101 = some 1) ∧
  (tsz Try.prog 102 = some 1) ∧
  (tsz Try.prog 103 = some 1) ∧
  (tsz Try.prog 104 = some 1) ∧
  (tsz Try.prog 105 = some 1) ∧
  (tsz Try.prog 106 = some 1) ∧
  (tsz Try.prog 107 = some 1) ∧
  (tsz Try.prog 108 = some 1) ∧
  (tsz Try.prog 109 = some 1) ∧
  (tsz Try.prog 111 = some 1) ∧
  (tsz Try.prog 112 = some 1) ∧
  (tsz Try.prog 118 = some 1) ∧
  (tsz Try.prog 121 = some 1) ∧
  (tsz Try.prog 122 = some 1) ∧
  (tsz Try.prog 127 = some 1) := by
  refine ⟨?_, ?_, ?_, ?_, ?_, ?_, ?_, ?_, ?_, ?_, ?_, ?_, ?_, ?_, ?_, ?_, ?_, ?_, ?_, ?_, ?_, ?_, ?_, ?_, ?_, ?_, ?_, ?_, ?_, ?_, ?_, ?_, ?_, ?_, ?_, ?_, ?_, ?_, ?_, ?_, ?_, ?_, ?_, ?_, ?_, ?_, ?_, ?_, ?_, ?_, ?_, ?_, ?_, ?_, ?_, ?_, ?_, ?_, ?_, ?_, ?_, ?_, ?_, ?_, ?_, ?_, ?_, ?_, ?_, ?_, ?_, ?_, ?_, ?_, ?_, ?_, ?_, ?_, ?_, ?_, ?_, ?_, ?_, ?_, ?_, ?_, ?_, ?_, ?_, ?_, ?_, ?_, ?_, ?_, ?_, ?_⟩
  all_goals (kernel_rfl)
@[push_cast] theorem TZ : (tzero Try.prog 1 = some [.nilFunc]) ∧
  (tzero Try.prog 2 = some [.int .i64 0]) ∧
  (tzero Try.prog 3 = some [.int .i64 0]) ∧
  (tzero Try.prog 4 = some [.bool false]) ∧
  (tzero Try.prog 5 = some [.int .u8 0]) ∧
  (tzero Try.prog 9 = some [.string .empty]) ∧
  (tzero Try.prog 12 = some [.int .u64 0]) ∧
  (tzero Try.prog 13 = some [.string .empty, .int .u64 0]) ∧
  (tzero Try.prog 20 = some [.nilIface]) ∧
  (tzero Try.prog 21 = some [.int .i32 0]) ∧
  (tzero Try.prog 22 = some [.slice none 0 0]) ∧
  (tzero Try.prog 23 = some [.nilFunc]) ∧
  (tzero Try.prog 24 = some [.slice none 0 0]) ∧
  (tzero Try.prog 25 = some [.int .u32 0]) ∧
  (tzero Try.prog 26 = some [.int .i64 0, .slice none 0 0, .int .u32 0, .int .u32 0, .int .u32 0, .bool false, .bool false, .slice none 0 0]) ∧
  (tzero Try.prog 27 = some [.int .i64 0, .slice none 0 0, .int .u32 0, .int .u32 0, .int .u32 0, .bool false, .bool false, .slice none 0 0]) ∧
  (tzero Try.prog 29 = some [.nilFunc]) ∧
  (tzero Try.prog 30 = some [.int .i64 0, .slice none 0 0, .int .u32 0, .int .u32 0, .int .u32 0, .bool false, .bool false, .slice none 0 0]) ∧
  (tzero Try.prog 32 = some [.nilFunc]) ∧
  (tzero Try.prog 33 = some [.nilFunc]) ∧
  (tzero Try.prog 34 = some [.nilFunc]) ∧
  (tzero Try.prog 35 = some [.nilFunc]) ∧
  (tzero Try.prog 36 = some [.slice none 0 0, .int .u8 0, .int .u8 0, .slice none 0 0]) ∧
  (tzero Try.prog 37 = some [.slice none 0 0, .int .u8 0, .int .u8 0, .slice none 0 0]) ∧
  (tzero Try.prog 38 = some [.nilFunc]) ∧
  (tzero Try.prog 39 = some [.int .i64 0, .slice none 0 0, .int .u32 0, .int .u32 0, .int .u32 0, .bool false, .bool false, .slice none 0 0]) ∧
  (tzero Try.prog 40 = some [.nilFunc]) ∧
  (tzero Try.prog 41 = some [.int .i64 0]) ∧
  (tzero Try.prog 43 = some [.nilFunc]) ∧
  (tzero Try.prog 45 = some [.nilFunc]) ∧
  (tzero Try.prog 46 = some [.nilFunc]) ∧
  (tzero Try.prog 47 = some [.nilFunc]) ∧
  (tzero Try.prog 48 = some [.nilFunc]) ∧
  (tzero Try.prog 49 = some [.nilFunc]) ∧
  (tzero Try.prog 52 = some [.nilFunc]) ∧
  (tzero Try.prog 53 = some [.nilFunc]) ∧
  (tzero Try.prog 54 = some [.nilFunc]) ∧
  (tzero Try.prog 55 = some [.nilFunc]) ∧
  (tzero Try.prog 56 = some [.pointer none]) ∧
  (tzero Try.prog 57 = some [.slice none 0 0]) ∧
  (tzero Try.prog 58 = some [.slice none 0 0]) ∧
  (tzero Try.prog 59 = some [.nilFunc]) ∧
  (tzero Try.prog 60 = some [.nilFunc]) ∧
  (tzero Try.prog 61 = some [.nilFunc]) ∧
  (tzero Try.prog 62 = some [.nilFunc]) ∧
  (tzero Try.prog 63 = some [.nilFunc]) ∧
  (tzero Try.prog 64 = some [.nilFunc]) ∧
  (tzero Try.prog 65 = some [.int .u32 0, .int .i64 0]) ∧
  (tzero Try.prog 66 = some [.int .u32 0, .int .i64 0]) ∧
  (tzero Try.prog 67 = some [.int .u32 0, .int .i64 0, .slice none 0 0, .slice none 0 0, .int .u32 0, .int .u32 0, .int .i64 0, .int .u32 0]) ∧
  (tzero Try.prog 68 = some [.int .u32 0, .int .i64 0, .slice none 0 0, .slice none 0 0, .int .u32 0, .int .u32 0, .int .i64 0, .int .u32 0]) ∧
  (tzero Try.prog 69 = some [.nilFunc]) ∧
  (tzero Try.prog 70 = some [.int .u64 0]) ∧
  (tzero Try.prog 71 = some [.pointer none]) ∧
  (tzero Try.prog 72 = some [.nilFunc]) ∧
  (tzero Try.prog 74 = some [.nilFunc]) ∧
  (tzero Try.prog 75 = some [.nilFunc]) ∧
  (tzero Try.prog 76 = some [.nilFunc]) ∧
  (tzero Try.prog 77 = some [.nilFunc]) ∧
  (tzero Try.prog 78 = some [.pointer none]) ∧
  (tzero Try.prog 79 = some [.nilFunc]) ∧
  (tzero Try.prog 80 = some [.nilFunc]) ∧
  (tzero Try.prog 81 = some [.nilFunc]) ∧
  (tzero Try.prog 82 = some [.nilFunc]) ∧
  (tzero Try.prog 83 = some [.nilFunc]) ∧
  (tzero Try.prog 84 = some [.nilFunc]) ∧
  (tzero Try.prog 85 = some [.nilFunc]) ∧
  (tzero Try.prog 86 = some [.nilFunc]) ∧
  (tzero Try.prog 87 = some [.nilFunc]) ∧
  (tzero Try.prog 88 = some [.nilFunc]) ∧
  (tzero Try.prog 89 = some [.int .u64 0]) ∧
  (tzero Try.prog 90 = some [.nilFunc]) ∧
  (tzero Try.prog 91 = some [.nilFunc]) ∧
  (tzero Try.prog 92 = some [.nilFunc]) ∧
  (tzero Try.prog 93 = some [.int .i64 0]) ∧
  (tzero Try.prog 95 = some [.nilFunc]) ∧
  (tzero Try.prog 96 = some [.nilFunc]) ∧
  (tzero Try.prog 97 = some [.nilFunc]) ∧
  (tzero Try.prog 98 = some [.nilFunc]) ∧
  (tzero Try.prog 100 = some [.nilFunc]) ∧
  (tzero Try.prog 101 = some [.nilFunc]) ∧
  (tzero Try.prog 102 = some [.nilFunc]) ∧
  (tzero Try.prog 103 = some [.int .u64 0]) ∧
  (tzero Try.prog 104 = some [.nilFunc]) ∧
  (tzero Try.prog 105 = some [.nilFunc]) ∧
  (tzero Try.prog 106 = some [.nilFunc]) ∧
  (tzero Try.prog 107 = some [.pointer none]) ∧
  (tzero Try.prog 108 = some [.nilFunc]) ∧
  (tzero Try.prog 109 = some [.pointer none]) ∧
  (tzero Try.prog 111 = some [.nilFunc]) ∧
  (tzero Try.prog 112 = some [.nilFunc]) ∧
  (tzero Try.prog 118 = some [.nilFunc]) ∧
  (tzero Try.prog 121 = some [.nilFunc]) ∧
  (tzero Try.prog 122 = some [.pointer none]) ∧
  (tzero Try.prog 50 = some (List.replicate 256 (.bool false))) := by
  refine ⟨?_, ?_, ?_, ?_, ?_, ?_, ?_, ?_, ?_, ?_, ?_, ?_, ?_, ?_, ?_, ?_, ?_, ?_, ?_, ?_, ?_, ?_, ?_, ?_, ?_, ?_, ?_, ?_, ?_, ?_, ?_, ?_, ?_, ?_, ?_, ?_, ?_, ?_, ?_, ?_, ?_, ?_, ?_, ?_, ?_, ?_, ?_, ?_, ?_, ?_, ?_, ?_, ?_, ?_, ?_, ?_, ?_, ?_, ?_, ?_, ?_, ?_, ?_, ?_, ?_, ?_, ?_, ?_, ?_, ?_, ?_, ?_, ?_, ?_, ?_, ?_, ?_, ?_, ?_, ?_, ?_, ?_, ?_, ?_, ?_, ?_, ?_, ?_, ?_, ?_, ?_, ?_, ?_, ?_, ?_⟩
  all_goals (kernel_rfl)
@[push_cast] theorem TB : (tby Try.prog 5 = some 1) ∧
  (tby Try.prog 25 = some 4) := by
  refine ⟨?_, ?_⟩
  all_goals (kernel_rfl)
@[push_cast] theorem TF : (∀ b off, afield Try.prog 13 (.pointer (some ⟨b, off, none⟩)) 0 = some (.pointer (some ⟨b, off + 0, none⟩))) ∧
  (∀ b off, afield Try.prog 13 (.pointer (some ⟨b, off, none⟩)) 1 = some (.pointer (some ⟨b, off + 1, none⟩))) ∧
  (∀ b off, afield Try.prog 26 (.pointer (some ⟨b, off, none⟩)) 0 = some (.pointer (some ⟨b, off + 0, none⟩))) ∧
  (∀ b off, afield Try.prog 26 (.pointer (some ⟨b, off, none⟩)) 1 = some (.pointer (some ⟨b, off + 1, none⟩))) ∧
  (∀ b off, afield Try.prog 26 (.pointer (some ⟨b, off, none⟩)) 2 = some (.pointer (some ⟨b, off + 2, none⟩))) ∧
  (∀ b off, afield Try.prog 26 (.pointer (some ⟨b, off, none⟩)) 3 = some (.pointer (some ⟨b, off + 3, none⟩))) ∧
  (∀ b off, afield Try.prog 26 (.pointer (some ⟨b, off, none⟩)) 4 = some (.pointer (some ⟨b, off + 4, none⟩))) ∧
  (∀ b off, afield Try.prog 26 (.pointer (some ⟨b, off, none⟩)) 5 = some (.pointer (some ⟨b, off + 5, none⟩))) ∧
  (∀ b off, afield Try.prog 26 (.pointer (some ⟨b, off, none⟩)) 6 = some (.pointer (some ⟨b, off + 6, none⟩))) ∧
  (∀ b off, afield Try.prog 26 (.pointer (some ⟨b, off, none⟩)) 7 = some (.pointer (some ⟨b, off + 7, none⟩))) ∧
  (∀ b off, afield Try.prog 27 (.pointer (some ⟨b, off, none⟩)) 0 = some (.pointer (some ⟨b, off + 0, none⟩))) ∧
  (∀ b off, afield Try.prog 27 (.pointer (some ⟨b, off, none⟩)) 1 = some (.pointer (some ⟨b, off + 1, none⟩))) ∧
  (∀ b off, afield Try.prog 27 (.pointer (some ⟨b, off, none⟩)) 2 = some (.pointer (some ⟨b, off + 2, none⟩))) ∧
  (∀ b off, afield Try.prog 27 (.pointer (some ⟨b, off, none⟩)) 3 = some (.pointer (some ⟨b, off + 3, none⟩))) ∧
  (∀ b off, afield Try.prog 27 (.pointer (some ⟨b, off, none⟩)) 4 = some (.pointer (some ⟨b, off + 4, none⟩))) ∧
  (∀ b off, afield Try.prog 27 (.pointer (some ⟨b, off, none⟩)) 5 = some (.pointer (some ⟨b, off + 5, none⟩))) ∧
  (∀ b off, afield Try.prog 27 (.pointer (some ⟨b, off, none⟩)) 6 = some (.pointer (some ⟨b, off + 6, none⟩))) ∧
  (∀ b off, afield Try.prog 27 (.pointer (some ⟨b, off, none⟩)) 7 = some (.pointer (some ⟨b, off + 7, none⟩))) ∧
  (∀ b off, afield Try.prog 30 (.pointer (some ⟨b, off, none⟩)) 0 = some (.pointer (some ⟨b, off + 0, none⟩))) ∧
  (∀ b off, afield Try.prog 30 (.pointer (some ⟨b, off, none⟩)) 1 = some (.pointer (some ⟨b, off + 1, none⟩))) ∧
  (∀ b off, afield Try.prog 30 (.pointer (some ⟨b, off, none⟩)) 2 = some (.pointer (some ⟨b, off + 2, none⟩))) ∧
  (∀ b off, afield Try.prog 30 (.pointer (some ⟨b, off, none⟩)) 3 = some (.pointer (some ⟨b, off + 3, none⟩))) ∧
  (∀ b off, afield Try.prog 30 (.pointer (some ⟨b, off, none⟩)) 4 = some (.pointer (some ⟨b, off + 4, none⟩))) ∧
  (∀ b off, afield Try.prog 30 (.pointer (some ⟨b, off, none⟩)) 5 = some (.pointer (some ⟨b, off + 5, none⟩))) ∧
  (∀ b off, afield Try.prog 30 (.pointer (some ⟨b, off, none⟩)) 6 = some (.pointer (some ⟨b, off + 6, none⟩))) ∧
  (∀ b off, afield Try.prog 30 (.pointer (some ⟨b, off, none⟩)) 7 = some (.pointer (some ⟨b, off + 7, none⟩))) ∧
  (∀ b off, afield Try.prog 36 (.pointer (some ⟨b, off, none⟩)) 0 = some (.pointer (some ⟨b, off + 0, none⟩))) ∧
  (∀ b off, afield Try.prog 36 (.pointer (some ⟨b, off, none⟩)) 1 = some (.pointer (some ⟨b, off + 1, none⟩))) ∧
  (∀ b off, afield Try.prog 36 (.pointer (some ⟨b, off, none⟩)) 2 = some (.pointer (some ⟨b, off + 2, none⟩))) ∧
  (∀ b off, afield Try.prog 36 (.pointer (some ⟨b, off, none⟩)) 3 = some (.pointer (some ⟨b, off + 3, none⟩))) ∧
  (∀ b off, afield Try.prog 37 (.pointer (some ⟨b, off, none⟩)) 0 = some (.pointer (some ⟨b, off + 0, none⟩))) ∧
  (∀ b off, afield Try.prog 37 (.pointer (some ⟨b, off, none⟩)) 1 = some (.pointer (some ⟨b, off + 1, none⟩))) ∧
  (∀ b off, afield Try.prog 37 (.pointer (some ⟨b, off, none⟩)) 2 = some (.pointer (some ⟨b, off + 2, none⟩))) ∧
  (∀ b off, afield Try.prog 37 (.pointer (some ⟨b, off, none⟩)) 3 = some (.pointer (some ⟨b, off + 3, none⟩))) ∧
  (∀ b off, afield Try.prog 39 (.pointer (some ⟨b, off, none⟩)) 0 = some (.pointer (some ⟨b, off + 0, none⟩))) ∧
  (∀ b off, afield Try.prog 39 (.pointer (some ⟨b, off, none⟩)) 1 = some (.pointer (some ⟨b, off + 1, none⟩))) ∧
  (∀ b off, afield Try.prog 39 (.pointer (some ⟨b, off, none⟩)) 2 = some (.pointer (some ⟨b, off + 2, none⟩))) ∧
  (∀ b off, afield Try.prog 39 (.pointer (some ⟨b, off, none⟩)) 3 = some (.pointer (some ⟨b, off + 3, none⟩))) ∧
  (∀ b off, afield Try.prog 39 (.pointer (some ⟨b, off, none⟩)) 4 = some (.pointer (some ⟨b, off + 4, none⟩))) ∧
  (∀ b off, afield Try.prog 39 (.pointer (some ⟨b, off, none⟩)) 5 = some (.pointer (some ⟨b, off + 5, none⟩))) ∧
  (∀ b off, afield Try.prog 39 (.pointer (some ⟨b, off, none⟩)) 6 = some (.pointer (some ⟨b, off + 6, none⟩))) ∧
  (∀ b off, afield Try.prog 39 (.pointer (some ⟨b, off, none⟩)) 7 = some (.pointer (some ⟨b, off + 7, none⟩))) ∧
  (∀ b off, afield Try.prog 57 (.pointer (some ⟨b, off, none⟩)) 0 = some (.pointer (some ⟨b, off + 0, none⟩))) ∧
  (∀ b off, afield Try.prog 58 (.pointer (some ⟨b, off, none⟩)) 0 = some (.pointer (some ⟨b, off + 0, none⟩))) ∧
  (∀ b off, afield Try.prog 65 (.pointer (some ⟨b, off, none⟩)) 0 = some (.pointer (some ⟨b, off + 0, none⟩))) ∧
  (∀ b off, afield Try.prog 65 (.pointer (some ⟨b, off, none⟩)) 1 = some (.pointer (some ⟨b, off + 1, none⟩))) ∧
  (∀ b off, afield Try.prog 66 (.pointer (some ⟨b, off, none⟩)) 0 = some (.pointer (some ⟨b, off + 0, none⟩))) ∧
  (∀ b off, afield Try.prog 66 (.pointer (some ⟨b, off, none⟩)) 1 = some (.pointer (some ⟨b, off + 1, none⟩))) ∧
  (∀ b off, afield Try.prog 67 (.pointer (some ⟨b, off, none⟩)) 0 = some (.pointer (some ⟨b, off + 0, none⟩))) ∧
  (∀ b off, afield Try.prog 67 (.pointer (some ⟨b, off, none⟩)) 1 = some (.pointer (some ⟨b, off + 2, none⟩))) ∧
  (∀ b off, afield Try.prog 67 (.pointer (some ⟨b, off, none⟩)) 2 = some (.pointer (some ⟨b, off + 3, none⟩))) ∧
  (∀ b off, afield Try.prog 67 (.pointer (some ⟨b, off, none⟩)) 3 = some (.pointer (some ⟨b, off + 4, none⟩))) ∧
  (∀ b off, afield Try.prog 67 (.pointer (some ⟨b, off, none⟩)) 4 = some (.pointer (some ⟨b, off + 5, none⟩))) ∧
  (∀ b off, afield Try.prog 67 (.pointer (some ⟨b, off, none⟩)) 5 = some (.pointer (some ⟨b, off + 6, none⟩))) ∧
  (∀ b off, afield Try.prog 67 (.pointer (some ⟨b, off, none⟩)) 6 = some (.pointer (some ⟨b, off + 7, none⟩))) ∧
  (∀ b off, afield Try.prog 68 (.pointer (some ⟨b, off, none⟩)) 0 = some (.pointer (some ⟨b, off + 0, none⟩))) ∧
  (∀ b off, afield Try.prog 68 (.pointer (some ⟨b, off, none⟩)) 1 = some (.pointer (some ⟨b, off + 2, none⟩))) ∧
  (∀ b off, afield Try.prog 68 (.pointer (some ⟨b, off, none⟩)) 2 = some (.pointer (some ⟨b, off + 3, none⟩))) ∧
  (∀ b off, afield Try.prog 68 (.pointer (some ⟨b, off, none⟩)) 3 = some (.pointer (some ⟨b, off + 4, none⟩))) ∧
  (∀ b off, afield Try.prog 68 (.pointer (some ⟨b, off, none⟩)) 4 = some (.pointer (some ⟨b, off + 5, none⟩))) ∧
  (∀ b off, afield Try.prog 68 (.pointer (some ⟨b, off, none⟩)) 5 = some (.pointer (some ⟨b, off + 6, none⟩))) ∧
  (∀ b off, afield Try.prog 68 (.pointer (some ⟨b, off, none⟩)) 6 = some (.pointer (some ⟨b, off + 7, none⟩))) := by
  refine ⟨?_, ?_, ?_, ?_, ?_, ?_, ?_, ?_, ?_, ?_, ?_, ?_, ?_, ?_, ?_, ?_, ?_, ?_, ?_, ?_, ?_, ?_, ?_, ?_, ?_, ?_, ?_, ?_, ?_, ?_, ?_, ?_, ?_, ?_, ?_, ?_, ?_, ?_, ?_, ?_, ?_, ?_, ?_, ?_, ?_, ?_, ?_, ?_, ?_, ?_, ?_, ?_, ?_, ?_, ?_, ?_, ?_, ?_, ?_, ?_, ?_, ?_⟩
  all_goals (intros; kernel_rfl)
@[push_cast] theorem TV : (∀ cs : List Value, afieldv Try.prog 13 (.agg ⟨cs⟩) 0 = cs[0]?) ∧
  (∀ cs : List Value, afieldv Try.prog 13 (.agg ⟨cs⟩) 1 = cs[1]?) ∧
  (∀ cs : List Value, afieldv Try.prog 26 (.agg ⟨cs⟩) 0 = cs[0]?) ∧
  (∀ cs : List Value, afieldv Try.prog 26 (.agg ⟨cs⟩) 1 = cs[1]?) ∧
  (∀ cs : List Value, afieldv Try.prog 26 (.agg ⟨cs⟩) 2 = cs[2]?) ∧
  (∀ cs : List Value, afieldv Try.prog 26 (.agg ⟨cs⟩) 3 = cs[3]?) ∧
  (∀ cs : List Value, afieldv Try.prog 26 (.agg ⟨cs⟩) 4 = cs[4]?) ∧
  (∀ cs : List Value, afieldv Try.prog 26 (.agg ⟨cs⟩) 5 = cs[5]?) ∧
  (∀ cs : List Value, afieldv Try.prog 26 (.agg ⟨cs⟩) 6 = cs[6]?) ∧
  (∀ cs : List Value, afieldv Try.prog 26 (.agg ⟨cs⟩) 7 = cs[7]?) ∧
  (∀ cs : List Value, afieldv Try.prog 27 (.agg ⟨cs⟩) 0 = cs[0]?) ∧
  (∀ cs : List Value, afieldv Try.prog 27 (.agg ⟨cs⟩) 1 = cs[1]?) ∧
  (∀ cs : List Value, afieldv Try.prog 27 (.agg ⟨cs⟩) 2 = cs[2]?) ∧
  (∀ cs : List Value, afieldv Try.prog 27 (.agg ⟨cs⟩) 3 = cs[3]?) ∧
  (∀ cs : List Value, afieldv Try.prog 27 (.agg ⟨cs⟩) 4 = cs[4]?) ∧
  (∀ cs : List Value, afieldv Try.prog 27 (.agg ⟨cs⟩) 5 = cs[5]?) ∧
  (∀ cs : List Value, afieldv Try.prog 27 (.agg ⟨cs⟩) 6 = cs[6]?) ∧
  (∀ cs : List Value, afieldv Try.prog 27 (.agg ⟨cs⟩) 7 = cs[7]?) ∧
  (∀ cs : List Value, afieldv Try.prog 30 (.agg ⟨cs⟩) 0 = cs[0]?) ∧
  (∀ cs : List Value, afieldv Try.prog 30 (.agg ⟨cs⟩) 1 = cs[1]?) ∧
  (∀ cs : List Value, afieldv Try.prog 30 (.agg ⟨cs⟩) 2 = cs[2]?) ∧
  (∀ cs : List Value, afieldv Try.prog 30 (.agg ⟨cs⟩) 3 = cs[3]?) ∧
  (∀ cs : List Value, afieldv Try.prog 30 (.agg ⟨cs⟩) 4 = cs[4]?) ∧
  (∀ cs : List Value, afieldv Try.prog 30 (.agg ⟨cs⟩) 5 = cs[5]?) ∧
  (∀ cs : List Value, afieldv Try.prog 30 (.agg ⟨cs⟩) 6 = cs[6]?) ∧
  (∀ cs : List Value, afieldv Try.prog 30 (.agg ⟨cs⟩) 7 = cs[7]?) ∧
  (∀ cs : List Value, afieldv Try.prog 36 (.agg ⟨cs⟩) 0 = cs[0]?) ∧
  (∀ cs : List Value, afieldv Try.prog 36 (.agg ⟨cs⟩) 1 = cs[1]?) ∧
  (∀ cs : List Value, afieldv Try.prog 36 (.agg ⟨cs⟩) 2 = cs[2]?) ∧
  (∀ cs : List Value, afieldv Try.prog 36 (.agg ⟨cs⟩) 3 = cs[3]?) ∧
  (∀ cs : List Value, afieldv Try.prog 37 (.agg ⟨cs⟩) 0 = cs[0]?) ∧
  (∀ cs : List Value, afieldv Try.prog 37 (.agg ⟨cs⟩) 1 = cs[1]?) ∧
  (∀ cs : List Value, afieldv Try.prog 37 (.agg ⟨cs⟩) 2 = cs[2]?) ∧
  (∀ cs : List Value, afieldv Try.prog 37 (.agg ⟨cs⟩) 3 = cs[3]?) ∧
  (∀ cs : List Value, afieldv Try.prog 39 (.agg ⟨cs⟩) 0 = cs[0]?) ∧
  (∀ cs : List Value, afieldv Try.prog 39 (.agg ⟨cs⟩) 1 = cs[1]?) ∧
  (∀ cs : List Value, afieldv Try.prog 39 (.agg ⟨cs⟩) 2 = cs[2]?) ∧
  (∀ cs : List Value, afieldv Try.prog 39 (.agg ⟨cs⟩) 3 = cs[3]?) ∧
  (∀ cs : List Value, afieldv Try.prog 39 (.agg ⟨cs⟩) 4 = cs[4]?) ∧
  (∀ cs : List Value, afieldv Try.prog 39 (.agg ⟨cs⟩) 5 = cs[5]?) ∧
  (∀ cs : List Value, afieldv Try.prog 39 (.agg ⟨cs⟩) 6 = cs[6]?) ∧
  (∀ cs : List Value, afieldv Try.prog 39 (.agg ⟨cs⟩) 7 = cs[7]?) ∧
  (∀ cs : List Value, afieldv Try.prog 57 (.agg ⟨cs⟩) 0 = cs[0]?) ∧
  (∀ cs : List Value, afieldv Try.prog 58 (.agg ⟨cs⟩) 0 = cs[0]?) ∧
  (∀ cs : List Value, afieldv Try.prog 65 (.agg ⟨cs⟩) 0 = cs[0]?) ∧
  (∀ cs : List Value, afieldv Try.prog 65 (.agg ⟨cs⟩) 1 = cs[1]?) ∧
  (∀ cs : List Value, afieldv Try.prog 66 (.agg ⟨cs⟩) 0 = cs[0]?) ∧
  (∀ cs : List Value, afieldv Try.prog 66 (.agg ⟨cs⟩) 1 = cs[1]?) ∧
  (∀ cs : List Value, afieldv Try.prog 67 (.agg ⟨cs⟩) 0 = some (.agg ⟨(cs.drop 0).take 2⟩)) ∧
  (∀ cs : List Value, afieldv Try.prog 67 (.agg ⟨cs⟩) 1 = cs[2]?) ∧
  (∀ cs : List Value, afieldv Try.prog 67 (.agg ⟨cs⟩) 2 = cs[3]?) ∧
  (∀ cs : List Value, afieldv Try.prog 67 (.agg ⟨cs⟩) 3 = cs[4]?) ∧
  (∀ cs : List Value, afieldv Try.prog 67 (.agg ⟨cs⟩) 4 = cs[5]?) ∧
  (∀ cs : List Value, afieldv Try.prog 67 (.agg ⟨cs⟩) 5 = cs[6]?) ∧
  (∀ cs : List Value, afieldv Try.prog 67 (.agg ⟨cs⟩) 6 = cs[7]?) ∧
  (∀ cs : List Value, afieldv Try.prog 68 (.agg ⟨cs⟩) 0 = some (.agg ⟨(cs.drop 0).take 2⟩)) ∧
  (∀ cs : List Value, afieldv Try.prog 68 (.agg ⟨cs⟩) 1 = cs[2]?) ∧
  (∀ cs : List Value, afieldv Try.prog 68 (.agg ⟨cs⟩) 2 = cs[3]?) ∧
  (∀ cs : List Value, afieldv Try.prog 68 (.agg ⟨cs⟩) 3 = cs[4]?) ∧
  (∀ cs : List Value, afieldv Try.prog 68 (.agg ⟨cs⟩) 4 = cs[5]?) ∧
  (∀ cs : List Value, afieldv Try.prog 68 (.agg ⟨cs⟩) 5 = cs[6]?) ∧
  (∀ cs : List Value, afieldv Try.prog 68 (.agg ⟨cs⟩) 6 = cs[7]?) := by
  refine ⟨?_, ?_, ?_, ?_, ?_, ?_, ?_, ?_, ?_, ?_, ?_, ?_, ?_, ?_, ?_, ?_, ?_, ?_, ?_, ?_, ?_, ?_, ?_, ?_, ?_, ?_, ?_, ?_, ?_, ?_, ?_, ?_, ?_, ?_, ?_, ?_, ?_, ?_, ?_, ?_, ?_, ?_, ?_, ?_, ?_, ?_, ?_, ?_, ?_, ?_, ?_, ?_, ?_, ?_, ?_, ?_, ?_, ?_, ?_, ?_, ?_, ?_⟩
  all_goals (intros; kernel_rfl)
@[push_cast] theorem TL : (∀ (cs : List Value) j, bload Try.prog 1 cs j = cs[j]?) ∧
  (∀ (cs : List Value) j, bload Try.prog 2 cs j = cs[j]?) ∧
  (∀ (cs : List Value) j, bload Try.prog 3 cs j = cs[j]?) ∧
  (∀ (cs : List Value) j, bload Try.prog 4 cs j = cs[j]?) ∧
  (∀ (cs : List Value) j, bload Try.prog 5 cs j = cs[j]?) ∧
  (∀ (cs : List Value) j, bload Try.prog 9 cs j = cs[j]?) ∧
  (∀ (cs : List Value) j, bload Try.prog 12 cs j = cs[j]?) ∧
  (∀ cs j, bload Try.prog 13 cs j = if j + 2 ≤ cs.length then some (.agg ⟨(cs.drop j).take 2⟩) else none) ∧
  (∀ (cs : List Value) j, bload Try.prog 20 cs j = cs[j]?) ∧
  (∀ (cs : List Value) j, bload Try.prog 21 cs j = cs[j]?) ∧
  (∀ (cs : List Value) j, bload Try.prog 22 cs j = cs[j]?) ∧
  (∀ (cs : List Value) j, bload Try.prog 23 cs j = cs[j]?) ∧
  (∀ (cs : List Value) j, bload Try.prog 24 cs j = cs[j]?) ∧
  (∀ (cs : List Value) j, bload Try.prog 25 cs j = cs[j]?) ∧
  (∀ cs j, bload Try.prog 26 cs j = if j + 8 ≤ cs.length then some (.agg ⟨(cs.drop j).take 8⟩) else none) ∧
  (∀ cs j, bload Try.prog 27 cs j = if j + 8 ≤ cs.length then some (.agg ⟨(cs.drop j).take 8⟩) else none) ∧
  (∀ (cs : List Value) j, bload Try.prog 29 cs j = cs[j]?) ∧
  (∀ cs j, bload Try.prog 30 cs j = if j + 8 ≤ cs.length then some (.agg ⟨(cs.drop j).take 8⟩) else none) ∧
  (∀ (cs : List Value) j, bload Try.prog 32 cs j = cs[j]?) ∧
  (∀ (cs : List Value) j, bload Try.prog 33 cs j = cs[j]?) ∧
  (∀ (cs : List Value) j, bload Try.prog 34 cs j = cs[j]?) ∧
  (∀ (cs : List Value) j, bload Try.prog 35 cs j = cs[j]?) ∧
  (∀ cs j, bload Try.prog 36 cs j = if j + 4 ≤ cs.length then some (.agg ⟨(cs.drop j).take 4⟩) else none) ∧
  (∀ cs j, bload Try.prog 37 cs j = if j + 4 ≤ cs.length then some (.agg ⟨(cs.drop j).take 4⟩) else none) ∧
  (∀ (cs : List Value) j, bload Try.prog 38 cs j = cs[j]?) ∧
  (∀ cs j, bload Try.prog 39 cs j = if j + 8 ≤ cs.length then some (.agg ⟨(cs.drop j).take 8⟩) else none) ∧
  (∀ (cs : List Value) j, bload Try.prog 40 cs j = cs[j]?) ∧
  (∀ (cs : List Value) j, bload Try.prog 41 cs j = cs[j]?) ∧
  (∀ (cs : List Value) j, bload Try.prog 43 cs j = cs[j]?) ∧
  (∀ (cs : List Value) j, bload Try.prog 45 cs j = cs[j]?) ∧
  (∀ (cs : List Value) j, bload Try.prog 46 cs j = cs[j]?) ∧
  (∀ (cs : List Value) j, bload Try.prog 47 cs j = cs[j]?) ∧
  (∀ (cs : List Value) j, bload Try.prog 48 cs j = cs[j]?) ∧
  (∀ (cs : List Value) j, bload Try.prog 49 cs j = cs[j]?) ∧
  (∀ cs j, bload Try.prog 50 cs j = if j + 256 ≤ cs.length then some (.agg ⟨(cs.drop j).take 256⟩) else none) ∧
  (∀ (cs : List Value) j, bload Try.prog 52 cs j = cs[j]?) ∧
  (∀ (cs : List Value) j, bload Try.prog 53 cs j = cs[j]?) ∧
  (∀ (cs : List Value) j, bload Try.prog 54 cs j = cs[j]?) ∧
  (∀ (cs : List Value) j, bload Try.prog 55 cs j = cs[j]?) ∧
  (∀ (cs : List Value) j, bload Try.prog 56 cs j = cs[j]?) ∧
  (∀ cs j, bload Try.prog 57 cs j = if j + 1 ≤ cs.length then some (.agg ⟨(cs.drop j).take 1⟩) else none) ∧
  (∀ cs j, bload Try.prog 58 cs j = if j + 1 ≤ cs.length then some (.agg ⟨(cs.drop j).take 1⟩) else none) ∧
  (∀ (cs : List Value) j, bload Try.prog 59 cs j = cs[j]?) ∧
  (∀ (cs : List Value) j, bload Try.prog 60 cs j = cs[j]?) ∧
  (∀ (cs : List Value) j, bload Try.prog 61 cs j = cs[j]?) ∧
  (∀ (cs : List Value) j, bload Try.prog 62 cs j = cs[j]?) ∧
  (∀ (cs : List Value) j, bload Try.prog 63 cs j = cs[j]?) ∧
  (∀ (cs : List Value) j, bload Try.prog 64 cs j = cs[j]?) ∧
  (∀ cs j, bload Try.prog 65 cs j = if j + 2 ≤ cs.length then some (.agg ⟨(cs.drop j).take 2⟩) else none) ∧
  (∀ cs j, bload Try.prog 66 cs j = if j + 2 ≤ cs.length then some (.agg ⟨(cs.drop j).take 2⟩) else none) ∧
  (∀ cs j, bload Try.prog 67 cs j = if j + 8 ≤ cs.length then some (.agg ⟨(cs.drop j).take 8⟩) else none) ∧
  (∀ cs j, bload Try.prog 68 cs j = if j + 8 ≤ cs.length then some (.agg ⟨(cs.drop j).take 8⟩) else none) ∧
  (∀ (cs : List Value) j, bload Try.prog 69 cs j = cs[j]?) ∧
  (∀ (cs : List Value) j, bload Try.prog 70 cs j = cs[j]?) ∧
  (∀ (cs : List Value) j, bload Try.prog 71 cs j = cs[j]?) ∧
  (∀ (cs : List Value) j, bload Try.prog 72 cs j = cs[j]?) ∧
  (∀ (cs : List Value) j, bload Try.prog 74 cs j = cs[j]?) ∧
  (∀ (cs : List Value) j, bload Try.prog 75 cs j = cs[j]?) ∧
  (∀ (cs : List Value) j, bload Try.prog 76 cs j = cs[j]?) ∧
  (∀ (cs : List Value) j, bload Try.prog 77 cs j = cs[j]?) ∧
  (∀ (cs : List Value) j, bload Try.prog 78 cs j = cs[j]?) ∧
  (∀ (cs : List Value) j, bload Try.prog 79 cs j = cs[j]?) ∧
  (∀ (cs : List Value) j, bload Try.prog 80 cs j = cs[j]?) ∧
  (∀ (cs : List Value) j, bload Try.prog 81 cs j = cs[j]?) ∧
  (∀ (cs : List Value) j, bload Try.prog 82 cs j = cs[j]?) ∧
  (∀ (cs : List Value) j, bload Try.prog 83 cs j = cs[j]?) ∧
  (∀ (cs : List Value) j, bload Try.prog 84 cs j = cs[j]?) ∧
  (∀ (cs : List Value) j, bload Try.prog 85 cs j = cs[j]?) ∧
  (∀ (cs : List Value) j, bload Try.prog 86 cs j = cs[j]?) ∧
  (∀ (cs : List Value) j, bload Try.prog 87 cs j = cs[j]?) ∧
  (∀ (cs : List Value) j, bload Try.prog 88 cs j = cs[j]?) ∧
  (∀ (cs : List Value) j, bload Try.prog 89 cs j = cs[j]?) ∧
  (∀ (cs : List Value) j, bload Try.prog 90 cs j = cs[j]?) ∧
  (∀ (cs : List Value) j, bload Try.prog 91 cs j = cs[j]?) ∧
  (∀ (cs : List Value) j, bload Try.prog 92 cs j = cs[j]?) ∧
  (∀ (cs : List Value) j, bload Try.prog 93 cs j = cs[j]?) ∧
  (∀ (cs : List Value) j, bload Try.prog 95 cs j = cs[j]?) ∧
  (∀ (cs : List Value) j, bload Try.prog 96 cs j = cs[j]?) ∧
  (∀ (cs : List Value) j, bload Try.prog 97 cs j = cs[j]?) ∧
  (∀ (cs : List Value) j, bload Try.prog 98 cs j = cs[j]?) ∧
  (∀ (cs : List Value) j, bload Try.prog 100 cs j = cs[j]?) ∧
  (∀ (cs : List Value) j, bload Try.prog 101 cs j = cs[j]?) ∧
  (∀ (cs : List Value) j, bload Try.prog 102 cs j = cs[j]?) ∧
  (∀ (cs : List Value) j, bload Try.prog 103 cs j = cs[j]?) ∧
  (∀ (cs : List Value) j, bload Try.prog 104 cs j = cs[j]?) ∧
  (∀ (cs : List Value) j, bload Try.prog 105 cs j = cs[j]?) ∧
  (∀ (cs : List Value) j, bload Try.prog 106 cs j = cs[j]?) ∧
  (∀ (cs : List Value) j, bload Try.prog 107 cs j = cs[j]?) ∧
  (∀ (cs : List Value) j, bload Try.prog 108 cs j = cs[j]?) ∧
  (∀ (cs : List Value) j, bload Try.prog 109 cs j = cs[j]?) ∧
  (∀ (cs : List Value) j, bload Try.prog 111 cs j = cs[j]?) ∧
  (∀ (cs : List Value) j, bload Try.prog 112 cs j = cs[j]?) ∧
  (∀ (cs : List Value) j, bload Try.prog 118 cs j = cs[j]?) ∧
  (∀ (cs : List Value) j, bload Try.prog 121 cs j = cs[j]?) ∧
  (∀ (cs : List Value) j, bload Try.prog 122 cs j = cs[j]?) ∧
  (∀ (cs : List Value) j, bload Try.prog 127 cs j = cs[j]?) := by
  refine ⟨?_, ?_, ?_, ?_, ?_, ?_, ?_, ?_, ?_, ?_, ?_, ?_, ?_, ?_, ?_, ?_, ?_, ?_, ?_, ?_, ?_, ?_, ?_, ?_, ?_, ?_, ?_, ?_, ?_, ?_, ?_, ?_, ?_, ?_, ?_, ?_, ?_, ?_, ?_, ?_, ?_, ?_, ?_, ?_, ?_, ?_, ?_, ?_, ?_, ?_, ?_, ?_, ?_, ?_, ?_, ?_, ?_, ?_, ?_, ?_, ?_, ?_, ?_, ?_, ?_, ?_, ?_, ?_, ?_, ?_, ?_, ?_, ?_, ?_, ?_, ?_, ?_, ?_, ?_, ?_, ?_, ?_, ?_, ?_, ?_, ?_, ?_, ?_, ?_, ?_, ?_, ?_, ?_, ?_, ?_, ?_⟩
  all_goals (intros; kernel_rfl)
@[push_cast] theorem TD : (∀ parts, abuild Try.prog 13 parts = (fillL (fun i => [(0, 1), (1, 1)][i]?) [.string .empty, .int .u64 0] parts).map fun cs => .agg ⟨cs⟩) ∧
  (∀ parts, abuild Try.prog 26 parts = (fillL (fun i => [(0, 1), (1, 1), (2, 1), (3, 1), (4, 1), (5, 1), (6, 1), (7, 1)][i]?) [.int .i64 0, .slice none 0 0, .int .u32 0, .int .u32 0, .int .u32 0, .bool false, .bool false, .slice none 0 0] parts).map fun cs => .agg ⟨cs⟩) ∧
  (∀ parts, abuild Try.prog 27 parts = (fillL (fun i => [(0, 1), (1, 1), (2, 1), (3, 1), (4, 1), (5, 1), (6, 1), (7, 1)][i]?) [.int .i64 0, .slice none 0 0, .int .u32 0, .int .u32 0, .int .u32 0, .bool false, .bool false, .slice none 0 0] parts).map fun cs => .agg ⟨cs⟩) ∧
  (∀ parts, abuild Try.prog 30 parts = (fillL (fun i => [(0, 1), (1, 1), (2, 1), (3, 1), (4, 1), (5, 1), (6, 1), (7, 1)][i]?) [.int .i64 0, .slice none 0 0, .int .u32 0, .int .u32 0, .int .u32 0, .bool false, .bool false, .slice none 0 0] parts).map fun cs => .agg ⟨cs⟩) ∧
  (∀ parts, abuild Try.prog 36 parts = (fillL (fun i => [(0, 1), (1, 1), (2, 1), (3, 1)][i]?) [.slice none 0 0, .int .u8 0, .int .u8 0, .slice none 0 0] parts).map fun cs => .agg ⟨cs⟩) ∧
  (∀ parts, abuild Try.prog 37 parts = (fillL (fun i => [(0, 1), (1, 1), (2, 1), (3, 1)][i]?) [.slice none 0 0, .int .u8 0, .int .u8 0, .slice none 0 0] parts).map fun cs => .agg ⟨cs⟩) ∧
  (∀ parts, abuild Try.prog 39 parts = (fillL (fun i => [(0, 1), (1, 1), (2, 1), (3, 1), (4, 1), (5, 1), (6, 1), (7, 1)][i]?) [.int .i64 0, .slice none 0 0, .int .u32 0, .int .u32 0, .int .u32 0, .bool false, .bool false, .slice none 0 0] parts).map fun cs => .agg ⟨cs⟩) ∧
  (∀ parts, abuild Try.prog 57 parts = (fillL (fun i => [(0, 1)][i]?) [.slice none 0 0] parts).map fun cs => .agg ⟨cs⟩) ∧
  (∀ parts, abuild Try.prog 58 parts = (fillL (fun i => [(0, 1)][i]?) [.slice none 0 0] parts).map fun cs => .agg ⟨cs⟩) ∧
  (∀ parts, abuild Try.prog 65 parts = (fillL (fun i => [(0, 1), (1, 1)][i]?) [.int .u32 0, .int .i64 0] parts).map fun cs => .agg ⟨cs⟩) ∧
  (∀ parts, abuild Try.prog 66 parts = (fillL (fun i => [(0, 1), (1, 1)][i]?) [.int .u32 0, .int .i64 0] parts).map fun cs => .agg ⟨cs⟩) ∧
  (∀ parts, abuild Try.prog 67 parts = (fillL (fun i => [(0, 2), (2, 1), (3, 1), (4, 1), (5, 1), (6, 1), (7, 1)][i]?) [.int .u32 0, .int .i64 0, .slice none 0 0, .slice none 0 0, .int .u32 0, .int .u32 0, .int .i64 0, .int .u32 0] parts).map fun cs => .agg ⟨cs⟩) ∧
  (∀ parts, abuild Try.prog 68 parts = (fillL (fun i => [(0, 2), (2, 1), (3, 1), (4, 1), (5, 1), (6, 1), (7, 1)][i]?) [.int .u32 0, .int .i64 0, .slice none 0 0, .slice none 0 0, .int .u32 0, .int .u32 0, .int .i64 0, .int .u32 0] parts).map fun cs => .agg ⟨cs⟩) := by
  refine ⟨?_, ?_, ?_, ?_, ?_, ?_, ?_, ?_, ?_, ?_, ?_, ?_, ?_⟩
  all_goals (intros; kernel_rfl)
@[push_cast] theorem TT : (∀ len parts, alit Try.prog 22 len parts = if 0 < 1 ∧ 1 = 1 ∧ len * 1 ≤ 16777216 then (fillL (fun i => some (i * 1, 1)) (zerosOf [.int .u8 0] len) parts).map fun cs => (1, cs) else none) ∧
  (∀ len parts, alit Try.prog 24 len parts = if 0 < 1 ∧ 1 = 1 ∧ len * 1 ≤ 16777216 then (fillL (fun i => some (i * 1, 1)) (zerosOf [.int .u32 0] len) parts).map fun cs => (1, cs) else none) := by
  refine ⟨?_, ?_⟩
  all_goals (intros; kernel_rfl)
end Go.Proofs.Ytbjipdmbdabniaa.Ax
