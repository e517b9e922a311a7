/- The types of this program, as the abstract machine asks for them. No conditions: facts alone. Written by a program of this session (types.py). -/
import Derived.Test.YtbdejnnbpdgjlaaPeerXLibC
import Derived.Test.YtbdejnnbpdgjlaaProg
import Derived.MapKept
import Derived.MapFrom
import Derived.Carry
import Derived.Laws.BytesArg
namespace Go.Proofs.Ytbdejnnbpdgjlaa.Ax
open Go Go.RowKit
set_option linter.unusedVariables false
set_option linter.unusedSimpArgs false
set_option maxRecDepth 100000
@[push_cast] theorem TU : (Try.prog.underlying 2 = some (.int .i64)) ∧
 (Try.prog.underlying 3 = some (.int .i64)) ∧
 (Try.prog.underlying 4 = some (.bool)) ∧
 (Try.prog.underlying 5 = some (.int .u8)) ∧
 (Try.prog.underlying 9 = some (.string)) ∧
 (Try.prog.underlying 12 = some (.int .u64)) ∧
 (Try.prog.underlying 21 = some (.int .i32)) ∧
 (Try.prog.underlying 22 = some (.slice 36)) ∧
 (Try.prog.underlying 24 = some (.slice 32)) ∧
 (Try.prog.underlying 25 = some (.int .i64)) ∧
 (Try.prog.underlying 30 = some (.int .u32)) ∧
 (Try.prog.underlying 39 = some (.slice 5)) ∧
 (Try.prog.underlying 40 = some (.slice 30)) ∧
 (Try.prog.underlying 60 = some (.int .u16)) ∧
 (Try.prog.underlying 67 = some (.array 2 3)) ∧
 (Try.prog.underlying 68 = some (.array 18 67)) ∧
 (Try.prog.underlying 77 = some (.slice 101)) ∧
 (Try.prog.underlying 87 = some (.slice 147)) ∧
 (Try.prog.underlying 96 = some (.slice 98)) ∧
 (Try.prog.underlying 109 = some (.slice 108)) ∧
 (Try.prog.underlying 113 = some (.int .u64)) ∧
 (Try.prog.underlying 115 = some (.map 9 4)) ∧
 (Try.prog.underlying 122 = some (.array 5 3)) ∧
 (Try.prog.underlying 131 = some (.pointer 134)) ∧
 (Try.prog.underlying 138 = some (.int .u64)) ∧
 (Try.prog.underlying 139 = some (.pointer 144)) ∧
 (Try.prog.underlying 158 = some (.pointer 160)) ∧
 (Try.prog.underlying 188 = some (.int .i64)) ∧
 (Try.prog.underlying 198 = some (.array 256 4)) ∧
 (Try.prog.underlying 212 = some (.array 4 5)) ∧
 (Try.prog.underlying 213 = some (.pointer 215)) ∧
 (Try.prog.underlying 218 = some (.int .u64)) ∧
 (Try.prog.underlying 222 = some (.pointer 3)) ∧
 (Try.prog.underlying 225 = some (.pointer 42)) ∧
 (Try.prog.underlying 230 = some (.pointer 49)) ∧
 (Try.prog.underlying 232 = some (.pointer 218)) ∧
 (Try.prog.underlying 248 = some (.pointer 5)) := by
 refine ⟨?_, ?_, ?_, ?_, ?_, ?_, ?_, ?_, ?_, ?_, ?_, ?_, ?_, ?_, ?_, ?_, ?_, ?_, ?_, ?_, ?_, ?_, ?_, ?_, ?_, ?_, ?_, ?_, ?_, ?_, ?_, ?_, ?_, ?_, ?_, ?_, ?_⟩
 all_goals (first | kernel_rfl)
@[push_cast] theorem TS : (tsz Try.prog 1 = some 1) ∧
 (tsz Try.prog 2 = some 1) ∧
 (tsz Try.prog 3 = some 1) ∧
 (tsz Try.prog 4 = some 1) ∧
 (tsz Try.prog 5 = some 1) ∧
 (tsz Try.prog 9 = some 1) ∧
 (tsz Try.prog 12 = some 1) ∧
 (tsz Try.prog 13 = some 2) ∧
 (tsz Try.prog 20 = some 1) ∧
 (tsz Try.prog 21 = some 1) ∧
 (tsz Try.prog 22 = some 1) ∧
 (tsz Try.prog 23 = some 1) ∧
 (tsz Try.prog 24 = some 1) ∧
 (tsz Try.prog 25 = some 1) ∧
 (tsz Try.prog 27 = some 1) ∧
 (tsz Try.prog 29 = some 1) ∧
 (tsz Try.prog 30 = some 1) ∧
 (tsz Try.prog 31 = some 2) ∧
 (tsz Try.prog 32 = some 2) ∧
 (tsz Try.prog 33 = some 1) ∧
 (tsz Try.prog 34 = some 1) ∧
 (tsz Try.prog 35 = some 4) ∧
 (tsz Try.prog 36 = some 4) ∧
 (tsz Try.prog 37 = some 1) ∧
 (tsz Try.prog 38 = some 1) ∧
 (tsz Try.prog 39 = some 1) ∧
 (tsz Try.prog 40 = some 1) ∧
 (tsz Try.prog 41 = some 8) ∧
 (tsz Try.prog 42 = some 8) ∧
 (tsz Try.prog 43 = some 17) ∧
 (tsz Try.prog 44 = some 17) ∧
 (tsz Try.prog 45 = some 2) ∧
 (tsz Try.prog 46 = some 2) ∧
 (tsz Try.prog 48 = some 1) ∧
 (tsz Try.prog 49 = some 8) ∧
 (tsz Try.prog 50 = some 17) ∧
 (tsz Try.prog 51 = some 17) ∧
 (tsz Try.prog 52 = some 2) ∧
 (tsz Try.prog 54 = some 1) ∧
 (tsz Try.prog 55 = some 1) ∧
 (tsz Try.prog 56 = some 1) ∧
 (tsz Try.prog 57 = some 1) ∧
 (tsz Try.prog 58 = some 1) ∧
 (tsz Try.prog 59 = some 17) ∧
 (tsz Try.prog 60 = some 1) ∧
 (tsz Try.prog 61 = some 1) ∧
 (tsz Try.prog 63 = some 1) ∧
 (tsz Try.prog 64 = some 1) ∧
 (tsz Try.prog 65 = some 1) ∧
 (tsz Try.prog 66 = some 1) ∧
 (tsz Try.prog 67 = some 2) ∧
 (tsz Try.prog 68 = some 36) ∧
 (tsz Try.prog 69 = some 4) ∧
 (tsz Try.prog 70 = some 4) ∧
 (tsz Try.prog 71 = some 10) ∧
 (tsz Try.prog 72 = some 10) ∧
 (tsz Try.prog 73 = some 1) ∧
 (tsz Try.prog 74 = some 4) ∧
 (tsz Try.prog 75 = some 10) ∧
 (tsz Try.prog 76 = some 10) ∧
 (tsz Try.prog 77 = some 1) ∧
 (tsz Try.prog 79 = some 1) ∧
 (tsz Try.prog 80 = some 1) ∧
 (tsz Try.prog 81 = some 1) ∧
 (tsz Try.prog 82 = some 4) ∧
 (tsz Try.prog 83 = some 10) ∧
 (tsz Try.prog 84 = some 10) ∧
 (tsz Try.prog 85 = some 1) ∧
 (tsz Try.prog 86 = some 1) ∧
 (tsz Try.prog 87 = some 1) ∧
 (tsz Try.prog 88 = some 1) ∧
 (tsz Try.prog 89 = some 1) ∧
 (tsz Try.prog 91 = some 1) ∧
 (tsz Try.prog 93 = some 1) ∧
 (tsz Try.prog 94 = some 1) ∧
 (tsz Try.prog 95 = some 1) ∧
 (tsz Try.prog 96 = some 1) ∧
 (tsz Try.prog 97 = some 5) ∧
 (tsz Try.prog 98 = some 5) ∧
 (tsz Try.prog 99 = some 1) ∧
 (tsz Try.prog 100 = some 18) ∧
 (tsz Try.prog 101 = some 18) ∧
 (tsz Try.prog 102 = some 1) ∧
 (tsz Try.prog 103 = some 1) ∧
 (tsz Try.prog 105 = some 1) ∧
 (tsz Try.prog 106 = some 1) ∧
 (tsz Try.prog 107 = some 5) ∧
 (tsz Try.prog 108 = some 5) ∧
 (tsz Try.prog 109 = some 1) ∧
 (tsz Try.prog 110 = some 1) ∧
 (tsz Try.prog 111 = some 1) ∧
 (tsz Try.prog 112 = some 1) ∧
 (tsz Try.prog 113 = some 1) ∧
 (tsz Try.prog 114 = some 1) ∧
 (tsz Try.prog 115 = some 1) ∧
 (tsz Try.prog 116 = some 1) ∧
 (tsz Try.prog 117 = some 1) ∧
 (tsz Try.prog 118 = some 1) ∧
 (tsz Try.prog 119 = some 1) ∧
 (tsz Try.prog 120 = some 1) ∧
 (tsz Try.prog 121 = some 1) ∧
 (tsz Try.prog 122 = some 5) ∧
 (tsz Try.prog 124 = some 1) ∧
 (tsz Try.prog 125 = some 1) ∧
 (tsz Try.prog 127 = some 1) ∧
 (tsz Try.prog 128 = some 1) ∧
 (tsz Try.prog 129 = some 1) ∧
 (tsz Try.prog 130 = some 1) ∧
 (tsz Try.prog 131 = some 1) ∧
 (tsz Try.prog 132 = some 1) ∧
 (tsz Try.prog 133 = some 1) ∧
 (tsz Try.prog 134 = some 1) ∧
 (tsz Try.prog 135 = some 1) ∧
 (tsz Try.prog 136 = some 1) ∧
 (tsz Try.prog 137 = some 1) ∧
 (tsz Try.prog 138 = some 1) ∧
 (tsz Try.prog 139 = some 1) ∧
 (tsz Try.prog 140 = some 1) ∧
 (tsz Try.prog 141 = some 1) ∧
 (tsz Try.prog 142 = some 1) ∧
 (tsz Try.prog 143 = some 12) ∧
 (tsz Try.prog 144 = some 12) ∧
 (tsz Try.prog 145 = some 1) ∧
 (tsz Try.prog 146 = some 18) ∧
 (tsz Try.prog 147 = some 18) ∧
 (tsz Try.prog 148 = some 1) ∧
 (tsz Try.prog 149 = some 1) ∧
 (tsz Try.prog 150 = some 1) ∧
 (tsz Try.prog 151 = some 1) ∧
 (tsz Try.prog 153 = some 1) ∧
 (tsz Try.prog 154 = some 1) ∧
 (tsz Try.prog 155 = some 1) ∧
 (tsz Try.prog 156 = some 1) ∧
 (tsz Try.prog 157 = some 1) ∧
 (tsz Try.prog 158 = some 1) ∧
 (tsz Try.prog 159 = some 2) ∧
 (tsz Try.prog 160 = some 2) ∧
 (tsz Try.prog 161 = some 1) ∧
 (tsz Try.prog 162 = some 1) ∧
 (tsz Try.prog 163 = some 1) ∧
 (tsz Try.prog 165 = some 1) ∧
 (tsz Try.prog 166 = some 1) ∧
 (tsz Try.prog 167 = some 1) ∧
 (tsz Try.prog 169 = some 1) ∧
 (tsz Try.prog 170 = some 1) ∧
 (tsz Try.prog 172 = some 1) ∧
 (tsz Try.prog 173 = some 1) ∧
 (tsz Try.prog 174 = some 1) ∧
 (tsz Try.prog 176 = some 1) ∧
 (tsz Try.prog 177 = some 1) ∧
 (tsz Try.prog 178 = some 1) ∧
 (tsz Try.prog 179 = some 1) ∧
 (tsz Try.prog 180 = some 1) ∧
 (tsz Try.prog 182 = some 1) ∧
 (tsz Try.prog 183 = some 1) ∧
 (tsz Try.prog 184 = some 1) ∧
 (tsz Try.prog 185 = some 1) ∧
 (tsz Try.prog 186 = some 1) ∧
 (tsz Try.prog 187 = some 1) ∧
 (tsz Try.prog 188 = some 1) ∧
 (tsz Try.prog 190 = some 1) ∧
 (tsz Try.prog 191 = some 1) ∧
 (tsz Try.prog 192 = some 1) ∧
 (tsz Try.prog 193 = some 1) ∧
 (tsz Try.prog 195 = some 1) ∧
 (tsz Try.prog 196 = some 1) ∧
 (tsz Try.prog 197 = some 1) ∧
 (tsz Try.prog 198 = some 256) ∧
 (tsz Try.prog 200 = some 1) ∧
 (tsz Try.prog 201 = some 1) ∧
 (tsz Try.prog 202 = some 1) ∧
 (tsz Try.prog 203 = some 1) ∧
 (tsz Try.prog 204 = some 1) ∧
 (tsz Try.prog 205 = some 8) ∧
 (tsz Try.prog 206 = some 8) ∧
 (tsz Try.prog 208 = some 1) ∧
 (tsz Try.prog 210 = some 1) ∧
 (tsz Try.prog 211 = some 1) ∧
 (tsz Try.prog 212 = some 4) ∧
 (tsz Try.prog 213 = some 1) ∧
 (tsz Try.prog 214 = some 1) ∧
 (tsz Try.prog 215 = some 1) ∧
 (tsz Try.prog 216 = some 1) ∧
 (tsz Try.prog 217 = some 1) ∧
 (tsz Try.prog 218 = some 1) ∧
 (tsz Try.prog 219 = some 1) ∧
 (tsz Try.prog 220 = some 1) ∧
 (tsz Try.prog 221 = some 1) ∧
 (tsz Try.prog 222 = some 1) ∧
 (tsz Try.prog 223 = some 1) ∧
 (tsz Try.prog 224 = some 1) ∧
 (tsz Try.prog 225 = some 1) ∧
 (tsz Try.prog 226 = some 1) ∧
 (tsz Try.prog 228 = some 1) ∧
 (tsz Try.prog 229 = some 1) ∧
 (tsz Try.prog 230 = some 1) ∧
 (tsz Try.prog 231 = some 1) ∧
 (tsz Try.prog 232 = some 1) ∧
 (tsz Try.prog 234 = some 1) ∧
 (tsz Try.prog 235 = some 1) ∧
 (tsz Try.prog 236 = some 1) ∧
 (tsz Try.prog 237 = some 1) ∧
 (tsz Try.prog 238 = some 1) ∧
 (tsz Try.prog 239 = some 1) ∧
 (tsz Try.prog 247 = some 1) ∧
 (tsz Try.prog 248 = some 1) ∧
 (tsz Try.prog 253 = some 1) := by
 refine ⟨?_, ?_, ?_, ?_, ?_, ?_, ?_, ?_, ?_, ?_, ?_, ?_, ?_, ?_, ?_, ?_, ?_, ?_, ?_, ?_, ?_, ?_, ?_, ?_, ?_, ?_, ?_, ?_, ?_, ?_, ?_, ?_, ?_, ?_, ?_, ?_, ?_, ?_, ?_, ?_, ?_, ?_, ?_, ?_, ?_, ?_, ?_, ?_, ?_, ?_, ?_, ?_, ?_, ?_, ?_, ?_, ?_, ?_, ?_, ?_, ?_, ?_, ?_, ?_, ?_, ?_, ?_, ?_, ?_, ?_, ?_, ?_, ?_, ?_, ?_, ?_, ?_, ?_, ?_, ?_, ?_, ?_, ?_, ?_, ?_, ?_, ?_, ?_, ?_, ?_, ?_, ?_, ?_, ?_, ?_, ?_, ?_, ?_, ?_, ?_, ?_, ?_, ?_, ?_, ?_, ?_, ?_, ?_, ?_, ?_, ?_, ?_, ?_, ?_, ?_, ?_, ?_, ?_, ?_, ?_, ?_, ?_, ?_, ?_, ?_, ?_, ?_, ?_, ?_, ?_, ?_, ?_, ?_, ?_, ?_, ?_, ?_, ?_, ?_, ?_, ?_, ?_, ?_, ?_, ?_, ?_, ?_, ?_, ?_, ?_, ?_, ?_, ?_, ?_, ?_, ?_, ?_, ?_, ?_, ?_, ?_, ?_, ?_, ?_, ?_, ?_, ?_, ?_, ?_, ?_, ?_, ?_, ?_, ?_, ?_, ?_, ?_, ?_, ?_, ?_, ?_, ?_, ?_, ?_, ?_, ?_, ?_, ?_, ?_, ?_, ?_, ?_, ?_, ?_, ?_, ?_, ?_, ?_, ?_, ?_, ?_, ?_, ?_, ?_, ?_, ?_, ?_⟩
 all_goals (kernel_rfl)
@[push_cast] theorem TZ : (tzero Try.prog 1 = some [.nilFunc]) ∧
 (tzero Try.prog 2 = some [.int .i64 0]) ∧
 (tzero Try.prog 3 = some [.int .i64 0]) ∧
 (tzero Try.prog 4 = some [.bool false]) ∧
 (tzero Try.prog 5 = some [.int .u8 0]) ∧
 (tzero Try.prog 9 = some [.string .empty]) ∧
 (tzero Try.prog 12 = some [.int .u64 0]) ∧
 (tzero Try.prog 13 = some [.string .empty, .int .u64 0]) ∧
 (tzero Try.prog 20 = some [.nilIface]) ∧
 (tzero Try.prog 21 = some [.int .i32 0]) ∧
 (tzero Try.prog 22 = some [.slice none 0 0]) ∧
 (tzero Try.prog 23 = some [.nilFunc]) ∧
 (tzero Try.prog 24 = some [.slice none 0 0]) ∧
 (tzero Try.prog 25 = some [.int .i64 0]) ∧
 (tzero Try.prog 27 = some [.nilFunc]) ∧
 (tzero Try.prog 29 = some [.nilFunc]) ∧
 (tzero Try.prog 30 = some [.int .u32 0]) ∧
 (tzero Try.prog 31 = some [.int .u32 0, .int .i64 0]) ∧
 (tzero Try.prog 32 = some [.int .u32 0, .int .i64 0]) ∧
 (tzero Try.prog 33 = some [.nilFunc]) ∧
 (tzero Try.prog 34 = some [.nilFunc]) ∧
 (tzero Try.prog 35 = some [.int .u32 0, .int .i64 0, .int .i64 0, .int .i64 0]) ∧
 (tzero Try.prog 36 = some [.int .u32 0, .int .i64 0, .int .i64 0, .int .i64 0]) ∧
 (tzero Try.prog 37 = some [.nilFunc]) ∧
 (tzero Try.prog 38 = some [.nilFunc]) ∧
 (tzero Try.prog 39 = some [.slice none 0 0]) ∧
 (tzero Try.prog 40 = some [.slice none 0 0]) ∧
 (tzero Try.prog 41 = some [.int .i64 0, .slice none 0 0, .int .u32 0, .int .u32 0, .int .u32 0, .bool false, .bool false, .slice none 0 0]) ∧
 (tzero Try.prog 42 = some [.int .i64 0, .slice none 0 0, .int .u32 0, .int .u32 0, .int .u32 0, .bool false, .bool false, .slice none 0 0]) ∧
 (tzero Try.prog 43 = some [.int .i64 0, .int .u32 0, .int .u32 0, .int .i64 0, .slice none 0 0, .int .i64 0, .slice none 0 0, .int .u32 0, .int .u32 0, .int .u32 0, .bool false, .bool false, .slice none 0 0, .slice none 0 0, .int .i64 0, .int .i64 0, .slice none 0 0]) ∧
 (tzero Try.prog 44 = some [.int .i64 0, .int .u32 0, .int .u32 0, .int .i64 0, .slice none 0 0, .int .i64 0, .slice none 0 0, .int .u32 0, .int .u32 0, .int .u32 0, .bool false, .bool false, .slice none 0 0, .slice none 0 0, .int .i64 0, .int .i64 0, .slice none 0 0]) ∧
 (tzero Try.prog 45 = some [.int .i64 0, .int .i64 0]) ∧
 (tzero Try.prog 46 = some [.int .i64 0, .int .i64 0]) ∧
 (tzero Try.prog 48 = some [.nilFunc]) ∧
 (tzero Try.prog 49 = some [.int .i64 0, .slice none 0 0, .int .u32 0, .int .u32 0, .int .u32 0, .bool false, .bool false, .slice none 0 0]) ∧
 (tzero Try.prog 50 = some [.int .i64 0, .int .u32 0, .int .u32 0, .int .i64 0, .slice none 0 0, .int .i64 0, .slice none 0 0, .int .u32 0, .int .u32 0, .int .u32 0, .bool false, .bool false, .slice none 0 0, .slice none 0 0, .int .i64 0, .int .i64 0, .slice none 0 0]) ∧
 (tzero Try.prog 51 = some [.int .i64 0, .int .u32 0, .int .u32 0, .int .i64 0, .slice none 0 0, .int .i64 0, .slice none 0 0, .int .u32 0, .int .u32 0, .int .u32 0, .bool false, .bool false, .slice none 0 0, .slice none 0 0, .int .i64 0, .int .i64 0, .slice none 0 0]) ∧
 (tzero Try.prog 52 = some [.int .i64 0, .int .i64 0]) ∧
 (tzero Try.prog 54 = some [.nilFunc]) ∧
 (tzero Try.prog 55 = some [.nilFunc]) ∧
 (tzero Try.prog 56 = some [.nilFunc]) ∧
 (tzero Try.prog 57 = some [.nilFunc]) ∧
 (tzero Try.prog 58 = some [.nilFunc]) ∧
 (tzero Try.prog 59 = some [.int .i64 0, .int .u32 0, .int .u32 0, .int .i64 0, .slice none 0 0, .int .i64 0, .slice none 0 0, .int .u32 0, .int .u32 0, .int .u32 0, .bool false, .bool false, .slice none 0 0, .slice none 0 0, .int .i64 0, .int .i64 0, .slice none 0 0]) ∧
 (tzero Try.prog 60 = some [.int .u16 0]) ∧
 (tzero Try.prog 61 = some [.nilFunc]) ∧
 (tzero Try.prog 63 = some [.nilFunc]) ∧
 (tzero Try.prog 64 = some [.nilFunc]) ∧
 (tzero Try.prog 65 = some [.nilFunc]) ∧
 (tzero Try.prog 66 = some [.nilFunc]) ∧
 (tzero Try.prog 69 = some [.int .u32 0, .int .u32 0, .int .i64 0, .int .u32 0]) ∧
 (tzero Try.prog 70 = some [.int .u32 0, .int .u32 0, .int .i64 0, .int .u32 0]) ∧
 (tzero Try.prog 71 = some [.int .u32 0, .int .u32 0, .int .i64 0, .int .u32 0, .int .i64 0, .slice none 0 0, .int .i64 0, .int .i64 0, .int .i64 0, .int .u32 0]) ∧
 (tzero Try.prog 72 = some [.int .u32 0, .int .u32 0, .int .i64 0, .int .u32 0, .int .i64 0, .slice none 0 0, .int .i64 0, .int .i64 0, .int .i64 0, .int .u32 0]) ∧
 (tzero Try.prog 73 = some [.nilFunc]) ∧
 (tzero Try.prog 74 = some [.int .u32 0, .int .u32 0, .int .i64 0, .int .u32 0]) ∧
 (tzero Try.prog 75 = some [.int .u32 0, .int .u32 0, .int .i64 0, .int .u32 0, .int .i64 0, .slice none 0 0, .int .i64 0, .int .i64 0, .int .i64 0, .int .u32 0]) ∧
 (tzero Try.prog 76 = some [.int .u32 0, .int .u32 0, .int .i64 0, .int .u32 0, .int .i64 0, .slice none 0 0, .int .i64 0, .int .i64 0, .int .i64 0, .int .u32 0]) ∧
 (tzero Try.prog 77 = some [.slice none 0 0]) ∧
 (tzero Try.prog 79 = some [.nilFunc]) ∧
 (tzero Try.prog 80 = some [.nilFunc]) ∧
 (tzero Try.prog 81 = some [.nilFunc]) ∧
 (tzero Try.prog 82 = some [.int .u32 0, .int .u32 0, .int .i64 0, .int .u32 0]) ∧
 (tzero Try.prog 83 = some [.int .u32 0, .int .u32 0, .int .i64 0, .int .u32 0, .int .i64 0, .slice none 0 0, .int .i64 0, .int .i64 0, .int .i64 0, .int .u32 0]) ∧
 (tzero Try.prog 84 = some [.int .u32 0, .int .u32 0, .int .i64 0, .int .u32 0, .int .i64 0, .slice none 0 0, .int .i64 0, .int .i64 0, .int .i64 0, .int .u32 0]) ∧
 (tzero Try.prog 85 = some [.nilFunc]) ∧
 (tzero Try.prog 86 = some [.nilFunc]) ∧
 (tzero Try.prog 87 = some [.slice none 0 0]) ∧
 (tzero Try.prog 88 = some [.nilFunc]) ∧
 (tzero Try.prog 89 = some [.nilFunc]) ∧
 (tzero Try.prog 91 = some [.nilFunc]) ∧
 (tzero Try.prog 93 = some [.nilFunc]) ∧
 (tzero Try.prog 94 = some [.nilFunc]) ∧
 (tzero Try.prog 95 = some [.nilFunc]) ∧
 (tzero Try.prog 96 = some [.slice none 0 0]) ∧
 (tzero Try.prog 97 = some [.int .i64 0, .int .i64 0, .int .i64 0, .int .i64 0, .slice none 0 0]) ∧
 (tzero Try.prog 98 = some [.int .i64 0, .int .i64 0, .int .i64 0, .int .i64 0, .slice none 0 0]) ∧
 (tzero Try.prog 99 = some [.nilFunc]) ∧
 (tzero Try.prog 100 = some [.int .i64 0, .int .i64 0, .int .u32 0, .int .u32 0, .int .i64 0, .slice none 0 0, .int .i64 0, .slice none 0 0, .int .u32 0, .int .u32 0, .int .u32 0, .bool false, .bool false, .slice none 0 0, .slice none 0 0, .int .i64 0, .int .i64 0, .slice none 0 0]) ∧
 (tzero Try.prog 101 = some [.int .i64 0, .int .i64 0, .int .u32 0, .int .u32 0, .int .i64 0, .slice none 0 0, .int .i64 0, .slice none 0 0, .int .u32 0, .int .u32 0, .int .u32 0, .bool false, .bool false, .slice none 0 0, .slice none 0 0, .int .i64 0, .int .i64 0, .slice none 0 0]) ∧
 (tzero Try.prog 102 = some [.nilFunc]) ∧
 (tzero Try.prog 103 = some [.nilFunc]) ∧
 (tzero Try.prog 105 = some [.nilFunc]) ∧
 (tzero Try.prog 106 = some [.nilFunc]) ∧
 (tzero Try.prog 107 = some [.bool false, .int .u32 0, .int .i64 0, .int .i64 0, .int .i64 0]) ∧
 (tzero Try.prog 108 = some [.bool false, .int .u32 0, .int .i64 0, .int .i64 0, .int .i64 0]) ∧
 (tzero Try.prog 109 = some [.slice none 0 0]) ∧
 (tzero Try.prog 110 = some [.nilFunc]) ∧
 (tzero Try.prog 111 = some [.nilFunc]) ∧
 (tzero Try.prog 112 = some [.nilFunc]) ∧
 (tzero Try.prog 113 = some [.int .u64 0]) ∧
 (tzero Try.prog 114 = some [.nilFunc]) ∧
 (tzero Try.prog 115 = some [.map none]) ∧
 (tzero Try.prog 116 = some [.nilFunc]) ∧
 (tzero Try.prog 117 = some [.nilFunc]) ∧
 (tzero Try.prog 118 = some [.nilFunc]) ∧
 (tzero Try.prog 119 = some [.nilFunc]) ∧
 (tzero Try.prog 120 = some [.nilFunc]) ∧
 (tzero Try.prog 121 = some [.nilFunc]) ∧
 (tzero Try.prog 124 = some [.nilFunc]) ∧
 (tzero Try.prog 125 = some [.nilFunc]) ∧
 (tzero Try.prog 127 = some [.nilFunc]) ∧
 (tzero Try.prog 128 = some [.nilFunc]) ∧
 (tzero Try.prog 129 = some [.nilFunc]) ∧
 (tzero Try.prog 130 = some [.nilFunc]) ∧
 (tzero Try.prog 131 = some [.pointer none]) ∧
 (tzero Try.prog 132 = some [.nilFunc]) ∧
 (tzero Try.prog 133 = some [.slice none 0 0]) ∧
 (tzero Try.prog 134 = some [.slice none 0 0]) ∧
 (tzero Try.prog 135 = some [.nilFunc]) ∧
 (tzero Try.prog 136 = some [.nilFunc]) ∧
 (tzero Try.prog 137 = some [.nilFunc]) ∧
 (tzero Try.prog 138 = some [.int .u64 0]) ∧
 (tzero Try.prog 139 = some [.pointer none]) ∧
 (tzero Try.prog 140 = some [.nilFunc]) ∧
 (tzero Try.prog 141 = some [.nilFunc]) ∧
 (tzero Try.prog 142 = some [.nilFunc]) ∧
 (tzero Try.prog 143 = some [.int .u32 0, .int .u32 0, .int .i64 0, .int .u32 0, .int .i64 0, .slice none 0 0, .int .i64 0, .int .i64 0, .int .i64 0, .int .u32 0, .slice none 0 0, .slice none 0 0]) ∧
 (tzero Try.prog 144 = some [.int .u32 0, .int .u32 0, .int .i64 0, .int .u32 0, .int .i64 0, .slice none 0 0, .int .i64 0, .int .i64 0, .int .i64 0, .int .u32 0, .slice none 0 0, .slice none 0 0]) ∧
 (tzero Try.prog 145 = some [.nilFunc]) ∧
 (tzero Try.prog 146 = some [.int .i64 0, .int .i64 0, .int .u32 0, .int .u32 0, .int .i64 0, .slice none 0 0, .int .i64 0, .slice none 0 0, .int .u32 0, .int .u32 0, .int .u32 0, .bool false, .bool false, .slice none 0 0, .slice none 0 0, .int .i64 0, .int .i64 0, .slice none 0 0]) ∧
 (tzero Try.prog 147 = some [.int .i64 0, .int .i64 0, .int .u32 0, .int .u32 0, .int .i64 0, .slice none 0 0, .int .i64 0, .slice none 0 0, .int .u32 0, .int .u32 0, .int .u32 0, .bool false, .bool false, .slice none 0 0, .slice none 0 0, .int .i64 0, .int .i64 0, .slice none 0 0]) ∧
 (tzero Try.prog 148 = some [.nilFunc]) ∧
 (tzero Try.prog 149 = some [.nilFunc]) ∧
 (tzero Try.prog 150 = some [.nilFunc]) ∧
 (tzero Try.prog 151 = some [.nilFunc]) ∧
 (tzero Try.prog 153 = some [.nilFunc]) ∧
 (tzero Try.prog 154 = some [.nilFunc]) ∧
 (tzero Try.prog 155 = some [.nilFunc]) ∧
 (tzero Try.prog 156 = some [.nilFunc]) ∧
 (tzero Try.prog 157 = some [.nilFunc]) ∧
 (tzero Try.prog 158 = some [.pointer none]) ∧
 (tzero Try.prog 159 = some [.slice none 0 0, .bool false]) ∧
 (tzero Try.prog 160 = some [.slice none 0 0, .bool false]) ∧
 (tzero Try.prog 161 = some [.nilFunc]) ∧
 (tzero Try.prog 162 = some [.nilFunc]) ∧
 (tzero Try.prog 163 = some [.nilFunc]) ∧
 (tzero Try.prog 165 = some [.nilFunc]) ∧
 (tzero Try.prog 166 = some [.nilFunc]) ∧
 (tzero Try.prog 167 = some [.nilFunc]) ∧
 (tzero Try.prog 169 = some [.nilFunc]) ∧
 (tzero Try.prog 170 = some [.nilFunc]) ∧
 (tzero Try.prog 172 = some [.nilFunc]) ∧
 (tzero Try.prog 173 = some [.nilFunc]) ∧
 (tzero Try.prog 174 = some [.nilFunc]) ∧
 (tzero Try.prog 176 = some [.nilFunc]) ∧
 (tzero Try.prog 177 = some [.nilFunc]) ∧
 (tzero Try.prog 178 = some [.nilFunc]) ∧
 (tzero Try.prog 179 = some [.nilFunc]) ∧
 (tzero Try.prog 180 = some [.nilFunc]) ∧
 (tzero Try.prog 182 = some [.nilFunc]) ∧
 (tzero Try.prog 183 = some [.nilFunc]) ∧
 (tzero Try.prog 184 = some [.nilFunc]) ∧
 (tzero Try.prog 185 = some [.nilFunc]) ∧
 (tzero Try.prog 186 = some [.nilFunc]) ∧
 (tzero Try.prog 187 = some [.nilFunc]) ∧
 (tzero Try.prog 188 = some [.int .i64 0]) ∧
 (tzero Try.prog 190 = some [.nilFunc]) ∧
 (tzero Try.prog 191 = some [.nilFunc]) ∧
 (tzero Try.prog 192 = some [.nilFunc]) ∧
 (tzero Try.prog 193 = some [.nilFunc]) ∧
 (tzero Try.prog 195 = some [.nilFunc]) ∧
 (tzero Try.prog 196 = some [.nilFunc]) ∧
 (tzero Try.prog 197 = some [.nilFunc]) ∧
 (tzero Try.prog 200 = some [.nilFunc]) ∧
 (tzero Try.prog 201 = some [.nilFunc]) ∧
 (tzero Try.prog 202 = some [.nilFunc]) ∧
 (tzero Try.prog 203 = some [.nilFunc]) ∧
 (tzero Try.prog 204 = some [.nilFunc]) ∧
 (tzero Try.prog 205 = some [.int .u32 0, .int .i64 0, .slice none 0 0, .slice none 0 0, .int .u32 0, .int .u32 0, .int .i64 0, .int .u32 0]) ∧
 (tzero Try.prog 206 = some [.int .u32 0, .int .i64 0, .slice none 0 0, .slice none 0 0, .int .u32 0, .int .u32 0, .int .i64 0, .int .u32 0]) ∧
 (tzero Try.prog 208 = some [.nilFunc]) ∧
 (tzero Try.prog 210 = some [.nilFunc]) ∧
 (tzero Try.prog 211 = some [.nilFunc]) ∧
 (tzero Try.prog 213 = some [.pointer none]) ∧
 (tzero Try.prog 214 = some [.slice none 0 0]) ∧
 (tzero Try.prog 215 = some [.slice none 0 0]) ∧
 (tzero Try.prog 216 = some [.nilFunc]) ∧
 (tzero Try.prog 217 = some [.nilFunc]) ∧
 (tzero Try.prog 218 = some [.int .u64 0]) ∧
 (tzero Try.prog 219 = some [.nilFunc]) ∧
 (tzero Try.prog 220 = some [.nilFunc]) ∧
 (tzero Try.prog 221 = some [.nilFunc]) ∧
 (tzero Try.prog 222 = some [.pointer none]) ∧
 (tzero Try.prog 223 = some [.nilFunc]) ∧
 (tzero Try.prog 224 = some [.nilFunc]) ∧
 (tzero Try.prog 225 = some [.pointer none]) ∧
 (tzero Try.prog 226 = some [.nilFunc]) ∧
 (tzero Try.prog 228 = some [.nilFunc]) ∧
 (tzero Try.prog 229 = some [.nilFunc]) ∧
 (tzero Try.prog 230 = some [.pointer none]) ∧
 (tzero Try.prog 231 = some [.nilFunc]) ∧
 (tzero Try.prog 232 = some [.pointer none]) ∧
 (tzero Try.prog 234 = some [.nilFunc]) ∧
 (tzero Try.prog 235 = some [.nilFunc]) ∧
 (tzero Try.prog 236 = some [.nilFunc]) ∧
 (tzero Try.prog 237 = some [.nilFunc]) ∧
 (tzero Try.prog 238 = some [.nilFunc]) ∧
 (tzero Try.prog 239 = some [.nilFunc]) ∧
 (tzero Try.prog 247 = some [.nilFunc]) ∧
 (tzero Try.prog 248 = some [.pointer none]) ∧
 (tzero Try.prog 67 = some (List.replicate 2 (.int .i64 0))) ∧
 (tzero Try.prog 122 = some (List.replicate 5 (.int .i64 0))) ∧
 (tzero Try.prog 198 = some (List.replicate 256 (.bool false))) ∧
 (tzero Try.prog 212 = some (List.replicate 4 (.int .u8 0))) := by
 refine ⟨?_, ?_, ?_, ?_, ?_, ?_, ?_, ?_, ?_, ?_, ?_, ?_, ?_, ?_, ?_, ?_, ?_, ?_, ?_, ?_, ?_, ?_, ?_, ?_, ?_, ?_, ?_, ?_, ?_, ?_, ?_, ?_, ?_, ?_, ?_, ?_, ?_, ?_, ?_, ?_, ?_, ?_, ?_, ?_, ?_, ?_, ?_, ?_, ?_, ?_, ?_, ?_, ?_, ?_, ?_, ?_, ?_, ?_, ?_, ?_, ?_, ?_, ?_, ?_, ?_, ?_, ?_, ?_, ?_, ?_, ?_, ?_, ?_, ?_, ?_, ?_, ?_, ?_, ?_, ?_, ?_, ?_, ?_, ?_, ?_, ?_, ?_, ?_, ?_, ?_, ?_, ?_, ?_, ?_, ?_, ?_, ?_, ?_, ?_, ?_, ?_, ?_, ?_, ?_, ?_, ?_, ?_, ?_, ?_, ?_, ?_, ?_, ?_, ?_, ?_, ?_, ?_, ?_, ?_, ?_, ?_, ?_, ?_, ?_, ?_, ?_, ?_, ?_, ?_, ?_, ?_, ?_, ?_, ?_, ?_, ?_, ?_, ?_, ?_, ?_, ?_, ?_, ?_, ?_, ?_, ?_, ?_, ?_, ?_, ?_, ?_, ?_, ?_, ?_, ?_, ?_, ?_, ?_, ?_, ?_, ?_, ?_, ?_, ?_, ?_, ?_, ?_, ?_, ?_, ?_, ?_, ?_, ?_, ?_, ?_, ?_, ?_, ?_, ?_, ?_, ?_, ?_, ?_, ?_, ?_, ?_, ?_, ?_, ?_, ?_, ?_, ?_, ?_, ?_, ?_, ?_, ?_, ?_, ?_, ?_, ?_, ?_, ?_, ?_, ?_⟩
 all_goals (kernel_rfl)
@[push_cast] theorem TB : (tby Try.prog 5 = some 1) ∧
 (tby Try.prog 30 = some 4) ∧
 (tby Try.prog 32 = some 16) ∧
 (tby Try.prog 36 = some 32) ∧
 (tby Try.prog 98 = some 56) ∧
 (tby Try.prog 101 = some 192) ∧
 (tby Try.prog 108 = some 40) ∧
 (tby Try.prog 147 = some 192) := by
 refine ⟨?_, ?_, ?_, ?_, ?_, ?_, ?_, ?_⟩
 all_goals (kernel_rfl)
@[push_cast] theorem TF : (∀ b off, afield Try.prog 13 (.pointer (some ⟨b, off, none⟩)) 0 = some (.pointer (some ⟨b, off + 0, none⟩))) ∧
 (∀ b off, afield Try.prog 13 (.pointer (some ⟨b, off, none⟩)) 1 = some (.pointer (some ⟨b, off + 1, none⟩))) ∧
 (∀ b off, afield Try.prog 31 (.pointer (some ⟨b, off, none⟩)) 0 = some (.pointer (some ⟨b, off + 0, none⟩))) ∧
 (∀ b off, afield Try.prog 31 (.pointer (some ⟨b, off, none⟩)) 1 = some (.pointer (some ⟨b, off + 1, none⟩))) ∧
 (∀ b off, afield Try.prog 32 (.pointer (some ⟨b, off, none⟩)) 0 = some (.pointer (some ⟨b, off + 0, none⟩))) ∧
 (∀ b off, afield Try.prog 32 (.pointer (some ⟨b, off, none⟩)) 1 = some (.pointer (some ⟨b, off + 1, none⟩))) ∧
 (∀ b off, afield Try.prog 35 (.pointer (some ⟨b, off, none⟩)) 0 = some (.pointer (some ⟨b, off + 0, none⟩))) ∧
 (∀ b off, afield Try.prog 35 (.pointer (some ⟨b, off, none⟩)) 1 = some (.pointer (some ⟨b, off + 2, none⟩))) ∧
 (∀ b off, afield Try.prog 35 (.pointer (some ⟨b, off, none⟩)) 2 = some (.pointer (some ⟨b, off + 3, none⟩))) ∧
 (∀ b off, afield Try.prog 36 (.pointer (some ⟨b, off, none⟩)) 0 = some (.pointer (some ⟨b, off + 0, none⟩))) ∧
 (∀ b off, afield Try.prog 36 (.pointer (some ⟨b, off, none⟩)) 1 = some (.pointer (some ⟨b, off + 2, none⟩))) ∧
 (∀ b off, afield Try.prog 36 (.pointer (some ⟨b, off, none⟩)) 2 = some (.pointer (some ⟨b, off + 3, none⟩))) ∧
 (∀ b off, afield Try.prog 41 (.pointer (some ⟨b, off, none⟩)) 0 = some (.pointer (some ⟨b, off + 0, none⟩))) ∧
 (∀ b off, afield Try.prog 41 (.pointer (some ⟨b, off, none⟩)) 1 = some (.pointer (some ⟨b, off + 1, none⟩))) ∧
 (∀ b off, afield Try.prog 41 (.pointer (some ⟨b, off, none⟩)) 2 = some (.pointer (some ⟨b, off + 2, none⟩))) ∧
 (∀ b off, afield Try.prog 41 (.pointer (some ⟨b, off, none⟩)) 3 = some (.pointer (some ⟨b, off + 3, none⟩))) ∧
 (∀ b off, afield Try.prog 41 (.pointer (some ⟨b, off, none⟩)) 4 = some (.pointer (some ⟨b, off + 4, none⟩))) ∧
 (∀ b off, afield Try.prog 41 (.pointer (some ⟨b, off, none⟩)) 5 = some (.pointer (some ⟨b, off + 5, none⟩))) ∧
 (∀ b off, afield Try.prog 41 (.pointer (some ⟨b, off, none⟩)) 6 = some (.pointer (some ⟨b, off + 6, none⟩))) ∧
 (∀ b off, afield Try.prog 41 (.pointer (some ⟨b, off, none⟩)) 7 = some (.pointer (some ⟨b, off + 7, none⟩))) ∧
 (∀ b off, afield Try.prog 42 (.pointer (some ⟨b, off, none⟩)) 0 = some (.pointer (some ⟨b, off + 0, none⟩))) ∧
 (∀ b off, afield Try.prog 42 (.pointer (some ⟨b, off, none⟩)) 1 = some (.pointer (some ⟨b, off + 1, none⟩))) ∧
 (∀ b off, afield Try.prog 42 (.pointer (some ⟨b, off, none⟩)) 2 = some (.pointer (some ⟨b, off + 2, none⟩))) ∧
 (∀ b off, afield Try.prog 42 (.pointer (some ⟨b, off, none⟩)) 3 = some (.pointer (some ⟨b, off + 3, none⟩))) ∧
 (∀ b off, afield Try.prog 42 (.pointer (some ⟨b, off, none⟩)) 4 = some (.pointer (some ⟨b, off + 4, none⟩))) ∧
 (∀ b off, afield Try.prog 42 (.pointer (some ⟨b, off, none⟩)) 5 = some (.pointer (some ⟨b, off + 5, none⟩))) ∧
 (∀ b off, afield Try.prog 42 (.pointer (some ⟨b, off, none⟩)) 6 = some (.pointer (some ⟨b, off + 6, none⟩))) ∧
 (∀ b off, afield Try.prog 42 (.pointer (some ⟨b, off, none⟩)) 7 = some (.pointer (some ⟨b, off + 7, none⟩))) ∧
 (∀ b off, afield Try.prog 43 (.pointer (some ⟨b, off, none⟩)) 0 = some (.pointer (some ⟨b, off + 0, none⟩))) ∧
 (∀ b off, afield Try.prog 43 (.pointer (some ⟨b, off, none⟩)) 1 = some (.pointer (some ⟨b, off + 1, none⟩))) ∧
 (∀ b off, afield Try.prog 43 (.pointer (some ⟨b, off, none⟩)) 2 = some (.pointer (some ⟨b, off + 2, none⟩))) ∧
 (∀ b off, afield Try.prog 43 (.pointer (some ⟨b, off, none⟩)) 3 = some (.pointer (some ⟨b, off + 3, none⟩))) ∧
 (∀ b off, afield Try.prog 43 (.pointer (some ⟨b, off, none⟩)) 4 = some (.pointer (some ⟨b, off + 4, none⟩))) ∧
 (∀ b off, afield Try.prog 43 (.pointer (some ⟨b, off, none⟩)) 5 = some (.pointer (some ⟨b, off + 5, none⟩))) ∧
 (∀ b off, afield Try.prog 43 (.pointer (some ⟨b, off, none⟩)) 6 = some (.pointer (some ⟨b, off + 13, none⟩))) ∧
 (∀ b off, afield Try.prog 43 (.pointer (some ⟨b, off, none⟩)) 7 = some (.pointer (some ⟨b, off + 14, none⟩))) ∧
 (∀ b off, afield Try.prog 43 (.pointer (some ⟨b, off, none⟩)) 8 = some (.pointer (some ⟨b, off + 15, none⟩))) ∧
 (∀ b off, afield Try.prog 43 (.pointer (some ⟨b, off, none⟩)) 9 = some (.pointer (some ⟨b, off + 16, none⟩))) ∧
 (∀ b off, afield Try.prog 44 (.pointer (some ⟨b, off, none⟩)) 0 = some (.pointer (some ⟨b, off + 0, none⟩))) ∧
 (∀ b off, afield Try.prog 44 (.pointer (some ⟨b, off, none⟩)) 1 = some (.pointer (some ⟨b, off + 1, none⟩))) ∧
 (∀ b off, afield Try.prog 44 (.pointer (some ⟨b, off, none⟩)) 2 = some (.pointer (some ⟨b, off + 2, none⟩))) ∧
 (∀ b off, afield Try.prog 44 (.pointer (some ⟨b, off, none⟩)) 3 = some (.pointer (some ⟨b, off + 3, none⟩))) ∧
 (∀ b off, afield Try.prog 44 (.pointer (some ⟨b, off, none⟩)) 4 = some (.pointer (some ⟨b, off + 4, none⟩))) ∧
 (∀ b off, afield Try.prog 44 (.pointer (some ⟨b, off, none⟩)) 5 = some (.pointer (some ⟨b, off + 5, none⟩))) ∧
 (∀ b off, afield Try.prog 44 (.pointer (some ⟨b, off, none⟩)) 6 = some (.pointer (some ⟨b, off + 13, none⟩))) ∧
 (∀ b off, afield Try.prog 44 (.pointer (some ⟨b, off, none⟩)) 7 = some (.pointer (some ⟨b, off + 14, none⟩))) ∧
 (∀ b off, afield Try.prog 44 (.pointer (some ⟨b, off, none⟩)) 8 = some (.pointer (some ⟨b, off + 15, none⟩))) ∧
 (∀ b off, afield Try.prog 44 (.pointer (some ⟨b, off, none⟩)) 9 = some (.pointer (some ⟨b, off + 16, none⟩))) ∧
 (∀ b off, afield Try.prog 45 (.pointer (some ⟨b, off, none⟩)) 0 = some (.pointer (some ⟨b, off + 0, none⟩))) ∧
 (∀ b off, afield Try.prog 45 (.pointer (some ⟨b, off, none⟩)) 1 = some (.pointer (some ⟨b, off + 1, none⟩))) ∧
 (∀ b off, afield Try.prog 46 (.pointer (some ⟨b, off, none⟩)) 0 = some (.pointer (some ⟨b, off + 0, none⟩))) ∧
 (∀ b off, afield Try.prog 46 (.pointer (some ⟨b, off, none⟩)) 1 = some (.pointer (some ⟨b, off + 1, none⟩))) ∧
 (∀ b off, afield Try.prog 49 (.pointer (some ⟨b, off, none⟩)) 0 = some (.pointer (some ⟨b, off + 0, none⟩))) ∧
 (∀ b off, afield Try.prog 49 (.pointer (some ⟨b, off, none⟩)) 1 = some (.pointer (some ⟨b, off + 1, none⟩))) ∧
 (∀ b off, afield Try.prog 49 (.pointer (some ⟨b, off, none⟩)) 2 = some (.pointer (some ⟨b, off + 2, none⟩))) ∧
 (∀ b off, afield Try.prog 49 (.pointer (some ⟨b, off, none⟩)) 3 = some (.pointer (some ⟨b, off + 3, none⟩))) ∧
 (∀ b off, afield Try.prog 49 (.pointer (some ⟨b, off, none⟩)) 4 = some (.pointer (some ⟨b, off + 4, none⟩))) ∧
 (∀ b off, afield Try.prog 49 (.pointer (some ⟨b, off, none⟩)) 5 = some (.pointer (some ⟨b, off + 5, none⟩))) ∧
 (∀ b off, afield Try.prog 49 (.pointer (some ⟨b, off, none⟩)) 6 = some (.pointer (some ⟨b, off + 6, none⟩))) ∧
 (∀ b off, afield Try.prog 49 (.pointer (some ⟨b, off, none⟩)) 7 = some (.pointer (some ⟨b, off + 7, none⟩))) ∧
 (∀ b off, afield Try.prog 50 (.pointer (some ⟨b, off, none⟩)) 0 = some (.pointer (some ⟨b, off + 0, none⟩))) ∧
 (∀ b off, afield Try.prog 50 (.pointer (some ⟨b, off, none⟩)) 1 = some (.pointer (some ⟨b, off + 1, none⟩))) ∧
 (∀ b off, afield Try.prog 50 (.pointer (some ⟨b, off, none⟩)) 2 = some (.pointer (some ⟨b, off + 2, none⟩))) ∧
 (∀ b off, afield Try.prog 50 (.pointer (some ⟨b, off, none⟩)) 3 = some (.pointer (some ⟨b, off + 3, none⟩))) ∧
 (∀ b off, afield Try.prog 50 (.pointer (some ⟨b, off, none⟩)) 4 = some (.pointer (some ⟨b, off + 4, none⟩))) ∧
 (∀ b off, afield Try.prog 50 (.pointer (some ⟨b, off, none⟩)) 5 = some (.pointer (some ⟨b, off + 5, none⟩))) ∧
 (∀ b off, afield Try.prog 50 (.pointer (some ⟨b, off, none⟩)) 6 = some (.pointer (some ⟨b, off + 13, none⟩))) ∧
 (∀ b off, afield Try.prog 50 (.pointer (some ⟨b, off, none⟩)) 7 = some (.pointer (some ⟨b, off + 14, none⟩))) ∧
 (∀ b off, afield Try.prog 50 (.pointer (some ⟨b, off, none⟩)) 8 = some (.pointer (some ⟨b, off + 15, none⟩))) ∧
 (∀ b off, afield Try.prog 50 (.pointer (some ⟨b, off, none⟩)) 9 = some (.pointer (some ⟨b, off + 16, none⟩))) ∧
 (∀ b off, afield Try.prog 51 (.pointer (some ⟨b, off, none⟩)) 0 = some (.pointer (some ⟨b, off + 0, none⟩))) ∧
 (∀ b off, afield Try.prog 51 (.pointer (some ⟨b, off, none⟩)) 1 = some (.pointer (some ⟨b, off + 1, none⟩))) ∧
 (∀ b off, afield Try.prog 51 (.pointer (some ⟨b, off, none⟩)) 2 = some (.pointer (some ⟨b, off + 2, none⟩))) ∧
 (∀ b off, afield Try.prog 51 (.pointer (some ⟨b, off, none⟩)) 3 = some (.pointer (some ⟨b, off + 3, none⟩))) ∧
 (∀ b off, afield Try.prog 51 (.pointer (some ⟨b, off, none⟩)) 4 = some (.pointer (some ⟨b, off + 4, none⟩))) ∧
 (∀ b off, afield Try.prog 51 (.pointer (some ⟨b, off, none⟩)) 5 = some (.pointer (some ⟨b, off + 5, none⟩))) ∧
 (∀ b off, afield Try.prog 51 (.pointer (some ⟨b, off, none⟩)) 6 = some (.pointer (some ⟨b, off + 13, none⟩))) ∧
 (∀ b off, afield Try.prog 51 (.pointer (some ⟨b, off, none⟩)) 7 = some (.pointer (some ⟨b, off + 14, none⟩))) ∧
 (∀ b off, afield Try.prog 51 (.pointer (some ⟨b, off, none⟩)) 8 = some (.pointer (some ⟨b, off + 15, none⟩))) ∧
 (∀ b off, afield Try.prog 51 (.pointer (some ⟨b, off, none⟩)) 9 = some (.pointer (some ⟨b, off + 16, none⟩))) ∧
 (∀ b off, afield Try.prog 52 (.pointer (some ⟨b, off, none⟩)) 0 = some (.pointer (some ⟨b, off + 0, none⟩))) ∧
 (∀ b off, afield Try.prog 52 (.pointer (some ⟨b, off, none⟩)) 1 = some (.pointer (some ⟨b, off + 1, none⟩))) ∧
 (∀ b off, afield Try.prog 59 (.pointer (some ⟨b, off, none⟩)) 0 = some (.pointer (some ⟨b, off + 0, none⟩))) ∧
 (∀ b off, afield Try.prog 59 (.pointer (some ⟨b, off, none⟩)) 1 = some (.pointer (some ⟨b, off + 1, none⟩))) ∧
 (∀ b off, afield Try.prog 59 (.pointer (some ⟨b, off, none⟩)) 2 = some (.pointer (some ⟨b, off + 2, none⟩))) ∧
 (∀ b off, afield Try.prog 59 (.pointer (some ⟨b, off, none⟩)) 3 = some (.pointer (some ⟨b, off + 3, none⟩))) ∧
 (∀ b off, afield Try.prog 59 (.pointer (some ⟨b, off, none⟩)) 4 = some (.pointer (some ⟨b, off + 4, none⟩))) ∧
 (∀ b off, afield Try.prog 59 (.pointer (some ⟨b, off, none⟩)) 5 = some (.pointer (some ⟨b, off + 5, none⟩))) ∧
 (∀ b off, afield Try.prog 59 (.pointer (some ⟨b, off, none⟩)) 6 = some (.pointer (some ⟨b, off + 13, none⟩))) ∧
 (∀ b off, afield Try.prog 59 (.pointer (some ⟨b, off, none⟩)) 7 = some (.pointer (some ⟨b, off + 14, none⟩))) ∧
 (∀ b off, afield Try.prog 59 (.pointer (some ⟨b, off, none⟩)) 8 = some (.pointer (some ⟨b, off + 15, none⟩))) ∧
 (∀ b off, afield Try.prog 59 (.pointer (some ⟨b, off, none⟩)) 9 = some (.pointer (some ⟨b, off + 16, none⟩))) ∧
 (∀ b off, afield Try.prog 69 (.pointer (some ⟨b, off, none⟩)) 0 = some (.pointer (some ⟨b, off + 0, none⟩))) ∧
 (∀ b off, afield Try.prog 69 (.pointer (some ⟨b, off, none⟩)) 1 = some (.pointer (some ⟨b, off + 1, none⟩))) ∧
 (∀ b off, afield Try.prog 69 (.pointer (some ⟨b, off, none⟩)) 2 = some (.pointer (some ⟨b, off + 2, none⟩))) ∧
 (∀ b off, afield Try.prog 69 (.pointer (some ⟨b, off, none⟩)) 3 = some (.pointer (some ⟨b, off + 3, none⟩))) ∧
 (∀ b off, afield Try.prog 70 (.pointer (some ⟨b, off, none⟩)) 0 = some (.pointer (some ⟨b, off + 0, none⟩))) ∧
 (∀ b off, afield Try.prog 70 (.pointer (some ⟨b, off, none⟩)) 1 = some (.pointer (some ⟨b, off + 1, none⟩))) ∧
 (∀ b off, afield Try.prog 70 (.pointer (some ⟨b, off, none⟩)) 2 = some (.pointer (some ⟨b, off + 2, none⟩))) ∧
 (∀ b off, afield Try.prog 70 (.pointer (some ⟨b, off, none⟩)) 3 = some (.pointer (some ⟨b, off + 3, none⟩))) ∧
 (∀ b off, afield Try.prog 71 (.pointer (some ⟨b, off, none⟩)) 0 = some (.pointer (some ⟨b, off + 0, none⟩))) ∧
 (∀ b off, afield Try.prog 71 (.pointer (some ⟨b, off, none⟩)) 1 = some (.pointer (some ⟨b, off + 4, none⟩))) ∧
 (∀ b off, afield Try.prog 71 (.pointer (some ⟨b, off, none⟩)) 2 = some (.pointer (some ⟨b, off + 5, none⟩))) ∧
 (∀ b off, afield Try.prog 71 (.pointer (some ⟨b, off, none⟩)) 3 = some (.pointer (some ⟨b, off + 6, none⟩))) ∧
 (∀ b off, afield Try.prog 71 (.pointer (some ⟨b, off, none⟩)) 4 = some (.pointer (some ⟨b, off + 7, none⟩))) ∧
 (∀ b off, afield Try.prog 71 (.pointer (some ⟨b, off, none⟩)) 5 = some (.pointer (some ⟨b, off + 8, none⟩))) ∧
 (∀ b off, afield Try.prog 71 (.pointer (some ⟨b, off, none⟩)) 6 = some (.pointer (some ⟨b, off + 9, none⟩))) ∧
 (∀ b off, afield Try.prog 72 (.pointer (some ⟨b, off, none⟩)) 0 = some (.pointer (some ⟨b, off + 0, none⟩))) ∧
 (∀ b off, afield Try.prog 72 (.pointer (some ⟨b, off, none⟩)) 1 = some (.pointer (some ⟨b, off + 4, none⟩))) ∧
 (∀ b off, afield Try.prog 72 (.pointer (some ⟨b, off, none⟩)) 2 = some (.pointer (some ⟨b, off + 5, none⟩))) ∧
 (∀ b off, afield Try.prog 72 (.pointer (some ⟨b, off, none⟩)) 3 = some (.pointer (some ⟨b, off + 6, none⟩))) ∧
 (∀ b off, afield Try.prog 72 (.pointer (some ⟨b, off, none⟩)) 4 = some (.pointer (some ⟨b, off + 7, none⟩))) ∧
 (∀ b off, afield Try.prog 72 (.pointer (some ⟨b, off, none⟩)) 5 = some (.pointer (some ⟨b, off + 8, none⟩))) ∧
 (∀ b off, afield Try.prog 72 (.pointer (some ⟨b, off, none⟩)) 6 = some (.pointer (some ⟨b, off + 9, none⟩))) ∧
 (∀ b off, afield Try.prog 74 (.pointer (some ⟨b, off, none⟩)) 0 = some (.pointer (some ⟨b, off + 0, none⟩))) ∧
 (∀ b off, afield Try.prog 74 (.pointer (some ⟨b, off, none⟩)) 1 = some (.pointer (some ⟨b, off + 1, none⟩))) ∧
 (∀ b off, afield Try.prog 74 (.pointer (some ⟨b, off, none⟩)) 2 = some (.pointer (some ⟨b, off + 2, none⟩))) ∧
 (∀ b off, afield Try.prog 74 (.pointer (some ⟨b, off, none⟩)) 3 = some (.pointer (some ⟨b, off + 3, none⟩))) ∧
 (∀ b off, afield Try.prog 75 (.pointer (some ⟨b, off, none⟩)) 0 = some (.pointer (some ⟨b, off + 0, none⟩))) ∧
 (∀ b off, afield Try.prog 75 (.pointer (some ⟨b, off, none⟩)) 1 = some (.pointer (some ⟨b, off + 4, none⟩))) ∧
 (∀ b off, afield Try.prog 75 (.pointer (some ⟨b, off, none⟩)) 2 = some (.pointer (some ⟨b, off + 5, none⟩))) ∧
 (∀ b off, afield Try.prog 75 (.pointer (some ⟨b, off, none⟩)) 3 = some (.pointer (some ⟨b, off + 6, none⟩))) ∧
 (∀ b off, afield Try.prog 75 (.pointer (some ⟨b, off, none⟩)) 4 = some (.pointer (some ⟨b, off + 7, none⟩))) ∧
 (∀ b off, afield Try.prog 75 (.pointer (some ⟨b, off, none⟩)) 5 = some (.pointer (some ⟨b, off + 8, none⟩))) ∧
 (∀ b off, afield Try.prog 75 (.pointer (some ⟨b, off, none⟩)) 6 = some (.pointer (some ⟨b, off + 9, none⟩))) ∧
 (∀ b off, afield Try.prog 76 (.pointer (some ⟨b, off, none⟩)) 0 = some (.pointer (some ⟨b, off + 0, none⟩))) ∧
 (∀ b off, afield Try.prog 76 (.pointer (some ⟨b, off, none⟩)) 1 = some (.pointer (some ⟨b, off + 4, none⟩))) ∧
 (∀ b off, afield Try.prog 76 (.pointer (some ⟨b, off, none⟩)) 2 = some (.pointer (some ⟨b, off + 5, none⟩))) ∧
 (∀ b off, afield Try.prog 76 (.pointer (some ⟨b, off, none⟩)) 3 = some (.pointer (some ⟨b, off + 6, none⟩))) ∧
 (∀ b off, afield Try.prog 76 (.pointer (some ⟨b, off, none⟩)) 4 = some (.pointer (some ⟨b, off + 7, none⟩))) ∧
 (∀ b off, afield Try.prog 76 (.pointer (some ⟨b, off, none⟩)) 5 = some (.pointer (some ⟨b, off + 8, none⟩))) ∧
 (∀ b off, afield Try.prog 76 (.pointer (some ⟨b, off, none⟩)) 6 = some (.pointer (some ⟨b, off + 9, none⟩))) ∧
 (∀ b off, afield Try.prog 82 (.pointer (some ⟨b, off, none⟩)) 0 = some (.pointer (some ⟨b, off + 0, none⟩))) ∧
 (∀ b off, afield Try.prog 82 (.pointer (some ⟨b, off, none⟩)) 1 = some (.pointer (some ⟨b, off + 1, none⟩))) ∧
 (∀ b off, afield Try.prog 82 (.pointer (some ⟨b, off, none⟩)) 2 = some (.pointer (some ⟨b, off + 2, none⟩))) ∧
 (∀ b off, afield Try.prog 82 (.pointer (some ⟨b, off, none⟩)) 3 = some (.pointer (some ⟨b, off + 3, none⟩))) ∧
 (∀ b off, afield Try.prog 83 (.pointer (some ⟨b, off, none⟩)) 0 = some (.pointer (some ⟨b, off + 0, none⟩))) ∧
 (∀ b off, afield Try.prog 83 (.pointer (some ⟨b, off, none⟩)) 1 = some (.pointer (some ⟨b, off + 4, none⟩))) ∧
 (∀ b off, afield Try.prog 83 (.pointer (some ⟨b, off, none⟩)) 2 = some (.pointer (some ⟨b, off + 5, none⟩))) ∧
 (∀ b off, afield Try.prog 83 (.pointer (some ⟨b, off, none⟩)) 3 = some (.pointer (some ⟨b, off + 6, none⟩))) ∧
 (∀ b off, afield Try.prog 83 (.pointer (some ⟨b, off, none⟩)) 4 = some (.pointer (some ⟨b, off + 7, none⟩))) ∧
 (∀ b off, afield Try.prog 83 (.pointer (some ⟨b, off, none⟩)) 5 = some (.pointer (some ⟨b, off + 8, none⟩))) ∧
 (∀ b off, afield Try.prog 83 (.pointer (some ⟨b, off, none⟩)) 6 = some (.pointer (some ⟨b, off + 9, none⟩))) ∧
 (∀ b off, afield Try.prog 84 (.pointer (some ⟨b, off, none⟩)) 0 = some (.pointer (some ⟨b, off + 0, none⟩))) ∧
 (∀ b off, afield Try.prog 84 (.pointer (some ⟨b, off, none⟩)) 1 = some (.pointer (some ⟨b, off + 4, none⟩))) ∧
 (∀ b off, afield Try.prog 84 (.pointer (some ⟨b, off, none⟩)) 2 = some (.pointer (some ⟨b, off + 5, none⟩))) ∧
 (∀ b off, afield Try.prog 84 (.pointer (some ⟨b, off, none⟩)) 3 = some (.pointer (some ⟨b, off + 6, none⟩))) ∧
 (∀ b off, afield Try.prog 84 (.pointer (some ⟨b, off, none⟩)) 4 = some (.pointer (some ⟨b, off + 7, none⟩))) ∧
 (∀ b off, afield Try.prog 84 (.pointer (some ⟨b, off, none⟩)) 5 = some (.pointer (some ⟨b, off + 8, none⟩))) ∧
 (∀ b off, afield Try.prog 84 (.pointer (some ⟨b, off, none⟩)) 6 = some (.pointer (some ⟨b, off + 9, none⟩))) ∧
 (∀ b off, afield Try.prog 97 (.pointer (some ⟨b, off, none⟩)) 0 = some (.pointer (some ⟨b, off + 0, none⟩))) ∧
 (∀ b off, afield Try.prog 97 (.pointer (some ⟨b, off, none⟩)) 1 = some (.pointer (some ⟨b, off + 1, none⟩))) ∧
 (∀ b off, afield Try.prog 97 (.pointer (some ⟨b, off, none⟩)) 2 = some (.pointer (some ⟨b, off + 2, none⟩))) ∧
 (∀ b off, afield Try.prog 97 (.pointer (some ⟨b, off, none⟩)) 3 = some (.pointer (some ⟨b, off + 3, none⟩))) ∧
 (∀ b off, afield Try.prog 97 (.pointer (some ⟨b, off, none⟩)) 4 = some (.pointer (some ⟨b, off + 4, none⟩))) ∧
 (∀ b off, afield Try.prog 98 (.pointer (some ⟨b, off, none⟩)) 0 = some (.pointer (some ⟨b, off + 0, none⟩))) ∧
 (∀ b off, afield Try.prog 98 (.pointer (some ⟨b, off, none⟩)) 1 = some (.pointer (some ⟨b, off + 1, none⟩))) ∧
 (∀ b off, afield Try.prog 98 (.pointer (some ⟨b, off, none⟩)) 2 = some (.pointer (some ⟨b, off + 2, none⟩))) ∧
 (∀ b off, afield Try.prog 98 (.pointer (some ⟨b, off, none⟩)) 3 = some (.pointer (some ⟨b, off + 3, none⟩))) ∧
 (∀ b off, afield Try.prog 98 (.pointer (some ⟨b, off, none⟩)) 4 = some (.pointer (some ⟨b, off + 4, none⟩))) ∧
 (∀ b off, afield Try.prog 100 (.pointer (some ⟨b, off, none⟩)) 0 = some (.pointer (some ⟨b, off + 0, none⟩))) ∧
 (∀ b off, afield Try.prog 100 (.pointer (some ⟨b, off, none⟩)) 1 = some (.pointer (some ⟨b, off + 1, none⟩))) ∧
 (∀ b off, afield Try.prog 101 (.pointer (some ⟨b, off, none⟩)) 0 = some (.pointer (some ⟨b, off + 0, none⟩))) ∧
 (∀ b off, afield Try.prog 101 (.pointer (some ⟨b, off, none⟩)) 1 = some (.pointer (some ⟨b, off + 1, none⟩))) ∧
 (∀ b off, afield Try.prog 107 (.pointer (some ⟨b, off, none⟩)) 0 = some (.pointer (some ⟨b, off + 0, none⟩))) ∧
 (∀ b off, afield Try.prog 107 (.pointer (some ⟨b, off, none⟩)) 1 = some (.pointer (some ⟨b, off + 1, none⟩))) ∧
 (∀ b off, afield Try.prog 108 (.pointer (some ⟨b, off, none⟩)) 0 = some (.pointer (some ⟨b, off + 0, none⟩))) ∧
 (∀ b off, afield Try.prog 108 (.pointer (some ⟨b, off, none⟩)) 1 = some (.pointer (some ⟨b, off + 1, none⟩))) ∧
 (∀ b off, afield Try.prog 133 (.pointer (some ⟨b, off, none⟩)) 0 = some (.pointer (some ⟨b, off + 0, none⟩))) ∧
 (∀ b off, afield Try.prog 134 (.pointer (some ⟨b, off, none⟩)) 0 = some (.pointer (some ⟨b, off + 0, none⟩))) ∧
 (∀ b off, afield Try.prog 143 (.pointer (some ⟨b, off, none⟩)) 0 = some (.pointer (some ⟨b, off + 0, none⟩))) ∧
 (∀ b off, afield Try.prog 143 (.pointer (some ⟨b, off, none⟩)) 1 = some (.pointer (some ⟨b, off + 10, none⟩))) ∧
 (∀ b off, afield Try.prog 143 (.pointer (some ⟨b, off, none⟩)) 2 = some (.pointer (some ⟨b, off + 11, none⟩))) ∧
 (∀ b off, afield Try.prog 144 (.pointer (some ⟨b, off, none⟩)) 0 = some (.pointer (some ⟨b, off + 0, none⟩))) ∧
 (∀ b off, afield Try.prog 144 (.pointer (some ⟨b, off, none⟩)) 1 = some (.pointer (some ⟨b, off + 10, none⟩))) ∧
 (∀ b off, afield Try.prog 144 (.pointer (some ⟨b, off, none⟩)) 2 = some (.pointer (some ⟨b, off + 11, none⟩))) ∧
 (∀ b off, afield Try.prog 146 (.pointer (some ⟨b, off, none⟩)) 0 = some (.pointer (some ⟨b, off + 0, none⟩))) ∧
 (∀ b off, afield Try.prog 146 (.pointer (some ⟨b, off, none⟩)) 1 = some (.pointer (some ⟨b, off + 1, none⟩))) ∧
 (∀ b off, afield Try.prog 147 (.pointer (some ⟨b, off, none⟩)) 0 = some (.pointer (some ⟨b, off + 0, none⟩))) ∧
 (∀ b off, afield Try.prog 147 (.pointer (some ⟨b, off, none⟩)) 1 = some (.pointer (some ⟨b, off + 1, none⟩))) ∧
 (∀ b off, afield Try.prog 159 (.pointer (some ⟨b, off, none⟩)) 0 = some (.pointer (some ⟨b, off + 0, none⟩))) ∧
 (∀ b off, afield Try.prog 159 (.pointer (some ⟨b, off, none⟩)) 1 = some (.pointer (some ⟨b, off + 1, none⟩))) ∧
 (∀ b off, afield Try.prog 160 (.pointer (some ⟨b, off, none⟩)) 0 = some (.pointer (some ⟨b, off + 0, none⟩))) ∧
 (∀ b off, afield Try.prog 160 (.pointer (some ⟨b, off, none⟩)) 1 = some (.pointer (some ⟨b, off + 1, none⟩))) ∧
 (∀ b off, afield Try.prog 205 (.pointer (some ⟨b, off, none⟩)) 0 = some (.pointer (some ⟨b, off + 0, none⟩))) ∧
 (∀ b off, afield Try.prog 205 (.pointer (some ⟨b, off, none⟩)) 1 = some (.pointer (some ⟨b, off + 2, none⟩))) ∧
 (∀ b off, afield Try.prog 205 (.pointer (some ⟨b, off, none⟩)) 2 = some (.pointer (some ⟨b, off + 3, none⟩))) ∧
 (∀ b off, afield Try.prog 205 (.pointer (some ⟨b, off, none⟩)) 3 = some (.pointer (some ⟨b, off + 4, none⟩))) ∧
 (∀ b off, afield Try.prog 205 (.pointer (some ⟨b, off, none⟩)) 4 = some (.pointer (some ⟨b, off + 5, none⟩))) ∧
 (∀ b off, afield Try.prog 205 (.pointer (some ⟨b, off, none⟩)) 5 = some (.pointer (some ⟨b, off + 6, none⟩))) ∧
 (∀ b off, afield Try.prog 205 (.pointer (some ⟨b, off, none⟩)) 6 = some (.pointer (some ⟨b, off + 7, none⟩))) ∧
 (∀ b off, afield Try.prog 206 (.pointer (some ⟨b, off, none⟩)) 0 = some (.pointer (some ⟨b, off + 0, none⟩))) ∧
 (∀ b off, afield Try.prog 206 (.pointer (some ⟨b, off, none⟩)) 1 = some (.pointer (some ⟨b, off + 2, none⟩))) ∧
 (∀ b off, afield Try.prog 206 (.pointer (some ⟨b, off, none⟩)) 2 = some (.pointer (some ⟨b, off + 3, none⟩))) ∧
 (∀ b off, afield Try.prog 206 (.pointer (some ⟨b, off, none⟩)) 3 = some (.pointer (some ⟨b, off + 4, none⟩))) ∧
 (∀ b off, afield Try.prog 206 (.pointer (some ⟨b, off, none⟩)) 4 = some (.pointer (some ⟨b, off + 5, none⟩))) ∧
 (∀ b off, afield Try.prog 206 (.pointer (some ⟨b, off, none⟩)) 5 = some (.pointer (some ⟨b, off + 6, none⟩))) ∧
 (∀ b off, afield Try.prog 206 (.pointer (some ⟨b, off, none⟩)) 6 = some (.pointer (some ⟨b, off + 7, none⟩))) ∧
 (∀ b off, afield Try.prog 214 (.pointer (some ⟨b, off, none⟩)) 0 = some (.pointer (some ⟨b, off + 0, none⟩))) ∧
 (∀ b off, afield Try.prog 215 (.pointer (some ⟨b, off, none⟩)) 0 = some (.pointer (some ⟨b, off + 0, none⟩))) := by
 refine ⟨?_, ?_, ?_, ?_, ?_, ?_, ?_, ?_, ?_, ?_, ?_, ?_, ?_, ?_, ?_, ?_, ?_, ?_, ?_, ?_, ?_, ?_, ?_, ?_, ?_, ?_, ?_, ?_, ?_, ?_, ?_, ?_, ?_, ?_, ?_, ?_, ?_, ?_, ?_, ?_, ?_, ?_, ?_, ?_, ?_, ?_, ?_, ?_, ?_, ?_, ?_, ?_, ?_, ?_, ?_, ?_, ?_, ?_, ?_, ?_, ?_, ?_, ?_, ?_, ?_, ?_, ?_, ?_, ?_, ?_, ?_, ?_, ?_, ?_, ?_, ?_, ?_, ?_, ?_, ?_, ?_, ?_, ?_, ?_, ?_, ?_, ?_, ?_, ?_, ?_, ?_, ?_, ?_, ?_, ?_, ?_, ?_, ?_, ?_, ?_, ?_, ?_, ?_, ?_, ?_, ?_, ?_, ?_, ?_, ?_, ?_, ?_, ?_, ?_, ?_, ?_, ?_, ?_, ?_, ?_, ?_, ?_, ?_, ?_, ?_, ?_, ?_, ?_, ?_, ?_, ?_, ?_, ?_, ?_, ?_, ?_, ?_, ?_, ?_, ?_, ?_, ?_, ?_, ?_, ?_, ?_, ?_, ?_, ?_, ?_, ?_, ?_, ?_, ?_, ?_, ?_, ?_, ?_, ?_, ?_, ?_, ?_, ?_, ?_, ?_, ?_, ?_, ?_, ?_, ?_, ?_, ?_, ?_, ?_, ?_, ?_, ?_, ?_, ?_, ?_, ?_, ?_, ?_, ?_, ?_, ?_, ?_, ?_, ?_, ?_, ?_, ?_, ?_, ?_, ?_, ?_, ?_, ?_, ?_, ?_⟩
 all_goals (intros; kernel_rfl)
@[push_cast] theorem TV : (∀ cs : List Value, afieldv Try.prog 13 (.agg ⟨cs⟩) 0 = cs[0]?) ∧
 (∀ cs : List Value, afieldv Try.prog 13 (.agg ⟨cs⟩) 1 = cs[1]?) ∧
 (∀ cs : List Value, afieldv Try.prog 31 (.agg ⟨cs⟩) 0 = cs[0]?) ∧
 (∀ cs : List Value, afieldv Try.prog 31 (.agg ⟨cs⟩) 1 = cs[1]?) ∧
 (∀ cs : List Value, afieldv Try.prog 32 (.agg ⟨cs⟩) 0 = cs[0]?) ∧
 (∀ cs : List Value, afieldv Try.prog 32 (.agg ⟨cs⟩) 1 = cs[1]?) ∧
 (∀ cs : List Value, afieldv Try.prog 35 (.agg ⟨cs⟩) 0 = some (.agg ⟨(cs.drop 0).take 2⟩)) ∧
 (∀ cs : List Value, afieldv Try.prog 35 (.agg ⟨cs⟩) 1 = cs[2]?) ∧
 (∀ cs : List Value, afieldv Try.prog 35 (.agg ⟨cs⟩) 2 = cs[3]?) ∧
 (∀ cs : List Value, afieldv Try.prog 36 (.agg ⟨cs⟩) 0 = some (.agg ⟨(cs.drop 0).take 2⟩)) ∧
 (∀ cs : List Value, afieldv Try.prog 36 (.agg ⟨cs⟩) 1 = cs[2]?) ∧
 (∀ cs : List Value, afieldv Try.prog 36 (.agg ⟨cs⟩) 2 = cs[3]?) ∧
 (∀ cs : List Value, afieldv Try.prog 41 (.agg ⟨cs⟩) 0 = cs[0]?) ∧
 (∀ cs : List Value, afieldv Try.prog 41 (.agg ⟨cs⟩) 1 = cs[1]?) ∧
 (∀ cs : List Value, afieldv Try.prog 41 (.agg ⟨cs⟩) 2 = cs[2]?) ∧
 (∀ cs : List Value, afieldv Try.prog 41 (.agg ⟨cs⟩) 3 = cs[3]?) ∧
 (∀ cs : List Value, afieldv Try.prog 41 (.agg ⟨cs⟩) 4 = cs[4]?) ∧
 (∀ cs : List Value, afieldv Try.prog 41 (.agg ⟨cs⟩) 5 = cs[5]?) ∧
 (∀ cs : List Value, afieldv Try.prog 41 (.agg ⟨cs⟩) 6 = cs[6]?) ∧
 (∀ cs : List Value, afieldv Try.prog 41 (.agg ⟨cs⟩) 7 = cs[7]?) ∧
 (∀ cs : List Value, afieldv Try.prog 42 (.agg ⟨cs⟩) 0 = cs[0]?) ∧
 (∀ cs : List Value, afieldv Try.prog 42 (.agg ⟨cs⟩) 1 = cs[1]?) ∧
 (∀ cs : List Value, afieldv Try.prog 42 (.agg ⟨cs⟩) 2 = cs[2]?) ∧
 (∀ cs : List Value, afieldv Try.prog 42 (.agg ⟨cs⟩) 3 = cs[3]?) ∧
 (∀ cs : List Value, afieldv Try.prog 42 (.agg ⟨cs⟩) 4 = cs[4]?) ∧
 (∀ cs : List Value, afieldv Try.prog 42 (.agg ⟨cs⟩) 5 = cs[5]?) ∧
 (∀ cs : List Value, afieldv Try.prog 42 (.agg ⟨cs⟩) 6 = cs[6]?) ∧
 (∀ cs : List Value, afieldv Try.prog 42 (.agg ⟨cs⟩) 7 = cs[7]?) ∧
 (∀ cs : List Value, afieldv Try.prog 43 (.agg ⟨cs⟩) 0 = cs[0]?) ∧
 (∀ cs : List Value, afieldv Try.prog 43 (.agg ⟨cs⟩) 1 = cs[1]?) ∧
 (∀ cs : List Value, afieldv Try.prog 43 (.agg ⟨cs⟩) 2 = cs[2]?) ∧
 (∀ cs : List Value, afieldv Try.prog 43 (.agg ⟨cs⟩) 3 = cs[3]?) ∧
 (∀ cs : List Value, afieldv Try.prog 43 (.agg ⟨cs⟩) 4 = cs[4]?) ∧
 (∀ cs : List Value, afieldv Try.prog 43 (.agg ⟨cs⟩) 5 = some (.agg ⟨(cs.drop 5).take 8⟩)) ∧
 (∀ cs : List Value, afieldv Try.prog 43 (.agg ⟨cs⟩) 6 = cs[13]?) ∧
 (∀ cs : List Value, afieldv Try.prog 43 (.agg ⟨cs⟩) 7 = cs[14]?) ∧
 (∀ cs : List Value, afieldv Try.prog 43 (.agg ⟨cs⟩) 8 = cs[15]?) ∧
 (∀ cs : List Value, afieldv Try.prog 43 (.agg ⟨cs⟩) 9 = cs[16]?) ∧
 (∀ cs : List Value, afieldv Try.prog 44 (.agg ⟨cs⟩) 0 = cs[0]?) ∧
 (∀ cs : List Value, afieldv Try.prog 44 (.agg ⟨cs⟩) 1 = cs[1]?) ∧
 (∀ cs : List Value, afieldv Try.prog 44 (.agg ⟨cs⟩) 2 = cs[2]?) ∧
 (∀ cs : List Value, afieldv Try.prog 44 (.agg ⟨cs⟩) 3 = cs[3]?) ∧
 (∀ cs : List Value, afieldv Try.prog 44 (.agg ⟨cs⟩) 4 = cs[4]?) ∧
 (∀ cs : List Value, afieldv Try.prog 44 (.agg ⟨cs⟩) 5 = some (.agg ⟨(cs.drop 5).take 8⟩)) ∧
 (∀ cs : List Value, afieldv Try.prog 44 (.agg ⟨cs⟩) 6 = cs[13]?) ∧
 (∀ cs : List Value, afieldv Try.prog 44 (.agg ⟨cs⟩) 7 = cs[14]?) ∧
 (∀ cs : List Value, afieldv Try.prog 44 (.agg ⟨cs⟩) 8 = cs[15]?) ∧
 (∀ cs : List Value, afieldv Try.prog 44 (.agg ⟨cs⟩) 9 = cs[16]?) ∧
 (∀ cs : List Value, afieldv Try.prog 45 (.agg ⟨cs⟩) 0 = cs[0]?) ∧
 (∀ cs : List Value, afieldv Try.prog 45 (.agg ⟨cs⟩) 1 = cs[1]?) ∧
 (∀ cs : List Value, afieldv Try.prog 46 (.agg ⟨cs⟩) 0 = cs[0]?) ∧
 (∀ cs : List Value, afieldv Try.prog 46 (.agg ⟨cs⟩) 1 = cs[1]?) ∧
 (∀ cs : List Value, afieldv Try.prog 49 (.agg ⟨cs⟩) 0 = cs[0]?) ∧
 (∀ cs : List Value, afieldv Try.prog 49 (.agg ⟨cs⟩) 1 = cs[1]?) ∧
 (∀ cs : List Value, afieldv Try.prog 49 (.agg ⟨cs⟩) 2 = cs[2]?) ∧
 (∀ cs : List Value, afieldv Try.prog 49 (.agg ⟨cs⟩) 3 = cs[3]?) ∧
 (∀ cs : List Value, afieldv Try.prog 49 (.agg ⟨cs⟩) 4 = cs[4]?) ∧
 (∀ cs : List Value, afieldv Try.prog 49 (.agg ⟨cs⟩) 5 = cs[5]?) ∧
 (∀ cs : List Value, afieldv Try.prog 49 (.agg ⟨cs⟩) 6 = cs[6]?) ∧
 (∀ cs : List Value, afieldv Try.prog 49 (.agg ⟨cs⟩) 7 = cs[7]?) ∧
 (∀ cs : List Value, afieldv Try.prog 50 (.agg ⟨cs⟩) 0 = cs[0]?) ∧
 (∀ cs : List Value, afieldv Try.prog 50 (.agg ⟨cs⟩) 1 = cs[1]?) ∧
 (∀ cs : List Value, afieldv Try.prog 50 (.agg ⟨cs⟩) 2 = cs[2]?) ∧
 (∀ cs : List Value, afieldv Try.prog 50 (.agg ⟨cs⟩) 3 = cs[3]?) ∧
 (∀ cs : List Value, afieldv Try.prog 50 (.agg ⟨cs⟩) 4 = cs[4]?) ∧
 (∀ cs : List Value, afieldv Try.prog 50 (.agg ⟨cs⟩) 5 = some (.agg ⟨(cs.drop 5).take 8⟩)) ∧
 (∀ cs : List Value, afieldv Try.prog 50 (.agg ⟨cs⟩) 6 = cs[13]?) ∧
 (∀ cs : List Value, afieldv Try.prog 50 (.agg ⟨cs⟩) 7 = cs[14]?) ∧
 (∀ cs : List Value, afieldv Try.prog 50 (.agg ⟨cs⟩) 8 = cs[15]?) ∧
 (∀ cs : List Value, afieldv Try.prog 50 (.agg ⟨cs⟩) 9 = cs[16]?) ∧
 (∀ cs : List Value, afieldv Try.prog 51 (.agg ⟨cs⟩) 0 = cs[0]?) ∧
 (∀ cs : List Value, afieldv Try.prog 51 (.agg ⟨cs⟩) 1 = cs[1]?) ∧
 (∀ cs : List Value, afieldv Try.prog 51 (.agg ⟨cs⟩) 2 = cs[2]?) ∧
 (∀ cs : List Value, afieldv Try.prog 51 (.agg ⟨cs⟩) 3 = cs[3]?) ∧
 (∀ cs : List Value, afieldv Try.prog 51 (.agg ⟨cs⟩) 4 = cs[4]?) ∧
 (∀ cs : List Value, afieldv Try.prog 51 (.agg ⟨cs⟩) 5 = some (.agg ⟨(cs.drop 5).take 8⟩)) ∧
 (∀ cs : List Value, afieldv Try.prog 51 (.agg ⟨cs⟩) 6 = cs[13]?) ∧
 (∀ cs : List Value, afieldv Try.prog 51 (.agg ⟨cs⟩) 7 = cs[14]?) ∧
 (∀ cs : List Value, afieldv Try.prog 51 (.agg ⟨cs⟩) 8 = cs[15]?) ∧
 (∀ cs : List Value, afieldv Try.prog 51 (.agg ⟨cs⟩) 9 = cs[16]?) ∧
 (∀ cs : List Value, afieldv Try.prog 52 (.agg ⟨cs⟩) 0 = cs[0]?) ∧
 (∀ cs : List Value, afieldv Try.prog 52 (.agg ⟨cs⟩) 1 = cs[1]?) ∧
 (∀ cs : List Value, afieldv Try.prog 59 (.agg ⟨cs⟩) 0 = cs[0]?) ∧
 (∀ cs : List Value, afieldv Try.prog 59 (.agg ⟨cs⟩) 1 = cs[1]?) ∧
 (∀ cs : List Value, afieldv Try.prog 59 (.agg ⟨cs⟩) 2 = cs[2]?) ∧
 (∀ cs : List Value, afieldv Try.prog 59 (.agg ⟨cs⟩) 3 = cs[3]?) ∧
 (∀ cs : List Value, afieldv Try.prog 59 (.agg ⟨cs⟩) 4 = cs[4]?) ∧
 (∀ cs : List Value, afieldv Try.prog 59 (.agg ⟨cs⟩) 5 = some (.agg ⟨(cs.drop 5).take 8⟩)) ∧
 (∀ cs : List Value, afieldv Try.prog 59 (.agg ⟨cs⟩) 6 = cs[13]?) ∧
 (∀ cs : List Value, afieldv Try.prog 59 (.agg ⟨cs⟩) 7 = cs[14]?) ∧
 (∀ cs : List Value, afieldv Try.prog 59 (.agg ⟨cs⟩) 8 = cs[15]?) ∧
 (∀ cs : List Value, afieldv Try.prog 59 (.agg ⟨cs⟩) 9 = cs[16]?) ∧
 (∀ cs : List Value, afieldv Try.prog 69 (.agg ⟨cs⟩) 0 = cs[0]?) ∧
 (∀ cs : List Value, afieldv Try.prog 69 (.agg ⟨cs⟩) 1 = cs[1]?) ∧
 (∀ cs : List Value, afieldv Try.prog 69 (.agg ⟨cs⟩) 2 = cs[2]?) ∧
 (∀ cs : List Value, afieldv Try.prog 69 (.agg ⟨cs⟩) 3 = cs[3]?) ∧
 (∀ cs : List Value, afieldv Try.prog 70 (.agg ⟨cs⟩) 0 = cs[0]?) ∧
 (∀ cs : List Value, afieldv Try.prog 70 (.agg ⟨cs⟩) 1 = cs[1]?) ∧
 (∀ cs : List Value, afieldv Try.prog 70 (.agg ⟨cs⟩) 2 = cs[2]?) ∧
 (∀ cs : List Value, afieldv Try.prog 70 (.agg ⟨cs⟩) 3 = cs[3]?) ∧
 (∀ cs : List Value, afieldv Try.prog 71 (.agg ⟨cs⟩) 0 = some (.agg ⟨(cs.drop 0).take 4⟩)) ∧
 (∀ cs : List Value, afieldv Try.prog 71 (.agg ⟨cs⟩) 1 = cs[4]?) ∧
 (∀ cs : List Value, afieldv Try.prog 71 (.agg ⟨cs⟩) 2 = cs[5]?) ∧
 (∀ cs : List Value, afieldv Try.prog 71 (.agg ⟨cs⟩) 3 = cs[6]?) ∧
 (∀ cs : List Value, afieldv Try.prog 71 (.agg ⟨cs⟩) 4 = cs[7]?) ∧
 (∀ cs : List Value, afieldv Try.prog 71 (.agg ⟨cs⟩) 5 = cs[8]?) ∧
 (∀ cs : List Value, afieldv Try.prog 71 (.agg ⟨cs⟩) 6 = cs[9]?) ∧
 (∀ cs : List Value, afieldv Try.prog 72 (.agg ⟨cs⟩) 0 = some (.agg ⟨(cs.drop 0).take 4⟩)) ∧
 (∀ cs : List Value, afieldv Try.prog 72 (.agg ⟨cs⟩) 1 = cs[4]?) ∧
 (∀ cs : List Value, afieldv Try.prog 72 (.agg ⟨cs⟩) 2 = cs[5]?) ∧
 (∀ cs : List Value, afieldv Try.prog 72 (.agg ⟨cs⟩) 3 = cs[6]?) ∧
 (∀ cs : List Value, afieldv Try.prog 72 (.agg ⟨cs⟩) 4 = cs[7]?) ∧
 (∀ cs : List Value, afieldv Try.prog 72 (.agg ⟨cs⟩) 5 = cs[8]?) ∧
 (∀ cs : List Value, afieldv Try.prog 72 (.agg ⟨cs⟩) 6 = cs[9]?) ∧
 (∀ cs : List Value, afieldv Try.prog 74 (.agg ⟨cs⟩) 0 = cs[0]?) ∧
 (∀ cs : List Value, afieldv Try.prog 74 (.agg ⟨cs⟩) 1 = cs[1]?) ∧
 (∀ cs : List Value, afieldv Try.prog 74 (.agg ⟨cs⟩) 2 = cs[2]?) ∧
 (∀ cs : List Value, afieldv Try.prog 74 (.agg ⟨cs⟩) 3 = cs[3]?) ∧
 (∀ cs : List Value, afieldv Try.prog 75 (.agg ⟨cs⟩) 0 = some (.agg ⟨(cs.drop 0).take 4⟩)) ∧
 (∀ cs : List Value, afieldv Try.prog 75 (.agg ⟨cs⟩) 1 = cs[4]?) ∧
 (∀ cs : List Value, afieldv Try.prog 75 (.agg ⟨cs⟩) 2 = cs[5]?) ∧
 (∀ cs : List Value, afieldv Try.prog 75 (.agg ⟨cs⟩) 3 = cs[6]?) ∧
 (∀ cs : List Value, afieldv Try.prog 75 (.agg ⟨cs⟩) 4 = cs[7]?) ∧
 (∀ cs : List Value, afieldv Try.prog 75 (.agg ⟨cs⟩) 5 = cs[8]?) ∧
 (∀ cs : List Value, afieldv Try.prog 75 (.agg ⟨cs⟩) 6 = cs[9]?) ∧
 (∀ cs : List Value, afieldv Try.prog 76 (.agg ⟨cs⟩) 0 = some (.agg ⟨(cs.drop 0).take 4⟩)) ∧
 (∀ cs : List Value, afieldv Try.prog 76 (.agg ⟨cs⟩) 1 = cs[4]?) ∧
 (∀ cs : List Value, afieldv Try.prog 76 (.agg ⟨cs⟩) 2 = cs[5]?) ∧
 (∀ cs : List Value, afieldv Try.prog 76 (.agg ⟨cs⟩) 3 = cs[6]?) ∧
 (∀ cs : List Value, afieldv Try.prog 76 (.agg ⟨cs⟩) 4 = cs[7]?) ∧
 (∀ cs : List Value, afieldv Try.prog 76 (.agg ⟨cs⟩) 5 = cs[8]?) ∧
 (∀ cs : List Value, afieldv Try.prog 76 (.agg ⟨cs⟩) 6 = cs[9]?) ∧
 (∀ cs : List Value, afieldv Try.prog 82 (.agg ⟨cs⟩) 0 = cs[0]?) ∧
 (∀ cs : List Value, afieldv Try.prog 82 (.agg ⟨cs⟩) 1 = cs[1]?) ∧
 (∀ cs : List Value, afieldv Try.prog 82 (.agg ⟨cs⟩) 2 = cs[2]?) ∧
 (∀ cs : List Value, afieldv Try.prog 82 (.agg ⟨cs⟩) 3 = cs[3]?) ∧
 (∀ cs : List Value, afieldv Try.prog 83 (.agg ⟨cs⟩) 0 = some (.agg ⟨(cs.drop 0).take 4⟩)) ∧
 (∀ cs : List Value, afieldv Try.prog 83 (.agg ⟨cs⟩) 1 = cs[4]?) ∧
 (∀ cs : List Value, afieldv Try.prog 83 (.agg ⟨cs⟩) 2 = cs[5]?) ∧
 (∀ cs : List Value, afieldv Try.prog 83 (.agg ⟨cs⟩) 3 = cs[6]?) ∧
 (∀ cs : List Value, afieldv Try.prog 83 (.agg ⟨cs⟩) 4 = cs[7]?) ∧
 (∀ cs : List Value, afieldv Try.prog 83 (.agg ⟨cs⟩) 5 = cs[8]?) ∧
 (∀ cs : List Value, afieldv Try.prog 83 (.agg ⟨cs⟩) 6 = cs[9]?) ∧
 (∀ cs : List Value, afieldv Try.prog 84 (.agg ⟨cs⟩) 0 = some (.agg ⟨(cs.drop 0).take 4⟩)) ∧
 (∀ cs : List Value, afieldv Try.prog 84 (.agg ⟨cs⟩) 1 = cs[4]?) ∧
 (∀ cs : List Value, afieldv Try.prog 84 (.agg ⟨cs⟩) 2 = cs[5]?) ∧
 (∀ cs : List Value, afieldv Try.prog 84 (.agg ⟨cs⟩) 3 = cs[6]?) ∧
 (∀ cs : List Value, afieldv Try.prog 84 (.agg ⟨cs⟩) 4 = cs[7]?) ∧
 (∀ cs : List Value, afieldv Try.prog 84 (.agg ⟨cs⟩) 5 = cs[8]?) ∧
 (∀ cs : List Value, afieldv Try.prog 84 (.agg ⟨cs⟩) 6 = cs[9]?) ∧
 (∀ cs : List Value, afieldv Try.prog 97 (.agg ⟨cs⟩) 0 = cs[0]?) ∧
 (∀ cs : List Value, afieldv Try.prog 97 (.agg ⟨cs⟩) 1 = cs[1]?) ∧
 (∀ cs : List Value, afieldv Try.prog 97 (.agg ⟨cs⟩) 2 = cs[2]?) ∧
 (∀ cs : List Value, afieldv Try.prog 97 (.agg ⟨cs⟩) 3 = cs[3]?) ∧
 (∀ cs : List Value, afieldv Try.prog 97 (.agg ⟨cs⟩) 4 = cs[4]?) ∧
 (∀ cs : List Value, afieldv Try.prog 98 (.agg ⟨cs⟩) 0 = cs[0]?) ∧
 (∀ cs : List Value, afieldv Try.prog 98 (.agg ⟨cs⟩) 1 = cs[1]?) ∧
 (∀ cs : List Value, afieldv Try.prog 98 (.agg ⟨cs⟩) 2 = cs[2]?) ∧
 (∀ cs : List Value, afieldv Try.prog 98 (.agg ⟨cs⟩) 3 = cs[3]?) ∧
 (∀ cs : List Value, afieldv Try.prog 98 (.agg ⟨cs⟩) 4 = cs[4]?) ∧
 (∀ cs : List Value, afieldv Try.prog 100 (.agg ⟨cs⟩) 0 = cs[0]?) ∧
 (∀ cs : List Value, afieldv Try.prog 100 (.agg ⟨cs⟩) 1 = some (.agg ⟨(cs.drop 1).take 17⟩)) ∧
 (∀ cs : List Value, afieldv Try.prog 101 (.agg ⟨cs⟩) 0 = cs[0]?) ∧
 (∀ cs : List Value, afieldv Try.prog 101 (.agg ⟨cs⟩) 1 = some (.agg ⟨(cs.drop 1).take 17⟩)) ∧
 (∀ cs : List Value, afieldv Try.prog 107 (.agg ⟨cs⟩) 0 = cs[0]?) ∧
 (∀ cs : List Value, afieldv Try.prog 107 (.agg ⟨cs⟩) 1 = some (.agg ⟨(cs.drop 1).take 4⟩)) ∧
 (∀ cs : List Value, afieldv Try.prog 108 (.agg ⟨cs⟩) 0 = cs[0]?) ∧
 (∀ cs : List Value, afieldv Try.prog 108 (.agg ⟨cs⟩) 1 = some (.agg ⟨(cs.drop 1).take 4⟩)) ∧
 (∀ cs : List Value, afieldv Try.prog 133 (.agg ⟨cs⟩) 0 = cs[0]?) ∧
 (∀ cs : List Value, afieldv Try.prog 134 (.agg ⟨cs⟩) 0 = cs[0]?) ∧
 (∀ cs : List Value, afieldv Try.prog 143 (.agg ⟨cs⟩) 0 = some (.agg ⟨(cs.drop 0).take 10⟩)) ∧
 (∀ cs : List Value, afieldv Try.prog 143 (.agg ⟨cs⟩) 1 = cs[10]?) ∧
 (∀ cs : List Value, afieldv Try.prog 143 (.agg ⟨cs⟩) 2 = cs[11]?) ∧
 (∀ cs : List Value, afieldv Try.prog 144 (.agg ⟨cs⟩) 0 = some (.agg ⟨(cs.drop 0).take 10⟩)) ∧
 (∀ cs : List Value, afieldv Try.prog 144 (.agg ⟨cs⟩) 1 = cs[10]?) ∧
 (∀ cs : List Value, afieldv Try.prog 144 (.agg ⟨cs⟩) 2 = cs[11]?) ∧
 (∀ cs : List Value, afieldv Try.prog 146 (.agg ⟨cs⟩) 0 = cs[0]?) ∧
 (∀ cs : List Value, afieldv Try.prog 146 (.agg ⟨cs⟩) 1 = some (.agg ⟨(cs.drop 1).take 17⟩)) ∧
 (∀ cs : List Value, afieldv Try.prog 147 (.agg ⟨cs⟩) 0 = cs[0]?) ∧
 (∀ cs : List Value, afieldv Try.prog 147 (.agg ⟨cs⟩) 1 = some (.agg ⟨(cs.drop 1).take 17⟩)) ∧
 (∀ cs : List Value, afieldv Try.prog 159 (.agg ⟨cs⟩) 0 = cs[0]?) ∧
 (∀ cs : List Value, afieldv Try.prog 159 (.agg ⟨cs⟩) 1 = cs[1]?) ∧
 (∀ cs : List Value, afieldv Try.prog 160 (.agg ⟨cs⟩) 0 = cs[0]?) ∧
 (∀ cs : List Value, afieldv Try.prog 160 (.agg ⟨cs⟩) 1 = cs[1]?) ∧
 (∀ cs : List Value, afieldv Try.prog 205 (.agg ⟨cs⟩) 0 = some (.agg ⟨(cs.drop 0).take 2⟩)) ∧
 (∀ cs : List Value, afieldv Try.prog 205 (.agg ⟨cs⟩) 1 = cs[2]?) ∧
 (∀ cs : List Value, afieldv Try.prog 205 (.agg ⟨cs⟩) 2 = cs[3]?) ∧
 (∀ cs : List Value, afieldv Try.prog 205 (.agg ⟨cs⟩) 3 = cs[4]?) ∧
 (∀ cs : List Value, afieldv Try.prog 205 (.agg ⟨cs⟩) 4 = cs[5]?) ∧
 (∀ cs : List Value, afieldv Try.prog 205 (.agg ⟨cs⟩) 5 = cs[6]?) ∧
 (∀ cs : List Value, afieldv Try.prog 205 (.agg ⟨cs⟩) 6 = cs[7]?) ∧
 (∀ cs : List Value, afieldv Try.prog 206 (.agg ⟨cs⟩) 0 = some (.agg ⟨(cs.drop 0).take 2⟩)) ∧
 (∀ cs : List Value, afieldv Try.prog 206 (.agg ⟨cs⟩) 1 = cs[2]?) ∧
 (∀ cs : List Value, afieldv Try.prog 206 (.agg ⟨cs⟩) 2 = cs[3]?) ∧
 (∀ cs : List Value, afieldv Try.prog 206 (.agg ⟨cs⟩) 3 = cs[4]?) ∧
 (∀ cs : List Value, afieldv Try.prog 206 (.agg ⟨cs⟩) 4 = cs[5]?) ∧
 (∀ cs : List Value, afieldv Try.prog 206 (.agg ⟨cs⟩) 5 = cs[6]?) ∧
 (∀ cs : List Value, afieldv Try.prog 206 (.agg ⟨cs⟩) 6 = cs[7]?) ∧
 (∀ cs : List Value, afieldv Try.prog 214 (.agg ⟨cs⟩) 0 = cs[0]?) ∧
 (∀ cs : List Value, afieldv Try.prog 215 (.agg ⟨cs⟩) 0 = cs[0]?) := by
 refine ⟨?_, ?_, ?_, ?_, ?_, ?_, ?_, ?_, ?_, ?_, ?_, ?_, ?_, ?_, ?_, ?_, ?_, ?_, ?_, ?_, ?_, ?_, ?_, ?_, ?_, ?_, ?_, ?_, ?_, ?_, ?_, ?_, ?_, ?_, ?_, ?_, ?_, ?_, ?_, ?_, ?_, ?_, ?_, ?_, ?_, ?_, ?_, ?_, ?_, ?_, ?_, ?_, ?_, ?_, ?_, ?_, ?_, ?_, ?_, ?_, ?_, ?_, ?_, ?_, ?_, ?_, ?_, ?_, ?_, ?_, ?_, ?_, ?_, ?_, ?_, ?_, ?_, ?_, ?_, ?_, ?_, ?_, ?_, ?_, ?_, ?_, ?_, ?_, ?_, ?_, ?_, ?_, ?_, ?_, ?_, ?_, ?_, ?_, ?_, ?_, ?_, ?_, ?_, ?_, ?_, ?_, ?_, ?_, ?_, ?_, ?_, ?_, ?_, ?_, ?_, ?_, ?_, ?_, ?_, ?_, ?_, ?_, ?_, ?_, ?_, ?_, ?_, ?_, ?_, ?_, ?_, ?_, ?_, ?_, ?_, ?_, ?_, ?_, ?_, ?_, ?_, ?_, ?_, ?_, ?_, ?_, ?_, ?_, ?_, ?_, ?_, ?_, ?_, ?_, ?_, ?_, ?_, ?_, ?_, ?_, ?_, ?_, ?_, ?_, ?_, ?_, ?_, ?_, ?_, ?_, ?_, ?_, ?_, ?_, ?_, ?_, ?_, ?_, ?_, ?_, ?_, ?_, ?_, ?_, ?_, ?_, ?_, ?_, ?_, ?_, ?_, ?_, ?_, ?_, ?_, ?_, ?_, ?_, ?_, ?_⟩
 all_goals (intros; kernel_rfl)
@[push_cast] theorem TL : (∀ (cs : List Value) j, bload Try.prog 1 cs j = cs[j]?) ∧
 (∀ (cs : List Value) j, bload Try.prog 2 cs j = cs[j]?) ∧
 (∀ (cs : List Value) j, bload Try.prog 3 cs j = cs[j]?) ∧
 (∀ (cs : List Value) j, bload Try.prog 4 cs j = cs[j]?) ∧
 (∀ (cs : List Value) j, bload Try.prog 5 cs j = cs[j]?) ∧
 (∀ (cs : List Value) j, bload Try.prog 9 cs j = cs[j]?) ∧
 (∀ (cs : List Value) j, bload Try.prog 12 cs j = cs[j]?) ∧
 (∀ cs j, bload Try.prog 13 cs j = if j + 2 ≤ cs.length then some (.agg ⟨(cs.drop j).take 2⟩) else none) ∧
 (∀ (cs : List Value) j, bload Try.prog 20 cs j = cs[j]?) ∧
 (∀ (cs : List Value) j, bload Try.prog 21 cs j = cs[j]?) ∧
 (∀ (cs : List Value) j, bload Try.prog 22 cs j = cs[j]?) ∧
 (∀ (cs : List Value) j, bload Try.prog 23 cs j = cs[j]?) ∧
 (∀ (cs : List Value) j, bload Try.prog 24 cs j = cs[j]?) ∧
 (∀ (cs : List Value) j, bload Try.prog 25 cs j = cs[j]?) ∧
 (∀ (cs : List Value) j, bload Try.prog 27 cs j = cs[j]?) ∧
 (∀ (cs : List Value) j, bload Try.prog 29 cs j = cs[j]?) ∧
 (∀ (cs : List Value) j, bload Try.prog 30 cs j = cs[j]?) ∧
 (∀ cs j, bload Try.prog 31 cs j = if j + 2 ≤ cs.length then some (.agg ⟨(cs.drop j).take 2⟩) else none) ∧
 (∀ cs j, bload Try.prog 32 cs j = if j + 2 ≤ cs.length then some (.agg ⟨(cs.drop j).take 2⟩) else none) ∧
 (∀ (cs : List Value) j, bload Try.prog 33 cs j = cs[j]?) ∧
 (∀ (cs : List Value) j, bload Try.prog 34 cs j = cs[j]?) ∧
 (∀ cs j, bload Try.prog 35 cs j = if j + 4 ≤ cs.length then some (.agg ⟨(cs.drop j).take 4⟩) else none) ∧
 (∀ cs j, bload Try.prog 36 cs j = if j + 4 ≤ cs.length then some (.agg ⟨(cs.drop j).take 4⟩) else none) ∧
 (∀ (cs : List Value) j, bload Try.prog 37 cs j = cs[j]?) ∧
 (∀ (cs : List Value) j, bload Try.prog 38 cs j = cs[j]?) ∧
 (∀ (cs : List Value) j, bload Try.prog 39 cs j = cs[j]?) ∧
 (∀ (cs : List Value) j, bload Try.prog 40 cs j = cs[j]?) ∧
 (∀ cs j, bload Try.prog 41 cs j = if j + 8 ≤ cs.length then some (.agg ⟨(cs.drop j).take 8⟩) else none) ∧
 (∀ cs j, bload Try.prog 42 cs j = if j + 8 ≤ cs.length then some (.agg ⟨(cs.drop j).take 8⟩) else none) ∧
 (∀ cs j, bload Try.prog 43 cs j = if j + 17 ≤ cs.length then some (.agg ⟨(cs.drop j).take 17⟩) else none) ∧
 (∀ cs j, bload Try.prog 44 cs j = if j + 17 ≤ cs.length then some (.agg ⟨(cs.drop j).take 17⟩) else none) ∧
 (∀ cs j, bload Try.prog 45 cs j = if j + 2 ≤ cs.length then some (.agg ⟨(cs.drop j).take 2⟩) else none) ∧
 (∀ cs j, bload Try.prog 46 cs j = if j + 2 ≤ cs.length then some (.agg ⟨(cs.drop j).take 2⟩) else none) ∧
 (∀ (cs : List Value) j, bload Try.prog 48 cs j = cs[j]?) ∧
 (∀ cs j, bload Try.prog 49 cs j = if j + 8 ≤ cs.length then some (.agg ⟨(cs.drop j).take 8⟩) else none) ∧
 (∀ cs j, bload Try.prog 50 cs j = if j + 17 ≤ cs.length then some (.agg ⟨(cs.drop j).take 17⟩) else none) ∧
 (∀ cs j, bload Try.prog 51 cs j = if j + 17 ≤ cs.length then some (.agg ⟨(cs.drop j).take 17⟩) else none) ∧
 (∀ cs j, bload Try.prog 52 cs j = if j + 2 ≤ cs.length then some (.agg ⟨(cs.drop j).take 2⟩) else none) ∧
 (∀ (cs : List Value) j, bload Try.prog 54 cs j = cs[j]?) ∧
 (∀ (cs : List Value) j, bload Try.prog 55 cs j = cs[j]?) ∧
 (∀ (cs : List Value) j, bload Try.prog 56 cs j = cs[j]?) ∧
 (∀ (cs : List Value) j, bload Try.prog 57 cs j = cs[j]?) ∧
 (∀ (cs : List Value) j, bload Try.prog 58 cs j = cs[j]?) ∧
 (∀ cs j, bload Try.prog 59 cs j = if j + 17 ≤ cs.length then some (.agg ⟨(cs.drop j).take 17⟩) else none) ∧
 (∀ (cs : List Value) j, bload Try.prog 60 cs j = cs[j]?) ∧
 (∀ (cs : List Value) j, bload Try.prog 61 cs j = cs[j]?) ∧
 (∀ (cs : List Value) j, bload Try.prog 63 cs j = cs[j]?) ∧
 (∀ (cs : List Value) j, bload Try.prog 64 cs j = cs[j]?) ∧
 (∀ (cs : List Value) j, bload Try.prog 65 cs j = cs[j]?) ∧
 (∀ (cs : List Value) j, bload Try.prog 66 cs j = cs[j]?) ∧
 (∀ cs j, bload Try.prog 67 cs j = if j + 2 ≤ cs.length then some (.agg ⟨(cs.drop j).take 2⟩) else none) ∧
 (∀ cs j, bload Try.prog 68 cs j = if j + 36 ≤ cs.length then some (.agg ⟨(cs.drop j).take 36⟩) else none) ∧
 (∀ cs j, bload Try.prog 69 cs j = if j + 4 ≤ cs.length then some (.agg ⟨(cs.drop j).take 4⟩) else none) ∧
 (∀ cs j, bload Try.prog 70 cs j = if j + 4 ≤ cs.length then some (.agg ⟨(cs.drop j).take 4⟩) else none) ∧
 (∀ cs j, bload Try.prog 71 cs j = if j + 10 ≤ cs.length then some (.agg ⟨(cs.drop j).take 10⟩) else none) ∧
 (∀ cs j, bload Try.prog 72 cs j = if j + 10 ≤ cs.length then some (.agg ⟨(cs.drop j).take 10⟩) else none) ∧
 (∀ (cs : List Value) j, bload Try.prog 73 cs j = cs[j]?) ∧
 (∀ cs j, bload Try.prog 74 cs j = if j + 4 ≤ cs.length then some (.agg ⟨(cs.drop j).take 4⟩) else none) ∧
 (∀ cs j, bload Try.prog 75 cs j = if j + 10 ≤ cs.length then some (.agg ⟨(cs.drop j).take 10⟩) else none) ∧
 (∀ cs j, bload Try.prog 76 cs j = if j + 10 ≤ cs.length then some (.agg ⟨(cs.drop j).take 10⟩) else none) ∧
 (∀ (cs : List Value) j, bload Try.prog 77 cs j = cs[j]?) ∧
 (∀ (cs : List Value) j, bload Try.prog 79 cs j = cs[j]?) ∧
 (∀ (cs : List Value) j, bload Try.prog 80 cs j = cs[j]?) ∧
 (∀ (cs : List Value) j, bload Try.prog 81 cs j = cs[j]?) ∧
 (∀ cs j, bload Try.prog 82 cs j = if j + 4 ≤ cs.length then some (.agg ⟨(cs.drop j).take 4⟩) else none) ∧
 (∀ cs j, bload Try.prog 83 cs j = if j + 10 ≤ cs.length then some (.agg ⟨(cs.drop j).take 10⟩) else none) ∧
 (∀ cs j, bload Try.prog 84 cs j = if j + 10 ≤ cs.length then some (.agg ⟨(cs.drop j).take 10⟩) else none) ∧
 (∀ (cs : List Value) j, bload Try.prog 85 cs j = cs[j]?) ∧
 (∀ (cs : List Value) j, bload Try.prog 86 cs j = cs[j]?) ∧
 (∀ (cs : List Value) j, bload Try.prog 87 cs j = cs[j]?) ∧
 (∀ (cs : List Value) j, bload Try.prog 88 cs j = cs[j]?) ∧
 (∀ (cs : List Value) j, bload Try.prog 89 cs j = cs[j]?) ∧
 (∀ (cs : List Value) j, bload Try.prog 91 cs j = cs[j]?) ∧
 (∀ (cs : List Value) j, bload Try.prog 93 cs j = cs[j]?) ∧
 (∀ (cs : List Value) j, bload Try.prog 94 cs j = cs[j]?) ∧
 (∀ (cs : List Value) j, bload Try.prog 95 cs j = cs[j]?) ∧
 (∀ (cs : List Value) j, bload Try.prog 96 cs j = cs[j]?) ∧
 (∀ cs j, bload Try.prog 97 cs j = if j + 5 ≤ cs.length then some (.agg ⟨(cs.drop j).take 5⟩) else none) ∧
 (∀ cs j, bload Try.prog 98 cs j = if j + 5 ≤ cs.length then some (.agg ⟨(cs.drop j).take 5⟩) else none) ∧
 (∀ (cs : List Value) j, bload Try.prog 99 cs j = cs[j]?) ∧
 (∀ cs j, bload Try.prog 100 cs j = if j + 18 ≤ cs.length then some (.agg ⟨(cs.drop j).take 18⟩) else none) ∧
 (∀ cs j, bload Try.prog 101 cs j = if j + 18 ≤ cs.length then some (.agg ⟨(cs.drop j).take 18⟩) else none) ∧
 (∀ (cs : List Value) j, bload Try.prog 102 cs j = cs[j]?) ∧
 (∀ (cs : List Value) j, bload Try.prog 103 cs j = cs[j]?) ∧
 (∀ (cs : List Value) j, bload Try.prog 105 cs j = cs[j]?) ∧
 (∀ (cs : List Value) j, bload Try.prog 106 cs j = cs[j]?) ∧
 (∀ cs j, bload Try.prog 107 cs j = if j + 5 ≤ cs.length then some (.agg ⟨(cs.drop j).take 5⟩) else none) ∧
 (∀ cs j, bload Try.prog 108 cs j = if j + 5 ≤ cs.length then some (.agg ⟨(cs.drop j).take 5⟩) else none) ∧
 (∀ (cs : List Value) j, bload Try.prog 109 cs j = cs[j]?) ∧
 (∀ (cs : List Value) j, bload Try.prog 110 cs j = cs[j]?) ∧
 (∀ (cs : List Value) j, bload Try.prog 111 cs j = cs[j]?) ∧
 (∀ (cs : List Value) j, bload Try.prog 112 cs j = cs[j]?) ∧
 (∀ (cs : List Value) j, bload Try.prog 113 cs j = cs[j]?) ∧
 (∀ (cs : List Value) j, bload Try.prog 114 cs j = cs[j]?) ∧
 (∀ (cs : List Value) j, bload Try.prog 115 cs j = cs[j]?) ∧
 (∀ (cs : List Value) j, bload Try.prog 116 cs j = cs[j]?) ∧
 (∀ (cs : List Value) j, bload Try.prog 117 cs j = cs[j]?) ∧
 (∀ (cs : List Value) j, bload Try.prog 118 cs j = cs[j]?) ∧
 (∀ (cs : List Value) j, bload Try.prog 119 cs j = cs[j]?) ∧
 (∀ (cs : List Value) j, bload Try.prog 120 cs j = cs[j]?) ∧
 (∀ (cs : List Value) j, bload Try.prog 121 cs j = cs[j]?) ∧
 (∀ cs j, bload Try.prog 122 cs j = if j + 5 ≤ cs.length then some (.agg ⟨(cs.drop j).take 5⟩) else none) ∧
 (∀ (cs : List Value) j, bload Try.prog 124 cs j = cs[j]?) ∧
 (∀ (cs : List Value) j, bload Try.prog 125 cs j = cs[j]?) ∧
 (∀ (cs : List Value) j, bload Try.prog 127 cs j = cs[j]?) ∧
 (∀ (cs : List Value) j, bload Try.prog 128 cs j = cs[j]?) ∧
 (∀ (cs : List Value) j, bload Try.prog 129 cs j = cs[j]?) ∧
 (∀ (cs : List Value) j, bload Try.prog 130 cs j = cs[j]?) ∧
 (∀ (cs : List Value) j, bload Try.prog 131 cs j = cs[j]?) ∧
 (∀ (cs : List Value) j, bload Try.prog 132 cs j = cs[j]?) ∧
 (∀ cs j, bload Try.prog 133 cs j = if j + 1 ≤ cs.length then some (.agg ⟨(cs.drop j).take 1⟩) else none) ∧
 (∀ cs j, bload Try.prog 134 cs j = if j + 1 ≤ cs.length then some (.agg ⟨(cs.drop j).take 1⟩) else none) ∧
 (∀ (cs : List Value) j, bload Try.prog 135 cs j = cs[j]?) ∧
 (∀ (cs : List Value) j, bload Try.prog 136 cs j = cs[j]?) ∧
 (∀ (cs : List Value) j, bload Try.prog 137 cs j = cs[j]?) ∧
 (∀ (cs : List Value) j, bload Try.prog 138 cs j = cs[j]?) ∧
 (∀ (cs : List Value) j, bload Try.prog 139 cs j = cs[j]?) ∧
 (∀ (cs : List Value) j, bload Try.prog 140 cs j = cs[j]?) ∧
 (∀ (cs : List Value) j, bload Try.prog 141 cs j = cs[j]?) ∧
 (∀ (cs : List Value) j, bload Try.prog 142 cs j = cs[j]?) ∧
 (∀ cs j, bload Try.prog 143 cs j = if j + 12 ≤ cs.length then some (.agg ⟨(cs.drop j).take 12⟩) else none) ∧
 (∀ cs j, bload Try.prog 144 cs j = if j + 12 ≤ cs.length then some (.agg ⟨(cs.drop j).take 12⟩) else none) ∧
 (∀ (cs : List Value) j, bload Try.prog 145 cs j = cs[j]?) ∧
 (∀ cs j, bload Try.prog 146 cs j = if j + 18 ≤ cs.length then some (.agg ⟨(cs.drop j).take 18⟩) else none) ∧
 (∀ cs j, bload Try.prog 147 cs j = if j + 18 ≤ cs.length then some (.agg ⟨(cs.drop j).take 18⟩) else none) ∧
 (∀ (cs : List Value) j, bload Try.prog 148 cs j = cs[j]?) ∧
 (∀ (cs : List Value) j, bload Try.prog 149 cs j = cs[j]?) ∧
 (∀ (cs : List Value) j, bload Try.prog 150 cs j = cs[j]?) ∧
 (∀ (cs : List Value) j, bload Try.prog 151 cs j = cs[j]?) ∧
 (∀ (cs : List Value) j, bload Try.prog 153 cs j = cs[j]?) ∧
 (∀ (cs : List Value) j, bload Try.prog 154 cs j = cs[j]?) ∧
 (∀ (cs : List Value) j, bload Try.prog 155 cs j = cs[j]?) ∧
 (∀ (cs : List Value) j, bload Try.prog 156 cs j = cs[j]?) ∧
 (∀ (cs : List Value) j, bload Try.prog 157 cs j = cs[j]?) ∧
 (∀ (cs : List Value) j, bload Try.prog 158 cs j = cs[j]?) ∧
 (∀ cs j, bload Try.prog 159 cs j = if j + 2 ≤ cs.length then some (.agg ⟨(cs.drop j).take 2⟩) else none) ∧
 (∀ cs j, bload Try.prog 160 cs j = if j + 2 ≤ cs.length then some (.agg ⟨(cs.drop j).take 2⟩) else none) ∧
 (∀ (cs : List Value) j, bload Try.prog 161 cs j = cs[j]?) ∧
 (∀ (cs : List Value) j, bload Try.prog 162 cs j = cs[j]?) ∧
 (∀ (cs : List Value) j, bload Try.prog 163 cs j = cs[j]?) ∧
 (∀ (cs : List Value) j, bload Try.prog 165 cs j = cs[j]?) ∧
 (∀ (cs : List Value) j, bload Try.prog 166 cs j = cs[j]?) ∧
 (∀ (cs : List Value) j, bload Try.prog 167 cs j = cs[j]?) ∧
 (∀ (cs : List Value) j, bload Try.prog 169 cs j = cs[j]?) ∧
 (∀ (cs : List Value) j, bload Try.prog 170 cs j = cs[j]?) ∧
 (∀ (cs : List Value) j, bload Try.prog 172 cs j = cs[j]?) ∧
 (∀ (cs : List Value) j, bload Try.prog 173 cs j = cs[j]?) ∧
 (∀ (cs : List Value) j, bload Try.prog 174 cs j = cs[j]?) ∧
 (∀ (cs : List Value) j, bload Try.prog 176 cs j = cs[j]?) ∧
 (∀ (cs : List Value) j, bload Try.prog 177 cs j = cs[j]?) ∧
 (∀ (cs : List Value) j, bload Try.prog 178 cs j = cs[j]?) ∧
 (∀ (cs : List Value) j, bload Try.prog 179 cs j = cs[j]?) ∧
 (∀ (cs : List Value) j, bload Try.prog 180 cs j = cs[j]?) ∧
 (∀ (cs : List Value) j, bload Try.prog 182 cs j = cs[j]?) ∧
 (∀ (cs : List Value) j, bload Try.prog 183 cs j = cs[j]?) ∧
 (∀ (cs : List Value) j, bload Try.prog 184 cs j = cs[j]?) ∧
 (∀ (cs : List Value) j, bload Try.prog 185 cs j = cs[j]?) ∧
 (∀ (cs : List Value) j, bload Try.prog 186 cs j = cs[j]?) ∧
 (∀ (cs : List Value) j, bload Try.prog 187 cs j = cs[j]?) ∧
 (∀ (cs : List Value) j, bload Try.prog 188 cs j = cs[j]?) ∧
 (∀ (cs : List Value) j, bload Try.prog 190 cs j = cs[j]?) ∧
 (∀ (cs : List Value) j, bload Try.prog 191 cs j = cs[j]?) ∧
 (∀ (cs : List Value) j, bload Try.prog 192 cs j = cs[j]?) ∧
 (∀ (cs : List Value) j, bload Try.prog 193 cs j = cs[j]?) ∧
 (∀ (cs : List Value) j, bload Try.prog 195 cs j = cs[j]?) ∧
 (∀ (cs : List Value) j, bload Try.prog 196 cs j = cs[j]?) ∧
 (∀ (cs : List Value) j, bload Try.prog 197 cs j = cs[j]?) ∧
 (∀ cs j, bload Try.prog 198 cs j = if j + 256 ≤ cs.length then some (.agg ⟨(cs.drop j).take 256⟩) else none) ∧
 (∀ (cs : List Value) j, bload Try.prog 200 cs j = cs[j]?) ∧
 (∀ (cs : List Value) j, bload Try.prog 201 cs j = cs[j]?) ∧
 (∀ (cs : List Value) j, bload Try.prog 202 cs j = cs[j]?) ∧
 (∀ (cs : List Value) j, bload Try.prog 203 cs j = cs[j]?) ∧
 (∀ (cs : List Value) j, bload Try.prog 204 cs j = cs[j]?) ∧
 (∀ cs j, bload Try.prog 205 cs j = if j + 8 ≤ cs.length then some (.agg ⟨(cs.drop j).take 8⟩) else none) ∧
 (∀ cs j, bload Try.prog 206 cs j = if j + 8 ≤ cs.length then some (.agg ⟨(cs.drop j).take 8⟩) else none) ∧
 (∀ (cs : List Value) j, bload Try.prog 208 cs j = cs[j]?) ∧
 (∀ (cs : List Value) j, bload Try.prog 210 cs j = cs[j]?) ∧
 (∀ (cs : List Value) j, bload Try.prog 211 cs j = cs[j]?) ∧
 (∀ cs j, bload Try.prog 212 cs j = if j + 4 ≤ cs.length then some (.agg ⟨(cs.drop j).take 4⟩) else none) ∧
 (∀ (cs : List Value) j, bload Try.prog 213 cs j = cs[j]?) ∧
 (∀ cs j, bload Try.prog 214 cs j = if j + 1 ≤ cs.length then some (.agg ⟨(cs.drop j).take 1⟩) else none) ∧
 (∀ cs j, bload Try.prog 215 cs j = if j + 1 ≤ cs.length then some (.agg ⟨(cs.drop j).take 1⟩) else none) ∧
 (∀ (cs : List Value) j, bload Try.prog 216 cs j = cs[j]?) ∧
 (∀ (cs : List Value) j, bload Try.prog 217 cs j = cs[j]?) ∧
 (∀ (cs : List Value) j, bload Try.prog 218 cs j = cs[j]?) ∧
 (∀ (cs : List Value) j, bload Try.prog 219 cs j = cs[j]?) ∧
 (∀ (cs : List Value) j, bload Try.prog 220 cs j = cs[j]?) ∧
 (∀ (cs : List Value) j, bload Try.prog 221 cs j = cs[j]?) ∧
 (∀ (cs : List Value) j, bload Try.prog 222 cs j = cs[j]?) ∧
 (∀ (cs : List Value) j, bload Try.prog 223 cs j = cs[j]?) ∧
 (∀ (cs : List Value) j, bload Try.prog 224 cs j = cs[j]?) ∧
 (∀ (cs : List Value) j, bload Try.prog 225 cs j = cs[j]?) ∧
 (∀ (cs : List Value) j, bload Try.prog 226 cs j = cs[j]?) ∧
 (∀ (cs : List Value) j, bload Try.prog 228 cs j = cs[j]?) ∧
 (∀ (cs : List Value) j, bload Try.prog 229 cs j = cs[j]?) ∧
 (∀ (cs : List Value) j, bload Try.prog 230 cs j = cs[j]?) ∧
 (∀ (cs : List Value) j, bload Try.prog 231 cs j = cs[j]?) ∧
 (∀ (cs : List Value) j, bload Try.prog 232 cs j = cs[j]?) ∧
 (∀ (cs : List Value) j, bload Try.prog 234 cs j = cs[j]?) ∧
 (∀ (cs : List Value) j, bload Try.prog 235 cs j = cs[j]?) ∧
 (∀ (cs : List Value) j, bload Try.prog 236 cs j = cs[j]?) ∧
 (∀ (cs : List Value) j, bload Try.prog 237 cs j = cs[j]?) ∧
 (∀ (cs : List Value) j, bload Try.prog 238 cs j = cs[j]?) ∧
 (∀ (cs : List Value) j, bload Try.prog 239 cs j = cs[j]?) ∧
 (∀ (cs : List Value) j, bload Try.prog 247 cs j = cs[j]?) ∧
 (∀ (cs : List Value) j, bload Try.prog 248 cs j = cs[j]?) ∧
 (∀ (cs : List Value) j, bload Try.prog 253 cs j = cs[j]?) := by
 refine ⟨?_, ?_, ?_, ?_, ?_, ?_, ?_, ?_, ?_, ?_, ?_, ?_, ?_, ?_, ?_, ?_, ?_, ?_, ?_, ?_, ?_, ?_, ?_, ?_, ?_, ?_, ?_, ?_, ?_, ?_, ?_, ?_, ?_, ?_, ?_, ?_, ?_, ?_, ?_, ?_, ?_, ?_, ?_, ?_, ?_, ?_, ?_, ?_, ?_, ?_, ?_, ?_, ?_, ?_, ?_, ?_, ?_, ?_, ?_, ?_, ?_, ?_, ?_, ?_, ?_, ?_, ?_, ?_, ?_, ?_, ?_, ?_, ?_, ?_, ?_, ?_, ?_, ?_, ?_, ?_, ?_, ?_, ?_, ?_, ?_, ?_, ?_, ?_, ?_, ?_, ?_, ?_, ?_, ?_, ?_, ?_, ?_, ?_, ?_, ?_, ?_, ?_, ?_, ?_, ?_, ?_, ?_, ?_, ?_, ?_, ?_, ?_, ?_, ?_, ?_, ?_, ?_, ?_, ?_, ?_, ?_, ?_, ?_, ?_, ?_, ?_, ?_, ?_, ?_, ?_, ?_, ?_, ?_, ?_, ?_, ?_, ?_, ?_, ?_, ?_, ?_, ?_, ?_, ?_, ?_, ?_, ?_, ?_, ?_, ?_, ?_, ?_, ?_, ?_, ?_, ?_, ?_, ?_, ?_, ?_, ?_, ?_, ?_, ?_, ?_, ?_, ?_, ?_, ?_, ?_, ?_, ?_, ?_, ?_, ?_, ?_, ?_, ?_, ?_, ?_, ?_, ?_, ?_, ?_, ?_, ?_, ?_, ?_, ?_, ?_, ?_, ?_, ?_, ?_, ?_, ?_, ?_, ?_, ?_, ?_, ?_, ?_, ?_, ?_, ?_, ?_, ?_⟩
 all_goals (intros; kernel_rfl)
@[push_cast] theorem TD : (∀ parts, abuild Try.prog 13 parts = (fillL (fun i => [(0, 1), (1, 1)][i]?) [.string .empty, .int .u64 0] parts).map fun cs => .agg ⟨cs⟩) ∧
 (∀ parts, abuild Try.prog 31 parts = (fillL (fun i => [(0, 1), (1, 1)][i]?) [.int .u32 0, .int .i64 0] parts).map fun cs => .agg ⟨cs⟩) ∧
 (∀ parts, abuild Try.prog 32 parts = (fillL (fun i => [(0, 1), (1, 1)][i]?) [.int .u32 0, .int .i64 0] parts).map fun cs => .agg ⟨cs⟩) ∧
 (∀ parts, abuild Try.prog 35 parts = (fillL (fun i => [(0, 2), (2, 1), (3, 1)][i]?) [.int .u32 0, .int .i64 0, .int .i64 0, .int .i64 0] parts).map fun cs => .agg ⟨cs⟩) ∧
 (∀ parts, abuild Try.prog 36 parts = (fillL (fun i => [(0, 2), (2, 1), (3, 1)][i]?) [.int .u32 0, .int .i64 0, .int .i64 0, .int .i64 0] parts).map fun cs => .agg ⟨cs⟩) ∧
 (∀ parts, abuild Try.prog 41 parts = (fillL (fun i => [(0, 1), (1, 1), (2, 1), (3, 1), (4, 1), (5, 1), (6, 1), (7, 1)][i]?) [.int .i64 0, .slice none 0 0, .int .u32 0, .int .u32 0, .int .u32 0, .bool false, .bool false, .slice none 0 0] parts).map fun cs => .agg ⟨cs⟩) ∧
 (∀ parts, abuild Try.prog 42 parts = (fillL (fun i => [(0, 1), (1, 1), (2, 1), (3, 1), (4, 1), (5, 1), (6, 1), (7, 1)][i]?) [.int .i64 0, .slice none 0 0, .int .u32 0, .int .u32 0, .int .u32 0, .bool false, .bool false, .slice none 0 0] parts).map fun cs => .agg ⟨cs⟩) ∧
 (∀ parts, abuild Try.prog 43 parts = (fillL (fun i => [(0, 1), (1, 1), (2, 1), (3, 1), (4, 1), (5, 8), (13, 1), (14, 1), (15, 1), (16, 1)][i]?) [.int .i64 0, .int .u32 0, .int .u32 0, .int .i64 0, .slice none 0 0, .int .i64 0, .slice none 0 0, .int .u32 0, .int .u32 0, .int .u32 0, .bool false, .bool false, .slice none 0 0, .slice none 0 0, .int .i64 0, .int .i64 0, .slice none 0 0] parts).map fun cs => .agg ⟨cs⟩) ∧
 (∀ parts, abuild Try.prog 44 parts = (fillL (fun i => [(0, 1), (1, 1), (2, 1), (3, 1), (4, 1), (5, 8), (13, 1), (14, 1), (15, 1), (16, 1)][i]?) [.int .i64 0, .int .u32 0, .int .u32 0, .int .i64 0, .slice none 0 0, .int .i64 0, .slice none 0 0, .int .u32 0, .int .u32 0, .int .u32 0, .bool false, .bool false, .slice none 0 0, .slice none 0 0, .int .i64 0, .int .i64 0, .slice none 0 0] parts).map fun cs => .agg ⟨cs⟩) ∧
 (∀ parts, abuild Try.prog 45 parts = (fillL (fun i => [(0, 1), (1, 1)][i]?) [.int .i64 0, .int .i64 0] parts).map fun cs => .agg ⟨cs⟩) ∧
 (∀ parts, abuild Try.prog 46 parts = (fillL (fun i => [(0, 1), (1, 1)][i]?) [.int .i64 0, .int .i64 0] parts).map fun cs => .agg ⟨cs⟩) ∧
 (∀ parts, abuild Try.prog 49 parts = (fillL (fun i => [(0, 1), (1, 1), (2, 1), (3, 1), (4, 1), (5, 1), (6, 1), (7, 1)][i]?) [.int .i64 0, .slice none 0 0, .int .u32 0, .int .u32 0, .int .u32 0, .bool false, .bool false, .slice none 0 0] parts).map fun cs => .agg ⟨cs⟩) ∧
 (∀ parts, abuild Try.prog 50 parts = (fillL (fun i => [(0, 1), (1, 1), (2, 1), (3, 1), (4, 1), (5, 8), (13, 1), (14, 1), (15, 1), (16, 1)][i]?) [.int .i64 0, .int .u32 0, .int .u32 0, .int .i64 0, .slice none 0 0, .int .i64 0, .slice none 0 0, .int .u32 0, .int .u32 0, .int .u32 0, .bool false, .bool false, .slice none 0 0, .slice none 0 0, .int .i64 0, .int .i64 0, .slice none 0 0] parts).map fun cs => .agg ⟨cs⟩) ∧
 (∀ parts, abuild Try.prog 51 parts = (fillL (fun i => [(0, 1), (1, 1), (2, 1), (3, 1), (4, 1), (5, 8), (13, 1), (14, 1), (15, 1), (16, 1)][i]?) [.int .i64 0, .int .u32 0, .int .u32 0, .int .i64 0, .slice none 0 0, .int .i64 0, .slice none 0 0, .int .u32 0, .int .u32 0, .int .u32 0, .bool false, .bool false, .slice none 0 0, .slice none 0 0, .int .i64 0, .int .i64 0, .slice none 0 0] parts).map fun cs => .agg ⟨cs⟩) ∧
 (∀ parts, abuild Try.prog 52 parts = (fillL (fun i => [(0, 1), (1, 1)][i]?) [.int .i64 0, .int .i64 0] parts).map fun cs => .agg ⟨cs⟩) ∧
 (∀ parts, abuild Try.prog 59 parts = (fillL (fun i => [(0, 1), (1, 1), (2, 1), (3, 1), (4, 1), (5, 8), (13, 1), (14, 1), (15, 1), (16, 1)][i]?) [.int .i64 0, .int .u32 0, .int .u32 0, .int .i64 0, .slice none 0 0, .int .i64 0, .slice none 0 0, .int .u32 0, .int .u32 0, .int .u32 0, .bool false, .bool false, .slice none 0 0, .slice none 0 0, .int .i64 0, .int .i64 0, .slice none 0 0] parts).map fun cs => .agg ⟨cs⟩) ∧
 (∀ parts, abuild Try.prog 69 parts = (fillL (fun i => [(0, 1), (1, 1), (2, 1), (3, 1)][i]?) [.int .u32 0, .int .u32 0, .int .i64 0, .int .u32 0] parts).map fun cs => .agg ⟨cs⟩) ∧
 (∀ parts, abuild Try.prog 70 parts = (fillL (fun i => [(0, 1), (1, 1), (2, 1), (3, 1)][i]?) [.int .u32 0, .int .u32 0, .int .i64 0, .int .u32 0] parts).map fun cs => .agg ⟨cs⟩) ∧
 (∀ parts, abuild Try.prog 71 parts = (fillL (fun i => [(0, 4), (4, 1), (5, 1), (6, 1), (7, 1), (8, 1), (9, 1)][i]?) [.int .u32 0, .int .u32 0, .int .i64 0, .int .u32 0, .int .i64 0, .slice none 0 0, .int .i64 0, .int .i64 0, .int .i64 0, .int .u32 0] parts).map fun cs => .agg ⟨cs⟩) ∧
 (∀ parts, abuild Try.prog 72 parts = (fillL (fun i => [(0, 4), (4, 1), (5, 1), (6, 1), (7, 1), (8, 1), (9, 1)][i]?) [.int .u32 0, .int .u32 0, .int .i64 0, .int .u32 0, .int .i64 0, .slice none 0 0, .int .i64 0, .int .i64 0, .int .i64 0, .int .u32 0] parts).map fun cs => .agg ⟨cs⟩) ∧
 (∀ parts, abuild Try.prog 74 parts = (fillL (fun i => [(0, 1), (1, 1), (2, 1), (3, 1)][i]?) [.int .u32 0, .int .u32 0, .int .i64 0, .int .u32 0] parts).map fun cs => .agg ⟨cs⟩) ∧
 (∀ parts, abuild Try.prog 75 parts = (fillL (fun i => [(0, 4), (4, 1), (5, 1), (6, 1), (7, 1), (8, 1), (9, 1)][i]?) [.int .u32 0, .int .u32 0, .int .i64 0, .int .u32 0, .int .i64 0, .slice none 0 0, .int .i64 0, .int .i64 0, .int .i64 0, .int .u32 0] parts).map fun cs => .agg ⟨cs⟩) ∧
 (∀ parts, abuild Try.prog 76 parts = (fillL (fun i => [(0, 4), (4, 1), (5, 1), (6, 1), (7, 1), (8, 1), (9, 1)][i]?) [.int .u32 0, .int .u32 0, .int .i64 0, .int .u32 0, .int .i64 0, .slice none 0 0, .int .i64 0, .int .i64 0, .int .i64 0, .int .u32 0] parts).map fun cs => .agg ⟨cs⟩) ∧
 (∀ parts, abuild Try.prog 82 parts = (fillL (fun i => [(0, 1), (1, 1), (2, 1), (3, 1)][i]?) [.int .u32 0, .int .u32 0, .int .i64 0, .int .u32 0] parts).map fun cs => .agg ⟨cs⟩) ∧
 (∀ parts, abuild Try.prog 83 parts = (fillL (fun i => [(0, 4), (4, 1), (5, 1), (6, 1), (7, 1), (8, 1), (9, 1)][i]?) [.int .u32 0, .int .u32 0, .int .i64 0, .int .u32 0, .int .i64 0, .slice none 0 0, .int .i64 0, .int .i64 0, .int .i64 0, .int .u32 0] parts).map fun cs => .agg ⟨cs⟩) ∧
 (∀ parts, abuild Try.prog 84 parts = (fillL (fun i => [(0, 4), (4, 1), (5, 1), (6, 1), (7, 1), (8, 1), (9, 1)][i]?) [.int .u32 0, .int .u32 0, .int .i64 0, .int .u32 0, .int .i64 0, .slice none 0 0, .int .i64 0, .int .i64 0, .int .i64 0, .int .u32 0] parts).map fun cs => .agg ⟨cs⟩) ∧
 (∀ parts, abuild Try.prog 97 parts = (fillL (fun i => [(0, 1), (1, 1), (2, 1), (3, 1), (4, 1)][i]?) [.int .i64 0, .int .i64 0, .int .i64 0, .int .i64 0, .slice none 0 0] parts).map fun cs => .agg ⟨cs⟩) ∧
 (∀ parts, abuild Try.prog 98 parts = (fillL (fun i => [(0, 1), (1, 1), (2, 1), (3, 1), (4, 1)][i]?) [.int .i64 0, .int .i64 0, .int .i64 0, .int .i64 0, .slice none 0 0] parts).map fun cs => .agg ⟨cs⟩) ∧
 (∀ parts, abuild Try.prog 100 parts = (fillL (fun i => [(0, 1), (1, 17)][i]?) [.int .i64 0, .int .i64 0, .int .u32 0, .int .u32 0, .int .i64 0, .slice none 0 0, .int .i64 0, .slice none 0 0, .int .u32 0, .int .u32 0, .int .u32 0, .bool false, .bool false, .slice none 0 0, .slice none 0 0, .int .i64 0, .int .i64 0, .slice none 0 0] parts).map fun cs => .agg ⟨cs⟩) ∧
 (∀ parts, abuild Try.prog 101 parts = (fillL (fun i => [(0, 1), (1, 17)][i]?) [.int .i64 0, .int .i64 0, .int .u32 0, .int .u32 0, .int .i64 0, .slice none 0 0, .int .i64 0, .slice none 0 0, .int .u32 0, .int .u32 0, .int .u32 0, .bool false, .bool false, .slice none 0 0, .slice none 0 0, .int .i64 0, .int .i64 0, .slice none 0 0] parts).map fun cs => .agg ⟨cs⟩) ∧
 (∀ parts, abuild Try.prog 107 parts = (fillL (fun i => [(0, 1), (1, 4)][i]?) [.bool false, .int .u32 0, .int .i64 0, .int .i64 0, .int .i64 0] parts).map fun cs => .agg ⟨cs⟩) ∧
 (∀ parts, abuild Try.prog 108 parts = (fillL (fun i => [(0, 1), (1, 4)][i]?) [.bool false, .int .u32 0, .int .i64 0, .int .i64 0, .int .i64 0] parts).map fun cs => .agg ⟨cs⟩) ∧
 (∀ parts, abuild Try.prog 133 parts = (fillL (fun i => [(0, 1)][i]?) [.slice none 0 0] parts).map fun cs => .agg ⟨cs⟩) ∧
 (∀ parts, abuild Try.prog 134 parts = (fillL (fun i => [(0, 1)][i]?) [.slice none 0 0] parts).map fun cs => .agg ⟨cs⟩) ∧
 (∀ parts, abuild Try.prog 143 parts = (fillL (fun i => [(0, 10), (10, 1), (11, 1)][i]?) [.int .u32 0, .int .u32 0, .int .i64 0, .int .u32 0, .int .i64 0, .slice none 0 0, .int .i64 0, .int .i64 0, .int .i64 0, .int .u32 0, .slice none 0 0, .slice none 0 0] parts).map fun cs => .agg ⟨cs⟩) ∧
 (∀ parts, abuild Try.prog 144 parts = (fillL (fun i => [(0, 10), (10, 1), (11, 1)][i]?) [.int .u32 0, .int .u32 0, .int .i64 0, .int .u32 0, .int .i64 0, .slice none 0 0, .int .i64 0, .int .i64 0, .int .i64 0, .int .u32 0, .slice none 0 0, .slice none 0 0] parts).map fun cs => .agg ⟨cs⟩) ∧
 (∀ parts, abuild Try.prog 146 parts = (fillL (fun i => [(0, 1), (1, 17)][i]?) [.int .i64 0, .int .i64 0, .int .u32 0, .int .u32 0, .int .i64 0, .slice none 0 0, .int .i64 0, .slice none 0 0, .int .u32 0, .int .u32 0, .int .u32 0, .bool false, .bool false, .slice none 0 0, .slice none 0 0, .int .i64 0, .int .i64 0, .slice none 0 0] parts).map fun cs => .agg ⟨cs⟩) ∧
 (∀ parts, abuild Try.prog 147 parts = (fillL (fun i => [(0, 1), (1, 17)][i]?) [.int .i64 0, .int .i64 0, .int .u32 0, .int .u32 0, .int .i64 0, .slice none 0 0, .int .i64 0, .slice none 0 0, .int .u32 0, .int .u32 0, .int .u32 0, .bool false, .bool false, .slice none 0 0, .slice none 0 0, .int .i64 0, .int .i64 0, .slice none 0 0] parts).map fun cs => .agg ⟨cs⟩) ∧
 (∀ parts, abuild Try.prog 159 parts = (fillL (fun i => [(0, 1), (1, 1)][i]?) [.slice none 0 0, .bool false] parts).map fun cs => .agg ⟨cs⟩) ∧
 (∀ parts, abuild Try.prog 160 parts = (fillL (fun i => [(0, 1), (1, 1)][i]?) [.slice none 0 0, .bool false] parts).map fun cs => .agg ⟨cs⟩) ∧
 (∀ parts, abuild Try.prog 205 parts = (fillL (fun i => [(0, 2), (2, 1), (3, 1), (4, 1), (5, 1), (6, 1), (7, 1)][i]?) [.int .u32 0, .int .i64 0, .slice none 0 0, .slice none 0 0, .int .u32 0, .int .u32 0, .int .i64 0, .int .u32 0] parts).map fun cs => .agg ⟨cs⟩) ∧
 (∀ parts, abuild Try.prog 206 parts = (fillL (fun i => [(0, 2), (2, 1), (3, 1), (4, 1), (5, 1), (6, 1), (7, 1)][i]?) [.int .u32 0, .int .i64 0, .slice none 0 0, .slice none 0 0, .int .u32 0, .int .u32 0, .int .i64 0, .int .u32 0] parts).map fun cs => .agg ⟨cs⟩) ∧
 (∀ parts, abuild Try.prog 214 parts = (fillL (fun i => [(0, 1)][i]?) [.slice none 0 0] parts).map fun cs => .agg ⟨cs⟩) ∧
 (∀ parts, abuild Try.prog 215 parts = (fillL (fun i => [(0, 1)][i]?) [.slice none 0 0] parts).map fun cs => .agg ⟨cs⟩) ∧
 (∀ parts, abuild Try.prog 67 parts = (fillL (fun i => some (i * 1, 1)) [.int .i64 0, .int .i64 0] parts).map fun cs => .agg ⟨cs⟩) ∧
 (∀ parts, abuild Try.prog 122 parts = (fillL (fun i => some (i * 1, 1)) [.int .i64 0, .int .i64 0, .int .i64 0, .int .i64 0, .int .i64 0] parts).map fun cs => .agg ⟨cs⟩) ∧
 (∀ parts, abuild Try.prog 212 parts = (fillL (fun i => some (i * 1, 1)) [.int .u8 0, .int .u8 0, .int .u8 0, .int .u8 0] parts).map fun cs => .agg ⟨cs⟩) := by
 refine ⟨?_, ?_, ?_, ?_, ?_, ?_, ?_, ?_, ?_, ?_, ?_, ?_, ?_, ?_, ?_, ?_, ?_, ?_, ?_, ?_, ?_, ?_, ?_, ?_, ?_, ?_, ?_, ?_, ?_, ?_, ?_, ?_, ?_, ?_, ?_, ?_, ?_, ?_, ?_, ?_, ?_, ?_, ?_, ?_, ?_, ?_, ?_⟩
 all_goals (intros; kernel_rfl)
@[push_cast] theorem TT : (∀ len parts, alit Try.prog 22 len parts = if 0 < 4 ∧ 4 = 4 ∧ len * 4 ≤ 16777216 then (fillL (fun i => some (i * 4, 4)) (zerosOf [.int .u32 0, .int .i64 0, .int .i64 0, .int .i64 0] len) parts).map fun cs => (4, cs) else none) ∧
 (∀ len parts, alit Try.prog 24 len parts = if 0 < 2 ∧ 2 = 2 ∧ len * 2 ≤ 16777216 then (fillL (fun i => some (i * 2, 2)) (zerosOf [.int .u32 0, .int .i64 0] len) parts).map fun cs => (2, cs) else none) ∧
 (∀ len parts, alit Try.prog 39 len parts = if 0 < 1 ∧ 1 = 1 ∧ len * 1 ≤ 16777216 then (fillL (fun i => some (i * 1, 1)) (zerosOf [.int .u8 0] len) parts).map fun cs => (1, cs) else none) ∧
 (∀ len parts, alit Try.prog 40 len parts = if 0 < 1 ∧ 1 = 1 ∧ len * 1 ≤ 16777216 then (fillL (fun i => some (i * 1, 1)) (zerosOf [.int .u32 0] len) parts).map fun cs => (1, cs) else none) ∧
 (∀ len parts, alit Try.prog 77 len parts = if 0 < 18 ∧ 18 = 18 ∧ len * 18 ≤ 16777216 then (fillL (fun i => some (i * 18, 18)) (zerosOf [.int .i64 0, .int .i64 0, .int .u32 0, .int .u32 0, .int .i64 0, .slice none 0 0, .int .i64 0, .slice none 0 0, .int .u32 0, .int .u32 0, .int .u32 0, .bool false, .bool false, .slice none 0 0, .slice none 0 0, .int .i64 0, .int .i64 0, .slice none 0 0] len) parts).map fun cs => (18, cs) else none) ∧
 (∀ len parts, alit Try.prog 87 len parts = if 0 < 18 ∧ 18 = 18 ∧ len * 18 ≤ 16777216 then (fillL (fun i => some (i * 18, 18)) (zerosOf [.int .i64 0, .int .i64 0, .int .u32 0, .int .u32 0, .int .i64 0, .slice none 0 0, .int .i64 0, .slice none 0 0, .int .u32 0, .int .u32 0, .int .u32 0, .bool false, .bool false, .slice none 0 0, .slice none 0 0, .int .i64 0, .int .i64 0, .slice none 0 0] len) parts).map fun cs => (18, cs) else none) ∧
 (∀ len parts, alit Try.prog 96 len parts = if 0 < 5 ∧ 5 = 5 ∧ len * 5 ≤ 16777216 then (fillL (fun i => some (i * 5, 5)) (zerosOf [.int .i64 0, .int .i64 0, .int .i64 0, .int .i64 0, .slice none 0 0] len) parts).map fun cs => (5, cs) else none) ∧
 (∀ len parts, alit Try.prog 109 len parts = if 0 < 5 ∧ 5 = 5 ∧ len * 5 ≤ 16777216 then (fillL (fun i => some (i * 5, 5)) (zerosOf [.bool false, .int .u32 0, .int .i64 0, .int .i64 0, .int .i64 0] len) parts).map fun cs => (5, cs) else none) := by
 refine ⟨?_, ?_, ?_, ?_, ?_, ?_, ?_, ?_⟩
 all_goals (intros; kernel_rfl)
end Go.Proofs.Ytbdejnnbpdgjlaa.Ax
namespace Go.Proofs.Ytbdejnnbpdgjlaa.Ax
open Go Go.RowKit
set_option linter.unusedVariables false
set_option linter.unusedSimpArgs false
def keyB : TypeDesc → Value → Bool
 | .bool, .bool _ => true
 | .int k, .int k' _ => k' == k
 | .string, .string _ => true
 | _, _ => false
theorem keyB_is {d : TypeDesc} {v : Value} (h : keyB d v = true) : MapKept.IsKey d v := by
 unfold keyB at h
 split at h <;> first | trivial | (simpa [MapKept.IsKey] using h) | cases h
theorem keyB_flat {d : TypeDesc} {v : Value} (h : keyB d v = true) : flat v = true := by
 unfold keyB at h
 split at h <;> first | rfl | cases h
noncomputable def lookC (k : Value) : List (Value × Value) → Option Value
 | [] => none
 | e :: es => open Classical in if e.1 = k then some e.2 else lookC k es
noncomputable def putC (k v : Value) : List (Value × Value) → List (Value × Value)
 | [] => [(k, v)]
 | e :: es => open Classical in if e.1 = k then (e.1, v) :: es else e :: putC k v es
theorem ERel.length {ι : Inj} : ∀ {es : List (Value × Value)} {fs : List MapEntry}, ERel ι es fs → es.length = fs.length
 | [], [], _ => rfl
 | [], _ :: _, h => by simp [ERel] at h
 | _ :: _, [], h => by simp [ERel] at h
 | (k, v) :: es, e :: fs, h => by simp [ERel.length h.2.2]
theorem ERel.keys {ι : Inj} {d : TypeDesc} : ∀ {es : List (Value × Value)} {fs : List MapEntry}, ERel ι es fs → (∀ e ∈ es, keyB d e.1 = true) → ∀ x ∈ fs, MapKept.IsKey d x.key
 | [], [], _, _, x, hx => by cases hx
 | [], _ :: _, h, _, _, _ => by simp [ERel] at h
 | _ :: _, [], h, _, _, _ => by simp [ERel] at h
 | (k, v) :: es, e :: fs, h, hk, x, hx => by
  have h0 := hk (k, v) (by simp)
  rcases List.mem_cons.1 hx with rfl | hx
  ·rw [h.1.flat_eq (keyB_flat h0)]; exact keyB_is h0
  ·exact ERel.keys h.2.2 (fun y hy => hk y (by simp [hy])) x hx
theorem find_rel {ι : Inj} {d : TypeDesc} {k : Value} (hk : keyB d k = true) : ∀ {es : List (Value × Value)} {fs : List MapEntry}, ERel ι es fs → (∀ e ∈ es, keyB d e.1 = true) → ∀ i,
  (lookC k es = none ∧ Instr.findNow d k fs i = some none) ∨ ∃ j v v' e', lookC k es = some v ∧ Instr.findNow d k fs i = some (some (i + j, v')) ∧ VRel ι v v' ∧ fs[j]? = some e' ∧ e'.key = k ∧
   ∀ x x', VRel ι x x' → ERel ι (putC k x es) (fs.modify j fun e => { e with key := k, val := x' })
 | [], [], _, _, i => .inl ⟨rfl, rfl⟩
 | [], _ :: _, h, _, _ => by simp [ERel] at h
 | _ :: _, [], h, _, _ => by simp [ERel] at h
 | (k0, v0) :: es, e :: fs, h, hks, i => by
  have h0 := hks (k0, v0) (by simp)
  have hek : e.key = k0 := h.1.flat_eq (keyB_flat h0)
  obtain ⟨r, hr, hiff⟩ := MapKept.sameNow_of_keys (keyB_is hk) (keyB_is (v := e.key) (by rw [hek]; exact h0))
  by_cases c : k0 = k
  ·have hrt : r = true := hiff.2 (by rw [hek]; exact c.symm)
   subst hrt
   refine .inr ⟨0, v0, e.val, e, by unfold lookC; rw [if_pos c], by simp [Instr.findNow, hr], h.2.1, rfl, by rw [hek]; exact c, fun x x' hx => ?_⟩
   unfold putC
   rw [if_pos c]
   simp only [List.modify_zero_cons]
   exact ⟨by show VRel ι k0 k; rw [c]; exact VRel.of_flat (keyB_flat hk), hx, h.2.2⟩
  ·have hrf : r = false := by
    cases r with
    | false => rfl
    | true => exact absurd (hek.symm.trans (hiff.1 rfl).symm) c
   subst hrf
   rcases find_rel hk h.2.2 (fun y hy => hks y (by simp [hy])) (i + 1) with ⟨h1, h2⟩ | ⟨j, v, v', e', h1, h2, h3, h4, h5, h6⟩
   ·exact .inl ⟨by unfold lookC; rw [if_neg c]; exact h1, by simp [Instr.findNow, hr, h2]⟩
   ·refine .inr ⟨j + 1, v, v', e', by unfold lookC; rw [if_neg c]; exact h1, by simp [Instr.findNow, hr, h2]; omega, h3, by simpa using h4, h5, fun x x' hx => ?_⟩
    unfold putC
    rw [if_neg c]
    simp only [List.modify_succ_cons]
    exact ⟨h.1, h.2.1, h6 x x' hx⟩
theorem ERel.snoc {ι : Inj} {k v : Value} {f : MapEntry} (hk : VRel ι k f.key) (hv : VRel ι v f.val) : ∀ {es : List (Value × Value)} {fs : List MapEntry}, ERel ι es fs → ERel ι (es ++ [(k, v)]) (fs ++ [f])
 | [], [], _ => ⟨hk, hv, trivial⟩
 | [], _ :: _, h => by simp [ERel] at h
 | _ :: _, [], h => by simp [ERel] at h
 | (k, v) :: es, e :: fs, h => ⟨h.1, h.2.1, ERel.snoc hk hv h.2.2⟩
section
variable {P : Program} {o : Oper} {ρ : Operand → Value} {M : Mem} {K : Value → Mem → Prop}
theorem fresh_map {t : TypeId} (ho : o.op = .makeMap t none) : FreshA P o ρ (.map []) fun b => .map (some b) := by
 intro ι N0 ρ' b w hN hb' hr
 refine ⟨.map #[] 0, .map (some w.heap.size), ⟨w.heap.size, 0, 0, 0⟩, by simp [execOp, ho, run_makeMap], rfl, ?_, ?_⟩
 ·exact .map b ⟨w.heap.size, 0, 0, 0⟩ (by simp [Inj.upd])
 ·exact ⟨hb', #[], 0, alloc_get _ _, trivial⟩
theorem load_map {t kt et : TypeId} {m k : Operand} {ok : Bool} (ho : o.op = .lookup t m k ok) {d : TypeDesc} {b : Nat} {es : List (Value × Value)} {zc : Value} (hm : P.underlying t = some (.map kt et)) (hd : P.underlying kt = some d) (hz : (P.info? et).bind (·.zero) = some zc) (hzf : flat zc = true)
  (hx : ρ m = .map (some b)) (hk : keyB d (ρ k) = true) (hks : ∀ e ∈ es, keyB d e.1 = true) :
  LoadA P o ρ (fun M => M[b]? = some (.map es)) (if ok then .tuple ⟨[(lookC (ρ k) es).getD zc, .bool (lookC (ρ k) es).isSome]⟩ else (lookC (ρ k) es).getD zc) := by
 intro ι N0 ρ' M w hM hL hr
 have h1 := hr m (by rw [ho]; simp [Op.operands])
 have h2 := hr k (by rw [ho]; simp [Op.operands])
 rw [hx] at h1
 have hkv := h2.flat_eq (keyB_flat hk)
 generalize hz1 : ρ' m = z at h1
 obtain ⟨i, hi, hzi⟩ := Option.bind_eq_some_iff.1 hz
 cases h1 with
 | map _ l hl =>
  obtain ⟨_, fs, c, hg, hE⟩ := hM.blk b _ l hL hl
  have hks' := hE.keys hks
  rcases find_rel hk hE hks 0 with ⟨g1, g2⟩ | ⟨j, v, v', e', g1, g2, g3, _⟩
  ·rw [g1]
   have hv : VRel ι zc zc := VRel.of_flat hzf
   refine ⟨if ok then .tuple ⟨[zc, .bool false]⟩ else zc, ?_, ?_⟩
   ·cases ok
    ·exact hv
    ·exact .tuple _ _ (.cons _ _ _ _ hv (.cons _ _ _ _ (.bool _) .nil))
   ·cases ok <;> simp [execOp, ho, hz1, hkv, Instr.lookup, run_underlying hm, MapKept.run_getObj_map hg, MapKept.run_checkKey hd (keyB_is hk), MapKept.run_findKey hd g2, zeroValue, run_info hi, hzi]
  ·rw [g1]
   refine ⟨if ok then .tuple ⟨[v', .bool true]⟩ else v', ?_, ?_⟩
   ·cases ok
    ·exact g3
    ·exact .tuple _ _ (.cons _ _ _ _ g3 (.cons _ _ _ _ (.bool _) .nil))
   ·cases ok <;> simp [execOp, ho, hz1, hkv, Instr.lookup, run_underlying hm, MapKept.run_getObj_map hg, MapKept.run_checkKey hd (keyB_is hk), MapKept.run_findKey hd g2]
theorem load_str {t u e : TypeId} {x : Operand} (ho : o.op = .convert t u x) (ht : P.underlying t = some (.slice e)) (he : P.underlying e = some (.int .u8)) (hu : P.underlying u = some .string) {xs : List Int} :
  LoadA P o ρ (fun M => Sl M (ρ x) 1 (ints .u8 xs)) (.string (strOfNums xs)) := by
 intro ι N0 ρ' M w hM hL hr
 have h1 := hr x (by rw [ho]; simp [Op.operands])
 refine ⟨_, .string _, ?_⟩
 generalize hz : ρ' x = z at h1
 have hrun : (convert t u z).run P w = .ok (.string (strOfNums xs)) w := by
  have hlen := hL.lnI
  rcases hL.base with e0 | ⟨b, off, n, c, e0, hb, hcap⟩
  ·rw [e0] at h1 hlen
   cases h1
   obtain rfl : xs = [] := List.eq_nil_of_length_eq_zero hlen.symm
   rw [run_convert_bytes_nil w t e ht he 0 0 u hu]; rfl
  ·rw [e0] at h1 hlen hL
   have hlen' : n = xs.length := hlen
   cases h1 with
   | slice _ _ _ _ cap' l a' hbl hle hc ha =>
    by_cases h0 : xs = []
    ·subst h0
     obtain rfl : n = 0 := hlen'
     rw [run_convert_bytes_string w t u e _ 0 cap' ht he hu, run_bytesToString w a' 0 cap' [] (by rfl)]
     rfl
    ·have hpos := List.length_pos_iff.2 h0
     obtain ⟨rfl, _⟩ := ha.resolve_left (by omega)
     refine run_convert_bytes_arg w t e ht he l.g (l.base + off) n cap' xs hlen'.symm (fun i hi => ?_) u hu
     have hci : (ints .u8 xs)[i]? = some (.int .u8 (xs.getD i 0)) := by
      unfold ints
      rw [List.getElem?_map, List.getElem?_eq_getElem (by omega)]
      simp [List.getD_eq_getElem?_getD, List.getElem?_eq_getElem (show i < xs.length by omega)]
     have hcm := hL.cellM hci
     obtain ⟨u', g1, g2⟩ := hM.cell hbl (j := off + i) hcm
     cases g2
     rw [Nat.add_assoc]
     exact g1
 simp [execOp, ho, hz, hrun]
end
def mapK (P : Program) (ty : TypeId) (m k : Value) (M : Mem) (C : Nat → List (Value × Value) → Value → Prop) : Prop := ∃ kt et d b es zc, P.underlying ty = some (.map kt et) ∧ P.underlying kt = some d ∧ (P.info? et).bind (·.zero) = some zc ∧ flat zc = true ∧ m = .map (some b) ∧ keyB d k = true ∧ (∀ e ∈ es, keyB d e.1 = true) ∧ M[b]? = some (.map es) ∧ C b es zc
theorem mapK.of {P : Program} {ty kt et : TypeId} {k : Value} {M : Mem} {C : Nat → List (Value × Value) → Value → Prop} {d : TypeDesc} {b : Nat} {es : List (Value × Value)} {zc : Value} (h1 : P.underlying ty = some (.map kt et)) (h2 : P.underlying kt = some d) (h3 : (P.info? et).bind (·.zero) = some zc) (h4 : flat zc = true)
  (h5 : keyB d k = true) (h6 : ∀ e ∈ es, keyB d e.1 = true) (h7 : M[b]? = some (.map es)) (h : C b es zc) : mapK P ty (.map (some b)) k M C := ⟨kt, et, d, b, es, zc, h1, h2, h3, h4, rfl, h5, h6, h7, h⟩
def strK (P : Program) (ty uy : TypeId) (v : Value) (M : Mem) (C : Value → Prop) : Prop := ∃ e xs, P.underlying ty = some (.slice e) ∧ P.underlying e = some (.int .u8) ∧ P.underlying uy = some .string ∧ Sl M v 1 (ints .u8 xs) ∧ C (.string (strOfNums xs))
theorem strK.of {P : Program} {ty uy e : TypeId} {v : Value} {M : Mem} {C : Value → Prop} {xs : List Int} (h1 : P.underlying ty = some (.slice e)) (h2 : P.underlying e = some (.int .u8)) (h3 : P.underlying uy = some .string) (h4 : Sl M v 1 (ints .u8 xs)) (h : C (.string (strOfNums xs))) : strK P ty uy v M C := ⟨e, xs, h1, h2, h3, h4, h⟩
section
variable {P : Program} {ops : Array Oper} {todo done : List Nat} {Ls : List (Nat × LP)} {rest : List Oper} {K : List Value → Mem → Prop} {t : List Value} {M : Mem}
variable {i : Nat} {dst : Option Tmp} {type : TypeId} {pos : String} {after : Array Edge}
theorem AL.mm {ty : TypeId} (h : AL P ops rest K (putT t dst (.map (some M.length))) (M ++ [.map []])) : AL P ops (⟨dst, .makeMap ty none, type, pos, after, none⟩ :: rest) K t M :=
 AL.op rfl rfl (AOp.fresh (fresh_map rfl) h)
theorem AL.lk {ty : TypeId} {m k : Operand} {ok : Bool} (hok : okOpd m = true) (hok' : okOpd k = true)
  (h : mapK P ty (ev t m) (ev t k) M fun b es zc => AL P ops rest K (putT t dst (if ok then .tuple ⟨[(lookC (ev t k) es).getD zc, .bool (lookC (ev t k) es).isSome]⟩ else (lookC (ev t k) es).getD zc)) M) : AL P ops (⟨dst, .lookup ty m k ok, type, pos, after, none⟩ :: rest) K t M := by
 obtain ⟨kt, et, d, b, es, zc, h1, h2, h3, h4, h5, h6, h7, h8, hc⟩ := h
 exact AL.op (by simp [okOpds, calmOp, Op.operands, hok, hok']) rfl (AOp.load (load_map rfl h1 h2 h3 h4 h5 h6 h7) h8 hc)
theorem AL.cs {ty uy : TypeId} {x : Operand} (hok : okOpd x = true) (h : strK P ty uy (ev t x) M fun v => AL P ops rest K (putT t dst v) M) : AL P ops (⟨dst, .convert ty uy x, type, pos, after, none⟩ :: rest) K t M := by
 obtain ⟨e, xs, h1, h2, h3, h4, hc⟩ := h
 exact AL.op (by simp [okOpds, calmOp, Op.operands, hok]) rfl (AOp.load (load_str rfl h1 h2 h3) h4 hc)
end
end Go.Proofs.Ytbdejnnbpdgjlaa.Ax
