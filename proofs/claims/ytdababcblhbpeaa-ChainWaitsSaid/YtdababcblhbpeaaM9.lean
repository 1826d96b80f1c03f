/-
  Own work: parts of the proof: AwTab AwV.
-/
import Derived.Test.YtdababcblhbpeaaM2
import Derived.Test.YtdababcblhbpeaaProg
import Derived.IntWalk

section
/-
  The table of types of this seat, printed by tabgen.py. Own work of this session.
-/
set_option linter.unusedSimpArgs false
set_option maxRecDepth 100000
namespace Go.Aw
open Go.Proofs
def trT : Tr :=
  (.node 103 ⟨.array 21 4, 21, 21, [.bool false, .bool false, .bool false, .bool false, .bool false, .bool false, .bool false, .bool false, .bool false, .bool false, .bool false, .bool false, .bool false, .bool false, .bool false, .bool false, .bool false, .bool false, .bool false, .bool false, .bool false], true⟩ (.node 50 ⟨.func, 1, 8, [.con .nilFunc], false⟩ (.node 25 ⟨.func, 1, 8, [.con .nilFunc], false⟩ (.node 12 ⟨.int .u64, 1, 8, [.int .u64 0], false⟩ (.node 6 ⟨.int .u8, 1, 1, [.int .u8 0], false⟩ (.node 3 ⟨.int .i64, 1, 8, [.int .i64 0], false⟩ (.node 2 ⟨.int .i64, 1, 8, [.int .i64 0], false⟩ (.node 1 ⟨.func, 1, 8, [.con .nilFunc], false⟩ .nil .nil) .nil) (.node 5 ⟨.int .u8, 1, 1, [.int .u8 0], false⟩ (.node 4 ⟨.bool, 1, 1, [.bool false], false⟩ .nil .nil) .nil)) (.node 9 ⟨.str, 1, 16, [.str []], false⟩ (.node 8 ⟨.struct [(0, 2), (1, 3), (2, 4), (3, 6)], 4, 24, [.int .i64 0, .int .i64 0, .bool false, .int .u8 0], true⟩ (.node 7 ⟨.struct [(0, 2), (1, 3), (2, 4), (3, 6)], 4, 24, [.int .i64 0, .int .i64 0, .bool false, .int .u8 0], true⟩ .nil .nil) .nil) (.node 11 ⟨.str, 1, 16, [.str []], false⟩ (.node 10 ⟨.str, 1, 16, [.str []], false⟩ .nil .nil) .nil))) (.node 18 ⟨.struct [(0, 17)], 1, 8, [.con (.pointer none)], false⟩ (.node 15 ⟨.ptr, 1, 8, [.con (.pointer none)], false⟩ (.node 14 ⟨.struct [(0, 9), (1, 12)], 2, 24, [.str [], .int .u64 0], false⟩ (.node 13 ⟨.struct [(0, 9), (1, 12)], 2, 24, [.str [], .int .u64 0], false⟩ .nil .nil) .nil) (.node 17 ⟨.ptr, 1, 8, [.con (.pointer none)], false⟩ (.node 16 ⟨.ptr, 1, 8, [.con (.pointer none)], false⟩ .nil .nil) .nil)) (.node 22 ⟨.slice 5, 1, 24, [.con (.slice none 0 0)], false⟩ (.node 21 ⟨.int .i32, 1, 4, [.int .i32 0], false⟩ (.node 19 ⟨.struct [(0, 17)], 1, 8, [.con (.pointer none)], false⟩ .nil .nil) .nil) (.node 24 ⟨.func, 1, 8, [.con .nilFunc], false⟩ (.node 23 ⟨.func, 1, 8, [.con .nilFunc], false⟩ .nil .nil) .nil)))) (.node 39 ⟨.func, 1, 8, [.con .nilFunc], false⟩ (.node 33 ⟨.slice 3, 1, 24, [.con (.slice none 0 0)], false⟩ (.node 29 ⟨.func, 1, 8, [.con .nilFunc], false⟩ (.node 27 ⟨.int .i64, 1, 8, [.int .i64 0], false⟩ (.node 26 ⟨.func, 1, 8, [.con .nilFunc], false⟩ .nil .nil) .nil) (.node 32 ⟨.func, 1, 8, [.con .nilFunc], false⟩ (.node 31 ⟨.func, 1, 8, [.con .nilFunc], false⟩ .nil .nil) .nil)) (.node 36 ⟨.func, 1, 8, [.con .nilFunc], false⟩ (.node 35 ⟨.func, 1, 8, [.con .nilFunc], false⟩ (.node 34 ⟨.func, 1, 8, [.con .nilFunc], false⟩ .nil .nil) .nil) (.node 38 ⟨.array 32 5, 32, 32, [.ints .u8 32 (List.replicate 32 0)], true⟩ (.node 37 ⟨.array 32 5, 32, 32, [.ints .u8 32 (List.replicate 32 0)], true⟩ .nil .nil) .nil))) (.node 45 ⟨.struct [(0, 3), (1, 3), (2, 3), (3, 3), (4, 3), (5, 3), (6, 38)], 38, 80, [.int .i64 0, .int .i64 0, .int .i64 0, .int .i64 0, .int .i64 0, .int .i64 0, .ints .u8 32 (List.replicate 32 0)], true⟩ (.node 42 ⟨.slice 22, 1, 24, [.con (.slice none 0 0)], false⟩ (.node 41 ⟨.func, 1, 8, [.con .nilFunc], false⟩ (.node 40 ⟨.func, 1, 8, [.con .nilFunc], false⟩ .nil .nil) .nil) (.node 44 ⟨.struct [(0, 3), (1, 3), (2, 3), (3, 3), (4, 3), (5, 3), (6, 38)], 38, 80, [.int .i64 0, .int .i64 0, .int .i64 0, .int .i64 0, .int .i64 0, .int .i64 0, .ints .u8 32 (List.replicate 32 0)], true⟩ (.node 43 ⟨.func, 1, 8, [.con .nilFunc], false⟩ .nil .nil) .nil)) (.node 48 ⟨.struct [(0, 3), (1, 3), (2, 3)], 3, 24, [.int .i64 0, .int .i64 0, .int .i64 0], true⟩ (.node 47 ⟨.struct [(0, 3), (1, 3), (2, 9)], 3, 32, [.int .i64 0, .int .i64 0, .str []], true⟩ (.node 46 ⟨.struct [(0, 3), (1, 3), (2, 9)], 3, 32, [.int .i64 0, .int .i64 0, .str []], true⟩ .nil .nil) .nil) (.node 49 ⟨.struct [(0, 3), (1, 3), (2, 3)], 3, 24, [.int .i64 0, .int .i64 0, .int .i64 0], true⟩ .nil .nil))))) (.node 77 ⟨.func, 1, 8, [.con .nilFunc], false⟩ (.node 62 ⟨.func, 1, 8, [.con .nilFunc], false⟩ (.node 56 ⟨.func, 1, 8, [.con .nilFunc], false⟩ (.node 53 ⟨.struct [(0, 3), (1, 3), (2, 3)], 3, 24, [.int .i64 0, .int .i64 0, .int .i64 0], true⟩ (.node 52 ⟨.func, 1, 8, [.con .nilFunc], false⟩ (.node 51 ⟨.func, 1, 8, [.con .nilFunc], false⟩ .nil .nil) .nil) (.node 55 ⟨.func, 1, 8, [.con .nilFunc], false⟩ (.node 54 ⟨.struct [(0, 3), (1, 3), (2, 3)], 3, 24, [.int .i64 0, .int .i64 0, .int .i64 0], true⟩ .nil .nil) .nil)) (.node 59 ⟨.func, 1, 8, [.con .nilFunc], false⟩ (.node 58 ⟨.func, 1, 8, [.con .nilFunc], false⟩ (.node 57 ⟨.struct [(0, 3), (1, 3), (2, 3)], 3, 24, [.int .i64 0, .int .i64 0, .int .i64 0], true⟩ .nil .nil) .nil) (.node 61 ⟨.func, 1, 8, [.con .nilFunc], false⟩ (.node 60 ⟨.func, 1, 8, [.con .nilFunc], false⟩ .nil .nil) .nil))) (.node 68 ⟨.struct [(0, 47), (3, 3), (4, 3), (5, 3)], 6, 56, [.int .i64 0, .int .i64 0, .str [], .int .i64 0, .int .i64 0, .int .i64 0], true⟩ (.node 65 ⟨.struct [(0, 47), (3, 3), (4, 3), (5, 3)], 6, 56, [.int .i64 0, .int .i64 0, .str [], .int .i64 0, .int .i64 0, .int .i64 0], true⟩ (.node 64 ⟨.struct [(0, 47), (3, 3), (4, 3), (5, 3)], 6, 56, [.int .i64 0, .int .i64 0, .str [], .int .i64 0, .int .i64 0, .int .i64 0], true⟩ (.node 63 ⟨.func, 1, 8, [.con .nilFunc], false⟩ .nil .nil) .nil) (.node 67 ⟨.func, 1, 8, [.con .nilFunc], false⟩ (.node 66 ⟨.func, 1, 8, [.con .nilFunc], false⟩ .nil .nil) .nil)) (.node 73 ⟨.func, 1, 8, [.con .nilFunc], false⟩ (.node 72 ⟨.func, 1, 8, [.con .nilFunc], false⟩ (.node 70 ⟨.func, 1, 8, [.con .nilFunc], false⟩ .nil .nil) .nil) (.node 76 ⟨.func, 1, 8, [.con .nilFunc], false⟩ (.node 74 ⟨.func, 1, 8, [.con .nilFunc], false⟩ .nil .nil) .nil)))) (.node 90 ⟨.slice 38, 1, 24, [.con (.slice none 0 0)], false⟩ (.node 83 ⟨.func, 1, 8, [.con .nilFunc], false⟩ (.node 80 ⟨.func, 1, 8, [.con .nilFunc], false⟩ (.node 79 ⟨.func, 1, 8, [.con .nilFunc], false⟩ (.node 78 ⟨.func, 1, 8, [.con .nilFunc], false⟩ .nil .nil) .nil) (.node 82 ⟨.slice 88, 1, 24, [.con (.slice none 0 0)], false⟩ (.node 81 ⟨.slice 100, 1, 24, [.con (.slice none 0 0)], false⟩ .nil .nil) .nil)) (.node 87 ⟨.struct [(0, 38), (32, 38), (64, 3), (65, 3)], 66, 80, [.ints .u8 32 (List.replicate 32 0), .ints .u8 32 (List.replicate 32 0), .int .i64 0, .int .i64 0], true⟩ (.node 86 ⟨.func, 1, 8, [.con .nilFunc], false⟩ (.node 84 ⟨.ptr, 1, 8, [.con (.pointer none)], false⟩ .nil .nil) .nil) (.node 89 ⟨.func, 1, 8, [.con .nilFunc], false⟩ (.node 88 ⟨.struct [(0, 38), (32, 38), (64, 3), (65, 3)], 66, 80, [.ints .u8 32 (List.replicate 32 0), .ints .u8 32 (List.replicate 32 0), .int .i64 0, .int .i64 0], true⟩ .nil .nil) .nil))) (.node 98 ⟨.func, 1, 8, [.con .nilFunc], false⟩ (.node 94 ⟨.struct [(0, 3), (1, 38), (33, 3)], 34, 48, [.int .i64 0, .ints .u8 32 (List.replicate 32 0), .int .i64 0], true⟩ (.node 93 ⟨.func, 1, 8, [.con .nilFunc], false⟩ (.node 91 ⟨.slice 95, 1, 24, [.con (.slice none 0 0)], false⟩ .nil .nil) .nil) (.node 97 ⟨.func, 1, 8, [.con .nilFunc], false⟩ (.node 95 ⟨.struct [(0, 3), (1, 38), (33, 3)], 34, 48, [.int .i64 0, .ints .u8 32 (List.replicate 32 0), .int .i64 0], true⟩ .nil .nil) .nil)) (.node 101 ⟨.func, 1, 8, [.con .nilFunc], false⟩ (.node 100 ⟨.struct [(0, 3), (1, 3)], 2, 16, [.int .i64 0, .int .i64 0], true⟩ (.node 99 ⟨.struct [(0, 3), (1, 3)], 2, 16, [.int .i64 0, .int .i64 0], true⟩ .nil .nil) .nil) (.node 102 ⟨.func, 1, 8, [.con .nilFunc], false⟩ .nil .nil)))))) (.node 155 ⟨.func, 1, 8, [.con .nilFunc], false⟩ (.node 131 ⟨.struct [(0, 129), (8, 130), (72, 3), (73, 123)], 74, 304, [.ints .u32 8 (List.replicate 8 0), .ints .u32 64 (List.replicate 64 0), .int .i64 0, .int .u64 0], true⟩ (.node 119 ⟨.func, 1, 8, [.con .nilFunc], false⟩ (.node 111 ⟨.func, 1, 8, [.con .nilFunc], false⟩ (.node 106 ⟨.func, 1, 8, [.con .nilFunc], false⟩ (.node 105 ⟨.func, 1, 8, [.con .nilFunc], false⟩ (.node 104 ⟨.func, 1, 8, [.con .nilFunc], false⟩ .nil .nil) .nil) (.node 110 ⟨.func, 1, 8, [.con .nilFunc], false⟩ (.node 108 ⟨.func, 1, 8, [.con .nilFunc], false⟩ .nil .nil) .nil)) (.node 115 ⟨.slice 164, 1, 24, [.con (.slice none 0 0)], false⟩ (.node 114 ⟨.func, 1, 8, [.con .nilFunc], false⟩ (.node 112 ⟨.ptr, 1, 8, [.con (.pointer none)], false⟩ .nil .nil) .nil) (.node 118 ⟨.func, 1, 8, [.con .nilFunc], false⟩ (.node 117 ⟨.func, 1, 8, [.con .nilFunc], false⟩ .nil .nil) .nil))) (.node 125 ⟨.func, 1, 8, [.con .nilFunc], false⟩ (.node 122 ⟨.int .u64, 1, 8, [.int .u64 0], false⟩ (.node 121 ⟨.func, 1, 8, [.con .nilFunc], false⟩ (.node 120 ⟨.func, 1, 8, [.con .nilFunc], false⟩ .nil .nil) .nil) (.node 124 ⟨.func, 1, 8, [.con .nilFunc], false⟩ (.node 123 ⟨.int .u64, 1, 8, [.int .u64 0], false⟩ .nil .nil) .nil)) (.node 128 ⟨.int .u32, 1, 4, [.int .u32 0], false⟩ (.node 127 ⟨.func, 1, 8, [.con .nilFunc], false⟩ (.node 126 ⟨.ptr, 1, 8, [.con (.pointer none)], false⟩ .nil .nil) .nil) (.node 130 ⟨.array 64 128, 64, 256, [.ints .u32 64 (List.replicate 64 0)], true⟩ (.node 129 ⟨.array 8 128, 8, 32, [.ints .u32 8 (List.replicate 8 0)], true⟩ .nil .nil) .nil)))) (.node 143 ⟨.struct [(0, 3), (1, 3), (2, 140), (3, 90), (4, 141), (5, 3), (6, 4)], 7, 88, [.int .i64 0, .int .i64 0, .con (.map none), .con (.slice none 0 0), .con (.slice none 0 0), .int .i64 0, .bool false], false⟩ (.node 137 ⟨.func, 1, 8, [.con .nilFunc], false⟩ (.node 134 ⟨.func, 1, 8, [.con .nilFunc], false⟩ (.node 133 ⟨.func, 1, 8, [.con .nilFunc], false⟩ (.node 132 ⟨.struct [(0, 129), (8, 130), (72, 3), (73, 123)], 74, 304, [.ints .u32 8 (List.replicate 8 0), .ints .u32 64 (List.replicate 64 0), .int .i64 0, .int .u64 0], true⟩ .nil .nil) .nil) (.node 136 ⟨.func, 1, 8, [.con .nilFunc], false⟩ (.node 135 ⟨.func, 1, 8, [.con .nilFunc], false⟩ .nil .nil) .nil)) (.node 140 ⟨.map 38 145, 1, 8, [.con (.map none)], false⟩ (.node 139 ⟨.func, 1, 8, [.con .nilFunc], false⟩ (.node 138 ⟨.func, 1, 8, [.con .nilFunc], false⟩ .nil .nil) .nil) (.node 142 ⟨.struct [(0, 3), (1, 3), (2, 140), (3, 90), (4, 141), (5, 3), (6, 4)], 7, 88, [.int .i64 0, .int .i64 0, .con (.map none), .con (.slice none 0 0), .con (.slice none 0 0), .int .i64 0, .bool false], false⟩ (.node 141 ⟨.slice 149, 1, 24, [.con (.slice none 0 0)], false⟩ .nil .nil) .nil))) (.node 149 ⟨.struct [(0, 38), (32, 88)], 98, 112, [.ints .u8 32 (List.replicate 32 0), .ints .u8 32 (List.replicate 32 0), .ints .u8 32 (List.replicate 32 0), .int .i64 0, .int .i64 0], true⟩ (.node 146 ⟨.func, 1, 8, [.con .nilFunc], false⟩ (.node 145 ⟨.struct [(0, 38), (32, 3), (33, 3), (34, 3)], 35, 56, [.ints .u8 32 (List.replicate 32 0), .int .i64 0, .int .i64 0, .int .i64 0], true⟩ (.node 144 ⟨.struct [(0, 38), (32, 3), (33, 3), (34, 3)], 35, 56, [.ints .u8 32 (List.replicate 32 0), .int .i64 0, .int .i64 0, .int .i64 0], true⟩ .nil .nil) .nil) (.node 148 ⟨.struct [(0, 38), (32, 88)], 98, 112, [.ints .u8 32 (List.replicate 32 0), .ints .u8 32 (List.replicate 32 0), .ints .u8 32 (List.replicate 32 0), .int .i64 0, .int .i64 0], true⟩ (.node 147 ⟨.func, 1, 8, [.con .nilFunc], false⟩ .nil .nil) .nil)) (.node 152 ⟨.func, 1, 8, [.con .nilFunc], false⟩ (.node 151 ⟨.func, 1, 8, [.con .nilFunc], false⟩ (.node 150 ⟨.func, 1, 8, [.con .nilFunc], false⟩ .nil .nil) .nil) (.node 153 ⟨.func, 1, 8, [.con .nilFunc], false⟩ .nil .nil))))) (.node 178 ⟨.func, 1, 8, [.con .nilFunc], false⟩ (.node 167 ⟨.func, 1, 8, [.con .nilFunc], false⟩ (.node 161 ⟨.func, 1, 8, [.con .nilFunc], false⟩ (.node 158 ⟨.slice 157, 1, 24, [.con (.slice none 0 0)], false⟩ (.node 157 ⟨.struct [(0, 38), (32, 38), (64, 3), (65, 3)], 66, 80, [.ints .u8 32 (List.replicate 32 0), .ints .u8 32 (List.replicate 32 0), .int .i64 0, .int .i64 0], true⟩ (.node 156 ⟨.struct [(0, 38), (32, 38), (64, 3), (65, 3)], 66, 80, [.ints .u8 32 (List.replicate 32 0), .ints .u8 32 (List.replicate 32 0), .int .i64 0, .int .i64 0], true⟩ .nil .nil) .nil) (.node 160 ⟨.struct [(0, 3), (1, 3), (2, 158), (3, 38), (35, 82), (36, 4)], 37, 104, [.int .i64 0, .int .i64 0, .con (.slice none 0 0), .ints .u8 32 (List.replicate 32 0), .con (.slice none 0 0), .bool false], false⟩ (.node 159 ⟨.struct [(0, 3), (1, 3), (2, 158), (3, 38), (35, 82), (36, 4)], 37, 104, [.int .i64 0, .int .i64 0, .con (.slice none 0 0), .ints .u8 32 (List.replicate 32 0), .con (.slice none 0 0), .bool false], false⟩ .nil .nil) .nil)) (.node 164 ⟨.struct [(0, 3), (1, 38), (33, 3)], 34, 48, [.int .i64 0, .ints .u8 32 (List.replicate 32 0), .int .i64 0], true⟩ (.node 163 ⟨.func, 1, 8, [.con .nilFunc], false⟩ (.node 162 ⟨.func, 1, 8, [.con .nilFunc], false⟩ .nil .nil) .nil) (.node 166 ⟨.slice 128, 1, 24, [.con (.slice none 0 0)], false⟩ (.node 165 ⟨.func, 1, 8, [.con .nilFunc], false⟩ .nil .nil) .nil))) (.node 173 ⟨.struct [(0, 22), (1, 4)], 2, 32, [.con (.slice none 0 0), .bool false], false⟩ (.node 170 ⟨.ptr, 1, 8, [.con (.pointer none)], false⟩ (.node 169 ⟨.func, 1, 8, [.con .nilFunc], false⟩ (.node 168 ⟨.array 16 128, 16, 64, [.ints .u32 16 (List.replicate 16 0)], true⟩ .nil .nil) .nil) (.node 172 ⟨.struct [(0, 22), (1, 4)], 2, 32, [.con (.slice none 0 0), .bool false], false⟩ (.node 171 ⟨.func, 1, 8, [.con .nilFunc], false⟩ .nil .nil) .nil)) (.node 176 ⟨.func, 1, 8, [.con .nilFunc], false⟩ (.node 175 ⟨.func, 1, 8, [.con .nilFunc], false⟩ (.node 174 ⟨.func, 1, 8, [.con .nilFunc], false⟩ .nil .nil) .nil) (.node 177 ⟨.func, 1, 8, [.con .nilFunc], false⟩ .nil .nil)))) (.node 190 ⟨.struct [(0, 189)], 0, 0, [], false⟩ (.node 184 ⟨.func, 1, 8, [.con .nilFunc], false⟩ (.node 181 ⟨.func, 1, 8, [.con .nilFunc], false⟩ (.node 180 ⟨.func, 1, 8, [.con .nilFunc], false⟩ (.node 179 ⟨.map 38 3, 1, 8, [.con (.map none)], false⟩ .nil .nil) .nil) (.node 183 ⟨.func, 1, 8, [.con .nilFunc], false⟩ (.node 182 ⟨.func, 1, 8, [.con .nilFunc], false⟩ .nil .nil) .nil)) (.node 187 ⟨.struct [(0, 17), (1, 17), (2, 17), (3, 9)], 4, 40, [.con (.pointer none), .con (.pointer none), .con (.pointer none), .str []], false⟩ (.node 186 ⟨.func, 1, 8, [.con .nilFunc], false⟩ (.node 185 ⟨.func, 1, 8, [.con .nilFunc], false⟩ .nil .nil) .nil) (.node 189 ⟨.array 0 16, 0, 0, [], true⟩ (.node 188 ⟨.struct [(0, 17), (1, 17), (2, 17), (3, 9)], 4, 40, [.con (.pointer none), .con (.pointer none), .con (.pointer none), .str []], false⟩ .nil .nil) .nil))) (.node 196 ⟨.int .i32, 1, 4, [.int .i32 0], false⟩ (.node 193 ⟨.int .u8, 1, 1, [.int .u8 0], false⟩ (.node 192 ⟨.int .u8, 1, 1, [.int .u8 0], false⟩ (.node 191 ⟨.struct [(0, 189)], 0, 0, [], false⟩ .nil .nil) .nil) (.node 195 ⟨.ptr, 1, 8, [.con (.pointer none)], false⟩ (.node 194 ⟨.func, 1, 8, [.con .nilFunc], false⟩ .nil .nil) .nil)) (.node 199 ⟨.struct [(0, 12), (1, 12), (2, 128), (3, 192), (4, 5), (5, 5), (6, 193), (7, 194), (8, 195), (9, 196), (10, 197)], 11, 48, [.int .u64 0, .int .u64 0, .int .u32 0, .int .u8 0, .int .u8 0, .int .u8 0, .int .u8 0, .con .nilFunc, .con (.pointer none), .int .i32 0, .int .i32 0], false⟩ (.node 198 ⟨.struct [(0, 12), (1, 12), (2, 128), (3, 192), (4, 5), (5, 5), (6, 193), (7, 194), (8, 195), (9, 196), (10, 197)], 11, 48, [.int .u64 0, .int .u64 0, .int .u32 0, .int .u8 0, .int .u8 0, .int .u8 0, .int .u8 0, .con .nilFunc, .con (.pointer none), .int .i32 0, .int .i32 0], false⟩ (.node 197 ⟨.int .i32, 1, 4, [.int .i32 0], false⟩ .nil .nil) .nil) (.node 200 ⟨.func, 1, 8, [.con .nilFunc], false⟩ .nil .nil)))))))
def tyT : Tab := trT.find
theorem tokT : TOk Try.prog tyT := TOk.of_tree trT (by kernel_rfl)
end Go.Aw
end

section
/-
  AwV: states told otherwise, in a form that can be computed; sums and words. Own work of this session.
-/
set_option linter.unusedVariables false
set_option linter.unusedSimpArgs false
namespace Go.Aw

def seesT (σ : Nat → Nat) (n : Nat) (hp : Hp) : Hp → List Nat → Prop
  | [], [] => True
  | e' :: r, s :: sr => (entK hp s fun e => match e'.o with
      | .gone => e.esz = e'.esz
      | o => e = e'.ren σ ∧ o.inn n ∧ e'.par = none) ∧ seesT σ n hp r sr
  | _, _ => False

theorem seesT_get {σ : Nat → Nat} {n : Nat} {hp : Hp} : ∀ {hp' : Hp} {sl : List Nat}, seesT σ n hp hp' sl →
    ∀ (i : Nat) (e' : Ent), hp'[i]? = some e' → ∃ (s : Nat) (e : Ent), sl[i]? = some s ∧ hp[s]? = some e ∧ e.esz = e'.esz ∧ (e'.o.live = true → e = e'.ren σ ∧ e'.o.inn n ∧ e'.par = none)
  | [], _, h => fun i e' h => by simp at h
  | _ :: _, [], h => h.elim
  | x :: r, s :: sr, h => by
    simp only [seesT] at h
    obtain ⟨h1, h2⟩ := h
    intro i e' hi
    cases i with
    | succ i =>
      simp at hi
      obtain ⟨s', e, g⟩ := seesT_get h2 i e' hi
      exact ⟨s', e, by simpa using g⟩
    | zero =>
      simp at hi; subst hi
      obtain ⟨e, g1, g2⟩ := entK_sound h1
      refine ⟨s, e, by simp, g1, ?_⟩
      split at g2
      · rename_i ho
        exact ⟨g2, fun hl => by rw [ho] at hl; cases hl⟩
      · obtain ⟨g3, g4, g5⟩ := g2
        exact ⟨by rw [g3]; rfl, fun _ => ⟨g3, g4, g5⟩⟩

/-- the numbers of the blocks that are still told -/
def liveOf : List Nat → Hp → List Nat
  | s :: sl, e :: r => (match e.o.live with | true => s :: liveOf sl r | false => liveOf sl r)
  | _, _ => []
theorem liveOf_mem : ∀ {sl : List Nat} {hp : Hp} {i s : Nat} {e : Ent}, sl[i]? = some s → hp[i]? = some e → e.o.live = true → s ∈ liveOf sl hp
  | [], _, i, s, e, h, _, _ => by simp at h
  | _ :: _, [], i, s, e, _, h, _ => by simp at h
  | x :: sl, y :: r, 0, s, e, h, h', hl => by
    simp at h h'
    subst h h'
    simp only [liveOf, hl]
    simp
  | x :: sl, y :: r, i + 1, s, e, h, h', hl => by
    simp at h h'
    have := liveOf_mem h h' hl
    simp only [liveOf]
    split
    · exact List.mem_cons_of_mem _ this
    · exact this
theorem liveOf_inj : ∀ {sl : List Nat} {hp : Hp}, noDup (liveOf sl hp) = true → ∀ (i j s : Nat) (e e' : Ent), sl[i]? = some s → sl[j]? = some s → hp[i]? = some e → hp[j]? = some e' → e.o.live = true → e'.o.live = true → i = j
  | [], _, _, i, j, s, e, e', h, _, _, _, _, _ => by simp at h
  | _ :: _, [], _, i, j, s, e, e', _, _, h, _, _, _ => by simp at h
  | x :: sl, y :: r, hn, i, j, s, e, e', h1, h2, h3, h4, l1, l2 => by
    simp only [liveOf] at hn
    cases i with
    | zero =>
      simp at h1 h3
      subst h1 h3
      cases j with
      | zero => rfl
      | succ j =>
        simp at h2 h4
        simp only [l1, noDup] at hn
        split at hn
        case h_2 => cases hn
        rename_i hh
        exact absurd (liveOf_mem h2 h4 l2) (notIn_iff hh)
    | succ i =>
      simp at h1 h3
      cases j with
      | zero =>
        simp at h2 h4
        subst h2 h4
        simp only [l2, noDup] at hn
        split at hn
        case h_2 => cases hn
        rename_i hh
        exact absurd (liveOf_mem h1 h3 l1) (notIn_iff hh)
      | succ j =>
        simp at h2 h4
        have hn' : noDup (liveOf sl r) = true := by
          split at hn
          · simp only [noDup] at hn
            split at hn
            · exact hn
            · cases hn
          · exact hn
        rw [liveOf_inj hn' i j s e e' h1 h2 h3 h4 l1 l2]

theorem Sees.of {hp hp' : Hp} {n0 : Nat} (sl : List Nat) (h : seesT (sig sl n0) hp'.length hp hp' sl) (hn : noDup (liveOf sl hp') = true) : Sees (sig sl n0) hp hp' := by
  refine ⟨fun i e' hi => ?_, fun i e' p hi hp hl => ?_, fun i j e e' hi hj hl hl' hne => ?_⟩
  · obtain ⟨s, e, g1, g2, g3, g4⟩ := seesT_get h i e' hi
    refine ⟨e, by rw [sig_lt sl _ i s g1]; exact g2, g3, fun hl => ⟨(g4 hl).1, (g4 hl).2.1⟩⟩
  · obtain ⟨s, e, g1, g2, g3, g4⟩ := seesT_get h i e' hi
    rw [(g4 hl).2.2] at hp; cases hp
  · obtain ⟨s, x, g1, _⟩ := seesT_get h i e hi
    obtain ⟨s', x', g1', _⟩ := seesT_get h j e' hj
    rw [sig_lt sl _ i s g1, sig_lt sl _ j s' g1']
    intro g; subst g
    exact hne (liveOf_inj hn i j s e e' g1 g1' hi hj hl hl')

def fseesT (σ : Nat → Nat) (n : Nat) (fr : Fr) : Fr → Prop
  | [] => True
  | (t, v') :: r => getK t fr (fun v => v = v'.ren σ ∧ v'.inn n) ∧ fseesT σ n fr r

theorem FSees.of {σ : Nat → Nat} {n : Nat} {fr : Fr} : ∀ {fr' : Fr}, fseesT σ n fr fr' → FSees σ n fr fr'
  | [], _ => fun t v h => by simp [Fr.find] at h
  | (u, x) :: r, h => by
    intro t v hv
    simp only [fseesT] at h
    simp only [Fr.find] at hv
    split at hv
    · rename_i hb
      have := Nat.eq_of_beq_eq_true hb
      subst this; cases hv
      have h1 := h.1
      rw [getK_eq] at h1
      cases hf : Fr.find fr u with
      | none =>
        rw [hf] at h1
        simp only [Option.getD_none] at h1
        left
        obtain ⟨h1, _⟩ := h1
        cases x <;> simp [AV.ren] at h1; rfl
      | some y =>
        rw [hf] at h1
        simp only [Option.getD_some] at h1
        exact .inr ⟨y, rfl, h1⟩
    · exact FSees.of h.2 t v hv

def fixB : Nat → Nat → List Nat → Bool
  | _, 0, _ => true
  | i, m + 1, s :: sl => match Nat.beq s i with | true => fixB (i + 1) m sl | false => false
  | _, _ + 1, [] => false

theorem fixB_sound : ∀ {m i : Nat} {sl : List Nat} (n0 : Nat), fixB i m sl = true → ∀ j, j < m → sig sl n0 j = i + j
  | 0, i, sl, n0, _ => fun j h => by omega
  | m + 1, i, [], n0, h => by simp [fixB] at h
  | m + 1, i, s :: sl, n0, h => by
    simp only [fixB] at h
    split at h
    case h_2 => cases h
    rename_i hb
    have := Nat.eq_of_beq_eq_true hb
    intro j hj
    cases j with
    | zero => simpa [sig] using this
    | succ j => simp only [sig]; rw [fixB_sound n0 h j (by omega)]; omega

section
variable {P : Program} {N M : Nat}

/-- ahead of a piece of code: the state told otherwise; 'sl' says which block each new number was -/
theorem AW.turnL {c : Code} {Kn E G R} {fr : Fr} {hp : Hp} (sl : List Nat) (fr' : Fr) (hp' : Hp) (hfix : fixB 0 M sl = true) (hM : Nat.ble M hp'.length = true) (hn : noDup (liveOf sl hp') = true)
    (hh : seesT (sig sl 0) hp'.length hp hp' sl) (hf : fseesT (sig sl 0) hp'.length fr fr') (h : AW P N M c Kn E G R fr' hp') : AW P N M c Kn E G R fr hp :=
  AW.turn (sig sl 0) (fun i hi => by rw [fixB_sound 0 hfix i hi]; omega) (by simpa using hM) (Sees.of sl hh hn) (FSees.of hf) h

theorem Turned.of {K : Fr → Hp → Prop} {fr : Fr} {hp : Hp} (sl : List Nat) (fr' : Fr) (hp' : Hp) (hfix : fixB 0 M sl = true) (hM : Nat.ble M hp'.length = true) (hn : noDup (liveOf sl hp') = true)
    (hh : seesT (sig sl 0) hp'.length hp hp' sl) (hf : fseesT (sig sl 0) hp'.length fr fr') (h : K fr' hp') : Turned M K fr hp := by
  unfold Turned
  exact ⟨sig sl 0, fr', hp', fun i hi => by rw [fixB_sound 0 hfix i hi]; omega, by simpa using hM, Sees.of sl hh hn, FSees.of hf, h⟩

/-- the head of a row is walked by the evaluator -/
theorem AW.pre {T : Tab} {x y : Code} {Kn E G R fr hp} (hT : TOk P T) (keep : Nat → Bool) (h : ev (AC P) (AW P N M) T N keep x (fun fr hp => AW P N M y Kn E G R fr hp) E G R fr hp) : AW P N M (.seq x y) Kn E G R fr hp :=
  AW.seq (ev_sound hT h)
/-- what holds between two pieces -/
theorem AW.cut {x y : Code} {Kn E G R fr hp} (I : Fr → Hp → Prop) (h : AW P N M x I E G R fr hp) (h' : ∀ fr hp, I fr hp → AW P N M y Kn E G R fr hp) : AW P N M (.seq x y) Kn E G R fr hp :=
  AW.seq (AW.mono h h')

/-- what holds between two pieces, the state told otherwise -/
theorem AW.cutT {x y : Code} {Kn E G R fr hp} (I : Fr → Hp → Prop) (h : AW P N M x (Turned M I) E G R fr hp) (h' : ∀ fr hp, I fr hp → AW P N M y Kn E G R fr hp) : AW P N M (.seq x y) Kn E G R fr hp :=
  AW.seq (AW.post (AW.mono h fun fr hp g => by
    unfold Turned at g ⊢
    obtain ⟨σ, fr', hp', a, b, c, d, e⟩ := g
    exact ⟨σ, fr', hp', a, b, c, d, h' _ _ e⟩))

/-- what a call left, told otherwise -/
@[irreducible] def Left (n : Nat) (K : AV → Hp → Prop) (r : AV) (hp' : Hp) : Prop :=
  ∃ σ r' hp'', (∀ i, i < n → σ i = i) ∧ n ≤ hp''.length ∧ Sees σ hp' hp'' ∧ r = r'.ren σ ∧ r'.inn hp''.length ∧ K r' hp''
theorem Left.of {n : Nat} {K : AV → Hp → Prop} {r : AV} {hp : Hp} (sl : List Nat) (r' : AV) (hp' : Hp) (hfix : fixB 0 n sl = true) (hM : Nat.ble n hp'.length = true) (hn : noDup (liveOf sl hp') = true)
    (hh : seesT (sig sl 0) hp'.length hp hp' sl) (hr : r = r'.ren (sig sl 0)) (hin : r'.inn hp'.length) (h : K r' hp') : Left n K r hp := by
  unfold Left
  exact ⟨sig sl 0, r', hp', fun i hi => by rw [fixB_sound 0 hfix i hi]; omega, by simpa using hM, Sees.of sl hh hn, hr, hin, h⟩
theorem AC.left {f : FuncId} {args : List AV} {hp : Hp} {K : AV → Hp → Prop} (h : AC P f args hp (Left hp.length K)) : AC P f args hp K := AC.post h fun r hp' h => by unfold Left at h; exact h
end

/-- rows that speak of the first k blocks alone -/
@[irreducible] def RowFix (k : Nat) (els : List (List AV)) : Prop := ∀ x ∈ els, AV.inns k x
mutual
theorem AV.inn_mono {n n' : Nat} (h : n ≤ n') : ∀ v : AV, v.inn n → v.inn n'
  | .int _ _, _ | .bool _, _ | .str _, _ | .con _, _ | .ints _ _ _, _ | .top, _ => by simp [AV.inn]
  | .ptr b _ _ _, hv | .sl b _ _ _, hv | .mp b, hv => by simp only [AV.inn] at hv ⊢; omega
  | .agg vs, hv | .tup vs, hv | .fn _ vs, hv => by simp only [AV.inn] at hv ⊢; exact AV.inns_mono h vs hv
theorem AV.inns_mono {n n' : Nat} (h : n ≤ n') : ∀ vs : List AV, AV.inns n vs → AV.inns n' vs
  | [], _ => by simp [AV.inns]
  | v :: vs, hv => by simp only [AV.inns] at hv ⊢; exact ⟨AV.inn_mono h v hv.1, AV.inns_mono h vs hv.2⟩
end
mutual
theorem AV.ren_fix {σ : Nat → Nat} {k : Nat} (h : ∀ i, i < k → σ i = i) : ∀ v : AV, v.inn k → v.ren σ = v
  | .int _ _, _ | .bool _, _ | .str _, _ | .con _, _ | .ints _ _ _, _ | .top, _ => by simp [AV.ren]
  | .ptr b _ _ _, hv | .sl b _ _ _, hv | .mp b, hv => by simp only [AV.inn] at hv; simp only [AV.ren]; rw [h b hv]
  | .agg vs, hv | .tup vs, hv | .fn _ vs, hv => by simp only [AV.inn] at hv; simp only [AV.ren]; rw [AV.rens_fix h vs hv]
theorem AV.rens_fix {σ : Nat → Nat} {k : Nat} (h : ∀ i, i < k → σ i = i) : ∀ vs : List AV, AV.inns k vs → AV.rens σ vs = vs
  | [], _ => by simp [AV.rens]
  | v :: vs, hv => by simp only [AV.inns] at hv; simp only [AV.rens]; rw [AV.ren_fix h v hv.1, AV.rens_fix h vs hv.2]
end
theorem RowFix.mono {k k' : Nat} {els : List (List AV)} (h : RowFix k els) (hk : k ≤ k') : RowFix k' els := by
  unfold RowFix at h ⊢; exact fun x hx => AV.inns_mono hk x (h x hx)
theorem RowFix.app {k : Nat} {a b : List (List AV)} (h : RowFix k a) (h' : RowFix k b) : RowFix k (a ++ b) := by
  unfold RowFix at h h' ⊢
  intro x hx
  rcases List.mem_append.1 hx with g | g
  · exact h x g
  · exact h' x g
theorem RowFix.nil {k : Nat} : RowFix k [] := by unfold RowFix; intro x hx; cases hx
theorem RowFix.one {k : Nat} {x : List AV} (h : AV.inns k x) : RowFix k [x] := by
  unfold RowFix; intro y hy; simp at hy; subst hy; exact h
theorem RowFix.renO {k n0 : Nat} {els : List (List AV)} {sl : List Nat} (h : RowFix k els) (hf : fixB 0 k sl = true) : (AObj.row els) = AObj.ren (sig sl n0) (.row els) := by
  unfold RowFix at h
  simp only [AObj.ren]
  congr 1
  conv => lhs; rw [← List.map_id els]
  apply List.map_congr_left
  intro x hx
  rw [AV.rens_fix (fun i hi => by rw [fixB_sound n0 hf i hi]; omega) x (h x hx)]; rfl
theorem RowFix.ren {k n0 z : Nat} {ro : Bool} {els : List (List AV)} {sl : List Nat} (h : RowFix k els) (hf : fixB 0 k sl = true) : (⟨z, ro, none, .row els⟩ : Ent) = Ent.ren (sig sl n0) ⟨z, ro, none, .row els⟩ := by
  unfold Ent.ren
  simp only [Option.map_none]
  congr 1
  exact h.renO hf
theorem RowFix.inn {k n : Nat} {els : List (List AV)} (h : RowFix k els) (hk : Nat.ble k n = true) : AObj.inn n (.row els) := by
  have hk := Nat.le_of_ble_eq_true hk
  unfold RowFix at h
  exact fun x hx => AV.inns_mono hk x (h x hx)

end Go.Aw
end
