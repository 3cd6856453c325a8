/- The table of types and functions of this translation. Printed by gen_env.py. -/
import Derived.Test.YtncbfppafgjdiaaGreatXb
import Derived.Test.YtncbfppafgjdiaaGreatProg
import Derived.KernelRfl
set_option linter.unusedVariables false
set_option linter.unusedSimpArgs false
set_option maxRecDepth 100000
namespace Go.Proofs.YtncbfppafgjdiaaGreat
open Go
def tts : List Nat := [1, 2, 3, 4, 5, 6, 7, 8, 9, 10, 11, 12, 13, 14, 15, 16, 17, 18, 19, 20, 21, 22, 23, 24, 25, 26, 27, 28, 29, 30, 31, 32, 33, 34, 35, 36, 37, 38, 39, 40, 41, 42, 43, 44, 45, 47, 48, 49, 50, 51, 52, 53, 54, 55, 56, 57, 58, 59, 61, 62, 63, 64, 65, 66, 67, 68, 69, 70, 71, 72, 73, 74, 75, 76, 77, 78, 79, 80, 82, 83, 84, 85, 86, 87, 88, 89, 90, 91, 92, 93, 94, 96, 97, 98, 99, 100, 101, 102, 103, 104, 106, 107, 108, 109, 110, 111, 112, 113, 114, 115, 116, 117, 118, 119, 120, 121, 122, 123, 124, 125, 126, 127, 128, 130, 131, 132, 133, 134, 135, 136, 137, 138, 139, 140, 141, 142, 143, 144, 145, 146, 147, 148, 149, 150, 151, 152, 153, 154, 155, 156, 157, 158, 159, 160, 161, 162, 163, 164, 165, 166, 167, 168, 169, 170, 171, 172, 173, 174, 175, 176, 177, 178, 179, 180, 181, 182, 183, 184, 185, 186, 187, 190, 191, 192, 193, 194, 195, 196, 197, 198]
def taggs : List Nat := [7, 8, 13, 14, 18, 19, 25, 26, 29, 30, 31, 32, 33, 34, 36, 37, 39, 40, 42, 43, 44, 45, 49, 50, 70, 71, 72, 73, 78, 79, 92, 93, 137, 138, 141, 142, 146, 147, 148, 150, 151, 163, 164, 185, 186, 187, 197, 198]
def tkn (T : Nat) : Bool := tts.contains T
def tagg (T : Nat) : Bool := taggs.contains T
def ttd : Nat → TD
  | 1 => .fn
  | 2 => .int .i64
  | 3 => .int .i64
  | 4 => .bool
  | 5 => .int .u8
  | 6 => .int .u8
  | 7 => .st
  | 8 => .st
  | 9 => .str
  | 10 => .str
  | 11 => .str
  | 12 => .int .u64
  | 13 => .st
  | 14 => .st
  | 15 => .ptr 186
  | 16 => .ptr 189
  | 17 => .ptr 198
  | 18 => .st
  | 19 => .st
  | 20 => .ifc
  | 21 => .int .i32
  | 22 => .slice 50
  | 23 => .fn
  | 24 => .fn
  | 25 => .st
  | 26 => .st
  | 27 => .slice 73
  | 28 => .slice 93
  | 29 => .st
  | 30 => .st
  | 31 => .st
  | 32 => .st
  | 33 => .st
  | 34 => .st
  | 35 => .slice 3
  | 36 => .st
  | 37 => .st
  | 38 => .slice 71
  | 39 => .st
  | 40 => .st
  | 41 => .slice 40
  | 42 => .st
  | 43 => .st
  | 44 => .st
  | 45 => .st
  | 47 => .fn
  | 48 => .slice 5
  | 49 => .st
  | 50 => .st
  | 51 => .fn
  | 52 => .fn
  | 53 => .fn
  | 54 => .slice 30
  | 55 => .fn
  | 56 => .fn
  | 57 => .fn
  | 58 => .fn
  | 59 => .fn
  | 61 => .fn
  | 62 => .fn
  | 63 => .fn
  | 64 => .fn
  | 65 => .fn
  | 66 => .fn
  | 67 => .fn
  | 68 => .fn
  | 69 => .fn
  | 70 => .st
  | 71 => .st
  | 72 => .st
  | 73 => .st
  | 74 => .fn
  | 75 => .fn
  | 76 => .fn
  | 77 => .ptr 79
  | 78 => .st
  | 79 => .st
  | 80 => .fn
  | 82 => .map 3 80
  | 83 => .fn
  | 84 => .fn
  | 85 => .fn
  | 86 => .fn
  | 87 => .fn
  | 88 => .fn
  | 89 => .fn
  | 90 => .fn
  | 91 => .fn
  | 92 => .st
  | 93 => .st
  | 94 => .fn
  | 96 => .fn
  | 97 => .fn
  | 98 => .fn
  | 99 => .fn
  | 100 => .fn
  | 101 => .fn
  | 102 => .fn
  | 103 => .fn
  | 104 => .fn
  | 106 => .fn
  | 107 => .fn
  | 108 => .fn
  | 109 => .fn
  | 110 => .fn
  | 111 => .fn
  | 112 => .fn
  | 113 => .fn
  | 114 => .fn
  | 115 => .fn
  | 116 => .fn
  | 117 => .fn
  | 118 => .fn
  | 119 => .fn
  | 120 => .fn
  | 121 => .fn
  | 122 => .fn
  | 123 => .fn
  | 124 => .fn
  | 125 => .fn
  | 126 => .fn
  | 127 => .fn
  | 128 => .fn
  | 130 => .fn
  | 131 => .fn
  | 132 => .fn
  | 133 => .fn
  | 134 => .fn
  | 135 => .fn
  | 136 => .fn
  | 137 => .st
  | 138 => .st
  | 139 => .fn
  | 140 => .fn
  | 141 => .st
  | 142 => .st
  | 143 => .map 3 142
  | 144 => .fn
  | 145 => .fn
  | 146 => .st
  | 147 => .st
  | 148 => .arr 2 147
  | 149 => .ptr 151
  | 150 => .st
  | 151 => .st
  | 152 => .fn
  | 153 => .fn
  | 154 => .fn
  | 155 => .fn
  | 156 => .fn
  | 157 => .fn
  | 158 => .fn
  | 159 => .fn
  | 160 => .fn
  | 161 => .fn
  | 162 => .fn
  | 163 => .st
  | 164 => .st
  | 165 => .fn
  | 166 => .fn
  | 167 => .fn
  | 168 => .fn
  | 169 => .ptr 37
  | 170 => .fn
  | 171 => .fn
  | 172 => .fn
  | 173 => .fn
  | 174 => .fn
  | 175 => .slice 164
  | 176 => .fn
  | 177 => .fn
  | 178 => .fn
  | 179 => .fn
  | 180 => .fn
  | 181 => .fn
  | 182 => .int .u64
  | 183 => .fn
  | 184 => .fn
  | 185 => .st
  | 186 => .st
  | 187 => .arr 0 16
  | 190 => .int .u32
  | 191 => .int .u8
  | 192 => .int .u8
  | 193 => .fn
  | 194 => .ptr 5
  | 195 => .int .i32
  | 196 => .int .i32
  | 197 => .st
  | 198 => .st
  | _ => .other
def tlay : Nat → List TypeId
  | 7 => [2, 3, 4, 6]
  | 8 => [2, 3, 4, 6]
  | 13 => [9, 12]
  | 14 => [9, 12]
  | 18 => [17]
  | 19 => [17]
  | 25 => [3, 3, 3, 2, 2, 3, 2, 3, 2, 3, 3, 3]
  | 26 => [3, 3, 3, 2, 2, 3, 2, 3, 2, 3, 3, 3]
  | 29 => [3, 2, 27, 2, 2, 2, 2, 28]
  | 30 => [3, 2, 27, 2, 2, 2, 2, 28]
  | 31 => [2, 2, 4]
  | 32 => [2, 2, 4]
  | 33 => [3, 2, 4]
  | 34 => [3, 2, 4]
  | 36 => [3, 35, 2, 2]
  | 37 => [3, 35, 2, 2]
  | 39 => [30, 32, 34, 37, 38]
  | 40 => [30, 32, 34, 37, 38]
  | 42 => [4, 3, 3, 3, 30, 32]
  | 43 => [4, 3, 3, 3, 30, 32]
  | 44 => [2, 2, 2, 2, 4, 26, 30, 32, 34, 40, 41, 43]
  | 45 => [2, 2, 2, 2, 4, 26, 30, 32, 34, 40, 41, 43]
  | 49 => [3, 2, 2, 2, 3, 3, 30, 26, 48]
  | 50 => [3, 2, 2, 2, 3, 3, 30, 26, 48]
  | 70 => [2, 4]
  | 71 => [2, 4]
  | 72 => [2, 3]
  | 73 => [2, 3]
  | 78 => [45, 22]
  | 79 => [45, 22]
  | 92 => [2, 3]
  | 93 => [2, 3]
  | 137 => [32, 3, 2, 2]
  | 138 => [32, 3, 2, 2]
  | 141 => [139, 140]
  | 142 => [139, 140]
  | 146 => [3, 3]
  | 147 => [3, 3]
  | 148 => List.replicate 2 147
  | 150 => [40, 26, 2]
  | 151 => [40, 26, 2]
  | 163 => [2, 2]
  | 164 => [2, 2]
  | 185 => [17, 17, 17, 9]
  | 186 => [17, 17, 17, 9]
  | 187 => List.replicate 0 16
  | 197 => [12, 12, 190, 191, 5, 5, 192, 193, 194, 195, 196]
  | 198 => [12, 12, 190, 191, 5, 5, 192, 193, 194, 195, 196]
  | _ => []
def tsizeA : Nat → Nat
  | 7 => 4
  | 8 => 4
  | 13 => 2
  | 14 => 2
  | 18 => 1
  | 19 => 1
  | 25 => 12
  | 26 => 12
  | 29 => 8
  | 30 => 8
  | 31 => 3
  | 32 => 3
  | 33 => 3
  | 34 => 3
  | 36 => 4
  | 37 => 4
  | 39 => 19
  | 40 => 19
  | 42 => 15
  | 43 => 15
  | 44 => 66
  | 45 => 66
  | 49 => 27
  | 50 => 27
  | 70 => 2
  | 71 => 2
  | 72 => 2
  | 73 => 2
  | 78 => 67
  | 79 => 67
  | 92 => 2
  | 93 => 2
  | 137 => 6
  | 138 => 6
  | 141 => 2
  | 142 => 2
  | 146 => 2
  | 147 => 2
  | 148 => 4
  | 150 => 32
  | 151 => 32
  | 163 => 2
  | 164 => 2
  | 185 => 4
  | 186 => 4
  | 187 => 0
  | 197 => 11
  | 198 => 11
  | _ => 0
def tsize (T : Nat) : Nat := if tagg T then tsizeA T else 1
def tbytes : Nat → Nat
  | 1 => 8
  | 2 => 8
  | 3 => 8
  | 4 => 1
  | 5 => 1
  | 6 => 1
  | 7 => 24
  | 8 => 24
  | 9 => 16
  | 10 => 16
  | 11 => 16
  | 12 => 8
  | 13 => 24
  | 14 => 24
  | 15 => 8
  | 16 => 8
  | 17 => 8
  | 18 => 8
  | 19 => 8
  | 20 => 16
  | 21 => 4
  | 22 => 24
  | 23 => 8
  | 24 => 8
  | 25 => 96
  | 26 => 96
  | 27 => 24
  | 28 => 24
  | 29 => 96
  | 30 => 96
  | 31 => 24
  | 32 => 24
  | 33 => 24
  | 34 => 24
  | 35 => 24
  | 36 => 48
  | 37 => 48
  | 38 => 24
  | 39 => 216
  | 40 => 216
  | 41 => 24
  | 42 => 152
  | 43 => 152
  | 44 => 672
  | 45 => 672
  | 47 => 8
  | 48 => 24
  | 49 => 264
  | 50 => 264
  | 51 => 8
  | 52 => 8
  | 53 => 8
  | 54 => 24
  | 55 => 8
  | 56 => 8
  | 57 => 8
  | 58 => 8
  | 59 => 8
  | 61 => 8
  | 62 => 8
  | 63 => 8
  | 64 => 8
  | 65 => 8
  | 66 => 8
  | 67 => 8
  | 68 => 8
  | 69 => 8
  | 70 => 16
  | 71 => 16
  | 72 => 16
  | 73 => 16
  | 74 => 8
  | 75 => 8
  | 76 => 8
  | 77 => 8
  | 78 => 696
  | 79 => 696
  | 80 => 8
  | 82 => 8
  | 83 => 8
  | 84 => 8
  | 85 => 8
  | 86 => 8
  | 87 => 8
  | 88 => 8
  | 89 => 8
  | 90 => 8
  | 91 => 8
  | 92 => 16
  | 93 => 16
  | 94 => 8
  | 96 => 8
  | 97 => 8
  | 98 => 8
  | 99 => 8
  | 100 => 8
  | 101 => 8
  | 102 => 8
  | 103 => 8
  | 104 => 8
  | 106 => 8
  | 107 => 8
  | 108 => 8
  | 109 => 8
  | 110 => 8
  | 111 => 8
  | 112 => 8
  | 113 => 8
  | 114 => 8
  | 115 => 8
  | 116 => 8
  | 117 => 8
  | 118 => 8
  | 119 => 8
  | 120 => 8
  | 121 => 8
  | 122 => 8
  | 123 => 8
  | 124 => 8
  | 125 => 8
  | 126 => 8
  | 127 => 8
  | 128 => 8
  | 130 => 8
  | 131 => 8
  | 132 => 8
  | 133 => 8
  | 134 => 8
  | 135 => 8
  | 136 => 8
  | 137 => 48
  | 138 => 48
  | 139 => 8
  | 140 => 8
  | 141 => 16
  | 142 => 16
  | 143 => 8
  | 144 => 8
  | 145 => 8
  | 146 => 16
  | 147 => 16
  | 148 => 32
  | 149 => 8
  | 150 => 320
  | 151 => 320
  | 152 => 8
  | 153 => 8
  | 154 => 8
  | 155 => 8
  | 156 => 8
  | 157 => 8
  | 158 => 8
  | 159 => 8
  | 160 => 8
  | 161 => 8
  | 162 => 8
  | 163 => 16
  | 164 => 16
  | 165 => 8
  | 166 => 8
  | 167 => 8
  | 168 => 8
  | 169 => 8
  | 170 => 8
  | 171 => 8
  | 172 => 8
  | 173 => 8
  | 174 => 8
  | 175 => 24
  | 176 => 8
  | 177 => 8
  | 178 => 8
  | 179 => 8
  | 180 => 8
  | 181 => 8
  | 182 => 8
  | 183 => 8
  | 184 => 8
  | 185 => 40
  | 186 => 40
  | 187 => 0
  | 190 => 4
  | 191 => 1
  | 192 => 1
  | 193 => 8
  | 194 => 8
  | 195 => 4
  | 196 => 4
  | 197 => 48
  | 198 => 48
  | _ => 0
def tzero : Nat → PV
  | 1 => .nilf
  | 2 => .int .i64 0
  | 3 => .int .i64 0
  | 4 => .bool false
  | 5 => .int .u8 0
  | 6 => .int .u8 0
  | 7 => .agg 7 [.int .i64 0, .int .i64 0, .bool false, .int .u8 0]
  | 8 => .agg 8 [.int .i64 0, .int .i64 0, .bool false, .int .u8 0]
  | 9 => .str ⟨#[]⟩
  | 10 => .str ⟨#[]⟩
  | 11 => .str ⟨#[]⟩
  | 12 => .int .u64 0
  | 13 => .agg 13 [.str ⟨#[]⟩, .int .u64 0]
  | 14 => .agg 14 [.str ⟨#[]⟩, .int .u64 0]
  | 15 => .nilp
  | 16 => .nilp
  | 17 => .nilp
  | 18 => .agg 18 [.nilp]
  | 19 => .agg 19 [.nilp]
  | 20 => .nili
  | 21 => .int .i32 0
  | 22 => .nils
  | 23 => .nilf
  | 24 => .nilf
  | 25 => .agg 25 [.int .i64 0, .int .i64 0, .int .i64 0, .int .i64 0, .int .i64 0, .int .i64 0, .int .i64 0, .int .i64 0, .int .i64 0, .int .i64 0, .int .i64 0, .int .i64 0]
  | 26 => .agg 26 [.int .i64 0, .int .i64 0, .int .i64 0, .int .i64 0, .int .i64 0, .int .i64 0, .int .i64 0, .int .i64 0, .int .i64 0, .int .i64 0, .int .i64 0, .int .i64 0]
  | 27 => .nils
  | 28 => .nils
  | 29 => .agg 29 [.int .i64 0, .int .i64 0, .nils, .int .i64 0, .int .i64 0, .int .i64 0, .int .i64 0, .nils]
  | 30 => .agg 30 [.int .i64 0, .int .i64 0, .nils, .int .i64 0, .int .i64 0, .int .i64 0, .int .i64 0, .nils]
  | 31 => .agg 31 [.int .i64 0, .int .i64 0, .bool false]
  | 32 => .agg 32 [.int .i64 0, .int .i64 0, .bool false]
  | 33 => .agg 33 [.int .i64 0, .int .i64 0, .bool false]
  | 34 => .agg 34 [.int .i64 0, .int .i64 0, .bool false]
  | 35 => .nils
  | 36 => .agg 36 [.int .i64 0, .nils, .int .i64 0, .int .i64 0]
  | 37 => .agg 37 [.int .i64 0, .nils, .int .i64 0, .int .i64 0]
  | 38 => .nils
  | 39 => .agg 39 [.agg 30 [.int .i64 0, .int .i64 0, .nils, .int .i64 0, .int .i64 0, .int .i64 0, .int .i64 0, .nils], .agg 32 [.int .i64 0, .int .i64 0, .bool false], .agg 34 [.int .i64 0, .int .i64 0, .bool false], .agg 37 [.int .i64 0, .nils, .int .i64 0, .int .i64 0], .nils]
  | 40 => .agg 40 [.agg 30 [.int .i64 0, .int .i64 0, .nils, .int .i64 0, .int .i64 0, .int .i64 0, .int .i64 0, .nils], .agg 32 [.int .i64 0, .int .i64 0, .bool false], .agg 34 [.int .i64 0, .int .i64 0, .bool false], .agg 37 [.int .i64 0, .nils, .int .i64 0, .int .i64 0], .nils]
  | 41 => .nils
  | 42 => .agg 42 [.bool false, .int .i64 0, .int .i64 0, .int .i64 0, .agg 30 [.int .i64 0, .int .i64 0, .nils, .int .i64 0, .int .i64 0, .int .i64 0, .int .i64 0, .nils], .agg 32 [.int .i64 0, .int .i64 0, .bool false]]
  | 43 => .agg 43 [.bool false, .int .i64 0, .int .i64 0, .int .i64 0, .agg 30 [.int .i64 0, .int .i64 0, .nils, .int .i64 0, .int .i64 0, .int .i64 0, .int .i64 0, .nils], .agg 32 [.int .i64 0, .int .i64 0, .bool false]]
  | 44 => .agg 44 [.int .i64 0, .int .i64 0, .int .i64 0, .int .i64 0, .bool false, .agg 26 [.int .i64 0, .int .i64 0, .int .i64 0, .int .i64 0, .int .i64 0, .int .i64 0, .int .i64 0, .int .i64 0, .int .i64 0, .int .i64 0, .int .i64 0, .int .i64 0], .agg 30 [.int .i64 0, .int .i64 0, .nils, .int .i64 0, .int .i64 0, .int .i64 0, .int .i64 0, .nils], .agg 32 [.int .i64 0, .int .i64 0, .bool false], .agg 34 [.int .i64 0, .int .i64 0, .bool false], .agg 40 [.agg 30 [.int .i64 0, .int .i64 0, .nils, .int .i64 0, .int .i64 0, .int .i64 0, .int .i64 0, .nils], .agg 32 [.int .i64 0, .int .i64 0, .bool false], .agg 34 [.int .i64 0, .int .i64 0, .bool false], .agg 37 [.int .i64 0, .nils, .int .i64 0, .int .i64 0], .nils], .nils, .agg 43 [.bool false, .int .i64 0, .int .i64 0, .int .i64 0, .agg 30 [.int .i64 0, .int .i64 0, .nils, .int .i64 0, .int .i64 0, .int .i64 0, .int .i64 0, .nils], .agg 32 [.int .i64 0, .int .i64 0, .bool false]]]
  | 45 => .agg 45 [.int .i64 0, .int .i64 0, .int .i64 0, .int .i64 0, .bool false, .agg 26 [.int .i64 0, .int .i64 0, .int .i64 0, .int .i64 0, .int .i64 0, .int .i64 0, .int .i64 0, .int .i64 0, .int .i64 0, .int .i64 0, .int .i64 0, .int .i64 0], .agg 30 [.int .i64 0, .int .i64 0, .nils, .int .i64 0, .int .i64 0, .int .i64 0, .int .i64 0, .nils], .agg 32 [.int .i64 0, .int .i64 0, .bool false], .agg 34 [.int .i64 0, .int .i64 0, .bool false], .agg 40 [.agg 30 [.int .i64 0, .int .i64 0, .nils, .int .i64 0, .int .i64 0, .int .i64 0, .int .i64 0, .nils], .agg 32 [.int .i64 0, .int .i64 0, .bool false], .agg 34 [.int .i64 0, .int .i64 0, .bool false], .agg 37 [.int .i64 0, .nils, .int .i64 0, .int .i64 0], .nils], .nils, .agg 43 [.bool false, .int .i64 0, .int .i64 0, .int .i64 0, .agg 30 [.int .i64 0, .int .i64 0, .nils, .int .i64 0, .int .i64 0, .int .i64 0, .int .i64 0, .nils], .agg 32 [.int .i64 0, .int .i64 0, .bool false]]]
  | 47 => .nilf
  | 48 => .nils
  | 49 => .agg 49 [.int .i64 0, .int .i64 0, .int .i64 0, .int .i64 0, .int .i64 0, .int .i64 0, .agg 30 [.int .i64 0, .int .i64 0, .nils, .int .i64 0, .int .i64 0, .int .i64 0, .int .i64 0, .nils], .agg 26 [.int .i64 0, .int .i64 0, .int .i64 0, .int .i64 0, .int .i64 0, .int .i64 0, .int .i64 0, .int .i64 0, .int .i64 0, .int .i64 0, .int .i64 0, .int .i64 0], .nils]
  | 50 => .agg 50 [.int .i64 0, .int .i64 0, .int .i64 0, .int .i64 0, .int .i64 0, .int .i64 0, .agg 30 [.int .i64 0, .int .i64 0, .nils, .int .i64 0, .int .i64 0, .int .i64 0, .int .i64 0, .nils], .agg 26 [.int .i64 0, .int .i64 0, .int .i64 0, .int .i64 0, .int .i64 0, .int .i64 0, .int .i64 0, .int .i64 0, .int .i64 0, .int .i64 0, .int .i64 0, .int .i64 0], .nils]
  | 51 => .nilf
  | 52 => .nilf
  | 53 => .nilf
  | 54 => .nils
  | 55 => .nilf
  | 56 => .nilf
  | 57 => .nilf
  | 58 => .nilf
  | 59 => .nilf
  | 61 => .nilf
  | 62 => .nilf
  | 63 => .nilf
  | 64 => .nilf
  | 65 => .nilf
  | 66 => .nilf
  | 67 => .nilf
  | 68 => .nilf
  | 69 => .nilf
  | 70 => .agg 70 [.int .i64 0, .bool false]
  | 71 => .agg 71 [.int .i64 0, .bool false]
  | 72 => .agg 72 [.int .i64 0, .int .i64 0]
  | 73 => .agg 73 [.int .i64 0, .int .i64 0]
  | 74 => .nilf
  | 75 => .nilf
  | 76 => .nilf
  | 77 => .nilp
  | 78 => .agg 78 [.agg 45 [.int .i64 0, .int .i64 0, .int .i64 0, .int .i64 0, .bool false, .agg 26 [.int .i64 0, .int .i64 0, .int .i64 0, .int .i64 0, .int .i64 0, .int .i64 0, .int .i64 0, .int .i64 0, .int .i64 0, .int .i64 0, .int .i64 0, .int .i64 0], .agg 30 [.int .i64 0, .int .i64 0, .nils, .int .i64 0, .int .i64 0, .int .i64 0, .int .i64 0, .nils], .agg 32 [.int .i64 0, .int .i64 0, .bool false], .agg 34 [.int .i64 0, .int .i64 0, .bool false], .agg 40 [.agg 30 [.int .i64 0, .int .i64 0, .nils, .int .i64 0, .int .i64 0, .int .i64 0, .int .i64 0, .nils], .agg 32 [.int .i64 0, .int .i64 0, .bool false], .agg 34 [.int .i64 0, .int .i64 0, .bool false], .agg 37 [.int .i64 0, .nils, .int .i64 0, .int .i64 0], .nils], .nils, .agg 43 [.bool false, .int .i64 0, .int .i64 0, .int .i64 0, .agg 30 [.int .i64 0, .int .i64 0, .nils, .int .i64 0, .int .i64 0, .int .i64 0, .int .i64 0, .nils], .agg 32 [.int .i64 0, .int .i64 0, .bool false]]], .nils]
  | 79 => .agg 79 [.agg 45 [.int .i64 0, .int .i64 0, .int .i64 0, .int .i64 0, .bool false, .agg 26 [.int .i64 0, .int .i64 0, .int .i64 0, .int .i64 0, .int .i64 0, .int .i64 0, .int .i64 0, .int .i64 0, .int .i64 0, .int .i64 0, .int .i64 0, .int .i64 0], .agg 30 [.int .i64 0, .int .i64 0, .nils, .int .i64 0, .int .i64 0, .int .i64 0, .int .i64 0, .nils], .agg 32 [.int .i64 0, .int .i64 0, .bool false], .agg 34 [.int .i64 0, .int .i64 0, .bool false], .agg 40 [.agg 30 [.int .i64 0, .int .i64 0, .nils, .int .i64 0, .int .i64 0, .int .i64 0, .int .i64 0, .nils], .agg 32 [.int .i64 0, .int .i64 0, .bool false], .agg 34 [.int .i64 0, .int .i64 0, .bool false], .agg 37 [.int .i64 0, .nils, .int .i64 0, .int .i64 0], .nils], .nils, .agg 43 [.bool false, .int .i64 0, .int .i64 0, .int .i64 0, .agg 30 [.int .i64 0, .int .i64 0, .nils, .int .i64 0, .int .i64 0, .int .i64 0, .int .i64 0, .nils], .agg 32 [.int .i64 0, .int .i64 0, .bool false]]], .nils]
  | 80 => .nilf
  | 82 => .nilm
  | 83 => .nilf
  | 84 => .nilf
  | 85 => .nilf
  | 86 => .nilf
  | 87 => .nilf
  | 88 => .nilf
  | 89 => .nilf
  | 90 => .nilf
  | 91 => .nilf
  | 92 => .agg 92 [.int .i64 0, .int .i64 0]
  | 93 => .agg 93 [.int .i64 0, .int .i64 0]
  | 94 => .nilf
  | 96 => .nilf
  | 97 => .nilf
  | 98 => .nilf
  | 99 => .nilf
  | 100 => .nilf
  | 101 => .nilf
  | 102 => .nilf
  | 103 => .nilf
  | 104 => .nilf
  | 106 => .nilf
  | 107 => .nilf
  | 108 => .nilf
  | 109 => .nilf
  | 110 => .nilf
  | 111 => .nilf
  | 112 => .nilf
  | 113 => .nilf
  | 114 => .nilf
  | 115 => .nilf
  | 116 => .nilf
  | 117 => .nilf
  | 118 => .nilf
  | 119 => .nilf
  | 120 => .nilf
  | 121 => .nilf
  | 122 => .nilf
  | 123 => .nilf
  | 124 => .nilf
  | 125 => .nilf
  | 126 => .nilf
  | 127 => .nilf
  | 128 => .nilf
  | 130 => .nilf
  | 131 => .nilf
  | 132 => .nilf
  | 133 => .nilf
  | 134 => .nilf
  | 135 => .nilf
  | 136 => .nilf
  | 137 => .agg 137 [.agg 32 [.int .i64 0, .int .i64 0, .bool false], .int .i64 0, .int .i64 0, .int .i64 0]
  | 138 => .agg 138 [.agg 32 [.int .i64 0, .int .i64 0, .bool false], .int .i64 0, .int .i64 0, .int .i64 0]
  | 139 => .nilf
  | 140 => .nilf
  | 141 => .agg 141 [.nilf, .nilf]
  | 142 => .agg 142 [.nilf, .nilf]
  | 143 => .nilm
  | 144 => .nilf
  | 145 => .nilf
  | 146 => .agg 146 [.int .i64 0, .int .i64 0]
  | 147 => .agg 147 [.int .i64 0, .int .i64 0]
  | 148 => .agg 148 (List.replicate 2 (.agg 147 [.int .i64 0, .int .i64 0]))
  | 149 => .nilp
  | 150 => .agg 150 [.agg 40 [.agg 30 [.int .i64 0, .int .i64 0, .nils, .int .i64 0, .int .i64 0, .int .i64 0, .int .i64 0, .nils], .agg 32 [.int .i64 0, .int .i64 0, .bool false], .agg 34 [.int .i64 0, .int .i64 0, .bool false], .agg 37 [.int .i64 0, .nils, .int .i64 0, .int .i64 0], .nils], .agg 26 [.int .i64 0, .int .i64 0, .int .i64 0, .int .i64 0, .int .i64 0, .int .i64 0, .int .i64 0, .int .i64 0, .int .i64 0, .int .i64 0, .int .i64 0, .int .i64 0], .int .i64 0]
  | 151 => .agg 151 [.agg 40 [.agg 30 [.int .i64 0, .int .i64 0, .nils, .int .i64 0, .int .i64 0, .int .i64 0, .int .i64 0, .nils], .agg 32 [.int .i64 0, .int .i64 0, .bool false], .agg 34 [.int .i64 0, .int .i64 0, .bool false], .agg 37 [.int .i64 0, .nils, .int .i64 0, .int .i64 0], .nils], .agg 26 [.int .i64 0, .int .i64 0, .int .i64 0, .int .i64 0, .int .i64 0, .int .i64 0, .int .i64 0, .int .i64 0, .int .i64 0, .int .i64 0, .int .i64 0, .int .i64 0], .int .i64 0]
  | 152 => .nilf
  | 153 => .nilf
  | 154 => .nilf
  | 155 => .nilf
  | 156 => .nilf
  | 157 => .nilf
  | 158 => .nilf
  | 159 => .nilf
  | 160 => .nilf
  | 161 => .nilf
  | 162 => .nilf
  | 163 => .agg 163 [.int .i64 0, .int .i64 0]
  | 164 => .agg 164 [.int .i64 0, .int .i64 0]
  | 165 => .nilf
  | 166 => .nilf
  | 167 => .nilf
  | 168 => .nilf
  | 169 => .nilp
  | 170 => .nilf
  | 171 => .nilf
  | 172 => .nilf
  | 173 => .nilf
  | 174 => .nilf
  | 175 => .nils
  | 176 => .nilf
  | 177 => .nilf
  | 178 => .nilf
  | 179 => .nilf
  | 180 => .nilf
  | 181 => .nilf
  | 182 => .int .u64 0
  | 183 => .nilf
  | 184 => .nilf
  | 185 => .agg 185 [.nilp, .nilp, .nilp, .str ⟨#[]⟩]
  | 186 => .agg 186 [.nilp, .nilp, .nilp, .str ⟨#[]⟩]
  | 187 => .agg 187 (List.replicate 0 (.nilp))
  | 190 => .int .u32 0
  | 191 => .int .u8 0
  | 192 => .int .u8 0
  | 193 => .nilf
  | 194 => .nilp
  | 195 => .int .i32 0
  | 196 => .int .i32 0
  | 197 => .agg 197 [.int .u64 0, .int .u64 0, .int .u32 0, .int .u8 0, .int .u8 0, .int .u8 0, .int .u8 0, .nilf, .nilp, .int .i32 0, .int .i32 0]
  | 198 => .agg 198 [.int .u64 0, .int .u64 0, .int .u32 0, .int .u8 0, .int .u8 0, .int .u8 0, .int .u8 0, .nilf, .nilp, .int .i32 0, .int .i32 0]
  | _ => .nilp
@[simp] theorem tkn_1 : tkn 1 = true := rfl
@[simp] theorem tagg_1 : tagg 1 = false := rfl
@[simp] theorem tsize_1 : tsize 1 = 1 := rfl
@[simp] theorem ttd_1 : ttd 1 = .fn := rfl
@[simp] theorem tbytes_1 : tbytes 1 = 8 := rfl
@[simp] theorem tzero_1 : tzero 1 = .nilf := rfl
@[simp] theorem tkn_2 : tkn 2 = true := rfl
@[simp] theorem tagg_2 : tagg 2 = false := rfl
@[simp] theorem tsize_2 : tsize 2 = 1 := rfl
@[simp] theorem ttd_2 : ttd 2 = .int .i64 := rfl
@[simp] theorem tbytes_2 : tbytes 2 = 8 := rfl
@[simp] theorem tzero_2 : tzero 2 = .int .i64 0 := rfl
@[simp] theorem tkn_3 : tkn 3 = true := rfl
@[simp] theorem tagg_3 : tagg 3 = false := rfl
@[simp] theorem tsize_3 : tsize 3 = 1 := rfl
@[simp] theorem ttd_3 : ttd 3 = .int .i64 := rfl
@[simp] theorem tbytes_3 : tbytes 3 = 8 := rfl
@[simp] theorem tzero_3 : tzero 3 = .int .i64 0 := rfl
@[simp] theorem tkn_4 : tkn 4 = true := rfl
@[simp] theorem tagg_4 : tagg 4 = false := rfl
@[simp] theorem tsize_4 : tsize 4 = 1 := rfl
@[simp] theorem ttd_4 : ttd 4 = .bool := rfl
@[simp] theorem tbytes_4 : tbytes 4 = 1 := rfl
@[simp] theorem tzero_4 : tzero 4 = .bool false := rfl
@[simp] theorem tkn_5 : tkn 5 = true := rfl
@[simp] theorem tagg_5 : tagg 5 = false := rfl
@[simp] theorem tsize_5 : tsize 5 = 1 := rfl
@[simp] theorem ttd_5 : ttd 5 = .int .u8 := rfl
@[simp] theorem tbytes_5 : tbytes 5 = 1 := rfl
@[simp] theorem tzero_5 : tzero 5 = .int .u8 0 := rfl
@[simp] theorem tkn_6 : tkn 6 = true := rfl
@[simp] theorem tagg_6 : tagg 6 = false := rfl
@[simp] theorem tsize_6 : tsize 6 = 1 := rfl
@[simp] theorem ttd_6 : ttd 6 = .int .u8 := rfl
@[simp] theorem tbytes_6 : tbytes 6 = 1 := rfl
@[simp] theorem tzero_6 : tzero 6 = .int .u8 0 := rfl
@[simp] theorem tkn_7 : tkn 7 = true := rfl
@[simp] theorem tagg_7 : tagg 7 = true := rfl
@[simp] theorem tsize_7 : tsize 7 = 4 := rfl
@[simp] theorem ttd_7 : ttd 7 = .st := rfl
@[simp] theorem tbytes_7 : tbytes 7 = 24 := rfl
@[simp] theorem tzero_7 : tzero 7 = .agg 7 [.int .i64 0, .int .i64 0, .bool false, .int .u8 0] := rfl
@[simp] theorem tlay_7 : tlay 7 = [2, 3, 4, 6] := rfl
@[simp] theorem tkn_8 : tkn 8 = true := rfl
@[simp] theorem tagg_8 : tagg 8 = true := rfl
@[simp] theorem tsize_8 : tsize 8 = 4 := rfl
@[simp] theorem ttd_8 : ttd 8 = .st := rfl
@[simp] theorem tbytes_8 : tbytes 8 = 24 := rfl
@[simp] theorem tzero_8 : tzero 8 = .agg 8 [.int .i64 0, .int .i64 0, .bool false, .int .u8 0] := rfl
@[simp] theorem tlay_8 : tlay 8 = [2, 3, 4, 6] := rfl
@[simp] theorem tkn_9 : tkn 9 = true := rfl
@[simp] theorem tagg_9 : tagg 9 = false := rfl
@[simp] theorem tsize_9 : tsize 9 = 1 := rfl
@[simp] theorem ttd_9 : ttd 9 = .str := rfl
@[simp] theorem tbytes_9 : tbytes 9 = 16 := rfl
@[simp] theorem tzero_9 : tzero 9 = .str ⟨#[]⟩ := rfl
@[simp] theorem tkn_10 : tkn 10 = true := rfl
@[simp] theorem tagg_10 : tagg 10 = false := rfl
@[simp] theorem tsize_10 : tsize 10 = 1 := rfl
@[simp] theorem ttd_10 : ttd 10 = .str := rfl
@[simp] theorem tbytes_10 : tbytes 10 = 16 := rfl
@[simp] theorem tzero_10 : tzero 10 = .str ⟨#[]⟩ := rfl
@[simp] theorem tkn_11 : tkn 11 = true := rfl
@[simp] theorem tagg_11 : tagg 11 = false := rfl
@[simp] theorem tsize_11 : tsize 11 = 1 := rfl
@[simp] theorem ttd_11 : ttd 11 = .str := rfl
@[simp] theorem tbytes_11 : tbytes 11 = 16 := rfl
@[simp] theorem tzero_11 : tzero 11 = .str ⟨#[]⟩ := rfl
@[simp] theorem tkn_12 : tkn 12 = true := rfl
@[simp] theorem tagg_12 : tagg 12 = false := rfl
@[simp] theorem tsize_12 : tsize 12 = 1 := rfl
@[simp] theorem ttd_12 : ttd 12 = .int .u64 := rfl
@[simp] theorem tbytes_12 : tbytes 12 = 8 := rfl
@[simp] theorem tzero_12 : tzero 12 = .int .u64 0 := rfl
@[simp] theorem tkn_13 : tkn 13 = true := rfl
@[simp] theorem tagg_13 : tagg 13 = true := rfl
@[simp] theorem tsize_13 : tsize 13 = 2 := rfl
@[simp] theorem ttd_13 : ttd 13 = .st := rfl
@[simp] theorem tbytes_13 : tbytes 13 = 24 := rfl
@[simp] theorem tzero_13 : tzero 13 = .agg 13 [.str ⟨#[]⟩, .int .u64 0] := rfl
@[simp] theorem tlay_13 : tlay 13 = [9, 12] := rfl
@[simp] theorem tkn_14 : tkn 14 = true := rfl
@[simp] theorem tagg_14 : tagg 14 = true := rfl
@[simp] theorem tsize_14 : tsize 14 = 2 := rfl
@[simp] theorem ttd_14 : ttd 14 = .st := rfl
@[simp] theorem tbytes_14 : tbytes 14 = 24 := rfl
@[simp] theorem tzero_14 : tzero 14 = .agg 14 [.str ⟨#[]⟩, .int .u64 0] := rfl
@[simp] theorem tlay_14 : tlay 14 = [9, 12] := rfl
@[simp] theorem tkn_15 : tkn 15 = true := rfl
@[simp] theorem tagg_15 : tagg 15 = false := rfl
@[simp] theorem tsize_15 : tsize 15 = 1 := rfl
@[simp] theorem ttd_15 : ttd 15 = .ptr 186 := rfl
@[simp] theorem tbytes_15 : tbytes 15 = 8 := rfl
@[simp] theorem tzero_15 : tzero 15 = .nilp := rfl
@[simp] theorem tkn_16 : tkn 16 = true := rfl
@[simp] theorem tagg_16 : tagg 16 = false := rfl
@[simp] theorem tsize_16 : tsize 16 = 1 := rfl
@[simp] theorem ttd_16 : ttd 16 = .ptr 189 := rfl
@[simp] theorem tbytes_16 : tbytes 16 = 8 := rfl
@[simp] theorem tzero_16 : tzero 16 = .nilp := rfl
@[simp] theorem tkn_17 : tkn 17 = true := rfl
@[simp] theorem tagg_17 : tagg 17 = false := rfl
@[simp] theorem tsize_17 : tsize 17 = 1 := rfl
@[simp] theorem ttd_17 : ttd 17 = .ptr 198 := rfl
@[simp] theorem tbytes_17 : tbytes 17 = 8 := rfl
@[simp] theorem tzero_17 : tzero 17 = .nilp := rfl
@[simp] theorem tkn_18 : tkn 18 = true := rfl
@[simp] theorem tagg_18 : tagg 18 = true := rfl
@[simp] theorem tsize_18 : tsize 18 = 1 := rfl
@[simp] theorem ttd_18 : ttd 18 = .st := rfl
@[simp] theorem tbytes_18 : tbytes 18 = 8 := rfl
@[simp] theorem tzero_18 : tzero 18 = .agg 18 [.nilp] := rfl
@[simp] theorem tlay_18 : tlay 18 = [17] := rfl
@[simp] theorem tkn_19 : tkn 19 = true := rfl
@[simp] theorem tagg_19 : tagg 19 = true := rfl
@[simp] theorem tsize_19 : tsize 19 = 1 := rfl
@[simp] theorem ttd_19 : ttd 19 = .st := rfl
@[simp] theorem tbytes_19 : tbytes 19 = 8 := rfl
@[simp] theorem tzero_19 : tzero 19 = .agg 19 [.nilp] := rfl
@[simp] theorem tlay_19 : tlay 19 = [17] := rfl
@[simp] theorem tkn_20 : tkn 20 = true := rfl
@[simp] theorem tagg_20 : tagg 20 = false := rfl
@[simp] theorem tsize_20 : tsize 20 = 1 := rfl
@[simp] theorem ttd_20 : ttd 20 = .ifc := rfl
@[simp] theorem tbytes_20 : tbytes 20 = 16 := rfl
@[simp] theorem tzero_20 : tzero 20 = .nili := rfl
@[simp] theorem tkn_21 : tkn 21 = true := rfl
@[simp] theorem tagg_21 : tagg 21 = false := rfl
@[simp] theorem tsize_21 : tsize 21 = 1 := rfl
@[simp] theorem ttd_21 : ttd 21 = .int .i32 := rfl
@[simp] theorem tbytes_21 : tbytes 21 = 4 := rfl
@[simp] theorem tzero_21 : tzero 21 = .int .i32 0 := rfl
@[simp] theorem tkn_22 : tkn 22 = true := rfl
@[simp] theorem tagg_22 : tagg 22 = false := rfl
@[simp] theorem tsize_22 : tsize 22 = 1 := rfl
@[simp] theorem ttd_22 : ttd 22 = .slice 50 := rfl
@[simp] theorem tbytes_22 : tbytes 22 = 24 := rfl
@[simp] theorem tzero_22 : tzero 22 = .nils := rfl
@[simp] theorem tkn_23 : tkn 23 = true := rfl
@[simp] theorem tagg_23 : tagg 23 = false := rfl
@[simp] theorem tsize_23 : tsize 23 = 1 := rfl
@[simp] theorem ttd_23 : ttd 23 = .fn := rfl
@[simp] theorem tbytes_23 : tbytes 23 = 8 := rfl
@[simp] theorem tzero_23 : tzero 23 = .nilf := rfl
@[simp] theorem tkn_24 : tkn 24 = true := rfl
@[simp] theorem tagg_24 : tagg 24 = false := rfl
@[simp] theorem tsize_24 : tsize 24 = 1 := rfl
@[simp] theorem ttd_24 : ttd 24 = .fn := rfl
@[simp] theorem tbytes_24 : tbytes 24 = 8 := rfl
@[simp] theorem tzero_24 : tzero 24 = .nilf := rfl
@[simp] theorem tkn_25 : tkn 25 = true := rfl
@[simp] theorem tagg_25 : tagg 25 = true := rfl
@[simp] theorem tsize_25 : tsize 25 = 12 := rfl
@[simp] theorem ttd_25 : ttd 25 = .st := rfl
@[simp] theorem tbytes_25 : tbytes 25 = 96 := rfl
@[simp] theorem tzero_25 : tzero 25 = .agg 25 [.int .i64 0, .int .i64 0, .int .i64 0, .int .i64 0, .int .i64 0, .int .i64 0, .int .i64 0, .int .i64 0, .int .i64 0, .int .i64 0, .int .i64 0, .int .i64 0] := rfl
@[simp] theorem tlay_25 : tlay 25 = [3, 3, 3, 2, 2, 3, 2, 3, 2, 3, 3, 3] := rfl
@[simp] theorem tkn_26 : tkn 26 = true := rfl
@[simp] theorem tagg_26 : tagg 26 = true := rfl
@[simp] theorem tsize_26 : tsize 26 = 12 := rfl
@[simp] theorem ttd_26 : ttd 26 = .st := rfl
@[simp] theorem tbytes_26 : tbytes 26 = 96 := rfl
@[simp] theorem tzero_26 : tzero 26 = .agg 26 [.int .i64 0, .int .i64 0, .int .i64 0, .int .i64 0, .int .i64 0, .int .i64 0, .int .i64 0, .int .i64 0, .int .i64 0, .int .i64 0, .int .i64 0, .int .i64 0] := rfl
@[simp] theorem tlay_26 : tlay 26 = [3, 3, 3, 2, 2, 3, 2, 3, 2, 3, 3, 3] := rfl
@[simp] theorem tkn_27 : tkn 27 = true := rfl
@[simp] theorem tagg_27 : tagg 27 = false := rfl
@[simp] theorem tsize_27 : tsize 27 = 1 := rfl
@[simp] theorem ttd_27 : ttd 27 = .slice 73 := rfl
@[simp] theorem tbytes_27 : tbytes 27 = 24 := rfl
@[simp] theorem tzero_27 : tzero 27 = .nils := rfl
@[simp] theorem tkn_28 : tkn 28 = true := rfl
@[simp] theorem tagg_28 : tagg 28 = false := rfl
@[simp] theorem tsize_28 : tsize 28 = 1 := rfl
@[simp] theorem ttd_28 : ttd 28 = .slice 93 := rfl
@[simp] theorem tbytes_28 : tbytes 28 = 24 := rfl
@[simp] theorem tzero_28 : tzero 28 = .nils := rfl
@[simp] theorem tkn_29 : tkn 29 = true := rfl
@[simp] theorem tagg_29 : tagg 29 = true := rfl
@[simp] theorem tsize_29 : tsize 29 = 8 := rfl
@[simp] theorem ttd_29 : ttd 29 = .st := rfl
@[simp] theorem tbytes_29 : tbytes 29 = 96 := rfl
@[simp] theorem tzero_29 : tzero 29 = .agg 29 [.int .i64 0, .int .i64 0, .nils, .int .i64 0, .int .i64 0, .int .i64 0, .int .i64 0, .nils] := rfl
@[simp] theorem tlay_29 : tlay 29 = [3, 2, 27, 2, 2, 2, 2, 28] := rfl
@[simp] theorem tkn_30 : tkn 30 = true := rfl
@[simp] theorem tagg_30 : tagg 30 = true := rfl
@[simp] theorem tsize_30 : tsize 30 = 8 := rfl
@[simp] theorem ttd_30 : ttd 30 = .st := rfl
@[simp] theorem tbytes_30 : tbytes 30 = 96 := rfl
@[simp] theorem tzero_30 : tzero 30 = .agg 30 [.int .i64 0, .int .i64 0, .nils, .int .i64 0, .int .i64 0, .int .i64 0, .int .i64 0, .nils] := rfl
@[simp] theorem tlay_30 : tlay 30 = [3, 2, 27, 2, 2, 2, 2, 28] := rfl
@[simp] theorem tkn_31 : tkn 31 = true := rfl
@[simp] theorem tagg_31 : tagg 31 = true := rfl
@[simp] theorem tsize_31 : tsize 31 = 3 := rfl
@[simp] theorem ttd_31 : ttd 31 = .st := rfl
@[simp] theorem tbytes_31 : tbytes 31 = 24 := rfl
@[simp] theorem tzero_31 : tzero 31 = .agg 31 [.int .i64 0, .int .i64 0, .bool false] := rfl
@[simp] theorem tlay_31 : tlay 31 = [2, 2, 4] := rfl
@[simp] theorem tkn_32 : tkn 32 = true := rfl
@[simp] theorem tagg_32 : tagg 32 = true := rfl
@[simp] theorem tsize_32 : tsize 32 = 3 := rfl
@[simp] theorem ttd_32 : ttd 32 = .st := rfl
@[simp] theorem tbytes_32 : tbytes 32 = 24 := rfl
@[simp] theorem tzero_32 : tzero 32 = .agg 32 [.int .i64 0, .int .i64 0, .bool false] := rfl
@[simp] theorem tlay_32 : tlay 32 = [2, 2, 4] := rfl
@[simp] theorem tkn_33 : tkn 33 = true := rfl
@[simp] theorem tagg_33 : tagg 33 = true := rfl
@[simp] theorem tsize_33 : tsize 33 = 3 := rfl
@[simp] theorem ttd_33 : ttd 33 = .st := rfl
@[simp] theorem tbytes_33 : tbytes 33 = 24 := rfl
@[simp] theorem tzero_33 : tzero 33 = .agg 33 [.int .i64 0, .int .i64 0, .bool false] := rfl
@[simp] theorem tlay_33 : tlay 33 = [3, 2, 4] := rfl
@[simp] theorem tkn_34 : tkn 34 = true := rfl
@[simp] theorem tagg_34 : tagg 34 = true := rfl
@[simp] theorem tsize_34 : tsize 34 = 3 := rfl
@[simp] theorem ttd_34 : ttd 34 = .st := rfl
@[simp] theorem tbytes_34 : tbytes 34 = 24 := rfl
@[simp] theorem tzero_34 : tzero 34 = .agg 34 [.int .i64 0, .int .i64 0, .bool false] := rfl
@[simp] theorem tlay_34 : tlay 34 = [3, 2, 4] := rfl
@[simp] theorem tkn_35 : tkn 35 = true := rfl
@[simp] theorem tagg_35 : tagg 35 = false := rfl
@[simp] theorem tsize_35 : tsize 35 = 1 := rfl
@[simp] theorem ttd_35 : ttd 35 = .slice 3 := rfl
@[simp] theorem tbytes_35 : tbytes 35 = 24 := rfl
@[simp] theorem tzero_35 : tzero 35 = .nils := rfl
@[simp] theorem tkn_36 : tkn 36 = true := rfl
@[simp] theorem tagg_36 : tagg 36 = true := rfl
@[simp] theorem tsize_36 : tsize 36 = 4 := rfl
@[simp] theorem ttd_36 : ttd 36 = .st := rfl
@[simp] theorem tbytes_36 : tbytes 36 = 48 := rfl
@[simp] theorem tzero_36 : tzero 36 = .agg 36 [.int .i64 0, .nils, .int .i64 0, .int .i64 0] := rfl
@[simp] theorem tlay_36 : tlay 36 = [3, 35, 2, 2] := rfl
@[simp] theorem tkn_37 : tkn 37 = true := rfl
@[simp] theorem tagg_37 : tagg 37 = true := rfl
@[simp] theorem tsize_37 : tsize 37 = 4 := rfl
@[simp] theorem ttd_37 : ttd 37 = .st := rfl
@[simp] theorem tbytes_37 : tbytes 37 = 48 := rfl
@[simp] theorem tzero_37 : tzero 37 = .agg 37 [.int .i64 0, .nils, .int .i64 0, .int .i64 0] := rfl
@[simp] theorem tlay_37 : tlay 37 = [3, 35, 2, 2] := rfl
@[simp] theorem tkn_38 : tkn 38 = true := rfl
@[simp] theorem tagg_38 : tagg 38 = false := rfl
@[simp] theorem tsize_38 : tsize 38 = 1 := rfl
@[simp] theorem ttd_38 : ttd 38 = .slice 71 := rfl
@[simp] theorem tbytes_38 : tbytes 38 = 24 := rfl
@[simp] theorem tzero_38 : tzero 38 = .nils := rfl
@[simp] theorem tkn_39 : tkn 39 = true := rfl
@[simp] theorem tagg_39 : tagg 39 = true := rfl
@[simp] theorem tsize_39 : tsize 39 = 19 := rfl
@[simp] theorem ttd_39 : ttd 39 = .st := rfl
@[simp] theorem tbytes_39 : tbytes 39 = 216 := rfl
@[simp] theorem tzero_39 : tzero 39 = .agg 39 [.agg 30 [.int .i64 0, .int .i64 0, .nils, .int .i64 0, .int .i64 0, .int .i64 0, .int .i64 0, .nils], .agg 32 [.int .i64 0, .int .i64 0, .bool false], .agg 34 [.int .i64 0, .int .i64 0, .bool false], .agg 37 [.int .i64 0, .nils, .int .i64 0, .int .i64 0], .nils] := rfl
@[simp] theorem tlay_39 : tlay 39 = [30, 32, 34, 37, 38] := rfl
@[simp] theorem tkn_40 : tkn 40 = true := rfl
@[simp] theorem tagg_40 : tagg 40 = true := rfl
@[simp] theorem tsize_40 : tsize 40 = 19 := rfl
@[simp] theorem ttd_40 : ttd 40 = .st := rfl
@[simp] theorem tbytes_40 : tbytes 40 = 216 := rfl
@[simp] theorem tzero_40 : tzero 40 = .agg 40 [.agg 30 [.int .i64 0, .int .i64 0, .nils, .int .i64 0, .int .i64 0, .int .i64 0, .int .i64 0, .nils], .agg 32 [.int .i64 0, .int .i64 0, .bool false], .agg 34 [.int .i64 0, .int .i64 0, .bool false], .agg 37 [.int .i64 0, .nils, .int .i64 0, .int .i64 0], .nils] := rfl
@[simp] theorem tlay_40 : tlay 40 = [30, 32, 34, 37, 38] := rfl
@[simp] theorem tkn_41 : tkn 41 = true := rfl
@[simp] theorem tagg_41 : tagg 41 = false := rfl
@[simp] theorem tsize_41 : tsize 41 = 1 := rfl
@[simp] theorem ttd_41 : ttd 41 = .slice 40 := rfl
@[simp] theorem tbytes_41 : tbytes 41 = 24 := rfl
@[simp] theorem tzero_41 : tzero 41 = .nils := rfl
@[simp] theorem tkn_42 : tkn 42 = true := rfl
@[simp] theorem tagg_42 : tagg 42 = true := rfl
@[simp] theorem tsize_42 : tsize 42 = 15 := rfl
@[simp] theorem ttd_42 : ttd 42 = .st := rfl
@[simp] theorem tbytes_42 : tbytes 42 = 152 := rfl
@[simp] theorem tzero_42 : tzero 42 = .agg 42 [.bool false, .int .i64 0, .int .i64 0, .int .i64 0, .agg 30 [.int .i64 0, .int .i64 0, .nils, .int .i64 0, .int .i64 0, .int .i64 0, .int .i64 0, .nils], .agg 32 [.int .i64 0, .int .i64 0, .bool false]] := rfl
@[simp] theorem tlay_42 : tlay 42 = [4, 3, 3, 3, 30, 32] := rfl
@[simp] theorem tkn_43 : tkn 43 = true := rfl
@[simp] theorem tagg_43 : tagg 43 = true := rfl
@[simp] theorem tsize_43 : tsize 43 = 15 := rfl
@[simp] theorem ttd_43 : ttd 43 = .st := rfl
@[simp] theorem tbytes_43 : tbytes 43 = 152 := rfl
@[simp] theorem tzero_43 : tzero 43 = .agg 43 [.bool false, .int .i64 0, .int .i64 0, .int .i64 0, .agg 30 [.int .i64 0, .int .i64 0, .nils, .int .i64 0, .int .i64 0, .int .i64 0, .int .i64 0, .nils], .agg 32 [.int .i64 0, .int .i64 0, .bool false]] := rfl
@[simp] theorem tlay_43 : tlay 43 = [4, 3, 3, 3, 30, 32] := rfl
@[simp] theorem tkn_44 : tkn 44 = true := rfl
@[simp] theorem tagg_44 : tagg 44 = true := rfl
@[simp] theorem tsize_44 : tsize 44 = 66 := rfl
@[simp] theorem ttd_44 : ttd 44 = .st := rfl
@[simp] theorem tbytes_44 : tbytes 44 = 672 := rfl
@[simp] theorem tzero_44 : tzero 44 = .agg 44 [.int .i64 0, .int .i64 0, .int .i64 0, .int .i64 0, .bool false, .agg 26 [.int .i64 0, .int .i64 0, .int .i64 0, .int .i64 0, .int .i64 0, .int .i64 0, .int .i64 0, .int .i64 0, .int .i64 0, .int .i64 0, .int .i64 0, .int .i64 0], .agg 30 [.int .i64 0, .int .i64 0, .nils, .int .i64 0, .int .i64 0, .int .i64 0, .int .i64 0, .nils], .agg 32 [.int .i64 0, .int .i64 0, .bool false], .agg 34 [.int .i64 0, .int .i64 0, .bool false], .agg 40 [.agg 30 [.int .i64 0, .int .i64 0, .nils, .int .i64 0, .int .i64 0, .int .i64 0, .int .i64 0, .nils], .agg 32 [.int .i64 0, .int .i64 0, .bool false], .agg 34 [.int .i64 0, .int .i64 0, .bool false], .agg 37 [.int .i64 0, .nils, .int .i64 0, .int .i64 0], .nils], .nils, .agg 43 [.bool false, .int .i64 0, .int .i64 0, .int .i64 0, .agg 30 [.int .i64 0, .int .i64 0, .nils, .int .i64 0, .int .i64 0, .int .i64 0, .int .i64 0, .nils], .agg 32 [.int .i64 0, .int .i64 0, .bool false]]] := rfl
@[simp] theorem tlay_44 : tlay 44 = [2, 2, 2, 2, 4, 26, 30, 32, 34, 40, 41, 43] := rfl
@[simp] theorem tkn_45 : tkn 45 = true := rfl
@[simp] theorem tagg_45 : tagg 45 = true := rfl
@[simp] theorem tsize_45 : tsize 45 = 66 := rfl
@[simp] theorem ttd_45 : ttd 45 = .st := rfl
@[simp] theorem tbytes_45 : tbytes 45 = 672 := rfl
@[simp] theorem tzero_45 : tzero 45 = .agg 45 [.int .i64 0, .int .i64 0, .int .i64 0, .int .i64 0, .bool false, .agg 26 [.int .i64 0, .int .i64 0, .int .i64 0, .int .i64 0, .int .i64 0, .int .i64 0, .int .i64 0, .int .i64 0, .int .i64 0, .int .i64 0, .int .i64 0, .int .i64 0], .agg 30 [.int .i64 0, .int .i64 0, .nils, .int .i64 0, .int .i64 0, .int .i64 0, .int .i64 0, .nils], .agg 32 [.int .i64 0, .int .i64 0, .bool false], .agg 34 [.int .i64 0, .int .i64 0, .bool false], .agg 40 [.agg 30 [.int .i64 0, .int .i64 0, .nils, .int .i64 0, .int .i64 0, .int .i64 0, .int .i64 0, .nils], .agg 32 [.int .i64 0, .int .i64 0, .bool false], .agg 34 [.int .i64 0, .int .i64 0, .bool false], .agg 37 [.int .i64 0, .nils, .int .i64 0, .int .i64 0], .nils], .nils, .agg 43 [.bool false, .int .i64 0, .int .i64 0, .int .i64 0, .agg 30 [.int .i64 0, .int .i64 0, .nils, .int .i64 0, .int .i64 0, .int .i64 0, .int .i64 0, .nils], .agg 32 [.int .i64 0, .int .i64 0, .bool false]]] := rfl
@[simp] theorem tlay_45 : tlay 45 = [2, 2, 2, 2, 4, 26, 30, 32, 34, 40, 41, 43] := rfl
@[simp] theorem tkn_47 : tkn 47 = true := rfl
@[simp] theorem tagg_47 : tagg 47 = false := rfl
@[simp] theorem tsize_47 : tsize 47 = 1 := rfl
@[simp] theorem ttd_47 : ttd 47 = .fn := rfl
@[simp] theorem tbytes_47 : tbytes 47 = 8 := rfl
@[simp] theorem tzero_47 : tzero 47 = .nilf := rfl
@[simp] theorem tkn_48 : tkn 48 = true := rfl
@[simp] theorem tagg_48 : tagg 48 = false := rfl
@[simp] theorem tsize_48 : tsize 48 = 1 := rfl
@[simp] theorem ttd_48 : ttd 48 = .slice 5 := rfl
@[simp] theorem tbytes_48 : tbytes 48 = 24 := rfl
@[simp] theorem tzero_48 : tzero 48 = .nils := rfl
@[simp] theorem tkn_49 : tkn 49 = true := rfl
@[simp] theorem tagg_49 : tagg 49 = true := rfl
@[simp] theorem tsize_49 : tsize 49 = 27 := rfl
@[simp] theorem ttd_49 : ttd 49 = .st := rfl
@[simp] theorem tbytes_49 : tbytes 49 = 264 := rfl
@[simp] theorem tzero_49 : tzero 49 = .agg 49 [.int .i64 0, .int .i64 0, .int .i64 0, .int .i64 0, .int .i64 0, .int .i64 0, .agg 30 [.int .i64 0, .int .i64 0, .nils, .int .i64 0, .int .i64 0, .int .i64 0, .int .i64 0, .nils], .agg 26 [.int .i64 0, .int .i64 0, .int .i64 0, .int .i64 0, .int .i64 0, .int .i64 0, .int .i64 0, .int .i64 0, .int .i64 0, .int .i64 0, .int .i64 0, .int .i64 0], .nils] := rfl
@[simp] theorem tlay_49 : tlay 49 = [3, 2, 2, 2, 3, 3, 30, 26, 48] := rfl
@[simp] theorem tkn_50 : tkn 50 = true := rfl
@[simp] theorem tagg_50 : tagg 50 = true := rfl
@[simp] theorem tsize_50 : tsize 50 = 27 := rfl
@[simp] theorem ttd_50 : ttd 50 = .st := rfl
@[simp] theorem tbytes_50 : tbytes 50 = 264 := rfl
@[simp] theorem tzero_50 : tzero 50 = .agg 50 [.int .i64 0, .int .i64 0, .int .i64 0, .int .i64 0, .int .i64 0, .int .i64 0, .agg 30 [.int .i64 0, .int .i64 0, .nils, .int .i64 0, .int .i64 0, .int .i64 0, .int .i64 0, .nils], .agg 26 [.int .i64 0, .int .i64 0, .int .i64 0, .int .i64 0, .int .i64 0, .int .i64 0, .int .i64 0, .int .i64 0, .int .i64 0, .int .i64 0, .int .i64 0, .int .i64 0], .nils] := rfl
@[simp] theorem tlay_50 : tlay 50 = [3, 2, 2, 2, 3, 3, 30, 26, 48] := rfl
@[simp] theorem tkn_51 : tkn 51 = true := rfl
@[simp] theorem tagg_51 : tagg 51 = false := rfl
@[simp] theorem tsize_51 : tsize 51 = 1 := rfl
@[simp] theorem ttd_51 : ttd 51 = .fn := rfl
@[simp] theorem tbytes_51 : tbytes 51 = 8 := rfl
@[simp] theorem tzero_51 : tzero 51 = .nilf := rfl
@[simp] theorem tkn_52 : tkn 52 = true := rfl
@[simp] theorem tagg_52 : tagg 52 = false := rfl
@[simp] theorem tsize_52 : tsize 52 = 1 := rfl
@[simp] theorem ttd_52 : ttd 52 = .fn := rfl
@[simp] theorem tbytes_52 : tbytes 52 = 8 := rfl
@[simp] theorem tzero_52 : tzero 52 = .nilf := rfl
@[simp] theorem tkn_53 : tkn 53 = true := rfl
@[simp] theorem tagg_53 : tagg 53 = false := rfl
@[simp] theorem tsize_53 : tsize 53 = 1 := rfl
@[simp] theorem ttd_53 : ttd 53 = .fn := rfl
@[simp] theorem tbytes_53 : tbytes 53 = 8 := rfl
@[simp] theorem tzero_53 : tzero 53 = .nilf := rfl
@[simp] theorem tkn_54 : tkn 54 = true := rfl
@[simp] theorem tagg_54 : tagg 54 = false := rfl
@[simp] theorem tsize_54 : tsize 54 = 1 := rfl
@[simp] theorem ttd_54 : ttd 54 = .slice 30 := rfl
@[simp] theorem tbytes_54 : tbytes 54 = 24 := rfl
@[simp] theorem tzero_54 : tzero 54 = .nils := rfl
@[simp] theorem tkn_55 : tkn 55 = true := rfl
@[simp] theorem tagg_55 : tagg 55 = false := rfl
@[simp] theorem tsize_55 : tsize 55 = 1 := rfl
@[simp] theorem ttd_55 : ttd 55 = .fn := rfl
@[simp] theorem tbytes_55 : tbytes 55 = 8 := rfl
@[simp] theorem tzero_55 : tzero 55 = .nilf := rfl
@[simp] theorem tkn_56 : tkn 56 = true := rfl
@[simp] theorem tagg_56 : tagg 56 = false := rfl
@[simp] theorem tsize_56 : tsize 56 = 1 := rfl
@[simp] theorem ttd_56 : ttd 56 = .fn := rfl
@[simp] theorem tbytes_56 : tbytes 56 = 8 := rfl
@[simp] theorem tzero_56 : tzero 56 = .nilf := rfl
@[simp] theorem tkn_57 : tkn 57 = true := rfl
@[simp] theorem tagg_57 : tagg 57 = false := rfl
@[simp] theorem tsize_57 : tsize 57 = 1 := rfl
@[simp] theorem ttd_57 : ttd 57 = .fn := rfl
@[simp] theorem tbytes_57 : tbytes 57 = 8 := rfl
@[simp] theorem tzero_57 : tzero 57 = .nilf := rfl
@[simp] theorem tkn_58 : tkn 58 = true := rfl
@[simp] theorem tagg_58 : tagg 58 = false := rfl
@[simp] theorem tsize_58 : tsize 58 = 1 := rfl
@[simp] theorem ttd_58 : ttd 58 = .fn := rfl
@[simp] theorem tbytes_58 : tbytes 58 = 8 := rfl
@[simp] theorem tzero_58 : tzero 58 = .nilf := rfl
@[simp] theorem tkn_59 : tkn 59 = true := rfl
@[simp] theorem tagg_59 : tagg 59 = false := rfl
@[simp] theorem tsize_59 : tsize 59 = 1 := rfl
@[simp] theorem ttd_59 : ttd 59 = .fn := rfl
@[simp] theorem tbytes_59 : tbytes 59 = 8 := rfl
@[simp] theorem tzero_59 : tzero 59 = .nilf := rfl
@[simp] theorem tkn_61 : tkn 61 = true := rfl
@[simp] theorem tagg_61 : tagg 61 = false := rfl
@[simp] theorem tsize_61 : tsize 61 = 1 := rfl
@[simp] theorem ttd_61 : ttd 61 = .fn := rfl
@[simp] theorem tbytes_61 : tbytes 61 = 8 := rfl
@[simp] theorem tzero_61 : tzero 61 = .nilf := rfl
@[simp] theorem tkn_62 : tkn 62 = true := rfl
@[simp] theorem tagg_62 : tagg 62 = false := rfl
@[simp] theorem tsize_62 : tsize 62 = 1 := rfl
@[simp] theorem ttd_62 : ttd 62 = .fn := rfl
@[simp] theorem tbytes_62 : tbytes 62 = 8 := rfl
@[simp] theorem tzero_62 : tzero 62 = .nilf := rfl
@[simp] theorem tkn_63 : tkn 63 = true := rfl
@[simp] theorem tagg_63 : tagg 63 = false := rfl
@[simp] theorem tsize_63 : tsize 63 = 1 := rfl
@[simp] theorem ttd_63 : ttd 63 = .fn := rfl
@[simp] theorem tbytes_63 : tbytes 63 = 8 := rfl
@[simp] theorem tzero_63 : tzero 63 = .nilf := rfl
@[simp] theorem tkn_64 : tkn 64 = true := rfl
@[simp] theorem tagg_64 : tagg 64 = false := rfl
@[simp] theorem tsize_64 : tsize 64 = 1 := rfl
@[simp] theorem ttd_64 : ttd 64 = .fn := rfl
@[simp] theorem tbytes_64 : tbytes 64 = 8 := rfl
@[simp] theorem tzero_64 : tzero 64 = .nilf := rfl
@[simp] theorem tkn_65 : tkn 65 = true := rfl
@[simp] theorem tagg_65 : tagg 65 = false := rfl
@[simp] theorem tsize_65 : tsize 65 = 1 := rfl
@[simp] theorem ttd_65 : ttd 65 = .fn := rfl
@[simp] theorem tbytes_65 : tbytes 65 = 8 := rfl
@[simp] theorem tzero_65 : tzero 65 = .nilf := rfl
@[simp] theorem tkn_66 : tkn 66 = true := rfl
@[simp] theorem tagg_66 : tagg 66 = false := rfl
@[simp] theorem tsize_66 : tsize 66 = 1 := rfl
@[simp] theorem ttd_66 : ttd 66 = .fn := rfl
@[simp] theorem tbytes_66 : tbytes 66 = 8 := rfl
@[simp] theorem tzero_66 : tzero 66 = .nilf := rfl
@[simp] theorem tkn_67 : tkn 67 = true := rfl
@[simp] theorem tagg_67 : tagg 67 = false := rfl
@[simp] theorem tsize_67 : tsize 67 = 1 := rfl
@[simp] theorem ttd_67 : ttd 67 = .fn := rfl
@[simp] theorem tbytes_67 : tbytes 67 = 8 := rfl
@[simp] theorem tzero_67 : tzero 67 = .nilf := rfl
@[simp] theorem tkn_68 : tkn 68 = true := rfl
@[simp] theorem tagg_68 : tagg 68 = false := rfl
@[simp] theorem tsize_68 : tsize 68 = 1 := rfl
@[simp] theorem ttd_68 : ttd 68 = .fn := rfl
@[simp] theorem tbytes_68 : tbytes 68 = 8 := rfl
@[simp] theorem tzero_68 : tzero 68 = .nilf := rfl
@[simp] theorem tkn_69 : tkn 69 = true := rfl
@[simp] theorem tagg_69 : tagg 69 = false := rfl
@[simp] theorem tsize_69 : tsize 69 = 1 := rfl
@[simp] theorem ttd_69 : ttd 69 = .fn := rfl
@[simp] theorem tbytes_69 : tbytes 69 = 8 := rfl
@[simp] theorem tzero_69 : tzero 69 = .nilf := rfl
@[simp] theorem tkn_70 : tkn 70 = true := rfl
@[simp] theorem tagg_70 : tagg 70 = true := rfl
@[simp] theorem tsize_70 : tsize 70 = 2 := rfl
@[simp] theorem ttd_70 : ttd 70 = .st := rfl
@[simp] theorem tbytes_70 : tbytes 70 = 16 := rfl
@[simp] theorem tzero_70 : tzero 70 = .agg 70 [.int .i64 0, .bool false] := rfl
@[simp] theorem tlay_70 : tlay 70 = [2, 4] := rfl
@[simp] theorem tkn_71 : tkn 71 = true := rfl
@[simp] theorem tagg_71 : tagg 71 = true := rfl
@[simp] theorem tsize_71 : tsize 71 = 2 := rfl
@[simp] theorem ttd_71 : ttd 71 = .st := rfl
@[simp] theorem tbytes_71 : tbytes 71 = 16 := rfl
@[simp] theorem tzero_71 : tzero 71 = .agg 71 [.int .i64 0, .bool false] := rfl
@[simp] theorem tlay_71 : tlay 71 = [2, 4] := rfl
@[simp] theorem tkn_72 : tkn 72 = true := rfl
@[simp] theorem tagg_72 : tagg 72 = true := rfl
@[simp] theorem tsize_72 : tsize 72 = 2 := rfl
@[simp] theorem ttd_72 : ttd 72 = .st := rfl
@[simp] theorem tbytes_72 : tbytes 72 = 16 := rfl
@[simp] theorem tzero_72 : tzero 72 = .agg 72 [.int .i64 0, .int .i64 0] := rfl
@[simp] theorem tlay_72 : tlay 72 = [2, 3] := rfl
@[simp] theorem tkn_73 : tkn 73 = true := rfl
@[simp] theorem tagg_73 : tagg 73 = true := rfl
@[simp] theorem tsize_73 : tsize 73 = 2 := rfl
@[simp] theorem ttd_73 : ttd 73 = .st := rfl
@[simp] theorem tbytes_73 : tbytes 73 = 16 := rfl
@[simp] theorem tzero_73 : tzero 73 = .agg 73 [.int .i64 0, .int .i64 0] := rfl
@[simp] theorem tlay_73 : tlay 73 = [2, 3] := rfl
@[simp] theorem tkn_74 : tkn 74 = true := rfl
@[simp] theorem tagg_74 : tagg 74 = false := rfl
@[simp] theorem tsize_74 : tsize 74 = 1 := rfl
@[simp] theorem ttd_74 : ttd 74 = .fn := rfl
@[simp] theorem tbytes_74 : tbytes 74 = 8 := rfl
@[simp] theorem tzero_74 : tzero 74 = .nilf := rfl
@[simp] theorem tkn_75 : tkn 75 = true := rfl
@[simp] theorem tagg_75 : tagg 75 = false := rfl
@[simp] theorem tsize_75 : tsize 75 = 1 := rfl
@[simp] theorem ttd_75 : ttd 75 = .fn := rfl
@[simp] theorem tbytes_75 : tbytes 75 = 8 := rfl
@[simp] theorem tzero_75 : tzero 75 = .nilf := rfl
@[simp] theorem tkn_76 : tkn 76 = true := rfl
@[simp] theorem tagg_76 : tagg 76 = false := rfl
@[simp] theorem tsize_76 : tsize 76 = 1 := rfl
@[simp] theorem ttd_76 : ttd 76 = .fn := rfl
@[simp] theorem tbytes_76 : tbytes 76 = 8 := rfl
@[simp] theorem tzero_76 : tzero 76 = .nilf := rfl
@[simp] theorem tkn_77 : tkn 77 = true := rfl
@[simp] theorem tagg_77 : tagg 77 = false := rfl
@[simp] theorem tsize_77 : tsize 77 = 1 := rfl
@[simp] theorem ttd_77 : ttd 77 = .ptr 79 := rfl
@[simp] theorem tbytes_77 : tbytes 77 = 8 := rfl
@[simp] theorem tzero_77 : tzero 77 = .nilp := rfl
@[simp] theorem tkn_78 : tkn 78 = true := rfl
@[simp] theorem tagg_78 : tagg 78 = true := rfl
@[simp] theorem tsize_78 : tsize 78 = 67 := rfl
@[simp] theorem ttd_78 : ttd 78 = .st := rfl
@[simp] theorem tbytes_78 : tbytes 78 = 696 := rfl
@[simp] theorem tzero_78 : tzero 78 = .agg 78 [.agg 45 [.int .i64 0, .int .i64 0, .int .i64 0, .int .i64 0, .bool false, .agg 26 [.int .i64 0, .int .i64 0, .int .i64 0, .int .i64 0, .int .i64 0, .int .i64 0, .int .i64 0, .int .i64 0, .int .i64 0, .int .i64 0, .int .i64 0, .int .i64 0], .agg 30 [.int .i64 0, .int .i64 0, .nils, .int .i64 0, .int .i64 0, .int .i64 0, .int .i64 0, .nils], .agg 32 [.int .i64 0, .int .i64 0, .bool false], .agg 34 [.int .i64 0, .int .i64 0, .bool false], .agg 40 [.agg 30 [.int .i64 0, .int .i64 0, .nils, .int .i64 0, .int .i64 0, .int .i64 0, .int .i64 0, .nils], .agg 32 [.int .i64 0, .int .i64 0, .bool false], .agg 34 [.int .i64 0, .int .i64 0, .bool false], .agg 37 [.int .i64 0, .nils, .int .i64 0, .int .i64 0], .nils], .nils, .agg 43 [.bool false, .int .i64 0, .int .i64 0, .int .i64 0, .agg 30 [.int .i64 0, .int .i64 0, .nils, .int .i64 0, .int .i64 0, .int .i64 0, .int .i64 0, .nils], .agg 32 [.int .i64 0, .int .i64 0, .bool false]]], .nils] := rfl
@[simp] theorem tlay_78 : tlay 78 = [45, 22] := rfl
@[simp] theorem tkn_79 : tkn 79 = true := rfl
@[simp] theorem tagg_79 : tagg 79 = true := rfl
@[simp] theorem tsize_79 : tsize 79 = 67 := rfl
@[simp] theorem ttd_79 : ttd 79 = .st := rfl
@[simp] theorem tbytes_79 : tbytes 79 = 696 := rfl
@[simp] theorem tzero_79 : tzero 79 = .agg 79 [.agg 45 [.int .i64 0, .int .i64 0, .int .i64 0, .int .i64 0, .bool false, .agg 26 [.int .i64 0, .int .i64 0, .int .i64 0, .int .i64 0, .int .i64 0, .int .i64 0, .int .i64 0, .int .i64 0, .int .i64 0, .int .i64 0, .int .i64 0, .int .i64 0], .agg 30 [.int .i64 0, .int .i64 0, .nils, .int .i64 0, .int .i64 0, .int .i64 0, .int .i64 0, .nils], .agg 32 [.int .i64 0, .int .i64 0, .bool false], .agg 34 [.int .i64 0, .int .i64 0, .bool false], .agg 40 [.agg 30 [.int .i64 0, .int .i64 0, .nils, .int .i64 0, .int .i64 0, .int .i64 0, .int .i64 0, .nils], .agg 32 [.int .i64 0, .int .i64 0, .bool false], .agg 34 [.int .i64 0, .int .i64 0, .bool false], .agg 37 [.int .i64 0, .nils, .int .i64 0, .int .i64 0], .nils], .nils, .agg 43 [.bool false, .int .i64 0, .int .i64 0, .int .i64 0, .agg 30 [.int .i64 0, .int .i64 0, .nils, .int .i64 0, .int .i64 0, .int .i64 0, .int .i64 0, .nils], .agg 32 [.int .i64 0, .int .i64 0, .bool false]]], .nils] := rfl
@[simp] theorem tlay_79 : tlay 79 = [45, 22] := rfl
@[simp] theorem tkn_80 : tkn 80 = true := rfl
@[simp] theorem tagg_80 : tagg 80 = false := rfl
@[simp] theorem tsize_80 : tsize 80 = 1 := rfl
@[simp] theorem ttd_80 : ttd 80 = .fn := rfl
@[simp] theorem tbytes_80 : tbytes 80 = 8 := rfl
@[simp] theorem tzero_80 : tzero 80 = .nilf := rfl
@[simp] theorem tkn_82 : tkn 82 = true := rfl
@[simp] theorem tagg_82 : tagg 82 = false := rfl
@[simp] theorem tsize_82 : tsize 82 = 1 := rfl
@[simp] theorem ttd_82 : ttd 82 = .map 3 80 := rfl
@[simp] theorem tbytes_82 : tbytes 82 = 8 := rfl
@[simp] theorem tzero_82 : tzero 82 = .nilm := rfl
@[simp] theorem tkn_83 : tkn 83 = true := rfl
@[simp] theorem tagg_83 : tagg 83 = false := rfl
@[simp] theorem tsize_83 : tsize 83 = 1 := rfl
@[simp] theorem ttd_83 : ttd 83 = .fn := rfl
@[simp] theorem tbytes_83 : tbytes 83 = 8 := rfl
@[simp] theorem tzero_83 : tzero 83 = .nilf := rfl
@[simp] theorem tkn_84 : tkn 84 = true := rfl
@[simp] theorem tagg_84 : tagg 84 = false := rfl
@[simp] theorem tsize_84 : tsize 84 = 1 := rfl
@[simp] theorem ttd_84 : ttd 84 = .fn := rfl
@[simp] theorem tbytes_84 : tbytes 84 = 8 := rfl
@[simp] theorem tzero_84 : tzero 84 = .nilf := rfl
@[simp] theorem tkn_85 : tkn 85 = true := rfl
@[simp] theorem tagg_85 : tagg 85 = false := rfl
@[simp] theorem tsize_85 : tsize 85 = 1 := rfl
@[simp] theorem ttd_85 : ttd 85 = .fn := rfl
@[simp] theorem tbytes_85 : tbytes 85 = 8 := rfl
@[simp] theorem tzero_85 : tzero 85 = .nilf := rfl
@[simp] theorem tkn_86 : tkn 86 = true := rfl
@[simp] theorem tagg_86 : tagg 86 = false := rfl
@[simp] theorem tsize_86 : tsize 86 = 1 := rfl
@[simp] theorem ttd_86 : ttd 86 = .fn := rfl
@[simp] theorem tbytes_86 : tbytes 86 = 8 := rfl
@[simp] theorem tzero_86 : tzero 86 = .nilf := rfl
@[simp] theorem tkn_87 : tkn 87 = true := rfl
@[simp] theorem tagg_87 : tagg 87 = false := rfl
@[simp] theorem tsize_87 : tsize 87 = 1 := rfl
@[simp] theorem ttd_87 : ttd 87 = .fn := rfl
@[simp] theorem tbytes_87 : tbytes 87 = 8 := rfl
@[simp] theorem tzero_87 : tzero 87 = .nilf := rfl
@[simp] theorem tkn_88 : tkn 88 = true := rfl
@[simp] theorem tagg_88 : tagg 88 = false := rfl
@[simp] theorem tsize_88 : tsize 88 = 1 := rfl
@[simp] theorem ttd_88 : ttd 88 = .fn := rfl
@[simp] theorem tbytes_88 : tbytes 88 = 8 := rfl
@[simp] theorem tzero_88 : tzero 88 = .nilf := rfl
@[simp] theorem tkn_89 : tkn 89 = true := rfl
@[simp] theorem tagg_89 : tagg 89 = false := rfl
@[simp] theorem tsize_89 : tsize 89 = 1 := rfl
@[simp] theorem ttd_89 : ttd 89 = .fn := rfl
@[simp] theorem tbytes_89 : tbytes 89 = 8 := rfl
@[simp] theorem tzero_89 : tzero 89 = .nilf := rfl
@[simp] theorem tkn_90 : tkn 90 = true := rfl
@[simp] theorem tagg_90 : tagg 90 = false := rfl
@[simp] theorem tsize_90 : tsize 90 = 1 := rfl
@[simp] theorem ttd_90 : ttd 90 = .fn := rfl
@[simp] theorem tbytes_90 : tbytes 90 = 8 := rfl
@[simp] theorem tzero_90 : tzero 90 = .nilf := rfl
@[simp] theorem tkn_91 : tkn 91 = true := rfl
@[simp] theorem tagg_91 : tagg 91 = false := rfl
@[simp] theorem tsize_91 : tsize 91 = 1 := rfl
@[simp] theorem ttd_91 : ttd 91 = .fn := rfl
@[simp] theorem tbytes_91 : tbytes 91 = 8 := rfl
@[simp] theorem tzero_91 : tzero 91 = .nilf := rfl
@[simp] theorem tkn_92 : tkn 92 = true := rfl
@[simp] theorem tagg_92 : tagg 92 = true := rfl
@[simp] theorem tsize_92 : tsize 92 = 2 := rfl
@[simp] theorem ttd_92 : ttd 92 = .st := rfl
@[simp] theorem tbytes_92 : tbytes 92 = 16 := rfl
@[simp] theorem tzero_92 : tzero 92 = .agg 92 [.int .i64 0, .int .i64 0] := rfl
@[simp] theorem tlay_92 : tlay 92 = [2, 3] := rfl
@[simp] theorem tkn_93 : tkn 93 = true := rfl
@[simp] theorem tagg_93 : tagg 93 = true := rfl
@[simp] theorem tsize_93 : tsize 93 = 2 := rfl
@[simp] theorem ttd_93 : ttd 93 = .st := rfl
@[simp] theorem tbytes_93 : tbytes 93 = 16 := rfl
@[simp] theorem tzero_93 : tzero 93 = .agg 93 [.int .i64 0, .int .i64 0] := rfl
@[simp] theorem tlay_93 : tlay 93 = [2, 3] := rfl
@[simp] theorem tkn_94 : tkn 94 = true := rfl
@[simp] theorem tagg_94 : tagg 94 = false := rfl
@[simp] theorem tsize_94 : tsize 94 = 1 := rfl
@[simp] theorem ttd_94 : ttd 94 = .fn := rfl
@[simp] theorem tbytes_94 : tbytes 94 = 8 := rfl
@[simp] theorem tzero_94 : tzero 94 = .nilf := rfl
@[simp] theorem tkn_96 : tkn 96 = true := rfl
@[simp] theorem tagg_96 : tagg 96 = false := rfl
@[simp] theorem tsize_96 : tsize 96 = 1 := rfl
@[simp] theorem ttd_96 : ttd 96 = .fn := rfl
@[simp] theorem tbytes_96 : tbytes 96 = 8 := rfl
@[simp] theorem tzero_96 : tzero 96 = .nilf := rfl
@[simp] theorem tkn_97 : tkn 97 = true := rfl
@[simp] theorem tagg_97 : tagg 97 = false := rfl
@[simp] theorem tsize_97 : tsize 97 = 1 := rfl
@[simp] theorem ttd_97 : ttd 97 = .fn := rfl
@[simp] theorem tbytes_97 : tbytes 97 = 8 := rfl
@[simp] theorem tzero_97 : tzero 97 = .nilf := rfl
@[simp] theorem tkn_98 : tkn 98 = true := rfl
@[simp] theorem tagg_98 : tagg 98 = false := rfl
@[simp] theorem tsize_98 : tsize 98 = 1 := rfl
@[simp] theorem ttd_98 : ttd 98 = .fn := rfl
@[simp] theorem tbytes_98 : tbytes 98 = 8 := rfl
@[simp] theorem tzero_98 : tzero 98 = .nilf := rfl
@[simp] theorem tkn_99 : tkn 99 = true := rfl
@[simp] theorem tagg_99 : tagg 99 = false := rfl
@[simp] theorem tsize_99 : tsize 99 = 1 := rfl
@[simp] theorem ttd_99 : ttd 99 = .fn := rfl
@[simp] theorem tbytes_99 : tbytes 99 = 8 := rfl
@[simp] theorem tzero_99 : tzero 99 = .nilf := rfl
@[simp] theorem tkn_100 : tkn 100 = true := rfl
@[simp] theorem tagg_100 : tagg 100 = false := rfl
@[simp] theorem tsize_100 : tsize 100 = 1 := rfl
@[simp] theorem ttd_100 : ttd 100 = .fn := rfl
@[simp] theorem tbytes_100 : tbytes 100 = 8 := rfl
@[simp] theorem tzero_100 : tzero 100 = .nilf := rfl
@[simp] theorem tkn_101 : tkn 101 = true := rfl
@[simp] theorem tagg_101 : tagg 101 = false := rfl
@[simp] theorem tsize_101 : tsize 101 = 1 := rfl
@[simp] theorem ttd_101 : ttd 101 = .fn := rfl
@[simp] theorem tbytes_101 : tbytes 101 = 8 := rfl
@[simp] theorem tzero_101 : tzero 101 = .nilf := rfl
@[simp] theorem tkn_102 : tkn 102 = true := rfl
@[simp] theorem tagg_102 : tagg 102 = false := rfl
@[simp] theorem tsize_102 : tsize 102 = 1 := rfl
@[simp] theorem ttd_102 : ttd 102 = .fn := rfl
@[simp] theorem tbytes_102 : tbytes 102 = 8 := rfl
@[simp] theorem tzero_102 : tzero 102 = .nilf := rfl
@[simp] theorem tkn_103 : tkn 103 = true := rfl
@[simp] theorem tagg_103 : tagg 103 = false := rfl
@[simp] theorem tsize_103 : tsize 103 = 1 := rfl
@[simp] theorem ttd_103 : ttd 103 = .fn := rfl
@[simp] theorem tbytes_103 : tbytes 103 = 8 := rfl
@[simp] theorem tzero_103 : tzero 103 = .nilf := rfl
@[simp] theorem tkn_104 : tkn 104 = true := rfl
@[simp] theorem tagg_104 : tagg 104 = false := rfl
@[simp] theorem tsize_104 : tsize 104 = 1 := rfl
@[simp] theorem ttd_104 : ttd 104 = .fn := rfl
@[simp] theorem tbytes_104 : tbytes 104 = 8 := rfl
@[simp] theorem tzero_104 : tzero 104 = .nilf := rfl
@[simp] theorem tkn_106 : tkn 106 = true := rfl
@[simp] theorem tagg_106 : tagg 106 = false := rfl
@[simp] theorem tsize_106 : tsize 106 = 1 := rfl
@[simp] theorem ttd_106 : ttd 106 = .fn := rfl
@[simp] theorem tbytes_106 : tbytes 106 = 8 := rfl
@[simp] theorem tzero_106 : tzero 106 = .nilf := rfl
@[simp] theorem tkn_107 : tkn 107 = true := rfl
@[simp] theorem tagg_107 : tagg 107 = false := rfl
@[simp] theorem tsize_107 : tsize 107 = 1 := rfl
@[simp] theorem ttd_107 : ttd 107 = .fn := rfl
@[simp] theorem tbytes_107 : tbytes 107 = 8 := rfl
@[simp] theorem tzero_107 : tzero 107 = .nilf := rfl
@[simp] theorem tkn_108 : tkn 108 = true := rfl
@[simp] theorem tagg_108 : tagg 108 = false := rfl
@[simp] theorem tsize_108 : tsize 108 = 1 := rfl
@[simp] theorem ttd_108 : ttd 108 = .fn := rfl
@[simp] theorem tbytes_108 : tbytes 108 = 8 := rfl
@[simp] theorem tzero_108 : tzero 108 = .nilf := rfl
@[simp] theorem tkn_109 : tkn 109 = true := rfl
@[simp] theorem tagg_109 : tagg 109 = false := rfl
@[simp] theorem tsize_109 : tsize 109 = 1 := rfl
@[simp] theorem ttd_109 : ttd 109 = .fn := rfl
@[simp] theorem tbytes_109 : tbytes 109 = 8 := rfl
@[simp] theorem tzero_109 : tzero 109 = .nilf := rfl
@[simp] theorem tkn_110 : tkn 110 = true := rfl
@[simp] theorem tagg_110 : tagg 110 = false := rfl
@[simp] theorem tsize_110 : tsize 110 = 1 := rfl
@[simp] theorem ttd_110 : ttd 110 = .fn := rfl
@[simp] theorem tbytes_110 : tbytes 110 = 8 := rfl
@[simp] theorem tzero_110 : tzero 110 = .nilf := rfl
@[simp] theorem tkn_111 : tkn 111 = true := rfl
@[simp] theorem tagg_111 : tagg 111 = false := rfl
@[simp] theorem tsize_111 : tsize 111 = 1 := rfl
@[simp] theorem ttd_111 : ttd 111 = .fn := rfl
@[simp] theorem tbytes_111 : tbytes 111 = 8 := rfl
@[simp] theorem tzero_111 : tzero 111 = .nilf := rfl
@[simp] theorem tkn_112 : tkn 112 = true := rfl
@[simp] theorem tagg_112 : tagg 112 = false := rfl
@[simp] theorem tsize_112 : tsize 112 = 1 := rfl
@[simp] theorem ttd_112 : ttd 112 = .fn := rfl
@[simp] theorem tbytes_112 : tbytes 112 = 8 := rfl
@[simp] theorem tzero_112 : tzero 112 = .nilf := rfl
@[simp] theorem tkn_113 : tkn 113 = true := rfl
@[simp] theorem tagg_113 : tagg 113 = false := rfl
@[simp] theorem tsize_113 : tsize 113 = 1 := rfl
@[simp] theorem ttd_113 : ttd 113 = .fn := rfl
@[simp] theorem tbytes_113 : tbytes 113 = 8 := rfl
@[simp] theorem tzero_113 : tzero 113 = .nilf := rfl
@[simp] theorem tkn_114 : tkn 114 = true := rfl
@[simp] theorem tagg_114 : tagg 114 = false := rfl
@[simp] theorem tsize_114 : tsize 114 = 1 := rfl
@[simp] theorem ttd_114 : ttd 114 = .fn := rfl
@[simp] theorem tbytes_114 : tbytes 114 = 8 := rfl
@[simp] theorem tzero_114 : tzero 114 = .nilf := rfl
@[simp] theorem tkn_115 : tkn 115 = true := rfl
@[simp] theorem tagg_115 : tagg 115 = false := rfl
@[simp] theorem tsize_115 : tsize 115 = 1 := rfl
@[simp] theorem ttd_115 : ttd 115 = .fn := rfl
@[simp] theorem tbytes_115 : tbytes 115 = 8 := rfl
@[simp] theorem tzero_115 : tzero 115 = .nilf := rfl
@[simp] theorem tkn_116 : tkn 116 = true := rfl
@[simp] theorem tagg_116 : tagg 116 = false := rfl
@[simp] theorem tsize_116 : tsize 116 = 1 := rfl
@[simp] theorem ttd_116 : ttd 116 = .fn := rfl
@[simp] theorem tbytes_116 : tbytes 116 = 8 := rfl
@[simp] theorem tzero_116 : tzero 116 = .nilf := rfl
@[simp] theorem tkn_117 : tkn 117 = true := rfl
@[simp] theorem tagg_117 : tagg 117 = false := rfl
@[simp] theorem tsize_117 : tsize 117 = 1 := rfl
@[simp] theorem ttd_117 : ttd 117 = .fn := rfl
@[simp] theorem tbytes_117 : tbytes 117 = 8 := rfl
@[simp] theorem tzero_117 : tzero 117 = .nilf := rfl
@[simp] theorem tkn_118 : tkn 118 = true := rfl
@[simp] theorem tagg_118 : tagg 118 = false := rfl
@[simp] theorem tsize_118 : tsize 118 = 1 := rfl
@[simp] theorem ttd_118 : ttd 118 = .fn := rfl
@[simp] theorem tbytes_118 : tbytes 118 = 8 := rfl
@[simp] theorem tzero_118 : tzero 118 = .nilf := rfl
@[simp] theorem tkn_119 : tkn 119 = true := rfl
@[simp] theorem tagg_119 : tagg 119 = false := rfl
@[simp] theorem tsize_119 : tsize 119 = 1 := rfl
@[simp] theorem ttd_119 : ttd 119 = .fn := rfl
@[simp] theorem tbytes_119 : tbytes 119 = 8 := rfl
@[simp] theorem tzero_119 : tzero 119 = .nilf := rfl
@[simp] theorem tkn_120 : tkn 120 = true := rfl
@[simp] theorem tagg_120 : tagg 120 = false := rfl
@[simp] theorem tsize_120 : tsize 120 = 1 := rfl
@[simp] theorem ttd_120 : ttd 120 = .fn := rfl
@[simp] theorem tbytes_120 : tbytes 120 = 8 := rfl
@[simp] theorem tzero_120 : tzero 120 = .nilf := rfl
@[simp] theorem tkn_121 : tkn 121 = true := rfl
@[simp] theorem tagg_121 : tagg 121 = false := rfl
@[simp] theorem tsize_121 : tsize 121 = 1 := rfl
@[simp] theorem ttd_121 : ttd 121 = .fn := rfl
@[simp] theorem tbytes_121 : tbytes 121 = 8 := rfl
@[simp] theorem tzero_121 : tzero 121 = .nilf := rfl
@[simp] theorem tkn_122 : tkn 122 = true := rfl
@[simp] theorem tagg_122 : tagg 122 = false := rfl
@[simp] theorem tsize_122 : tsize 122 = 1 := rfl
@[simp] theorem ttd_122 : ttd 122 = .fn := rfl
@[simp] theorem tbytes_122 : tbytes 122 = 8 := rfl
@[simp] theorem tzero_122 : tzero 122 = .nilf := rfl
@[simp] theorem tkn_123 : tkn 123 = true := rfl
@[simp] theorem tagg_123 : tagg 123 = false := rfl
@[simp] theorem tsize_123 : tsize 123 = 1 := rfl
@[simp] theorem ttd_123 : ttd 123 = .fn := rfl
@[simp] theorem tbytes_123 : tbytes 123 = 8 := rfl
@[simp] theorem tzero_123 : tzero 123 = .nilf := rfl
@[simp] theorem tkn_124 : tkn 124 = true := rfl
@[simp] theorem tagg_124 : tagg 124 = false := rfl
@[simp] theorem tsize_124 : tsize 124 = 1 := rfl
@[simp] theorem ttd_124 : ttd 124 = .fn := rfl
@[simp] theorem tbytes_124 : tbytes 124 = 8 := rfl
@[simp] theorem tzero_124 : tzero 124 = .nilf := rfl
@[simp] theorem tkn_125 : tkn 125 = true := rfl
@[simp] theorem tagg_125 : tagg 125 = false := rfl
@[simp] theorem tsize_125 : tsize 125 = 1 := rfl
@[simp] theorem ttd_125 : ttd 125 = .fn := rfl
@[simp] theorem tbytes_125 : tbytes 125 = 8 := rfl
@[simp] theorem tzero_125 : tzero 125 = .nilf := rfl
@[simp] theorem tkn_126 : tkn 126 = true := rfl
@[simp] theorem tagg_126 : tagg 126 = false := rfl
@[simp] theorem tsize_126 : tsize 126 = 1 := rfl
@[simp] theorem ttd_126 : ttd 126 = .fn := rfl
@[simp] theorem tbytes_126 : tbytes 126 = 8 := rfl
@[simp] theorem tzero_126 : tzero 126 = .nilf := rfl
@[simp] theorem tkn_127 : tkn 127 = true := rfl
@[simp] theorem tagg_127 : tagg 127 = false := rfl
@[simp] theorem tsize_127 : tsize 127 = 1 := rfl
@[simp] theorem ttd_127 : ttd 127 = .fn := rfl
@[simp] theorem tbytes_127 : tbytes 127 = 8 := rfl
@[simp] theorem tzero_127 : tzero 127 = .nilf := rfl
@[simp] theorem tkn_128 : tkn 128 = true := rfl
@[simp] theorem tagg_128 : tagg 128 = false := rfl
@[simp] theorem tsize_128 : tsize 128 = 1 := rfl
@[simp] theorem ttd_128 : ttd 128 = .fn := rfl
@[simp] theorem tbytes_128 : tbytes 128 = 8 := rfl
@[simp] theorem tzero_128 : tzero 128 = .nilf := rfl
@[simp] theorem tkn_130 : tkn 130 = true := rfl
@[simp] theorem tagg_130 : tagg 130 = false := rfl
@[simp] theorem tsize_130 : tsize 130 = 1 := rfl
@[simp] theorem ttd_130 : ttd 130 = .fn := rfl
@[simp] theorem tbytes_130 : tbytes 130 = 8 := rfl
@[simp] theorem tzero_130 : tzero 130 = .nilf := rfl
@[simp] theorem tkn_131 : tkn 131 = true := rfl
@[simp] theorem tagg_131 : tagg 131 = false := rfl
@[simp] theorem tsize_131 : tsize 131 = 1 := rfl
@[simp] theorem ttd_131 : ttd 131 = .fn := rfl
@[simp] theorem tbytes_131 : tbytes 131 = 8 := rfl
@[simp] theorem tzero_131 : tzero 131 = .nilf := rfl
@[simp] theorem tkn_132 : tkn 132 = true := rfl
@[simp] theorem tagg_132 : tagg 132 = false := rfl
@[simp] theorem tsize_132 : tsize 132 = 1 := rfl
@[simp] theorem ttd_132 : ttd 132 = .fn := rfl
@[simp] theorem tbytes_132 : tbytes 132 = 8 := rfl
@[simp] theorem tzero_132 : tzero 132 = .nilf := rfl
@[simp] theorem tkn_133 : tkn 133 = true := rfl
@[simp] theorem tagg_133 : tagg 133 = false := rfl
@[simp] theorem tsize_133 : tsize 133 = 1 := rfl
@[simp] theorem ttd_133 : ttd 133 = .fn := rfl
@[simp] theorem tbytes_133 : tbytes 133 = 8 := rfl
@[simp] theorem tzero_133 : tzero 133 = .nilf := rfl
@[simp] theorem tkn_134 : tkn 134 = true := rfl
@[simp] theorem tagg_134 : tagg 134 = false := rfl
@[simp] theorem tsize_134 : tsize 134 = 1 := rfl
@[simp] theorem ttd_134 : ttd 134 = .fn := rfl
@[simp] theorem tbytes_134 : tbytes 134 = 8 := rfl
@[simp] theorem tzero_134 : tzero 134 = .nilf := rfl
@[simp] theorem tkn_135 : tkn 135 = true := rfl
@[simp] theorem tagg_135 : tagg 135 = false := rfl
@[simp] theorem tsize_135 : tsize 135 = 1 := rfl
@[simp] theorem ttd_135 : ttd 135 = .fn := rfl
@[simp] theorem tbytes_135 : tbytes 135 = 8 := rfl
@[simp] theorem tzero_135 : tzero 135 = .nilf := rfl
@[simp] theorem tkn_136 : tkn 136 = true := rfl
@[simp] theorem tagg_136 : tagg 136 = false := rfl
@[simp] theorem tsize_136 : tsize 136 = 1 := rfl
@[simp] theorem ttd_136 : ttd 136 = .fn := rfl
@[simp] theorem tbytes_136 : tbytes 136 = 8 := rfl
@[simp] theorem tzero_136 : tzero 136 = .nilf := rfl
@[simp] theorem tkn_137 : tkn 137 = true := rfl
@[simp] theorem tagg_137 : tagg 137 = true := rfl
@[simp] theorem tsize_137 : tsize 137 = 6 := rfl
@[simp] theorem ttd_137 : ttd 137 = .st := rfl
@[simp] theorem tbytes_137 : tbytes 137 = 48 := rfl
@[simp] theorem tzero_137 : tzero 137 = .agg 137 [.agg 32 [.int .i64 0, .int .i64 0, .bool false], .int .i64 0, .int .i64 0, .int .i64 0] := rfl
@[simp] theorem tlay_137 : tlay 137 = [32, 3, 2, 2] := rfl
@[simp] theorem tkn_138 : tkn 138 = true := rfl
@[simp] theorem tagg_138 : tagg 138 = true := rfl
@[simp] theorem tsize_138 : tsize 138 = 6 := rfl
@[simp] theorem ttd_138 : ttd 138 = .st := rfl
@[simp] theorem tbytes_138 : tbytes 138 = 48 := rfl
@[simp] theorem tzero_138 : tzero 138 = .agg 138 [.agg 32 [.int .i64 0, .int .i64 0, .bool false], .int .i64 0, .int .i64 0, .int .i64 0] := rfl
@[simp] theorem tlay_138 : tlay 138 = [32, 3, 2, 2] := rfl
@[simp] theorem tkn_139 : tkn 139 = true := rfl
@[simp] theorem tagg_139 : tagg 139 = false := rfl
@[simp] theorem tsize_139 : tsize 139 = 1 := rfl
@[simp] theorem ttd_139 : ttd 139 = .fn := rfl
@[simp] theorem tbytes_139 : tbytes 139 = 8 := rfl
@[simp] theorem tzero_139 : tzero 139 = .nilf := rfl
@[simp] theorem tkn_140 : tkn 140 = true := rfl
@[simp] theorem tagg_140 : tagg 140 = false := rfl
@[simp] theorem tsize_140 : tsize 140 = 1 := rfl
@[simp] theorem ttd_140 : ttd 140 = .fn := rfl
@[simp] theorem tbytes_140 : tbytes 140 = 8 := rfl
@[simp] theorem tzero_140 : tzero 140 = .nilf := rfl
@[simp] theorem tkn_141 : tkn 141 = true := rfl
@[simp] theorem tagg_141 : tagg 141 = true := rfl
@[simp] theorem tsize_141 : tsize 141 = 2 := rfl
@[simp] theorem ttd_141 : ttd 141 = .st := rfl
@[simp] theorem tbytes_141 : tbytes 141 = 16 := rfl
@[simp] theorem tzero_141 : tzero 141 = .agg 141 [.nilf, .nilf] := rfl
@[simp] theorem tlay_141 : tlay 141 = [139, 140] := rfl
@[simp] theorem tkn_142 : tkn 142 = true := rfl
@[simp] theorem tagg_142 : tagg 142 = true := rfl
@[simp] theorem tsize_142 : tsize 142 = 2 := rfl
@[simp] theorem ttd_142 : ttd 142 = .st := rfl
@[simp] theorem tbytes_142 : tbytes 142 = 16 := rfl
@[simp] theorem tzero_142 : tzero 142 = .agg 142 [.nilf, .nilf] := rfl
@[simp] theorem tlay_142 : tlay 142 = [139, 140] := rfl
@[simp] theorem tkn_143 : tkn 143 = true := rfl
@[simp] theorem tagg_143 : tagg 143 = false := rfl
@[simp] theorem tsize_143 : tsize 143 = 1 := rfl
@[simp] theorem ttd_143 : ttd 143 = .map 3 142 := rfl
@[simp] theorem tbytes_143 : tbytes 143 = 8 := rfl
@[simp] theorem tzero_143 : tzero 143 = .nilm := rfl
@[simp] theorem tkn_144 : tkn 144 = true := rfl
@[simp] theorem tagg_144 : tagg 144 = false := rfl
@[simp] theorem tsize_144 : tsize 144 = 1 := rfl
@[simp] theorem ttd_144 : ttd 144 = .fn := rfl
@[simp] theorem tbytes_144 : tbytes 144 = 8 := rfl
@[simp] theorem tzero_144 : tzero 144 = .nilf := rfl
@[simp] theorem tkn_145 : tkn 145 = true := rfl
@[simp] theorem tagg_145 : tagg 145 = false := rfl
@[simp] theorem tsize_145 : tsize 145 = 1 := rfl
@[simp] theorem ttd_145 : ttd 145 = .fn := rfl
@[simp] theorem tbytes_145 : tbytes 145 = 8 := rfl
@[simp] theorem tzero_145 : tzero 145 = .nilf := rfl
@[simp] theorem tkn_146 : tkn 146 = true := rfl
@[simp] theorem tagg_146 : tagg 146 = true := rfl
@[simp] theorem tsize_146 : tsize 146 = 2 := rfl
@[simp] theorem ttd_146 : ttd 146 = .st := rfl
@[simp] theorem tbytes_146 : tbytes 146 = 16 := rfl
@[simp] theorem tzero_146 : tzero 146 = .agg 146 [.int .i64 0, .int .i64 0] := rfl
@[simp] theorem tlay_146 : tlay 146 = [3, 3] := rfl
@[simp] theorem tkn_147 : tkn 147 = true := rfl
@[simp] theorem tagg_147 : tagg 147 = true := rfl
@[simp] theorem tsize_147 : tsize 147 = 2 := rfl
@[simp] theorem ttd_147 : ttd 147 = .st := rfl
@[simp] theorem tbytes_147 : tbytes 147 = 16 := rfl
@[simp] theorem tzero_147 : tzero 147 = .agg 147 [.int .i64 0, .int .i64 0] := rfl
@[simp] theorem tlay_147 : tlay 147 = [3, 3] := rfl
@[simp] theorem tkn_148 : tkn 148 = true := rfl
@[simp] theorem tagg_148 : tagg 148 = true := rfl
@[simp] theorem tsize_148 : tsize 148 = 4 := rfl
@[simp] theorem ttd_148 : ttd 148 = .arr 2 147 := rfl
@[simp] theorem tbytes_148 : tbytes 148 = 32 := rfl
@[simp] theorem tzero_148 : tzero 148 = .agg 148 (List.replicate 2 (.agg 147 [.int .i64 0, .int .i64 0])) := rfl
@[simp] theorem tlay_148 : tlay 148 = List.replicate 2 147 := rfl
@[simp] theorem tkn_149 : tkn 149 = true := rfl
@[simp] theorem tagg_149 : tagg 149 = false := rfl
@[simp] theorem tsize_149 : tsize 149 = 1 := rfl
@[simp] theorem ttd_149 : ttd 149 = .ptr 151 := rfl
@[simp] theorem tbytes_149 : tbytes 149 = 8 := rfl
@[simp] theorem tzero_149 : tzero 149 = .nilp := rfl
@[simp] theorem tkn_150 : tkn 150 = true := rfl
@[simp] theorem tagg_150 : tagg 150 = true := rfl
@[simp] theorem tsize_150 : tsize 150 = 32 := rfl
@[simp] theorem ttd_150 : ttd 150 = .st := rfl
@[simp] theorem tbytes_150 : tbytes 150 = 320 := rfl
@[simp] theorem tzero_150 : tzero 150 = .agg 150 [.agg 40 [.agg 30 [.int .i64 0, .int .i64 0, .nils, .int .i64 0, .int .i64 0, .int .i64 0, .int .i64 0, .nils], .agg 32 [.int .i64 0, .int .i64 0, .bool false], .agg 34 [.int .i64 0, .int .i64 0, .bool false], .agg 37 [.int .i64 0, .nils, .int .i64 0, .int .i64 0], .nils], .agg 26 [.int .i64 0, .int .i64 0, .int .i64 0, .int .i64 0, .int .i64 0, .int .i64 0, .int .i64 0, .int .i64 0, .int .i64 0, .int .i64 0, .int .i64 0, .int .i64 0], .int .i64 0] := rfl
@[simp] theorem tlay_150 : tlay 150 = [40, 26, 2] := rfl
@[simp] theorem tkn_151 : tkn 151 = true := rfl
@[simp] theorem tagg_151 : tagg 151 = true := rfl
@[simp] theorem tsize_151 : tsize 151 = 32 := rfl
@[simp] theorem ttd_151 : ttd 151 = .st := rfl
@[simp] theorem tbytes_151 : tbytes 151 = 320 := rfl
@[simp] theorem tzero_151 : tzero 151 = .agg 151 [.agg 40 [.agg 30 [.int .i64 0, .int .i64 0, .nils, .int .i64 0, .int .i64 0, .int .i64 0, .int .i64 0, .nils], .agg 32 [.int .i64 0, .int .i64 0, .bool false], .agg 34 [.int .i64 0, .int .i64 0, .bool false], .agg 37 [.int .i64 0, .nils, .int .i64 0, .int .i64 0], .nils], .agg 26 [.int .i64 0, .int .i64 0, .int .i64 0, .int .i64 0, .int .i64 0, .int .i64 0, .int .i64 0, .int .i64 0, .int .i64 0, .int .i64 0, .int .i64 0, .int .i64 0], .int .i64 0] := rfl
@[simp] theorem tlay_151 : tlay 151 = [40, 26, 2] := rfl
@[simp] theorem tkn_152 : tkn 152 = true := rfl
@[simp] theorem tagg_152 : tagg 152 = false := rfl
@[simp] theorem tsize_152 : tsize 152 = 1 := rfl
@[simp] theorem ttd_152 : ttd 152 = .fn := rfl
@[simp] theorem tbytes_152 : tbytes 152 = 8 := rfl
@[simp] theorem tzero_152 : tzero 152 = .nilf := rfl
@[simp] theorem tkn_153 : tkn 153 = true := rfl
@[simp] theorem tagg_153 : tagg 153 = false := rfl
@[simp] theorem tsize_153 : tsize 153 = 1 := rfl
@[simp] theorem ttd_153 : ttd 153 = .fn := rfl
@[simp] theorem tbytes_153 : tbytes 153 = 8 := rfl
@[simp] theorem tzero_153 : tzero 153 = .nilf := rfl
@[simp] theorem tkn_154 : tkn 154 = true := rfl
@[simp] theorem tagg_154 : tagg 154 = false := rfl
@[simp] theorem tsize_154 : tsize 154 = 1 := rfl
@[simp] theorem ttd_154 : ttd 154 = .fn := rfl
@[simp] theorem tbytes_154 : tbytes 154 = 8 := rfl
@[simp] theorem tzero_154 : tzero 154 = .nilf := rfl
@[simp] theorem tkn_155 : tkn 155 = true := rfl
@[simp] theorem tagg_155 : tagg 155 = false := rfl
@[simp] theorem tsize_155 : tsize 155 = 1 := rfl
@[simp] theorem ttd_155 : ttd 155 = .fn := rfl
@[simp] theorem tbytes_155 : tbytes 155 = 8 := rfl
@[simp] theorem tzero_155 : tzero 155 = .nilf := rfl
@[simp] theorem tkn_156 : tkn 156 = true := rfl
@[simp] theorem tagg_156 : tagg 156 = false := rfl
@[simp] theorem tsize_156 : tsize 156 = 1 := rfl
@[simp] theorem ttd_156 : ttd 156 = .fn := rfl
@[simp] theorem tbytes_156 : tbytes 156 = 8 := rfl
@[simp] theorem tzero_156 : tzero 156 = .nilf := rfl
@[simp] theorem tkn_157 : tkn 157 = true := rfl
@[simp] theorem tagg_157 : tagg 157 = false := rfl
@[simp] theorem tsize_157 : tsize 157 = 1 := rfl
@[simp] theorem ttd_157 : ttd 157 = .fn := rfl
@[simp] theorem tbytes_157 : tbytes 157 = 8 := rfl
@[simp] theorem tzero_157 : tzero 157 = .nilf := rfl
@[simp] theorem tkn_158 : tkn 158 = true := rfl
@[simp] theorem tagg_158 : tagg 158 = false := rfl
@[simp] theorem tsize_158 : tsize 158 = 1 := rfl
@[simp] theorem ttd_158 : ttd 158 = .fn := rfl
@[simp] theorem tbytes_158 : tbytes 158 = 8 := rfl
@[simp] theorem tzero_158 : tzero 158 = .nilf := rfl
@[simp] theorem tkn_159 : tkn 159 = true := rfl
@[simp] theorem tagg_159 : tagg 159 = false := rfl
@[simp] theorem tsize_159 : tsize 159 = 1 := rfl
@[simp] theorem ttd_159 : ttd 159 = .fn := rfl
@[simp] theorem tbytes_159 : tbytes 159 = 8 := rfl
@[simp] theorem tzero_159 : tzero 159 = .nilf := rfl
@[simp] theorem tkn_160 : tkn 160 = true := rfl
@[simp] theorem tagg_160 : tagg 160 = false := rfl
@[simp] theorem tsize_160 : tsize 160 = 1 := rfl
@[simp] theorem ttd_160 : ttd 160 = .fn := rfl
@[simp] theorem tbytes_160 : tbytes 160 = 8 := rfl
@[simp] theorem tzero_160 : tzero 160 = .nilf := rfl
@[simp] theorem tkn_161 : tkn 161 = true := rfl
@[simp] theorem tagg_161 : tagg 161 = false := rfl
@[simp] theorem tsize_161 : tsize 161 = 1 := rfl
@[simp] theorem ttd_161 : ttd 161 = .fn := rfl
@[simp] theorem tbytes_161 : tbytes 161 = 8 := rfl
@[simp] theorem tzero_161 : tzero 161 = .nilf := rfl
@[simp] theorem tkn_162 : tkn 162 = true := rfl
@[simp] theorem tagg_162 : tagg 162 = false := rfl
@[simp] theorem tsize_162 : tsize 162 = 1 := rfl
@[simp] theorem ttd_162 : ttd 162 = .fn := rfl
@[simp] theorem tbytes_162 : tbytes 162 = 8 := rfl
@[simp] theorem tzero_162 : tzero 162 = .nilf := rfl
@[simp] theorem tkn_163 : tkn 163 = true := rfl
@[simp] theorem tagg_163 : tagg 163 = true := rfl
@[simp] theorem tsize_163 : tsize 163 = 2 := rfl
@[simp] theorem ttd_163 : ttd 163 = .st := rfl
@[simp] theorem tbytes_163 : tbytes 163 = 16 := rfl
@[simp] theorem tzero_163 : tzero 163 = .agg 163 [.int .i64 0, .int .i64 0] := rfl
@[simp] theorem tlay_163 : tlay 163 = [2, 2] := rfl
@[simp] theorem tkn_164 : tkn 164 = true := rfl
@[simp] theorem tagg_164 : tagg 164 = true := rfl
@[simp] theorem tsize_164 : tsize 164 = 2 := rfl
@[simp] theorem ttd_164 : ttd 164 = .st := rfl
@[simp] theorem tbytes_164 : tbytes 164 = 16 := rfl
@[simp] theorem tzero_164 : tzero 164 = .agg 164 [.int .i64 0, .int .i64 0] := rfl
@[simp] theorem tlay_164 : tlay 164 = [2, 2] := rfl
@[simp] theorem tkn_165 : tkn 165 = true := rfl
@[simp] theorem tagg_165 : tagg 165 = false := rfl
@[simp] theorem tsize_165 : tsize 165 = 1 := rfl
@[simp] theorem ttd_165 : ttd 165 = .fn := rfl
@[simp] theorem tbytes_165 : tbytes 165 = 8 := rfl
@[simp] theorem tzero_165 : tzero 165 = .nilf := rfl
@[simp] theorem tkn_166 : tkn 166 = true := rfl
@[simp] theorem tagg_166 : tagg 166 = false := rfl
@[simp] theorem tsize_166 : tsize 166 = 1 := rfl
@[simp] theorem ttd_166 : ttd 166 = .fn := rfl
@[simp] theorem tbytes_166 : tbytes 166 = 8 := rfl
@[simp] theorem tzero_166 : tzero 166 = .nilf := rfl
@[simp] theorem tkn_167 : tkn 167 = true := rfl
@[simp] theorem tagg_167 : tagg 167 = false := rfl
@[simp] theorem tsize_167 : tsize 167 = 1 := rfl
@[simp] theorem ttd_167 : ttd 167 = .fn := rfl
@[simp] theorem tbytes_167 : tbytes 167 = 8 := rfl
@[simp] theorem tzero_167 : tzero 167 = .nilf := rfl
@[simp] theorem tkn_168 : tkn 168 = true := rfl
@[simp] theorem tagg_168 : tagg 168 = false := rfl
@[simp] theorem tsize_168 : tsize 168 = 1 := rfl
@[simp] theorem ttd_168 : ttd 168 = .fn := rfl
@[simp] theorem tbytes_168 : tbytes 168 = 8 := rfl
@[simp] theorem tzero_168 : tzero 168 = .nilf := rfl
@[simp] theorem tkn_169 : tkn 169 = true := rfl
@[simp] theorem tagg_169 : tagg 169 = false := rfl
@[simp] theorem tsize_169 : tsize 169 = 1 := rfl
@[simp] theorem ttd_169 : ttd 169 = .ptr 37 := rfl
@[simp] theorem tbytes_169 : tbytes 169 = 8 := rfl
@[simp] theorem tzero_169 : tzero 169 = .nilp := rfl
@[simp] theorem tkn_170 : tkn 170 = true := rfl
@[simp] theorem tagg_170 : tagg 170 = false := rfl
@[simp] theorem tsize_170 : tsize 170 = 1 := rfl
@[simp] theorem ttd_170 : ttd 170 = .fn := rfl
@[simp] theorem tbytes_170 : tbytes 170 = 8 := rfl
@[simp] theorem tzero_170 : tzero 170 = .nilf := rfl
@[simp] theorem tkn_171 : tkn 171 = true := rfl
@[simp] theorem tagg_171 : tagg 171 = false := rfl
@[simp] theorem tsize_171 : tsize 171 = 1 := rfl
@[simp] theorem ttd_171 : ttd 171 = .fn := rfl
@[simp] theorem tbytes_171 : tbytes 171 = 8 := rfl
@[simp] theorem tzero_171 : tzero 171 = .nilf := rfl
@[simp] theorem tkn_172 : tkn 172 = true := rfl
@[simp] theorem tagg_172 : tagg 172 = false := rfl
@[simp] theorem tsize_172 : tsize 172 = 1 := rfl
@[simp] theorem ttd_172 : ttd 172 = .fn := rfl
@[simp] theorem tbytes_172 : tbytes 172 = 8 := rfl
@[simp] theorem tzero_172 : tzero 172 = .nilf := rfl
@[simp] theorem tkn_173 : tkn 173 = true := rfl
@[simp] theorem tagg_173 : tagg 173 = false := rfl
@[simp] theorem tsize_173 : tsize 173 = 1 := rfl
@[simp] theorem ttd_173 : ttd 173 = .fn := rfl
@[simp] theorem tbytes_173 : tbytes 173 = 8 := rfl
@[simp] theorem tzero_173 : tzero 173 = .nilf := rfl
@[simp] theorem tkn_174 : tkn 174 = true := rfl
@[simp] theorem tagg_174 : tagg 174 = false := rfl
@[simp] theorem tsize_174 : tsize 174 = 1 := rfl
@[simp] theorem ttd_174 : ttd 174 = .fn := rfl
@[simp] theorem tbytes_174 : tbytes 174 = 8 := rfl
@[simp] theorem tzero_174 : tzero 174 = .nilf := rfl
@[simp] theorem tkn_175 : tkn 175 = true := rfl
@[simp] theorem tagg_175 : tagg 175 = false := rfl
@[simp] theorem tsize_175 : tsize 175 = 1 := rfl
@[simp] theorem ttd_175 : ttd 175 = .slice 164 := rfl
@[simp] theorem tbytes_175 : tbytes 175 = 24 := rfl
@[simp] theorem tzero_175 : tzero 175 = .nils := rfl
@[simp] theorem tkn_176 : tkn 176 = true := rfl
@[simp] theorem tagg_176 : tagg 176 = false := rfl
@[simp] theorem tsize_176 : tsize 176 = 1 := rfl
@[simp] theorem ttd_176 : ttd 176 = .fn := rfl
@[simp] theorem tbytes_176 : tbytes 176 = 8 := rfl
@[simp] theorem tzero_176 : tzero 176 = .nilf := rfl
@[simp] theorem tkn_177 : tkn 177 = true := rfl
@[simp] theorem tagg_177 : tagg 177 = false := rfl
@[simp] theorem tsize_177 : tsize 177 = 1 := rfl
@[simp] theorem ttd_177 : ttd 177 = .fn := rfl
@[simp] theorem tbytes_177 : tbytes 177 = 8 := rfl
@[simp] theorem tzero_177 : tzero 177 = .nilf := rfl
@[simp] theorem tkn_178 : tkn 178 = true := rfl
@[simp] theorem tagg_178 : tagg 178 = false := rfl
@[simp] theorem tsize_178 : tsize 178 = 1 := rfl
@[simp] theorem ttd_178 : ttd 178 = .fn := rfl
@[simp] theorem tbytes_178 : tbytes 178 = 8 := rfl
@[simp] theorem tzero_178 : tzero 178 = .nilf := rfl
@[simp] theorem tkn_179 : tkn 179 = true := rfl
@[simp] theorem tagg_179 : tagg 179 = false := rfl
@[simp] theorem tsize_179 : tsize 179 = 1 := rfl
@[simp] theorem ttd_179 : ttd 179 = .fn := rfl
@[simp] theorem tbytes_179 : tbytes 179 = 8 := rfl
@[simp] theorem tzero_179 : tzero 179 = .nilf := rfl
@[simp] theorem tkn_180 : tkn 180 = true := rfl
@[simp] theorem tagg_180 : tagg 180 = false := rfl
@[simp] theorem tsize_180 : tsize 180 = 1 := rfl
@[simp] theorem ttd_180 : ttd 180 = .fn := rfl
@[simp] theorem tbytes_180 : tbytes 180 = 8 := rfl
@[simp] theorem tzero_180 : tzero 180 = .nilf := rfl
@[simp] theorem tkn_181 : tkn 181 = true := rfl
@[simp] theorem tagg_181 : tagg 181 = false := rfl
@[simp] theorem tsize_181 : tsize 181 = 1 := rfl
@[simp] theorem ttd_181 : ttd 181 = .fn := rfl
@[simp] theorem tbytes_181 : tbytes 181 = 8 := rfl
@[simp] theorem tzero_181 : tzero 181 = .nilf := rfl
@[simp] theorem tkn_182 : tkn 182 = true := rfl
@[simp] theorem tagg_182 : tagg 182 = false := rfl
@[simp] theorem tsize_182 : tsize 182 = 1 := rfl
@[simp] theorem ttd_182 : ttd 182 = .int .u64 := rfl
@[simp] theorem tbytes_182 : tbytes 182 = 8 := rfl
@[simp] theorem tzero_182 : tzero 182 = .int .u64 0 := rfl
@[simp] theorem tkn_183 : tkn 183 = true := rfl
@[simp] theorem tagg_183 : tagg 183 = false := rfl
@[simp] theorem tsize_183 : tsize 183 = 1 := rfl
@[simp] theorem ttd_183 : ttd 183 = .fn := rfl
@[simp] theorem tbytes_183 : tbytes 183 = 8 := rfl
@[simp] theorem tzero_183 : tzero 183 = .nilf := rfl
@[simp] theorem tkn_184 : tkn 184 = true := rfl
@[simp] theorem tagg_184 : tagg 184 = false := rfl
@[simp] theorem tsize_184 : tsize 184 = 1 := rfl
@[simp] theorem ttd_184 : ttd 184 = .fn := rfl
@[simp] theorem tbytes_184 : tbytes 184 = 8 := rfl
@[simp] theorem tzero_184 : tzero 184 = .nilf := rfl
@[simp] theorem tkn_185 : tkn 185 = true := rfl
@[simp] theorem tagg_185 : tagg 185 = true := rfl
@[simp] theorem tsize_185 : tsize 185 = 4 := rfl
@[simp] theorem ttd_185 : ttd 185 = .st := rfl
@[simp] theorem tbytes_185 : tbytes 185 = 40 := rfl
@[simp] theorem tzero_185 : tzero 185 = .agg 185 [.nilp, .nilp, .nilp, .str ⟨#[]⟩] := rfl
@[simp] theorem tlay_185 : tlay 185 = [17, 17, 17, 9] := rfl
@[simp] theorem tkn_186 : tkn 186 = true := rfl
@[simp] theorem tagg_186 : tagg 186 = true := rfl
@[simp] theorem tsize_186 : tsize 186 = 4 := rfl
@[simp] theorem ttd_186 : ttd 186 = .st := rfl
@[simp] theorem tbytes_186 : tbytes 186 = 40 := rfl
@[simp] theorem tzero_186 : tzero 186 = .agg 186 [.nilp, .nilp, .nilp, .str ⟨#[]⟩] := rfl
@[simp] theorem tlay_186 : tlay 186 = [17, 17, 17, 9] := rfl
@[simp] theorem tkn_187 : tkn 187 = true := rfl
@[simp] theorem tagg_187 : tagg 187 = true := rfl
@[simp] theorem tsize_187 : tsize 187 = 0 := rfl
@[simp] theorem ttd_187 : ttd 187 = .arr 0 16 := rfl
@[simp] theorem tbytes_187 : tbytes 187 = 0 := rfl
@[simp] theorem tzero_187 : tzero 187 = .agg 187 (List.replicate 0 (.nilp)) := rfl
@[simp] theorem tlay_187 : tlay 187 = List.replicate 0 16 := rfl
@[simp] theorem tkn_190 : tkn 190 = true := rfl
@[simp] theorem tagg_190 : tagg 190 = false := rfl
@[simp] theorem tsize_190 : tsize 190 = 1 := rfl
@[simp] theorem ttd_190 : ttd 190 = .int .u32 := rfl
@[simp] theorem tbytes_190 : tbytes 190 = 4 := rfl
@[simp] theorem tzero_190 : tzero 190 = .int .u32 0 := rfl
@[simp] theorem tkn_191 : tkn 191 = true := rfl
@[simp] theorem tagg_191 : tagg 191 = false := rfl
@[simp] theorem tsize_191 : tsize 191 = 1 := rfl
@[simp] theorem ttd_191 : ttd 191 = .int .u8 := rfl
@[simp] theorem tbytes_191 : tbytes 191 = 1 := rfl
@[simp] theorem tzero_191 : tzero 191 = .int .u8 0 := rfl
@[simp] theorem tkn_192 : tkn 192 = true := rfl
@[simp] theorem tagg_192 : tagg 192 = false := rfl
@[simp] theorem tsize_192 : tsize 192 = 1 := rfl
@[simp] theorem ttd_192 : ttd 192 = .int .u8 := rfl
@[simp] theorem tbytes_192 : tbytes 192 = 1 := rfl
@[simp] theorem tzero_192 : tzero 192 = .int .u8 0 := rfl
@[simp] theorem tkn_193 : tkn 193 = true := rfl
@[simp] theorem tagg_193 : tagg 193 = false := rfl
@[simp] theorem tsize_193 : tsize 193 = 1 := rfl
@[simp] theorem ttd_193 : ttd 193 = .fn := rfl
@[simp] theorem tbytes_193 : tbytes 193 = 8 := rfl
@[simp] theorem tzero_193 : tzero 193 = .nilf := rfl
@[simp] theorem tkn_194 : tkn 194 = true := rfl
@[simp] theorem tagg_194 : tagg 194 = false := rfl
@[simp] theorem tsize_194 : tsize 194 = 1 := rfl
@[simp] theorem ttd_194 : ttd 194 = .ptr 5 := rfl
@[simp] theorem tbytes_194 : tbytes 194 = 8 := rfl
@[simp] theorem tzero_194 : tzero 194 = .nilp := rfl
@[simp] theorem tkn_195 : tkn 195 = true := rfl
@[simp] theorem tagg_195 : tagg 195 = false := rfl
@[simp] theorem tsize_195 : tsize 195 = 1 := rfl
@[simp] theorem ttd_195 : ttd 195 = .int .i32 := rfl
@[simp] theorem tbytes_195 : tbytes 195 = 4 := rfl
@[simp] theorem tzero_195 : tzero 195 = .int .i32 0 := rfl
@[simp] theorem tkn_196 : tkn 196 = true := rfl
@[simp] theorem tagg_196 : tagg 196 = false := rfl
@[simp] theorem tsize_196 : tsize 196 = 1 := rfl
@[simp] theorem ttd_196 : ttd 196 = .int .i32 := rfl
@[simp] theorem tbytes_196 : tbytes 196 = 4 := rfl
@[simp] theorem tzero_196 : tzero 196 = .int .i32 0 := rfl
@[simp] theorem tkn_197 : tkn 197 = true := rfl
@[simp] theorem tagg_197 : tagg 197 = true := rfl
@[simp] theorem tsize_197 : tsize 197 = 11 := rfl
@[simp] theorem ttd_197 : ttd 197 = .st := rfl
@[simp] theorem tbytes_197 : tbytes 197 = 48 := rfl
@[simp] theorem tzero_197 : tzero 197 = .agg 197 [.int .u64 0, .int .u64 0, .int .u32 0, .int .u8 0, .int .u8 0, .int .u8 0, .int .u8 0, .nilf, .nilp, .int .i32 0, .int .i32 0] := rfl
@[simp] theorem tlay_197 : tlay 197 = [12, 12, 190, 191, 5, 5, 192, 193, 194, 195, 196] := rfl
@[simp] theorem tkn_198 : tkn 198 = true := rfl
@[simp] theorem tagg_198 : tagg 198 = true := rfl
@[simp] theorem tsize_198 : tsize 198 = 11 := rfl
@[simp] theorem ttd_198 : ttd 198 = .st := rfl
@[simp] theorem tbytes_198 : tbytes 198 = 48 := rfl
@[simp] theorem tzero_198 : tzero 198 = .agg 198 [.int .u64 0, .int .u64 0, .int .u32 0, .int .u8 0, .int .u8 0, .int .u8 0, .int .u8 0, .nilf, .nilp, .int .i32 0, .int .i32 0] := rfl
@[simp] theorem tlay_198 : tlay 198 = [12, 12, 190, 191, 5, 5, 192, 193, 194, 195, 196] := rfl
def tfs : List Nat := [2, 3, 4, 5, 6, 7, 8, 9, 10, 11, 12, 13, 14, 15, 16, 17, 18, 19, 20, 21, 22, 23, 24, 25, 26, 27, 28, 29, 30, 31, 32, 33, 34, 35, 36, 37, 38, 39, 40, 41, 42, 43, 44, 45, 46, 47, 48, 49, 50, 51, 52, 53, 54, 55, 56, 57, 58, 59, 60, 61, 62, 63, 64, 65, 66, 67, 68, 69, 70, 71, 72, 73, 74, 75, 76, 77, 78, 79, 80, 81, 82, 83, 84, 85, 86, 87, 88, 89, 90, 91, 92, 93, 94, 95, 96, 97, 98, 99, 100, 101, 102, 103, 104, 105, 106, 107, 108, 109, 110, 111, 112, 113, 114, 115, 116, 117, 118, 119, 120, 121, 122, 123, 124, 125, 126, 127, 128, 129, 130, 131, 132, 133, 134, 135, 136, 137, 138, 139, 140, 141, 142, 143, 144, 145, 146, 147, 148, 149, 150, 151, 152, 153, 154, 155, 156, 157, 158, 159, 160, 161, 162, 163, 164, 165, 166, 167, 168, 169, 170, 171, 172, 173, 174, 175]
noncomputable def tE : Env := { P := Tryz.prog, kn := tkn, td := ttd, agg := tagg, lay := tlay, size := tsize, bytes := tbytes, zero := tzero, fk := fun f => tfs.contains f }
@[simp] theorem tE_kn (T : Nat) : tE.kn T = tkn T := rfl
@[simp] theorem tE_td (T : Nat) : tE.td T = ttd T := rfl
@[simp] theorem tE_agg (T : Nat) : tE.agg T = tagg T := rfl
@[simp] theorem tE_lay (T : Nat) : tE.lay T = tlay T := rfl
@[simp] theorem tE_size (T : Nat) : tE.size T = tsize T := rfl
@[simp] theorem tE_bytes (T : Nat) : tE.bytes T = tbytes T := rfl
@[simp] theorem tE_zero (T : Nat) : tE.zero T = tzero T := rfl
@[simp] theorem tE_P : tE.P = Tryz.prog := rfl
@[simp] theorem tfk_2 : tE.fk 2 = true := rfl
@[simp] theorem tfk_3 : tE.fk 3 = true := rfl
@[simp] theorem tfk_4 : tE.fk 4 = true := rfl
@[simp] theorem tfk_5 : tE.fk 5 = true := rfl
@[simp] theorem tfk_6 : tE.fk 6 = true := rfl
@[simp] theorem tfk_7 : tE.fk 7 = true := rfl
@[simp] theorem tfk_8 : tE.fk 8 = true := rfl
@[simp] theorem tfk_9 : tE.fk 9 = true := rfl
@[simp] theorem tfk_10 : tE.fk 10 = true := rfl
@[simp] theorem tfk_11 : tE.fk 11 = true := rfl
@[simp] theorem tfk_12 : tE.fk 12 = true := rfl
@[simp] theorem tfk_13 : tE.fk 13 = true := rfl
@[simp] theorem tfk_14 : tE.fk 14 = true := rfl
@[simp] theorem tfk_15 : tE.fk 15 = true := rfl
@[simp] theorem tfk_16 : tE.fk 16 = true := rfl
@[simp] theorem tfk_17 : tE.fk 17 = true := rfl
@[simp] theorem tfk_18 : tE.fk 18 = true := rfl
@[simp] theorem tfk_19 : tE.fk 19 = true := rfl
@[simp] theorem tfk_20 : tE.fk 20 = true := rfl
@[simp] theorem tfk_21 : tE.fk 21 = true := rfl
@[simp] theorem tfk_22 : tE.fk 22 = true := rfl
@[simp] theorem tfk_23 : tE.fk 23 = true := rfl
@[simp] theorem tfk_24 : tE.fk 24 = true := rfl
@[simp] theorem tfk_25 : tE.fk 25 = true := rfl
@[simp] theorem tfk_26 : tE.fk 26 = true := rfl
@[simp] theorem tfk_27 : tE.fk 27 = true := rfl
@[simp] theorem tfk_28 : tE.fk 28 = true := rfl
@[simp] theorem tfk_29 : tE.fk 29 = true := rfl
@[simp] theorem tfk_30 : tE.fk 30 = true := rfl
@[simp] theorem tfk_31 : tE.fk 31 = true := rfl
@[simp] theorem tfk_32 : tE.fk 32 = true := rfl
@[simp] theorem tfk_33 : tE.fk 33 = true := rfl
@[simp] theorem tfk_34 : tE.fk 34 = true := rfl
@[simp] theorem tfk_35 : tE.fk 35 = true := rfl
@[simp] theorem tfk_36 : tE.fk 36 = true := rfl
@[simp] theorem tfk_37 : tE.fk 37 = true := rfl
@[simp] theorem tfk_38 : tE.fk 38 = true := rfl
@[simp] theorem tfk_39 : tE.fk 39 = true := rfl
@[simp] theorem tfk_40 : tE.fk 40 = true := rfl
@[simp] theorem tfk_41 : tE.fk 41 = true := rfl
@[simp] theorem tfk_42 : tE.fk 42 = true := rfl
@[simp] theorem tfk_43 : tE.fk 43 = true := rfl
@[simp] theorem tfk_44 : tE.fk 44 = true := rfl
@[simp] theorem tfk_45 : tE.fk 45 = true := rfl
@[simp] theorem tfk_46 : tE.fk 46 = true := rfl
@[simp] theorem tfk_47 : tE.fk 47 = true := rfl
@[simp] theorem tfk_48 : tE.fk 48 = true := rfl
@[simp] theorem tfk_49 : tE.fk 49 = true := rfl
@[simp] theorem tfk_50 : tE.fk 50 = true := rfl
@[simp] theorem tfk_51 : tE.fk 51 = true := rfl
@[simp] theorem tfk_52 : tE.fk 52 = true := rfl
@[simp] theorem tfk_53 : tE.fk 53 = true := rfl
@[simp] theorem tfk_54 : tE.fk 54 = true := rfl
@[simp] theorem tfk_55 : tE.fk 55 = true := rfl
@[simp] theorem tfk_56 : tE.fk 56 = true := rfl
@[simp] theorem tfk_57 : tE.fk 57 = true := rfl
@[simp] theorem tfk_58 : tE.fk 58 = true := rfl
@[simp] theorem tfk_59 : tE.fk 59 = true := rfl
@[simp] theorem tfk_60 : tE.fk 60 = true := rfl
@[simp] theorem tfk_61 : tE.fk 61 = true := rfl
@[simp] theorem tfk_62 : tE.fk 62 = true := rfl
@[simp] theorem tfk_63 : tE.fk 63 = true := rfl
@[simp] theorem tfk_64 : tE.fk 64 = true := rfl
@[simp] theorem tfk_65 : tE.fk 65 = true := rfl
@[simp] theorem tfk_66 : tE.fk 66 = true := rfl
@[simp] theorem tfk_67 : tE.fk 67 = true := rfl
@[simp] theorem tfk_68 : tE.fk 68 = true := rfl
@[simp] theorem tfk_69 : tE.fk 69 = true := rfl
@[simp] theorem tfk_70 : tE.fk 70 = true := rfl
@[simp] theorem tfk_71 : tE.fk 71 = true := rfl
@[simp] theorem tfk_72 : tE.fk 72 = true := rfl
@[simp] theorem tfk_73 : tE.fk 73 = true := rfl
@[simp] theorem tfk_74 : tE.fk 74 = true := rfl
@[simp] theorem tfk_75 : tE.fk 75 = true := rfl
@[simp] theorem tfk_76 : tE.fk 76 = true := rfl
@[simp] theorem tfk_77 : tE.fk 77 = true := rfl
@[simp] theorem tfk_78 : tE.fk 78 = true := rfl
@[simp] theorem tfk_79 : tE.fk 79 = true := rfl
@[simp] theorem tfk_80 : tE.fk 80 = true := rfl
@[simp] theorem tfk_81 : tE.fk 81 = true := rfl
@[simp] theorem tfk_82 : tE.fk 82 = true := rfl
@[simp] theorem tfk_83 : tE.fk 83 = true := rfl
@[simp] theorem tfk_84 : tE.fk 84 = true := rfl
@[simp] theorem tfk_85 : tE.fk 85 = true := rfl
@[simp] theorem tfk_86 : tE.fk 86 = true := rfl
@[simp] theorem tfk_87 : tE.fk 87 = true := rfl
@[simp] theorem tfk_88 : tE.fk 88 = true := rfl
@[simp] theorem tfk_89 : tE.fk 89 = true := rfl
@[simp] theorem tfk_90 : tE.fk 90 = true := rfl
@[simp] theorem tfk_91 : tE.fk 91 = true := rfl
@[simp] theorem tfk_92 : tE.fk 92 = true := rfl
@[simp] theorem tfk_93 : tE.fk 93 = true := rfl
@[simp] theorem tfk_94 : tE.fk 94 = true := rfl
@[simp] theorem tfk_95 : tE.fk 95 = true := rfl
@[simp] theorem tfk_96 : tE.fk 96 = true := rfl
@[simp] theorem tfk_97 : tE.fk 97 = true := rfl
@[simp] theorem tfk_98 : tE.fk 98 = true := rfl
@[simp] theorem tfk_99 : tE.fk 99 = true := rfl
@[simp] theorem tfk_100 : tE.fk 100 = true := rfl
@[simp] theorem tfk_101 : tE.fk 101 = true := rfl
@[simp] theorem tfk_102 : tE.fk 102 = true := rfl
@[simp] theorem tfk_103 : tE.fk 103 = true := rfl
@[simp] theorem tfk_104 : tE.fk 104 = true := rfl
@[simp] theorem tfk_105 : tE.fk 105 = true := rfl
@[simp] theorem tfk_106 : tE.fk 106 = true := rfl
@[simp] theorem tfk_107 : tE.fk 107 = true := rfl
@[simp] theorem tfk_108 : tE.fk 108 = true := rfl
@[simp] theorem tfk_109 : tE.fk 109 = true := rfl
@[simp] theorem tfk_110 : tE.fk 110 = true := rfl
@[simp] theorem tfk_111 : tE.fk 111 = true := rfl
@[simp] theorem tfk_112 : tE.fk 112 = true := rfl
@[simp] theorem tfk_113 : tE.fk 113 = true := rfl
@[simp] theorem tfk_114 : tE.fk 114 = true := rfl
@[simp] theorem tfk_115 : tE.fk 115 = true := rfl
@[simp] theorem tfk_116 : tE.fk 116 = true := rfl
@[simp] theorem tfk_117 : tE.fk 117 = true := rfl
@[simp] theorem tfk_118 : tE.fk 118 = true := rfl
@[simp] theorem tfk_119 : tE.fk 119 = true := rfl
@[simp] theorem tfk_120 : tE.fk 120 = true := rfl
@[simp] theorem tfk_121 : tE.fk 121 = true := rfl
@[simp] theorem tfk_122 : tE.fk 122 = true := rfl
@[simp] theorem tfk_123 : tE.fk 123 = true := rfl
@[simp] theorem tfk_124 : tE.fk 124 = true := rfl
@[simp] theorem tfk_125 : tE.fk 125 = true := rfl
@[simp] theorem tfk_126 : tE.fk 126 = true := rfl
@[simp] theorem tfk_127 : tE.fk 127 = true := rfl
@[simp] theorem tfk_128 : tE.fk 128 = true := rfl
@[simp] theorem tfk_129 : tE.fk 129 = true := rfl
@[simp] theorem tfk_130 : tE.fk 130 = true := rfl
@[simp] theorem tfk_131 : tE.fk 131 = true := rfl
@[simp] theorem tfk_132 : tE.fk 132 = true := rfl
@[simp] theorem tfk_133 : tE.fk 133 = true := rfl
@[simp] theorem tfk_134 : tE.fk 134 = true := rfl
@[simp] theorem tfk_135 : tE.fk 135 = true := rfl
@[simp] theorem tfk_136 : tE.fk 136 = true := rfl
@[simp] theorem tfk_137 : tE.fk 137 = true := rfl
@[simp] theorem tfk_138 : tE.fk 138 = true := rfl
@[simp] theorem tfk_139 : tE.fk 139 = true := rfl
@[simp] theorem tfk_140 : tE.fk 140 = true := rfl
@[simp] theorem tfk_141 : tE.fk 141 = true := rfl
@[simp] theorem tfk_142 : tE.fk 142 = true := rfl
@[simp] theorem tfk_143 : tE.fk 143 = true := rfl
@[simp] theorem tfk_144 : tE.fk 144 = true := rfl
@[simp] theorem tfk_145 : tE.fk 145 = true := rfl
@[simp] theorem tfk_146 : tE.fk 146 = true := rfl
@[simp] theorem tfk_147 : tE.fk 147 = true := rfl
@[simp] theorem tfk_148 : tE.fk 148 = true := rfl
@[simp] theorem tfk_149 : tE.fk 149 = true := rfl
@[simp] theorem tfk_150 : tE.fk 150 = true := rfl
@[simp] theorem tfk_151 : tE.fk 151 = true := rfl
@[simp] theorem tfk_152 : tE.fk 152 = true := rfl
@[simp] theorem tfk_153 : tE.fk 153 = true := rfl
@[simp] theorem tfk_154 : tE.fk 154 = true := rfl
@[simp] theorem tfk_155 : tE.fk 155 = true := rfl
@[simp] theorem tfk_156 : tE.fk 156 = true := rfl
@[simp] theorem tfk_157 : tE.fk 157 = true := rfl
@[simp] theorem tfk_158 : tE.fk 158 = true := rfl
@[simp] theorem tfk_159 : tE.fk 159 = true := rfl
@[simp] theorem tfk_160 : tE.fk 160 = true := rfl
@[simp] theorem tfk_161 : tE.fk 161 = true := rfl
@[simp] theorem tfk_162 : tE.fk 162 = true := rfl
@[simp] theorem tfk_163 : tE.fk 163 = true := rfl
@[simp] theorem tfk_164 : tE.fk 164 = true := rfl
@[simp] theorem tfk_165 : tE.fk 165 = true := rfl
@[simp] theorem tfk_166 : tE.fk 166 = true := rfl
@[simp] theorem tfk_167 : tE.fk 167 = true := rfl
@[simp] theorem tfk_168 : tE.fk 168 = true := rfl
@[simp] theorem tfk_169 : tE.fk 169 = true := rfl
@[simp] theorem tfk_170 : tE.fk 170 = true := rfl
@[simp] theorem tfk_171 : tE.fk 171 = true := rfl
@[simp] theorem tfk_172 : tE.fk 172 = true := rfl
@[simp] theorem tfk_173 : tE.fk 173 = true := rfl
@[simp] theorem tfk_174 : tE.fk 174 = true := rfl
@[simp] theorem tfk_175 : tE.fk 175 = true := rfl
theorem tfine_all : (taggs.all fun T => tsize T == ((tlay T).map tsize).sum) = true := by kernel_rfl
theorem tFine : tE.Fine where
  scalar T h := by
    have h : tagg T = false := h
    show tsize T = 1
    simp [tsize, h]
  aggr T h := by
    have h : taggs.contains T = true := h
    exact eq_of_beq (List.all_eq_true.1 tfine_all T (by simpa using h))
theorem tchk_all : tts.all (tchk tE) = true := by kernel_rfl
theorem fchk_all : tfs.all (fchk tE) = true := by kernel_rfl
theorem tOK : tE.OK := Env.ok_of_check tFine tts tfs (fun T h => by
    have h : tts.contains T = true := h
    simpa using h) (fun f h => by
    have h : tfs.contains f = true := h
    simpa using h) tchk_all fchk_all
@[simp] theorem teq_26 : eqOK tE 26 = true := by kernel_rfl
@[simp] theorem teq_32 : eqOK tE 32 = true := by kernel_rfl
@[simp] theorem teq_34 : eqOK tE 34 = true := by kernel_rfl
@[simp] theorem teq_71 : eqOK tE 71 = true := by kernel_rfl
@[simp] theorem teq_73 : eqOK tE 73 = true := by kernel_rfl
@[simp] theorem teq_93 : eqOK tE 93 = true := by kernel_rfl
@[simp] theorem teq_147 : eqOK tE 147 = true := by kernel_rfl
@[simp] theorem teq_164 : eqOK tE 164 = true := by kernel_rfl
end Go.Proofs.YtncbfppafgjdiaaGreat
