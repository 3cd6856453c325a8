/- The table of types and functions of this translation. Printed by gen_env.py. -/
import Derived.Test.YtdplbgfokoajjaaGreatXb
import Derived.Test.YtdplbgfokoajjaaGreatProg
import Derived.KernelRfl
set_option linter.unusedVariables false
set_option linter.unusedSimpArgs false
set_option maxRecDepth 100000
namespace Go.Proofs.YtdplbgfokoajjaaGreat
open Go
def tts : List Nat := [1, 2, 3, 4, 5, 6, 7, 8, 9, 10, 11, 12, 13, 14, 15, 16, 17, 18, 19, 20, 21, 22, 23, 24, 25, 26, 27, 28, 29, 30, 31, 32, 33, 34, 35, 36, 37, 38, 40, 41, 42, 43, 44, 45, 46, 47, 48, 49, 50, 51, 52, 53, 54, 55, 56, 57, 58, 59, 60, 61, 62, 64, 65, 66, 67, 68, 69, 70, 71, 72, 73, 74, 75, 76, 77, 78, 79, 80, 81, 82, 83, 84, 85, 86, 88, 89, 90, 91, 92, 93, 94, 95, 96, 97, 98, 99, 100, 101, 102, 103, 104, 105, 106, 107, 108, 109, 110, 111, 112, 113, 114, 115, 117, 118, 119, 120, 122, 123, 124, 125, 126, 127, 128, 129, 130, 131, 132, 134, 135, 136, 137, 138, 141, 142, 143, 144, 145, 146, 147, 148]
def taggs : List Nat := [7, 8, 13, 14, 18, 19, 34, 35, 53, 54, 56, 57, 71, 72, 73, 74, 111, 136, 137, 138, 147, 148]
def tkn (T : Nat) : Bool := tts.contains T
def tagg (T : Nat) : Bool := taggs.contains T
def ttd : Nat → TD
  | 1 => .fn
  | 2 => .int .i64
  | 3 => .int .i64
  | 4 => .bool
  | 5 => .int .u8
  | 6 => .int .u8
  | 7 => .st
  | 8 => .st
  | 9 => .str
  | 10 => .str
  | 11 => .str
  | 12 => .int .u64
  | 13 => .st
  | 14 => .st
  | 15 => .ptr 137
  | 16 => .ptr 140
  | 17 => .ptr 148
  | 18 => .st
  | 19 => .st
  | 20 => .ifc
  | 21 => .int .i32
  | 22 => .slice 35
  | 23 => .slice 2
  | 24 => .fn
  | 25 => .ptr 54
  | 26 => .fn
  | 27 => .ptr 57
  | 28 => .fn
  | 29 => .fn
  | 30 => .int .i64
  | 31 => .fn
  | 32 => .slice 5
  | 33 => .slice 3
  | 34 => .st
  | 35 => .st
  | 36 => .fn
  | 37 => .fn
  | 38 => .fn
  | 40 => .fn
  | 41 => .fn
  | 42 => .fn
  | 43 => .fn
  | 44 => .slice 9
  | 45 => .fn
  | 46 => .fn
  | 47 => .fn
  | 48 => .fn
  | 49 => .fn
  | 50 => .fn
  | 51 => .fn
  | 52 => .map 9 72
  | 53 => .st
  | 54 => .st
  | 55 => .slice 74
  | 56 => .st
  | 57 => .st
  | 58 => .fn
  | 59 => .fn
  | 60 => .fn
  | 61 => .fn
  | 62 => .fn
  | 64 => .fn
  | 65 => .fn
  | 66 => .fn
  | 67 => .fn
  | 68 => .fn
  | 69 => .fn
  | 70 => .fn
  | 71 => .st
  | 72 => .st
  | 73 => .st
  | 74 => .st
  | 75 => .fn
  | 76 => .int .u32
  | 77 => .fn
  | 78 => .fn
  | 79 => .fn
  | 80 => .fn
  | 81 => .fn
  | 82 => .int .u64
  | 83 => .fn
  | 84 => .fn
  | 85 => .fn
  | 86 => .fn
  | 88 => .fn
  | 89 => .fn
  | 90 => .fn
  | 91 => .fn
  | 92 => .fn
  | 93 => .fn
  | 94 => .fn
  | 95 => .slice 66
  | 96 => .fn
  | 97 => .int .u64
  | 98 => .fn
  | 99 => .fn
  | 100 => .fn
  | 101 => .fn
  | 102 => .fn
  | 103 => .fn
  | 104 => .slice 32
  | 105 => .fn
  | 106 => .fn
  | 107 => .fn
  | 108 => .fn
  | 109 => .fn
  | 110 => .fn
  | 111 => .arr 256 76
  | 112 => .fn
  | 113 => .fn
  | 114 => .fn
  | 115 => .int .i64
  | 117 => .fn
  | 118 => .fn
  | 119 => .fn
  | 120 => .fn
  | 122 => .fn
  | 123 => .fn
  | 124 => .fn
  | 125 => .fn
  | 126 => .int .u64
  | 127 => .fn
  | 128 => .fn
  | 129 => .fn
  | 130 => .ptr 3
  | 131 => .fn
  | 132 => .ptr 126
  | 134 => .fn
  | 135 => .fn
  | 136 => .st
  | 137 => .st
  | 138 => .arr 0 16
  | 141 => .int .u8
  | 142 => .int .u8
  | 143 => .fn
  | 144 => .ptr 5
  | 145 => .int .i32
  | 146 => .int .i32
  | 147 => .st
  | 148 => .st
  | _ => .other
def tlay : Nat → List TypeId
  | 7 => [2, 3, 4, 6]
  | 8 => [2, 3, 4, 6]
  | 13 => [9, 12]
  | 14 => [9, 12]
  | 18 => [17]
  | 19 => [17]
  | 34 => [3, 9, 9, 32, 3, 33]
  | 35 => [3, 9, 9, 32, 3, 33]
  | 53 => [3, 52, 3, 3]
  | 54 => [3, 52, 3, 3]
  | 56 => [3, 55, 3, 3]
  | 57 => [3, 55, 3, 3]
  | 71 => [32, 3]
  | 72 => [32, 3]
  | 73 => [9, 32, 3]
  | 74 => [9, 32, 3]
  | 111 => List.replicate 256 76
  | 136 => [17, 17, 17, 9]
  | 137 => [17, 17, 17, 9]
  | 138 => List.replicate 0 16
  | 147 => [12, 12, 76, 141, 5, 5, 142, 143, 144, 145, 146]
  | 148 => [12, 12, 76, 141, 5, 5, 142, 143, 144, 145, 146]
  | _ => []
def tsizeA : Nat → Nat
  | 7 => 4
  | 8 => 4
  | 13 => 2
  | 14 => 2
  | 18 => 1
  | 19 => 1
  | 34 => 6
  | 35 => 6
  | 53 => 4
  | 54 => 4
  | 56 => 4
  | 57 => 4
  | 71 => 2
  | 72 => 2
  | 73 => 3
  | 74 => 3
  | 111 => 256
  | 136 => 4
  | 137 => 4
  | 138 => 0
  | 147 => 11
  | 148 => 11
  | _ => 0
def tsize (T : Nat) : Nat := if tagg T then tsizeA T else 1
def tbytes : Nat → Nat
  | 1 => 8
  | 2 => 8
  | 3 => 8
  | 4 => 1
  | 5 => 1
  | 6 => 1
  | 7 => 24
  | 8 => 24
  | 9 => 16
  | 10 => 16
  | 11 => 16
  | 12 => 8
  | 13 => 24
  | 14 => 24
  | 15 => 8
  | 16 => 8
  | 17 => 8
  | 18 => 8
  | 19 => 8
  | 20 => 16
  | 21 => 4
  | 22 => 24
  | 23 => 24
  | 24 => 8
  | 25 => 8
  | 26 => 8
  | 27 => 8
  | 28 => 8
  | 29 => 8
  | 30 => 8
  | 31 => 8
  | 32 => 24
  | 33 => 24
  | 34 => 96
  | 35 => 96
  | 36 => 8
  | 37 => 8
  | 38 => 8
  | 40 => 8
  | 41 => 8
  | 42 => 8
  | 43 => 8
  | 44 => 24
  | 45 => 8
  | 46 => 8
  | 47 => 8
  | 48 => 8
  | 49 => 8
  | 50 => 8
  | 51 => 8
  | 52 => 8
  | 53 => 32
  | 54 => 32
  | 55 => 24
  | 56 => 48
  | 57 => 48
  | 58 => 8
  | 59 => 8
  | 60 => 8
  | 61 => 8
  | 62 => 8
  | 64 => 8
  | 65 => 8
  | 66 => 8
  | 67 => 8
  | 68 => 8
  | 69 => 8
  | 70 => 8
  | 71 => 32
  | 72 => 32
  | 73 => 48
  | 74 => 48
  | 75 => 8
  | 76 => 4
  | 77 => 8
  | 78 => 8
  | 79 => 8
  | 80 => 8
  | 81 => 8
  | 82 => 8
  | 83 => 8
  | 84 => 8
  | 85 => 8
  | 86 => 8
  | 88 => 8
  | 89 => 8
  | 90 => 8
  | 91 => 8
  | 92 => 8
  | 93 => 8
  | 94 => 8
  | 95 => 24
  | 96 => 8
  | 97 => 8
  | 98 => 8
  | 99 => 8
  | 100 => 8
  | 101 => 8
  | 102 => 8
  | 103 => 8
  | 104 => 24
  | 105 => 8
  | 106 => 8
  | 107 => 8
  | 108 => 8
  | 109 => 8
  | 110 => 8
  | 111 => 1024
  | 112 => 8
  | 113 => 8
  | 114 => 8
  | 115 => 8
  | 117 => 8
  | 118 => 8
  | 119 => 8
  | 120 => 8
  | 122 => 8
  | 123 => 8
  | 124 => 8
  | 125 => 8
  | 126 => 8
  | 127 => 8
  | 128 => 8
  | 129 => 8
  | 130 => 8
  | 131 => 8
  | 132 => 8
  | 134 => 8
  | 135 => 8
  | 136 => 40
  | 137 => 40
  | 138 => 0
  | 141 => 1
  | 142 => 1
  | 143 => 8
  | 144 => 8
  | 145 => 4
  | 146 => 4
  | 147 => 48
  | 148 => 48
  | _ => 0
def tzero : Nat → PV
  | 1 => .nilf
  | 2 => .int .i64 0
  | 3 => .int .i64 0
  | 4 => .bool false
  | 5 => .int .u8 0
  | 6 => .int .u8 0
  | 7 => .agg 7 [.int .i64 0, .int .i64 0, .bool false, .int .u8 0]
  | 8 => .agg 8 [.int .i64 0, .int .i64 0, .bool false, .int .u8 0]
  | 9 => .str ⟨#[]⟩
  | 10 => .str ⟨#[]⟩
  | 11 => .str ⟨#[]⟩
  | 12 => .int .u64 0
  | 13 => .agg 13 [.str ⟨#[]⟩, .int .u64 0]
  | 14 => .agg 14 [.str ⟨#[]⟩, .int .u64 0]
  | 15 => .nilp
  | 16 => .nilp
  | 17 => .nilp
  | 18 => .agg 18 [.nilp]
  | 19 => .agg 19 [.nilp]
  | 20 => .nili
  | 21 => .int .i32 0
  | 22 => .nils
  | 23 => .nils
  | 24 => .nilf
  | 25 => .nilp
  | 26 => .nilf
  | 27 => .nilp
  | 28 => .nilf
  | 29 => .nilf
  | 30 => .int .i64 0
  | 31 => .nilf
  | 32 => .nils
  | 33 => .nils
  | 34 => .agg 34 [.int .i64 0, .str ⟨#[]⟩, .str ⟨#[]⟩, .nils, .int .i64 0, .nils]
  | 35 => .agg 35 [.int .i64 0, .str ⟨#[]⟩, .str ⟨#[]⟩, .nils, .int .i64 0, .nils]
  | 36 => .nilf
  | 37 => .nilf
  | 38 => .nilf
  | 40 => .nilf
  | 41 => .nilf
  | 42 => .nilf
  | 43 => .nilf
  | 44 => .nils
  | 45 => .nilf
  | 46 => .nilf
  | 47 => .nilf
  | 48 => .nilf
  | 49 => .nilf
  | 50 => .nilf
  | 51 => .nilf
  | 52 => .nilm
  | 53 => .agg 53 [.int .i64 0, .nilm, .int .i64 0, .int .i64 0]
  | 54 => .agg 54 [.int .i64 0, .nilm, .int .i64 0, .int .i64 0]
  | 55 => .nils
  | 56 => .agg 56 [.int .i64 0, .nils, .int .i64 0, .int .i64 0]
  | 57 => .agg 57 [.int .i64 0, .nils, .int .i64 0, .int .i64 0]
  | 58 => .nilf
  | 59 => .nilf
  | 60 => .nilf
  | 61 => .nilf
  | 62 => .nilf
  | 64 => .nilf
  | 65 => .nilf
  | 66 => .nilf
  | 67 => .nilf
  | 68 => .nilf
  | 69 => .nilf
  | 70 => .nilf
  | 71 => .agg 71 [.nils, .int .i64 0]
  | 72 => .agg 72 [.nils, .int .i64 0]
  | 73 => .agg 73 [.str ⟨#[]⟩, .nils, .int .i64 0]
  | 74 => .agg 74 [.str ⟨#[]⟩, .nils, .int .i64 0]
  | 75 => .nilf
  | 76 => .int .u32 0
  | 77 => .nilf
  | 78 => .nilf
  | 79 => .nilf
  | 80 => .nilf
  | 81 => .nilf
  | 82 => .int .u64 0
  | 83 => .nilf
  | 84 => .nilf
  | 85 => .nilf
  | 86 => .nilf
  | 88 => .nilf
  | 89 => .nilf
  | 90 => .nilf
  | 91 => .nilf
  | 92 => .nilf
  | 93 => .nilf
  | 94 => .nilf
  | 95 => .nils
  | 96 => .nilf
  | 97 => .int .u64 0
  | 98 => .nilf
  | 99 => .nilf
  | 100 => .nilf
  | 101 => .nilf
  | 102 => .nilf
  | 103 => .nilf
  | 104 => .nils
  | 105 => .nilf
  | 106 => .nilf
  | 107 => .nilf
  | 108 => .nilf
  | 109 => .nilf
  | 110 => .nilf
  | 111 => .agg 111 (List.replicate 256 (.int .u32 0))
  | 112 => .nilf
  | 113 => .nilf
  | 114 => .nilf
  | 115 => .int .i64 0
  | 117 => .nilf
  | 118 => .nilf
  | 119 => .nilf
  | 120 => .nilf
  | 122 => .nilf
  | 123 => .nilf
  | 124 => .nilf
  | 125 => .nilf
  | 126 => .int .u64 0
  | 127 => .nilf
  | 128 => .nilf
  | 129 => .nilf
  | 130 => .nilp
  | 131 => .nilf
  | 132 => .nilp
  | 134 => .nilf
  | 135 => .nilf
  | 136 => .agg 136 [.nilp, .nilp, .nilp, .str ⟨#[]⟩]
  | 137 => .agg 137 [.nilp, .nilp, .nilp, .str ⟨#[]⟩]
  | 138 => .agg 138 (List.replicate 0 (.nilp))
  | 141 => .int .u8 0
  | 142 => .int .u8 0
  | 143 => .nilf
  | 144 => .nilp
  | 145 => .int .i32 0
  | 146 => .int .i32 0
  | 147 => .agg 147 [.int .u64 0, .int .u64 0, .int .u32 0, .int .u8 0, .int .u8 0, .int .u8 0, .int .u8 0, .nilf, .nilp, .int .i32 0, .int .i32 0]
  | 148 => .agg 148 [.int .u64 0, .int .u64 0, .int .u32 0, .int .u8 0, .int .u8 0, .int .u8 0, .int .u8 0, .nilf, .nilp, .int .i32 0, .int .i32 0]
  | _ => .nilp
@[simp] theorem tkn_1 : tkn 1 = true := rfl
@[simp] theorem tagg_1 : tagg 1 = false := rfl
@[simp] theorem tsize_1 : tsize 1 = 1 := rfl
@[simp] theorem ttd_1 : ttd 1 = .fn := rfl
@[simp] theorem tbytes_1 : tbytes 1 = 8 := rfl
@[simp] theorem tzero_1 : tzero 1 = .nilf := rfl
@[simp] theorem tkn_2 : tkn 2 = true := rfl
@[simp] theorem tagg_2 : tagg 2 = false := rfl
@[simp] theorem tsize_2 : tsize 2 = 1 := rfl
@[simp] theorem ttd_2 : ttd 2 = .int .i64 := rfl
@[simp] theorem tbytes_2 : tbytes 2 = 8 := rfl
@[simp] theorem tzero_2 : tzero 2 = .int .i64 0 := rfl
@[simp] theorem tkn_3 : tkn 3 = true := rfl
@[simp] theorem tagg_3 : tagg 3 = false := rfl
@[simp] theorem tsize_3 : tsize 3 = 1 := rfl
@[simp] theorem ttd_3 : ttd 3 = .int .i64 := rfl
@[simp] theorem tbytes_3 : tbytes 3 = 8 := rfl
@[simp] theorem tzero_3 : tzero 3 = .int .i64 0 := rfl
@[simp] theorem tkn_4 : tkn 4 = true := rfl
@[simp] theorem tagg_4 : tagg 4 = false := rfl
@[simp] theorem tsize_4 : tsize 4 = 1 := rfl
@[simp] theorem ttd_4 : ttd 4 = .bool := rfl
@[simp] theorem tbytes_4 : tbytes 4 = 1 := rfl
@[simp] theorem tzero_4 : tzero 4 = .bool false := rfl
@[simp] theorem tkn_5 : tkn 5 = true := rfl
@[simp] theorem tagg_5 : tagg 5 = false := rfl
@[simp] theorem tsize_5 : tsize 5 = 1 := rfl
@[simp] theorem ttd_5 : ttd 5 = .int .u8 := rfl
@[simp] theorem tbytes_5 : tbytes 5 = 1 := rfl
@[simp] theorem tzero_5 : tzero 5 = .int .u8 0 := rfl
@[simp] theorem tkn_6 : tkn 6 = true := rfl
@[simp] theorem tagg_6 : tagg 6 = false := rfl
@[simp] theorem tsize_6 : tsize 6 = 1 := rfl
@[simp] theorem ttd_6 : ttd 6 = .int .u8 := rfl
@[simp] theorem tbytes_6 : tbytes 6 = 1 := rfl
@[simp] theorem tzero_6 : tzero 6 = .int .u8 0 := rfl
@[simp] theorem tkn_7 : tkn 7 = true := rfl
@[simp] theorem tagg_7 : tagg 7 = true := rfl
@[simp] theorem tsize_7 : tsize 7 = 4 := rfl
@[simp] theorem ttd_7 : ttd 7 = .st := rfl
@[simp] theorem tbytes_7 : tbytes 7 = 24 := rfl
@[simp] theorem tzero_7 : tzero 7 = .agg 7 [.int .i64 0, .int .i64 0, .bool false, .int .u8 0] := rfl
@[simp] theorem tlay_7 : tlay 7 = [2, 3, 4, 6] := rfl
@[simp] theorem tkn_8 : tkn 8 = true := rfl
@[simp] theorem tagg_8 : tagg 8 = true := rfl
@[simp] theorem tsize_8 : tsize 8 = 4 := rfl
@[simp] theorem ttd_8 : ttd 8 = .st := rfl
@[simp] theorem tbytes_8 : tbytes 8 = 24 := rfl
@[simp] theorem tzero_8 : tzero 8 = .agg 8 [.int .i64 0, .int .i64 0, .bool false, .int .u8 0] := rfl
@[simp] theorem tlay_8 : tlay 8 = [2, 3, 4, 6] := rfl
@[simp] theorem tkn_9 : tkn 9 = true := rfl
@[simp] theorem tagg_9 : tagg 9 = false := rfl
@[simp] theorem tsize_9 : tsize 9 = 1 := rfl
@[simp] theorem ttd_9 : ttd 9 = .str := rfl
@[simp] theorem tbytes_9 : tbytes 9 = 16 := rfl
@[simp] theorem tzero_9 : tzero 9 = .str ⟨#[]⟩ := rfl
@[simp] theorem tkn_10 : tkn 10 = true := rfl
@[simp] theorem tagg_10 : tagg 10 = false := rfl
@[simp] theorem tsize_10 : tsize 10 = 1 := rfl
@[simp] theorem ttd_10 : ttd 10 = .str := rfl
@[simp] theorem tbytes_10 : tbytes 10 = 16 := rfl
@[simp] theorem tzero_10 : tzero 10 = .str ⟨#[]⟩ := rfl
@[simp] theorem tkn_11 : tkn 11 = true := rfl
@[simp] theorem tagg_11 : tagg 11 = false := rfl
@[simp] theorem tsize_11 : tsize 11 = 1 := rfl
@[simp] theorem ttd_11 : ttd 11 = .str := rfl
@[simp] theorem tbytes_11 : tbytes 11 = 16 := rfl
@[simp] theorem tzero_11 : tzero 11 = .str ⟨#[]⟩ := rfl
@[simp] theorem tkn_12 : tkn 12 = true := rfl
@[simp] theorem tagg_12 : tagg 12 = false := rfl
@[simp] theorem tsize_12 : tsize 12 = 1 := rfl
@[simp] theorem ttd_12 : ttd 12 = .int .u64 := rfl
@[simp] theorem tbytes_12 : tbytes 12 = 8 := rfl
@[simp] theorem tzero_12 : tzero 12 = .int .u64 0 := rfl
@[simp] theorem tkn_13 : tkn 13 = true := rfl
@[simp] theorem tagg_13 : tagg 13 = true := rfl
@[simp] theorem tsize_13 : tsize 13 = 2 := rfl
@[simp] theorem ttd_13 : ttd 13 = .st := rfl
@[simp] theorem tbytes_13 : tbytes 13 = 24 := rfl
@[simp] theorem tzero_13 : tzero 13 = .agg 13 [.str ⟨#[]⟩, .int .u64 0] := rfl
@[simp] theorem tlay_13 : tlay 13 = [9, 12] := rfl
@[simp] theorem tkn_14 : tkn 14 = true := rfl
@[simp] theorem tagg_14 : tagg 14 = true := rfl
@[simp] theorem tsize_14 : tsize 14 = 2 := rfl
@[simp] theorem ttd_14 : ttd 14 = .st := rfl
@[simp] theorem tbytes_14 : tbytes 14 = 24 := rfl
@[simp] theorem tzero_14 : tzero 14 = .agg 14 [.str ⟨#[]⟩, .int .u64 0] := rfl
@[simp] theorem tlay_14 : tlay 14 = [9, 12] := rfl
@[simp] theorem tkn_15 : tkn 15 = true := rfl
@[simp] theorem tagg_15 : tagg 15 = false := rfl
@[simp] theorem tsize_15 : tsize 15 = 1 := rfl
@[simp] theorem ttd_15 : ttd 15 = .ptr 137 := rfl
@[simp] theorem tbytes_15 : tbytes 15 = 8 := rfl
@[simp] theorem tzero_15 : tzero 15 = .nilp := rfl
@[simp] theorem tkn_16 : tkn 16 = true := rfl
@[simp] theorem tagg_16 : tagg 16 = false := rfl
@[simp] theorem tsize_16 : tsize 16 = 1 := rfl
@[simp] theorem ttd_16 : ttd 16 = .ptr 140 := rfl
@[simp] theorem tbytes_16 : tbytes 16 = 8 := rfl
@[simp] theorem tzero_16 : tzero 16 = .nilp := rfl
@[simp] theorem tkn_17 : tkn 17 = true := rfl
@[simp] theorem tagg_17 : tagg 17 = false := rfl
@[simp] theorem tsize_17 : tsize 17 = 1 := rfl
@[simp] theorem ttd_17 : ttd 17 = .ptr 148 := rfl
@[simp] theorem tbytes_17 : tbytes 17 = 8 := rfl
@[simp] theorem tzero_17 : tzero 17 = .nilp := rfl
@[simp] theorem tkn_18 : tkn 18 = true := rfl
@[simp] theorem tagg_18 : tagg 18 = true := rfl
@[simp] theorem tsize_18 : tsize 18 = 1 := rfl
@[simp] theorem ttd_18 : ttd 18 = .st := rfl
@[simp] theorem tbytes_18 : tbytes 18 = 8 := rfl
@[simp] theorem tzero_18 : tzero 18 = .agg 18 [.nilp] := rfl
@[simp] theorem tlay_18 : tlay 18 = [17] := rfl
@[simp] theorem tkn_19 : tkn 19 = true := rfl
@[simp] theorem tagg_19 : tagg 19 = true := rfl
@[simp] theorem tsize_19 : tsize 19 = 1 := rfl
@[simp] theorem ttd_19 : ttd 19 = .st := rfl
@[simp] theorem tbytes_19 : tbytes 19 = 8 := rfl
@[simp] theorem tzero_19 : tzero 19 = .agg 19 [.nilp] := rfl
@[simp] theorem tlay_19 : tlay 19 = [17] := rfl
@[simp] theorem tkn_20 : tkn 20 = true := rfl
@[simp] theorem tagg_20 : tagg 20 = false := rfl
@[simp] theorem tsize_20 : tsize 20 = 1 := rfl
@[simp] theorem ttd_20 : ttd 20 = .ifc := rfl
@[simp] theorem tbytes_20 : tbytes 20 = 16 := rfl
@[simp] theorem tzero_20 : tzero 20 = .nili := rfl
@[simp] theorem tkn_21 : tkn 21 = true := rfl
@[simp] theorem tagg_21 : tagg 21 = false := rfl
@[simp] theorem tsize_21 : tsize 21 = 1 := rfl
@[simp] theorem ttd_21 : ttd 21 = .int .i32 := rfl
@[simp] theorem tbytes_21 : tbytes 21 = 4 := rfl
@[simp] theorem tzero_21 : tzero 21 = .int .i32 0 := rfl
@[simp] theorem tkn_22 : tkn 22 = true := rfl
@[simp] theorem tagg_22 : tagg 22 = false := rfl
@[simp] theorem tsize_22 : tsize 22 = 1 := rfl
@[simp] theorem ttd_22 : ttd 22 = .slice 35 := rfl
@[simp] theorem tbytes_22 : tbytes 22 = 24 := rfl
@[simp] theorem tzero_22 : tzero 22 = .nils := rfl
@[simp] theorem tkn_23 : tkn 23 = true := rfl
@[simp] theorem tagg_23 : tagg 23 = false := rfl
@[simp] theorem tsize_23 : tsize 23 = 1 := rfl
@[simp] theorem ttd_23 : ttd 23 = .slice 2 := rfl
@[simp] theorem tbytes_23 : tbytes 23 = 24 := rfl
@[simp] theorem tzero_23 : tzero 23 = .nils := rfl
@[simp] theorem tkn_24 : tkn 24 = true := rfl
@[simp] theorem tagg_24 : tagg 24 = false := rfl
@[simp] theorem tsize_24 : tsize 24 = 1 := rfl
@[simp] theorem ttd_24 : ttd 24 = .fn := rfl
@[simp] theorem tbytes_24 : tbytes 24 = 8 := rfl
@[simp] theorem tzero_24 : tzero 24 = .nilf := rfl
@[simp] theorem tkn_25 : tkn 25 = true := rfl
@[simp] theorem tagg_25 : tagg 25 = false := rfl
@[simp] theorem tsize_25 : tsize 25 = 1 := rfl
@[simp] theorem ttd_25 : ttd 25 = .ptr 54 := rfl
@[simp] theorem tbytes_25 : tbytes 25 = 8 := rfl
@[simp] theorem tzero_25 : tzero 25 = .nilp := rfl
@[simp] theorem tkn_26 : tkn 26 = true := rfl
@[simp] theorem tagg_26 : tagg 26 = false := rfl
@[simp] theorem tsize_26 : tsize 26 = 1 := rfl
@[simp] theorem ttd_26 : ttd 26 = .fn := rfl
@[simp] theorem tbytes_26 : tbytes 26 = 8 := rfl
@[simp] theorem tzero_26 : tzero 26 = .nilf := rfl
@[simp] theorem tkn_27 : tkn 27 = true := rfl
@[simp] theorem tagg_27 : tagg 27 = false := rfl
@[simp] theorem tsize_27 : tsize 27 = 1 := rfl
@[simp] theorem ttd_27 : ttd 27 = .ptr 57 := rfl
@[simp] theorem tbytes_27 : tbytes 27 = 8 := rfl
@[simp] theorem tzero_27 : tzero 27 = .nilp := rfl
@[simp] theorem tkn_28 : tkn 28 = true := rfl
@[simp] theorem tagg_28 : tagg 28 = false := rfl
@[simp] theorem tsize_28 : tsize 28 = 1 := rfl
@[simp] theorem ttd_28 : ttd 28 = .fn := rfl
@[simp] theorem tbytes_28 : tbytes 28 = 8 := rfl
@[simp] theorem tzero_28 : tzero 28 = .nilf := rfl
@[simp] theorem tkn_29 : tkn 29 = true := rfl
@[simp] theorem tagg_29 : tagg 29 = false := rfl
@[simp] theorem tsize_29 : tsize 29 = 1 := rfl
@[simp] theorem ttd_29 : ttd 29 = .fn := rfl
@[simp] theorem tbytes_29 : tbytes 29 = 8 := rfl
@[simp] theorem tzero_29 : tzero 29 = .nilf := rfl
@[simp] theorem tkn_30 : tkn 30 = true := rfl
@[simp] theorem tagg_30 : tagg 30 = false := rfl
@[simp] theorem tsize_30 : tsize 30 = 1 := rfl
@[simp] theorem ttd_30 : ttd 30 = .int .i64 := rfl
@[simp] theorem tbytes_30 : tbytes 30 = 8 := rfl
@[simp] theorem tzero_30 : tzero 30 = .int .i64 0 := rfl
@[simp] theorem tkn_31 : tkn 31 = true := rfl
@[simp] theorem tagg_31 : tagg 31 = false := rfl
@[simp] theorem tsize_31 : tsize 31 = 1 := rfl
@[simp] theorem ttd_31 : ttd 31 = .fn := rfl
@[simp] theorem tbytes_31 : tbytes 31 = 8 := rfl
@[simp] theorem tzero_31 : tzero 31 = .nilf := rfl
@[simp] theorem tkn_32 : tkn 32 = true := rfl
@[simp] theorem tagg_32 : tagg 32 = false := rfl
@[simp] theorem tsize_32 : tsize 32 = 1 := rfl
@[simp] theorem ttd_32 : ttd 32 = .slice 5 := rfl
@[simp] theorem tbytes_32 : tbytes 32 = 24 := rfl
@[simp] theorem tzero_32 : tzero 32 = .nils := rfl
@[simp] theorem tkn_33 : tkn 33 = true := rfl
@[simp] theorem tagg_33 : tagg 33 = false := rfl
@[simp] theorem tsize_33 : tsize 33 = 1 := rfl
@[simp] theorem ttd_33 : ttd 33 = .slice 3 := rfl
@[simp] theorem tbytes_33 : tbytes 33 = 24 := rfl
@[simp] theorem tzero_33 : tzero 33 = .nils := rfl
@[simp] theorem tkn_34 : tkn 34 = true := rfl
@[simp] theorem tagg_34 : tagg 34 = true := rfl
@[simp] theorem tsize_34 : tsize 34 = 6 := rfl
@[simp] theorem ttd_34 : ttd 34 = .st := rfl
@[simp] theorem tbytes_34 : tbytes 34 = 96 := rfl
@[simp] theorem tzero_34 : tzero 34 = .agg 34 [.int .i64 0, .str ⟨#[]⟩, .str ⟨#[]⟩, .nils, .int .i64 0, .nils] := rfl
@[simp] theorem tlay_34 : tlay 34 = [3, 9, 9, 32, 3, 33] := rfl
@[simp] theorem tkn_35 : tkn 35 = true := rfl
@[simp] theorem tagg_35 : tagg 35 = true := rfl
@[simp] theorem tsize_35 : tsize 35 = 6 := rfl
@[simp] theorem ttd_35 : ttd 35 = .st := rfl
@[simp] theorem tbytes_35 : tbytes 35 = 96 := rfl
@[simp] theorem tzero_35 : tzero 35 = .agg 35 [.int .i64 0, .str ⟨#[]⟩, .str ⟨#[]⟩, .nils, .int .i64 0, .nils] := rfl
@[simp] theorem tlay_35 : tlay 35 = [3, 9, 9, 32, 3, 33] := rfl
@[simp] theorem tkn_36 : tkn 36 = true := rfl
@[simp] theorem tagg_36 : tagg 36 = false := rfl
@[simp] theorem tsize_36 : tsize 36 = 1 := rfl
@[simp] theorem ttd_36 : ttd 36 = .fn := rfl
@[simp] theorem tbytes_36 : tbytes 36 = 8 := rfl
@[simp] theorem tzero_36 : tzero 36 = .nilf := rfl
@[simp] theorem tkn_37 : tkn 37 = true := rfl
@[simp] theorem tagg_37 : tagg 37 = false := rfl
@[simp] theorem tsize_37 : tsize 37 = 1 := rfl
@[simp] theorem ttd_37 : ttd 37 = .fn := rfl
@[simp] theorem tbytes_37 : tbytes 37 = 8 := rfl
@[simp] theorem tzero_37 : tzero 37 = .nilf := rfl
@[simp] theorem tkn_38 : tkn 38 = true := rfl
@[simp] theorem tagg_38 : tagg 38 = false := rfl
@[simp] theorem tsize_38 : tsize 38 = 1 := rfl
@[simp] theorem ttd_38 : ttd 38 = .fn := rfl
@[simp] theorem tbytes_38 : tbytes 38 = 8 := rfl
@[simp] theorem tzero_38 : tzero 38 = .nilf := rfl
@[simp] theorem tkn_40 : tkn 40 = true := rfl
@[simp] theorem tagg_40 : tagg 40 = false := rfl
@[simp] theorem tsize_40 : tsize 40 = 1 := rfl
@[simp] theorem ttd_40 : ttd 40 = .fn := rfl
@[simp] theorem tbytes_40 : tbytes 40 = 8 := rfl
@[simp] theorem tzero_40 : tzero 40 = .nilf := rfl
@[simp] theorem tkn_41 : tkn 41 = true := rfl
@[simp] theorem tagg_41 : tagg 41 = false := rfl
@[simp] theorem tsize_41 : tsize 41 = 1 := rfl
@[simp] theorem ttd_41 : ttd 41 = .fn := rfl
@[simp] theorem tbytes_41 : tbytes 41 = 8 := rfl
@[simp] theorem tzero_41 : tzero 41 = .nilf := rfl
@[simp] theorem tkn_42 : tkn 42 = true := rfl
@[simp] theorem tagg_42 : tagg 42 = false := rfl
@[simp] theorem tsize_42 : tsize 42 = 1 := rfl
@[simp] theorem ttd_42 : ttd 42 = .fn := rfl
@[simp] theorem tbytes_42 : tbytes 42 = 8 := rfl
@[simp] theorem tzero_42 : tzero 42 = .nilf := rfl
@[simp] theorem tkn_43 : tkn 43 = true := rfl
@[simp] theorem tagg_43 : tagg 43 = false := rfl
@[simp] theorem tsize_43 : tsize 43 = 1 := rfl
@[simp] theorem ttd_43 : ttd 43 = .fn := rfl
@[simp] theorem tbytes_43 : tbytes 43 = 8 := rfl
@[simp] theorem tzero_43 : tzero 43 = .nilf := rfl
@[simp] theorem tkn_44 : tkn 44 = true := rfl
@[simp] theorem tagg_44 : tagg 44 = false := rfl
@[simp] theorem tsize_44 : tsize 44 = 1 := rfl
@[simp] theorem ttd_44 : ttd 44 = .slice 9 := rfl
@[simp] theorem tbytes_44 : tbytes 44 = 24 := rfl
@[simp] theorem tzero_44 : tzero 44 = .nils := rfl
@[simp] theorem tkn_45 : tkn 45 = true := rfl
@[simp] theorem tagg_45 : tagg 45 = false := rfl
@[simp] theorem tsize_45 : tsize 45 = 1 := rfl
@[simp] theorem ttd_45 : ttd 45 = .fn := rfl
@[simp] theorem tbytes_45 : tbytes 45 = 8 := rfl
@[simp] theorem tzero_45 : tzero 45 = .nilf := rfl
@[simp] theorem tkn_46 : tkn 46 = true := rfl
@[simp] theorem tagg_46 : tagg 46 = false := rfl
@[simp] theorem tsize_46 : tsize 46 = 1 := rfl
@[simp] theorem ttd_46 : ttd 46 = .fn := rfl
@[simp] theorem tbytes_46 : tbytes 46 = 8 := rfl
@[simp] theorem tzero_46 : tzero 46 = .nilf := rfl
@[simp] theorem tkn_47 : tkn 47 = true := rfl
@[simp] theorem tagg_47 : tagg 47 = false := rfl
@[simp] theorem tsize_47 : tsize 47 = 1 := rfl
@[simp] theorem ttd_47 : ttd 47 = .fn := rfl
@[simp] theorem tbytes_47 : tbytes 47 = 8 := rfl
@[simp] theorem tzero_47 : tzero 47 = .nilf := rfl
@[simp] theorem tkn_48 : tkn 48 = true := rfl
@[simp] theorem tagg_48 : tagg 48 = false := rfl
@[simp] theorem tsize_48 : tsize 48 = 1 := rfl
@[simp] theorem ttd_48 : ttd 48 = .fn := rfl
@[simp] theorem tbytes_48 : tbytes 48 = 8 := rfl
@[simp] theorem tzero_48 : tzero 48 = .nilf := rfl
@[simp] theorem tkn_49 : tkn 49 = true := rfl
@[simp] theorem tagg_49 : tagg 49 = false := rfl
@[simp] theorem tsize_49 : tsize 49 = 1 := rfl
@[simp] theorem ttd_49 : ttd 49 = .fn := rfl
@[simp] theorem tbytes_49 : tbytes 49 = 8 := rfl
@[simp] theorem tzero_49 : tzero 49 = .nilf := rfl
@[simp] theorem tkn_50 : tkn 50 = true := rfl
@[simp] theorem tagg_50 : tagg 50 = false := rfl
@[simp] theorem tsize_50 : tsize 50 = 1 := rfl
@[simp] theorem ttd_50 : ttd 50 = .fn := rfl
@[simp] theorem tbytes_50 : tbytes 50 = 8 := rfl
@[simp] theorem tzero_50 : tzero 50 = .nilf := rfl
@[simp] theorem tkn_51 : tkn 51 = true := rfl
@[simp] theorem tagg_51 : tagg 51 = false := rfl
@[simp] theorem tsize_51 : tsize 51 = 1 := rfl
@[simp] theorem ttd_51 : ttd 51 = .fn := rfl
@[simp] theorem tbytes_51 : tbytes 51 = 8 := rfl
@[simp] theorem tzero_51 : tzero 51 = .nilf := rfl
@[simp] theorem tkn_52 : tkn 52 = true := rfl
@[simp] theorem tagg_52 : tagg 52 = false := rfl
@[simp] theorem tsize_52 : tsize 52 = 1 := rfl
@[simp] theorem ttd_52 : ttd 52 = .map 9 72 := rfl
@[simp] theorem tbytes_52 : tbytes 52 = 8 := rfl
@[simp] theorem tzero_52 : tzero 52 = .nilm := rfl
@[simp] theorem tkn_53 : tkn 53 = true := rfl
@[simp] theorem tagg_53 : tagg 53 = true := rfl
@[simp] theorem tsize_53 : tsize 53 = 4 := rfl
@[simp] theorem ttd_53 : ttd 53 = .st := rfl
@[simp] theorem tbytes_53 : tbytes 53 = 32 := rfl
@[simp] theorem tzero_53 : tzero 53 = .agg 53 [.int .i64 0, .nilm, .int .i64 0, .int .i64 0] := rfl
@[simp] theorem tlay_53 : tlay 53 = [3, 52, 3, 3] := rfl
@[simp] theorem tkn_54 : tkn 54 = true := rfl
@[simp] theorem tagg_54 : tagg 54 = true := rfl
@[simp] theorem tsize_54 : tsize 54 = 4 := rfl
@[simp] theorem ttd_54 : ttd 54 = .st := rfl
@[simp] theorem tbytes_54 : tbytes 54 = 32 := rfl
@[simp] theorem tzero_54 : tzero 54 = .agg 54 [.int .i64 0, .nilm, .int .i64 0, .int .i64 0] := rfl
@[simp] theorem tlay_54 : tlay 54 = [3, 52, 3, 3] := rfl
@[simp] theorem tkn_55 : tkn 55 = true := rfl
@[simp] theorem tagg_55 : tagg 55 = false := rfl
@[simp] theorem tsize_55 : tsize 55 = 1 := rfl
@[simp] theorem ttd_55 : ttd 55 = .slice 74 := rfl
@[simp] theorem tbytes_55 : tbytes 55 = 24 := rfl
@[simp] theorem tzero_55 : tzero 55 = .nils := rfl
@[simp] theorem tkn_56 : tkn 56 = true := rfl
@[simp] theorem tagg_56 : tagg 56 = true := rfl
@[simp] theorem tsize_56 : tsize 56 = 4 := rfl
@[simp] theorem ttd_56 : ttd 56 = .st := rfl
@[simp] theorem tbytes_56 : tbytes 56 = 48 := rfl
@[simp] theorem tzero_56 : tzero 56 = .agg 56 [.int .i64 0, .nils, .int .i64 0, .int .i64 0] := rfl
@[simp] theorem tlay_56 : tlay 56 = [3, 55, 3, 3] := rfl
@[simp] theorem tkn_57 : tkn 57 = true := rfl
@[simp] theorem tagg_57 : tagg 57 = true := rfl
@[simp] theorem tsize_57 : tsize 57 = 4 := rfl
@[simp] theorem ttd_57 : ttd 57 = .st := rfl
@[simp] theorem tbytes_57 : tbytes 57 = 48 := rfl
@[simp] theorem tzero_57 : tzero 57 = .agg 57 [.int .i64 0, .nils, .int .i64 0, .int .i64 0] := rfl
@[simp] theorem tlay_57 : tlay 57 = [3, 55, 3, 3] := rfl
@[simp] theorem tkn_58 : tkn 58 = true := rfl
@[simp] theorem tagg_58 : tagg 58 = false := rfl
@[simp] theorem tsize_58 : tsize 58 = 1 := rfl
@[simp] theorem ttd_58 : ttd 58 = .fn := rfl
@[simp] theorem tbytes_58 : tbytes 58 = 8 := rfl
@[simp] theorem tzero_58 : tzero 58 = .nilf := rfl
@[simp] theorem tkn_59 : tkn 59 = true := rfl
@[simp] theorem tagg_59 : tagg 59 = false := rfl
@[simp] theorem tsize_59 : tsize 59 = 1 := rfl
@[simp] theorem ttd_59 : ttd 59 = .fn := rfl
@[simp] theorem tbytes_59 : tbytes 59 = 8 := rfl
@[simp] theorem tzero_59 : tzero 59 = .nilf := rfl
@[simp] theorem tkn_60 : tkn 60 = true := rfl
@[simp] theorem tagg_60 : tagg 60 = false := rfl
@[simp] theorem tsize_60 : tsize 60 = 1 := rfl
@[simp] theorem ttd_60 : ttd 60 = .fn := rfl
@[simp] theorem tbytes_60 : tbytes 60 = 8 := rfl
@[simp] theorem tzero_60 : tzero 60 = .nilf := rfl
@[simp] theorem tkn_61 : tkn 61 = true := rfl
@[simp] theorem tagg_61 : tagg 61 = false := rfl
@[simp] theorem tsize_61 : tsize 61 = 1 := rfl
@[simp] theorem ttd_61 : ttd 61 = .fn := rfl
@[simp] theorem tbytes_61 : tbytes 61 = 8 := rfl
@[simp] theorem tzero_61 : tzero 61 = .nilf := rfl
@[simp] theorem tkn_62 : tkn 62 = true := rfl
@[simp] theorem tagg_62 : tagg 62 = false := rfl
@[simp] theorem tsize_62 : tsize 62 = 1 := rfl
@[simp] theorem ttd_62 : ttd 62 = .fn := rfl
@[simp] theorem tbytes_62 : tbytes 62 = 8 := rfl
@[simp] theorem tzero_62 : tzero 62 = .nilf := rfl
@[simp] theorem tkn_64 : tkn 64 = true := rfl
@[simp] theorem tagg_64 : tagg 64 = false := rfl
@[simp] theorem tsize_64 : tsize 64 = 1 := rfl
@[simp] theorem ttd_64 : ttd 64 = .fn := rfl
@[simp] theorem tbytes_64 : tbytes 64 = 8 := rfl
@[simp] theorem tzero_64 : tzero 64 = .nilf := rfl
@[simp] theorem tkn_65 : tkn 65 = true := rfl
@[simp] theorem tagg_65 : tagg 65 = false := rfl
@[simp] theorem tsize_65 : tsize 65 = 1 := rfl
@[simp] theorem ttd_65 : ttd 65 = .fn := rfl
@[simp] theorem tbytes_65 : tbytes 65 = 8 := rfl
@[simp] theorem tzero_65 : tzero 65 = .nilf := rfl
@[simp] theorem tkn_66 : tkn 66 = true := rfl
@[simp] theorem tagg_66 : tagg 66 = false := rfl
@[simp] theorem tsize_66 : tsize 66 = 1 := rfl
@[simp] theorem ttd_66 : ttd 66 = .fn := rfl
@[simp] theorem tbytes_66 : tbytes 66 = 8 := rfl
@[simp] theorem tzero_66 : tzero 66 = .nilf := rfl
@[simp] theorem tkn_67 : tkn 67 = true := rfl
@[simp] theorem tagg_67 : tagg 67 = false := rfl
@[simp] theorem tsize_67 : tsize 67 = 1 := rfl
@[simp] theorem ttd_67 : ttd 67 = .fn := rfl
@[simp] theorem tbytes_67 : tbytes 67 = 8 := rfl
@[simp] theorem tzero_67 : tzero 67 = .nilf := rfl
@[simp] theorem tkn_68 : tkn 68 = true := rfl
@[simp] theorem tagg_68 : tagg 68 = false := rfl
@[simp] theorem tsize_68 : tsize 68 = 1 := rfl
@[simp] theorem ttd_68 : ttd 68 = .fn := rfl
@[simp] theorem tbytes_68 : tbytes 68 = 8 := rfl
@[simp] theorem tzero_68 : tzero 68 = .nilf := rfl
@[simp] theorem tkn_69 : tkn 69 = true := rfl
@[simp] theorem tagg_69 : tagg 69 = false := rfl
@[simp] theorem tsize_69 : tsize 69 = 1 := rfl
@[simp] theorem ttd_69 : ttd 69 = .fn := rfl
@[simp] theorem tbytes_69 : tbytes 69 = 8 := rfl
@[simp] theorem tzero_69 : tzero 69 = .nilf := rfl
@[simp] theorem tkn_70 : tkn 70 = true := rfl
@[simp] theorem tagg_70 : tagg 70 = false := rfl
@[simp] theorem tsize_70 : tsize 70 = 1 := rfl
@[simp] theorem ttd_70 : ttd 70 = .fn := rfl
@[simp] theorem tbytes_70 : tbytes 70 = 8 := rfl
@[simp] theorem tzero_70 : tzero 70 = .nilf := rfl
@[simp] theorem tkn_71 : tkn 71 = true := rfl
@[simp] theorem tagg_71 : tagg 71 = true := rfl
@[simp] theorem tsize_71 : tsize 71 = 2 := rfl
@[simp] theorem ttd_71 : ttd 71 = .st := rfl
@[simp] theorem tbytes_71 : tbytes 71 = 32 := rfl
@[simp] theorem tzero_71 : tzero 71 = .agg 71 [.nils, .int .i64 0] := rfl
@[simp] theorem tlay_71 : tlay 71 = [32, 3] := rfl
@[simp] theorem tkn_72 : tkn 72 = true := rfl
@[simp] theorem tagg_72 : tagg 72 = true := rfl
@[simp] theorem tsize_72 : tsize 72 = 2 := rfl
@[simp] theorem ttd_72 : ttd 72 = .st := rfl
@[simp] theorem tbytes_72 : tbytes 72 = 32 := rfl
@[simp] theorem tzero_72 : tzero 72 = .agg 72 [.nils, .int .i64 0] := rfl
@[simp] theorem tlay_72 : tlay 72 = [32, 3] := rfl
@[simp] theorem tkn_73 : tkn 73 = true := rfl
@[simp] theorem tagg_73 : tagg 73 = true := rfl
@[simp] theorem tsize_73 : tsize 73 = 3 := rfl
@[simp] theorem ttd_73 : ttd 73 = .st := rfl
@[simp] theorem tbytes_73 : tbytes 73 = 48 := rfl
@[simp] theorem tzero_73 : tzero 73 = .agg 73 [.str ⟨#[]⟩, .nils, .int .i64 0] := rfl
@[simp] theorem tlay_73 : tlay 73 = [9, 32, 3] := rfl
@[simp] theorem tkn_74 : tkn 74 = true := rfl
@[simp] theorem tagg_74 : tagg 74 = true := rfl
@[simp] theorem tsize_74 : tsize 74 = 3 := rfl
@[simp] theorem ttd_74 : ttd 74 = .st := rfl
@[simp] theorem tbytes_74 : tbytes 74 = 48 := rfl
@[simp] theorem tzero_74 : tzero 74 = .agg 74 [.str ⟨#[]⟩, .nils, .int .i64 0] := rfl
@[simp] theorem tlay_74 : tlay 74 = [9, 32, 3] := rfl
@[simp] theorem tkn_75 : tkn 75 = true := rfl
@[simp] theorem tagg_75 : tagg 75 = false := rfl
@[simp] theorem tsize_75 : tsize 75 = 1 := rfl
@[simp] theorem ttd_75 : ttd 75 = .fn := rfl
@[simp] theorem tbytes_75 : tbytes 75 = 8 := rfl
@[simp] theorem tzero_75 : tzero 75 = .nilf := rfl
@[simp] theorem tkn_76 : tkn 76 = true := rfl
@[simp] theorem tagg_76 : tagg 76 = false := rfl
@[simp] theorem tsize_76 : tsize 76 = 1 := rfl
@[simp] theorem ttd_76 : ttd 76 = .int .u32 := rfl
@[simp] theorem tbytes_76 : tbytes 76 = 4 := rfl
@[simp] theorem tzero_76 : tzero 76 = .int .u32 0 := rfl
@[simp] theorem tkn_77 : tkn 77 = true := rfl
@[simp] theorem tagg_77 : tagg 77 = false := rfl
@[simp] theorem tsize_77 : tsize 77 = 1 := rfl
@[simp] theorem ttd_77 : ttd 77 = .fn := rfl
@[simp] theorem tbytes_77 : tbytes 77 = 8 := rfl
@[simp] theorem tzero_77 : tzero 77 = .nilf := rfl
@[simp] theorem tkn_78 : tkn 78 = true := rfl
@[simp] theorem tagg_78 : tagg 78 = false := rfl
@[simp] theorem tsize_78 : tsize 78 = 1 := rfl
@[simp] theorem ttd_78 : ttd 78 = .fn := rfl
@[simp] theorem tbytes_78 : tbytes 78 = 8 := rfl
@[simp] theorem tzero_78 : tzero 78 = .nilf := rfl
@[simp] theorem tkn_79 : tkn 79 = true := rfl
@[simp] theorem tagg_79 : tagg 79 = false := rfl
@[simp] theorem tsize_79 : tsize 79 = 1 := rfl
@[simp] theorem ttd_79 : ttd 79 = .fn := rfl
@[simp] theorem tbytes_79 : tbytes 79 = 8 := rfl
@[simp] theorem tzero_79 : tzero 79 = .nilf := rfl
@[simp] theorem tkn_80 : tkn 80 = true := rfl
@[simp] theorem tagg_80 : tagg 80 = false := rfl
@[simp] theorem tsize_80 : tsize 80 = 1 := rfl
@[simp] theorem ttd_80 : ttd 80 = .fn := rfl
@[simp] theorem tbytes_80 : tbytes 80 = 8 := rfl
@[simp] theorem tzero_80 : tzero 80 = .nilf := rfl
@[simp] theorem tkn_81 : tkn 81 = true := rfl
@[simp] theorem tagg_81 : tagg 81 = false := rfl
@[simp] theorem tsize_81 : tsize 81 = 1 := rfl
@[simp] theorem ttd_81 : ttd 81 = .fn := rfl
@[simp] theorem tbytes_81 : tbytes 81 = 8 := rfl
@[simp] theorem tzero_81 : tzero 81 = .nilf := rfl
@[simp] theorem tkn_82 : tkn 82 = true := rfl
@[simp] theorem tagg_82 : tagg 82 = false := rfl
@[simp] theorem tsize_82 : tsize 82 = 1 := rfl
@[simp] theorem ttd_82 : ttd 82 = .int .u64 := rfl
@[simp] theorem tbytes_82 : tbytes 82 = 8 := rfl
@[simp] theorem tzero_82 : tzero 82 = .int .u64 0 := rfl
@[simp] theorem tkn_83 : tkn 83 = true := rfl
@[simp] theorem tagg_83 : tagg 83 = false := rfl
@[simp] theorem tsize_83 : tsize 83 = 1 := rfl
@[simp] theorem ttd_83 : ttd 83 = .fn := rfl
@[simp] theorem tbytes_83 : tbytes 83 = 8 := rfl
@[simp] theorem tzero_83 : tzero 83 = .nilf := rfl
@[simp] theorem tkn_84 : tkn 84 = true := rfl
@[simp] theorem tagg_84 : tagg 84 = false := rfl
@[simp] theorem tsize_84 : tsize 84 = 1 := rfl
@[simp] theorem ttd_84 : ttd 84 = .fn := rfl
@[simp] theorem tbytes_84 : tbytes 84 = 8 := rfl
@[simp] theorem tzero_84 : tzero 84 = .nilf := rfl
@[simp] theorem tkn_85 : tkn 85 = true := rfl
@[simp] theorem tagg_85 : tagg 85 = false := rfl
@[simp] theorem tsize_85 : tsize 85 = 1 := rfl
@[simp] theorem ttd_85 : ttd 85 = .fn := rfl
@[simp] theorem tbytes_85 : tbytes 85 = 8 := rfl
@[simp] theorem tzero_85 : tzero 85 = .nilf := rfl
@[simp] theorem tkn_86 : tkn 86 = true := rfl
@[simp] theorem tagg_86 : tagg 86 = false := rfl
@[simp] theorem tsize_86 : tsize 86 = 1 := rfl
@[simp] theorem ttd_86 : ttd 86 = .fn := rfl
@[simp] theorem tbytes_86 : tbytes 86 = 8 := rfl
@[simp] theorem tzero_86 : tzero 86 = .nilf := rfl
@[simp] theorem tkn_88 : tkn 88 = true := rfl
@[simp] theorem tagg_88 : tagg 88 = false := rfl
@[simp] theorem tsize_88 : tsize 88 = 1 := rfl
@[simp] theorem ttd_88 : ttd 88 = .fn := rfl
@[simp] theorem tbytes_88 : tbytes 88 = 8 := rfl
@[simp] theorem tzero_88 : tzero 88 = .nilf := rfl
@[simp] theorem tkn_89 : tkn 89 = true := rfl
@[simp] theorem tagg_89 : tagg 89 = false := rfl
@[simp] theorem tsize_89 : tsize 89 = 1 := rfl
@[simp] theorem ttd_89 : ttd 89 = .fn := rfl
@[simp] theorem tbytes_89 : tbytes 89 = 8 := rfl
@[simp] theorem tzero_89 : tzero 89 = .nilf := rfl
@[simp] theorem tkn_90 : tkn 90 = true := rfl
@[simp] theorem tagg_90 : tagg 90 = false := rfl
@[simp] theorem tsize_90 : tsize 90 = 1 := rfl
@[simp] theorem ttd_90 : ttd 90 = .fn := rfl
@[simp] theorem tbytes_90 : tbytes 90 = 8 := rfl
@[simp] theorem tzero_90 : tzero 90 = .nilf := rfl
@[simp] theorem tkn_91 : tkn 91 = true := rfl
@[simp] theorem tagg_91 : tagg 91 = false := rfl
@[simp] theorem tsize_91 : tsize 91 = 1 := rfl
@[simp] theorem ttd_91 : ttd 91 = .fn := rfl
@[simp] theorem tbytes_91 : tbytes 91 = 8 := rfl
@[simp] theorem tzero_91 : tzero 91 = .nilf := rfl
@[simp] theorem tkn_92 : tkn 92 = true := rfl
@[simp] theorem tagg_92 : tagg 92 = false := rfl
@[simp] theorem tsize_92 : tsize 92 = 1 := rfl
@[simp] theorem ttd_92 : ttd 92 = .fn := rfl
@[simp] theorem tbytes_92 : tbytes 92 = 8 := rfl
@[simp] theorem tzero_92 : tzero 92 = .nilf := rfl
@[simp] theorem tkn_93 : tkn 93 = true := rfl
@[simp] theorem tagg_93 : tagg 93 = false := rfl
@[simp] theorem tsize_93 : tsize 93 = 1 := rfl
@[simp] theorem ttd_93 : ttd 93 = .fn := rfl
@[simp] theorem tbytes_93 : tbytes 93 = 8 := rfl
@[simp] theorem tzero_93 : tzero 93 = .nilf := rfl
@[simp] theorem tkn_94 : tkn 94 = true := rfl
@[simp] theorem tagg_94 : tagg 94 = false := rfl
@[simp] theorem tsize_94 : tsize 94 = 1 := rfl
@[simp] theorem ttd_94 : ttd 94 = .fn := rfl
@[simp] theorem tbytes_94 : tbytes 94 = 8 := rfl
@[simp] theorem tzero_94 : tzero 94 = .nilf := rfl
@[simp] theorem tkn_95 : tkn 95 = true := rfl
@[simp] theorem tagg_95 : tagg 95 = false := rfl
@[simp] theorem tsize_95 : tsize 95 = 1 := rfl
@[simp] theorem ttd_95 : ttd 95 = .slice 66 := rfl
@[simp] theorem tbytes_95 : tbytes 95 = 24 := rfl
@[simp] theorem tzero_95 : tzero 95 = .nils := rfl
@[simp] theorem tkn_96 : tkn 96 = true := rfl
@[simp] theorem tagg_96 : tagg 96 = false := rfl
@[simp] theorem tsize_96 : tsize 96 = 1 := rfl
@[simp] theorem ttd_96 : ttd 96 = .fn := rfl
@[simp] theorem tbytes_96 : tbytes 96 = 8 := rfl
@[simp] theorem tzero_96 : tzero 96 = .nilf := rfl
@[simp] theorem tkn_97 : tkn 97 = true := rfl
@[simp] theorem tagg_97 : tagg 97 = false := rfl
@[simp] theorem tsize_97 : tsize 97 = 1 := rfl
@[simp] theorem ttd_97 : ttd 97 = .int .u64 := rfl
@[simp] theorem tbytes_97 : tbytes 97 = 8 := rfl
@[simp] theorem tzero_97 : tzero 97 = .int .u64 0 := rfl
@[simp] theorem tkn_98 : tkn 98 = true := rfl
@[simp] theorem tagg_98 : tagg 98 = false := rfl
@[simp] theorem tsize_98 : tsize 98 = 1 := rfl
@[simp] theorem ttd_98 : ttd 98 = .fn := rfl
@[simp] theorem tbytes_98 : tbytes 98 = 8 := rfl
@[simp] theorem tzero_98 : tzero 98 = .nilf := rfl
@[simp] theorem tkn_99 : tkn 99 = true := rfl
@[simp] theorem tagg_99 : tagg 99 = false := rfl
@[simp] theorem tsize_99 : tsize 99 = 1 := rfl
@[simp] theorem ttd_99 : ttd 99 = .fn := rfl
@[simp] theorem tbytes_99 : tbytes 99 = 8 := rfl
@[simp] theorem tzero_99 : tzero 99 = .nilf := rfl
@[simp] theorem tkn_100 : tkn 100 = true := rfl
@[simp] theorem tagg_100 : tagg 100 = false := rfl
@[simp] theorem tsize_100 : tsize 100 = 1 := rfl
@[simp] theorem ttd_100 : ttd 100 = .fn := rfl
@[simp] theorem tbytes_100 : tbytes 100 = 8 := rfl
@[simp] theorem tzero_100 : tzero 100 = .nilf := rfl
@[simp] theorem tkn_101 : tkn 101 = true := rfl
@[simp] theorem tagg_101 : tagg 101 = false := rfl
@[simp] theorem tsize_101 : tsize 101 = 1 := rfl
@[simp] theorem ttd_101 : ttd 101 = .fn := rfl
@[simp] theorem tbytes_101 : tbytes 101 = 8 := rfl
@[simp] theorem tzero_101 : tzero 101 = .nilf := rfl
@[simp] theorem tkn_102 : tkn 102 = true := rfl
@[simp] theorem tagg_102 : tagg 102 = false := rfl
@[simp] theorem tsize_102 : tsize 102 = 1 := rfl
@[simp] theorem ttd_102 : ttd 102 = .fn := rfl
@[simp] theorem tbytes_102 : tbytes 102 = 8 := rfl
@[simp] theorem tzero_102 : tzero 102 = .nilf := rfl
@[simp] theorem tkn_103 : tkn 103 = true := rfl
@[simp] theorem tagg_103 : tagg 103 = false := rfl
@[simp] theorem tsize_103 : tsize 103 = 1 := rfl
@[simp] theorem ttd_103 : ttd 103 = .fn := rfl
@[simp] theorem tbytes_103 : tbytes 103 = 8 := rfl
@[simp] theorem tzero_103 : tzero 103 = .nilf := rfl
@[simp] theorem tkn_104 : tkn 104 = true := rfl
@[simp] theorem tagg_104 : tagg 104 = false := rfl
@[simp] theorem tsize_104 : tsize 104 = 1 := rfl
@[simp] theorem ttd_104 : ttd 104 = .slice 32 := rfl
@[simp] theorem tbytes_104 : tbytes 104 = 24 := rfl
@[simp] theorem tzero_104 : tzero 104 = .nils := rfl
@[simp] theorem tkn_105 : tkn 105 = true := rfl
@[simp] theorem tagg_105 : tagg 105 = false := rfl
@[simp] theorem tsize_105 : tsize 105 = 1 := rfl
@[simp] theorem ttd_105 : ttd 105 = .fn := rfl
@[simp] theorem tbytes_105 : tbytes 105 = 8 := rfl
@[simp] theorem tzero_105 : tzero 105 = .nilf := rfl
@[simp] theorem tkn_106 : tkn 106 = true := rfl
@[simp] theorem tagg_106 : tagg 106 = false := rfl
@[simp] theorem tsize_106 : tsize 106 = 1 := rfl
@[simp] theorem ttd_106 : ttd 106 = .fn := rfl
@[simp] theorem tbytes_106 : tbytes 106 = 8 := rfl
@[simp] theorem tzero_106 : tzero 106 = .nilf := rfl
@[simp] theorem tkn_107 : tkn 107 = true := rfl
@[simp] theorem tagg_107 : tagg 107 = false := rfl
@[simp] theorem tsize_107 : tsize 107 = 1 := rfl
@[simp] theorem ttd_107 : ttd 107 = .fn := rfl
@[simp] theorem tbytes_107 : tbytes 107 = 8 := rfl
@[simp] theorem tzero_107 : tzero 107 = .nilf := rfl
@[simp] theorem tkn_108 : tkn 108 = true := rfl
@[simp] theorem tagg_108 : tagg 108 = false := rfl
@[simp] theorem tsize_108 : tsize 108 = 1 := rfl
@[simp] theorem ttd_108 : ttd 108 = .fn := rfl
@[simp] theorem tbytes_108 : tbytes 108 = 8 := rfl
@[simp] theorem tzero_108 : tzero 108 = .nilf := rfl
@[simp] theorem tkn_109 : tkn 109 = true := rfl
@[simp] theorem tagg_109 : tagg 109 = false := rfl
@[simp] theorem tsize_109 : tsize 109 = 1 := rfl
@[simp] theorem ttd_109 : ttd 109 = .fn := rfl
@[simp] theorem tbytes_109 : tbytes 109 = 8 := rfl
@[simp] theorem tzero_109 : tzero 109 = .nilf := rfl
@[simp] theorem tkn_110 : tkn 110 = true := rfl
@[simp] theorem tagg_110 : tagg 110 = false := rfl
@[simp] theorem tsize_110 : tsize 110 = 1 := rfl
@[simp] theorem ttd_110 : ttd 110 = .fn := rfl
@[simp] theorem tbytes_110 : tbytes 110 = 8 := rfl
@[simp] theorem tzero_110 : tzero 110 = .nilf := rfl
@[simp] theorem tkn_111 : tkn 111 = true := rfl
@[simp] theorem tagg_111 : tagg 111 = true := rfl
@[simp] theorem tsize_111 : tsize 111 = 256 := rfl
@[simp] theorem ttd_111 : ttd 111 = .arr 256 76 := rfl
@[simp] theorem tbytes_111 : tbytes 111 = 1024 := rfl
@[simp] theorem tzero_111 : tzero 111 = .agg 111 (List.replicate 256 (.int .u32 0)) := rfl
@[simp] theorem tlay_111 : tlay 111 = List.replicate 256 76 := rfl
@[simp] theorem tkn_112 : tkn 112 = true := rfl
@[simp] theorem tagg_112 : tagg 112 = false := rfl
@[simp] theorem tsize_112 : tsize 112 = 1 := rfl
@[simp] theorem ttd_112 : ttd 112 = .fn := rfl
@[simp] theorem tbytes_112 : tbytes 112 = 8 := rfl
@[simp] theorem tzero_112 : tzero 112 = .nilf := rfl
@[simp] theorem tkn_113 : tkn 113 = true := rfl
@[simp] theorem tagg_113 : tagg 113 = false := rfl
@[simp] theorem tsize_113 : tsize 113 = 1 := rfl
@[simp] theorem ttd_113 : ttd 113 = .fn := rfl
@[simp] theorem tbytes_113 : tbytes 113 = 8 := rfl
@[simp] theorem tzero_113 : tzero 113 = .nilf := rfl
@[simp] theorem tkn_114 : tkn 114 = true := rfl
@[simp] theorem tagg_114 : tagg 114 = false := rfl
@[simp] theorem tsize_114 : tsize 114 = 1 := rfl
@[simp] theorem ttd_114 : ttd 114 = .fn := rfl
@[simp] theorem tbytes_114 : tbytes 114 = 8 := rfl
@[simp] theorem tzero_114 : tzero 114 = .nilf := rfl
@[simp] theorem tkn_115 : tkn 115 = true := rfl
@[simp] theorem tagg_115 : tagg 115 = false := rfl
@[simp] theorem tsize_115 : tsize 115 = 1 := rfl
@[simp] theorem ttd_115 : ttd 115 = .int .i64 := rfl
@[simp] theorem tbytes_115 : tbytes 115 = 8 := rfl
@[simp] theorem tzero_115 : tzero 115 = .int .i64 0 := rfl
@[simp] theorem tkn_117 : tkn 117 = true := rfl
@[simp] theorem tagg_117 : tagg 117 = false := rfl
@[simp] theorem tsize_117 : tsize 117 = 1 := rfl
@[simp] theorem ttd_117 : ttd 117 = .fn := rfl
@[simp] theorem tbytes_117 : tbytes 117 = 8 := rfl
@[simp] theorem tzero_117 : tzero 117 = .nilf := rfl
@[simp] theorem tkn_118 : tkn 118 = true := rfl
@[simp] theorem tagg_118 : tagg 118 = false := rfl
@[simp] theorem tsize_118 : tsize 118 = 1 := rfl
@[simp] theorem ttd_118 : ttd 118 = .fn := rfl
@[simp] theorem tbytes_118 : tbytes 118 = 8 := rfl
@[simp] theorem tzero_118 : tzero 118 = .nilf := rfl
@[simp] theorem tkn_119 : tkn 119 = true := rfl
@[simp] theorem tagg_119 : tagg 119 = false := rfl
@[simp] theorem tsize_119 : tsize 119 = 1 := rfl
@[simp] theorem ttd_119 : ttd 119 = .fn := rfl
@[simp] theorem tbytes_119 : tbytes 119 = 8 := rfl
@[simp] theorem tzero_119 : tzero 119 = .nilf := rfl
@[simp] theorem tkn_120 : tkn 120 = true := rfl
@[simp] theorem tagg_120 : tagg 120 = false := rfl
@[simp] theorem tsize_120 : tsize 120 = 1 := rfl
@[simp] theorem ttd_120 : ttd 120 = .fn := rfl
@[simp] theorem tbytes_120 : tbytes 120 = 8 := rfl
@[simp] theorem tzero_120 : tzero 120 = .nilf := rfl
@[simp] theorem tkn_122 : tkn 122 = true := rfl
@[simp] theorem tagg_122 : tagg 122 = false := rfl
@[simp] theorem tsize_122 : tsize 122 = 1 := rfl
@[simp] theorem ttd_122 : ttd 122 = .fn := rfl
@[simp] theorem tbytes_122 : tbytes 122 = 8 := rfl
@[simp] theorem tzero_122 : tzero 122 = .nilf := rfl
@[simp] theorem tkn_123 : tkn 123 = true := rfl
@[simp] theorem tagg_123 : tagg 123 = false := rfl
@[simp] theorem tsize_123 : tsize 123 = 1 := rfl
@[simp] theorem ttd_123 : ttd 123 = .fn := rfl
@[simp] theorem tbytes_123 : tbytes 123 = 8 := rfl
@[simp] theorem tzero_123 : tzero 123 = .nilf := rfl
@[simp] theorem tkn_124 : tkn 124 = true := rfl
@[simp] theorem tagg_124 : tagg 124 = false := rfl
@[simp] theorem tsize_124 : tsize 124 = 1 := rfl
@[simp] theorem ttd_124 : ttd 124 = .fn := rfl
@[simp] theorem tbytes_124 : tbytes 124 = 8 := rfl
@[simp] theorem tzero_124 : tzero 124 = .nilf := rfl
@[simp] theorem tkn_125 : tkn 125 = true := rfl
@[simp] theorem tagg_125 : tagg 125 = false := rfl
@[simp] theorem tsize_125 : tsize 125 = 1 := rfl
@[simp] theorem ttd_125 : ttd 125 = .fn := rfl
@[simp] theorem tbytes_125 : tbytes 125 = 8 := rfl
@[simp] theorem tzero_125 : tzero 125 = .nilf := rfl
@[simp] theorem tkn_126 : tkn 126 = true := rfl
@[simp] theorem tagg_126 : tagg 126 = false := rfl
@[simp] theorem tsize_126 : tsize 126 = 1 := rfl
@[simp] theorem ttd_126 : ttd 126 = .int .u64 := rfl
@[simp] theorem tbytes_126 : tbytes 126 = 8 := rfl
@[simp] theorem tzero_126 : tzero 126 = .int .u64 0 := rfl
@[simp] theorem tkn_127 : tkn 127 = true := rfl
@[simp] theorem tagg_127 : tagg 127 = false := rfl
@[simp] theorem tsize_127 : tsize 127 = 1 := rfl
@[simp] theorem ttd_127 : ttd 127 = .fn := rfl
@[simp] theorem tbytes_127 : tbytes 127 = 8 := rfl
@[simp] theorem tzero_127 : tzero 127 = .nilf := rfl
@[simp] theorem tkn_128 : tkn 128 = true := rfl
@[simp] theorem tagg_128 : tagg 128 = false := rfl
@[simp] theorem tsize_128 : tsize 128 = 1 := rfl
@[simp] theorem ttd_128 : ttd 128 = .fn := rfl
@[simp] theorem tbytes_128 : tbytes 128 = 8 := rfl
@[simp] theorem tzero_128 : tzero 128 = .nilf := rfl
@[simp] theorem tkn_129 : tkn 129 = true := rfl
@[simp] theorem tagg_129 : tagg 129 = false := rfl
@[simp] theorem tsize_129 : tsize 129 = 1 := rfl
@[simp] theorem ttd_129 : ttd 129 = .fn := rfl
@[simp] theorem tbytes_129 : tbytes 129 = 8 := rfl
@[simp] theorem tzero_129 : tzero 129 = .nilf := rfl
@[simp] theorem tkn_130 : tkn 130 = true := rfl
@[simp] theorem tagg_130 : tagg 130 = false := rfl
@[simp] theorem tsize_130 : tsize 130 = 1 := rfl
@[simp] theorem ttd_130 : ttd 130 = .ptr 3 := rfl
@[simp] theorem tbytes_130 : tbytes 130 = 8 := rfl
@[simp] theorem tzero_130 : tzero 130 = .nilp := rfl
@[simp] theorem tkn_131 : tkn 131 = true := rfl
@[simp] theorem tagg_131 : tagg 131 = false := rfl
@[simp] theorem tsize_131 : tsize 131 = 1 := rfl
@[simp] theorem ttd_131 : ttd 131 = .fn := rfl
@[simp] theorem tbytes_131 : tbytes 131 = 8 := rfl
@[simp] theorem tzero_131 : tzero 131 = .nilf := rfl
@[simp] theorem tkn_132 : tkn 132 = true := rfl
@[simp] theorem tagg_132 : tagg 132 = false := rfl
@[simp] theorem tsize_132 : tsize 132 = 1 := rfl
@[simp] theorem ttd_132 : ttd 132 = .ptr 126 := rfl
@[simp] theorem tbytes_132 : tbytes 132 = 8 := rfl
@[simp] theorem tzero_132 : tzero 132 = .nilp := rfl
@[simp] theorem tkn_134 : tkn 134 = true := rfl
@[simp] theorem tagg_134 : tagg 134 = false := rfl
@[simp] theorem tsize_134 : tsize 134 = 1 := rfl
@[simp] theorem ttd_134 : ttd 134 = .fn := rfl
@[simp] theorem tbytes_134 : tbytes 134 = 8 := rfl
@[simp] theorem tzero_134 : tzero 134 = .nilf := rfl
@[simp] theorem tkn_135 : tkn 135 = true := rfl
@[simp] theorem tagg_135 : tagg 135 = false := rfl
@[simp] theorem tsize_135 : tsize 135 = 1 := rfl
@[simp] theorem ttd_135 : ttd 135 = .fn := rfl
@[simp] theorem tbytes_135 : tbytes 135 = 8 := rfl
@[simp] theorem tzero_135 : tzero 135 = .nilf := rfl
@[simp] theorem tkn_136 : tkn 136 = true := rfl
@[simp] theorem tagg_136 : tagg 136 = true := rfl
@[simp] theorem tsize_136 : tsize 136 = 4 := rfl
@[simp] theorem ttd_136 : ttd 136 = .st := rfl
@[simp] theorem tbytes_136 : tbytes 136 = 40 := rfl
@[simp] theorem tzero_136 : tzero 136 = .agg 136 [.nilp, .nilp, .nilp, .str ⟨#[]⟩] := rfl
@[simp] theorem tlay_136 : tlay 136 = [17, 17, 17, 9] := rfl
@[simp] theorem tkn_137 : tkn 137 = true := rfl
@[simp] theorem tagg_137 : tagg 137 = true := rfl
@[simp] theorem tsize_137 : tsize 137 = 4 := rfl
@[simp] theorem ttd_137 : ttd 137 = .st := rfl
@[simp] theorem tbytes_137 : tbytes 137 = 40 := rfl
@[simp] theorem tzero_137 : tzero 137 = .agg 137 [.nilp, .nilp, .nilp, .str ⟨#[]⟩] := rfl
@[simp] theorem tlay_137 : tlay 137 = [17, 17, 17, 9] := rfl
@[simp] theorem tkn_138 : tkn 138 = true := rfl
@[simp] theorem tagg_138 : tagg 138 = true := rfl
@[simp] theorem tsize_138 : tsize 138 = 0 := rfl
@[simp] theorem ttd_138 : ttd 138 = .arr 0 16 := rfl
@[simp] theorem tbytes_138 : tbytes 138 = 0 := rfl
@[simp] theorem tzero_138 : tzero 138 = .agg 138 (List.replicate 0 (.nilp)) := rfl
@[simp] theorem tlay_138 : tlay 138 = List.replicate 0 16 := rfl
@[simp] theorem tkn_141 : tkn 141 = true := rfl
@[simp] theorem tagg_141 : tagg 141 = false := rfl
@[simp] theorem tsize_141 : tsize 141 = 1 := rfl
@[simp] theorem ttd_141 : ttd 141 = .int .u8 := rfl
@[simp] theorem tbytes_141 : tbytes 141 = 1 := rfl
@[simp] theorem tzero_141 : tzero 141 = .int .u8 0 := rfl
@[simp] theorem tkn_142 : tkn 142 = true := rfl
@[simp] theorem tagg_142 : tagg 142 = false := rfl
@[simp] theorem tsize_142 : tsize 142 = 1 := rfl
@[simp] theorem ttd_142 : ttd 142 = .int .u8 := rfl
@[simp] theorem tbytes_142 : tbytes 142 = 1 := rfl
@[simp] theorem tzero_142 : tzero 142 = .int .u8 0 := rfl
@[simp] theorem tkn_143 : tkn 143 = true := rfl
@[simp] theorem tagg_143 : tagg 143 = false := rfl
@[simp] theorem tsize_143 : tsize 143 = 1 := rfl
@[simp] theorem ttd_143 : ttd 143 = .fn := rfl
@[simp] theorem tbytes_143 : tbytes 143 = 8 := rfl
@[simp] theorem tzero_143 : tzero 143 = .nilf := rfl
@[simp] theorem tkn_144 : tkn 144 = true := rfl
@[simp] theorem tagg_144 : tagg 144 = false := rfl
@[simp] theorem tsize_144 : tsize 144 = 1 := rfl
@[simp] theorem ttd_144 : ttd 144 = .ptr 5 := rfl
@[simp] theorem tbytes_144 : tbytes 144 = 8 := rfl
@[simp] theorem tzero_144 : tzero 144 = .nilp := rfl
@[simp] theorem tkn_145 : tkn 145 = true := rfl
@[simp] theorem tagg_145 : tagg 145 = false := rfl
@[simp] theorem tsize_145 : tsize 145 = 1 := rfl
@[simp] theorem ttd_145 : ttd 145 = .int .i32 := rfl
@[simp] theorem tbytes_145 : tbytes 145 = 4 := rfl
@[simp] theorem tzero_145 : tzero 145 = .int .i32 0 := rfl
@[simp] theorem tkn_146 : tkn 146 = true := rfl
@[simp] theorem tagg_146 : tagg 146 = false := rfl
@[simp] theorem tsize_146 : tsize 146 = 1 := rfl
@[simp] theorem ttd_146 : ttd 146 = .int .i32 := rfl
@[simp] theorem tbytes_146 : tbytes 146 = 4 := rfl
@[simp] theorem tzero_146 : tzero 146 = .int .i32 0 := rfl
@[simp] theorem tkn_147 : tkn 147 = true := rfl
@[simp] theorem tagg_147 : tagg 147 = true := rfl
@[simp] theorem tsize_147 : tsize 147 = 11 := rfl
@[simp] theorem ttd_147 : ttd 147 = .st := rfl
@[simp] theorem tbytes_147 : tbytes 147 = 48 := rfl
@[simp] theorem tzero_147 : tzero 147 = .agg 147 [.int .u64 0, .int .u64 0, .int .u32 0, .int .u8 0, .int .u8 0, .int .u8 0, .int .u8 0, .nilf, .nilp, .int .i32 0, .int .i32 0] := rfl
@[simp] theorem tlay_147 : tlay 147 = [12, 12, 76, 141, 5, 5, 142, 143, 144, 145, 146] := rfl
@[simp] theorem tkn_148 : tkn 148 = true := rfl
@[simp] theorem tagg_148 : tagg 148 = true := rfl
@[simp] theorem tsize_148 : tsize 148 = 11 := rfl
@[simp] theorem ttd_148 : ttd 148 = .st := rfl
@[simp] theorem tbytes_148 : tbytes 148 = 48 := rfl
@[simp] theorem tzero_148 : tzero 148 = .agg 148 [.int .u64 0, .int .u64 0, .int .u32 0, .int .u8 0, .int .u8 0, .int .u8 0, .int .u8 0, .nilf, .nilp, .int .i32 0, .int .i32 0] := rfl
@[simp] theorem tlay_148 : tlay 148 = [12, 12, 76, 141, 5, 5, 142, 143, 144, 145, 146] := rfl
def tfs : List Nat := [2, 3, 4, 5, 6, 7, 8, 9, 10, 11, 12, 13, 14, 15, 16, 17, 18, 19, 20, 21, 22, 23, 24, 25, 26, 27, 28, 29, 30, 31, 32, 33, 34, 35, 36, 37, 38, 39, 40, 41, 42, 43, 44, 45, 46, 47, 48, 49, 50, 51, 52, 53, 54, 55, 56, 57, 58, 59, 60, 61, 62, 63, 64, 65, 66, 67, 68, 69, 70, 71, 72, 73, 74, 75, 76, 77, 78, 79, 80, 81, 82, 83, 84, 85, 86, 87, 88, 89, 90, 91, 92, 93, 94, 95, 96, 97, 98, 99, 100, 101, 102, 103, 104, 105, 106, 107, 108, 109, 110, 111, 112, 113, 114]
noncomputable def tE : Env := { P := Tryz.prog, kn := tkn, td := ttd, agg := tagg, lay := tlay, size := tsize, bytes := tbytes, zero := tzero, fk := fun f => tfs.contains f }
@[simp] theorem tE_kn (T : Nat) : tE.kn T = tkn T := rfl
@[simp] theorem tE_td (T : Nat) : tE.td T = ttd T := rfl
@[simp] theorem tE_agg (T : Nat) : tE.agg T = tagg T := rfl
@[simp] theorem tE_lay (T : Nat) : tE.lay T = tlay T := rfl
@[simp] theorem tE_size (T : Nat) : tE.size T = tsize T := rfl
@[simp] theorem tE_bytes (T : Nat) : tE.bytes T = tbytes T := rfl
@[simp] theorem tE_zero (T : Nat) : tE.zero T = tzero T := rfl
@[simp] theorem tE_P : tE.P = Tryz.prog := rfl
@[simp] theorem tfk_2 : tE.fk 2 = true := rfl
@[simp] theorem tfk_3 : tE.fk 3 = true := rfl
@[simp] theorem tfk_4 : tE.fk 4 = true := rfl
@[simp] theorem tfk_5 : tE.fk 5 = true := rfl
@[simp] theorem tfk_6 : tE.fk 6 = true := rfl
@[simp] theorem tfk_7 : tE.fk 7 = true := rfl
@[simp] theorem tfk_8 : tE.fk 8 = true := rfl
@[simp] theorem tfk_9 : tE.fk 9 = true := rfl
@[simp] theorem tfk_10 : tE.fk 10 = true := rfl
@[simp] theorem tfk_11 : tE.fk 11 = true := rfl
@[simp] theorem tfk_12 : tE.fk 12 = true := rfl
@[simp] theorem tfk_13 : tE.fk 13 = true := rfl
@[simp] theorem tfk_14 : tE.fk 14 = true := rfl
@[simp] theorem tfk_15 : tE.fk 15 = true := rfl
@[simp] theorem tfk_16 : tE.fk 16 = true := rfl
@[simp] theorem tfk_17 : tE.fk 17 = true := rfl
@[simp] theorem tfk_18 : tE.fk 18 = true := rfl
@[simp] theorem tfk_19 : tE.fk 19 = true := rfl
@[simp] theorem tfk_20 : tE.fk 20 = true := rfl
@[simp] theorem tfk_21 : tE.fk 21 = true := rfl
@[simp] theorem tfk_22 : tE.fk 22 = true := rfl
@[simp] theorem tfk_23 : tE.fk 23 = true := rfl
@[simp] theorem tfk_24 : tE.fk 24 = true := rfl
@[simp] theorem tfk_25 : tE.fk 25 = true := rfl
@[simp] theorem tfk_26 : tE.fk 26 = true := rfl
@[simp] theorem tfk_27 : tE.fk 27 = true := rfl
@[simp] theorem tfk_28 : tE.fk 28 = true := rfl
@[simp] theorem tfk_29 : tE.fk 29 = true := rfl
@[simp] theorem tfk_30 : tE.fk 30 = true := rfl
@[simp] theorem tfk_31 : tE.fk 31 = true := rfl
@[simp] theorem tfk_32 : tE.fk 32 = true := rfl
@[simp] theorem tfk_33 : tE.fk 33 = true := rfl
@[simp] theorem tfk_34 : tE.fk 34 = true := rfl
@[simp] theorem tfk_35 : tE.fk 35 = true := rfl
@[simp] theorem tfk_36 : tE.fk 36 = true := rfl
@[simp] theorem tfk_37 : tE.fk 37 = true := rfl
@[simp] theorem tfk_38 : tE.fk 38 = true := rfl
@[simp] theorem tfk_39 : tE.fk 39 = true := rfl
@[simp] theorem tfk_40 : tE.fk 40 = true := rfl
@[simp] theorem tfk_41 : tE.fk 41 = true := rfl
@[simp] theorem tfk_42 : tE.fk 42 = true := rfl
@[simp] theorem tfk_43 : tE.fk 43 = true := rfl
@[simp] theorem tfk_44 : tE.fk 44 = true := rfl
@[simp] theorem tfk_45 : tE.fk 45 = true := rfl
@[simp] theorem tfk_46 : tE.fk 46 = true := rfl
@[simp] theorem tfk_47 : tE.fk 47 = true := rfl
@[simp] theorem tfk_48 : tE.fk 48 = true := rfl
@[simp] theorem tfk_49 : tE.fk 49 = true := rfl
@[simp] theorem tfk_50 : tE.fk 50 = true := rfl
@[simp] theorem tfk_51 : tE.fk 51 = true := rfl
@[simp] theorem tfk_52 : tE.fk 52 = true := rfl
@[simp] theorem tfk_53 : tE.fk 53 = true := rfl
@[simp] theorem tfk_54 : tE.fk 54 = true := rfl
@[simp] theorem tfk_55 : tE.fk 55 = true := rfl
@[simp] theorem tfk_56 : tE.fk 56 = true := rfl
@[simp] theorem tfk_57 : tE.fk 57 = true := rfl
@[simp] theorem tfk_58 : tE.fk 58 = true := rfl
@[simp] theorem tfk_59 : tE.fk 59 = true := rfl
@[simp] theorem tfk_60 : tE.fk 60 = true := rfl
@[simp] theorem tfk_61 : tE.fk 61 = true := rfl
@[simp] theorem tfk_62 : tE.fk 62 = true := rfl
@[simp] theorem tfk_63 : tE.fk 63 = true := rfl
@[simp] theorem tfk_64 : tE.fk 64 = true := rfl
@[simp] theorem tfk_65 : tE.fk 65 = true := rfl
@[simp] theorem tfk_66 : tE.fk 66 = true := rfl
@[simp] theorem tfk_67 : tE.fk 67 = true := rfl
@[simp] theorem tfk_68 : tE.fk 68 = true := rfl
@[simp] theorem tfk_69 : tE.fk 69 = true := rfl
@[simp] theorem tfk_70 : tE.fk 70 = true := rfl
@[simp] theorem tfk_71 : tE.fk 71 = true := rfl
@[simp] theorem tfk_72 : tE.fk 72 = true := rfl
@[simp] theorem tfk_73 : tE.fk 73 = true := rfl
@[simp] theorem tfk_74 : tE.fk 74 = true := rfl
@[simp] theorem tfk_75 : tE.fk 75 = true := rfl
@[simp] theorem tfk_76 : tE.fk 76 = true := rfl
@[simp] theorem tfk_77 : tE.fk 77 = true := rfl
@[simp] theorem tfk_78 : tE.fk 78 = true := rfl
@[simp] theorem tfk_79 : tE.fk 79 = true := rfl
@[simp] theorem tfk_80 : tE.fk 80 = true := rfl
@[simp] theorem tfk_81 : tE.fk 81 = true := rfl
@[simp] theorem tfk_82 : tE.fk 82 = true := rfl
@[simp] theorem tfk_83 : tE.fk 83 = true := rfl
@[simp] theorem tfk_84 : tE.fk 84 = true := rfl
@[simp] theorem tfk_85 : tE.fk 85 = true := rfl
@[simp] theorem tfk_86 : tE.fk 86 = true := rfl
@[simp] theorem tfk_87 : tE.fk 87 = true := rfl
@[simp] theorem tfk_88 : tE.fk 88 = true := rfl
@[simp] theorem tfk_89 : tE.fk 89 = true := rfl
@[simp] theorem tfk_90 : tE.fk 90 = true := rfl
@[simp] theorem tfk_91 : tE.fk 91 = true := rfl
@[simp] theorem tfk_92 : tE.fk 92 = true := rfl
@[simp] theorem tfk_93 : tE.fk 93 = true := rfl
@[simp] theorem tfk_94 : tE.fk 94 = true := rfl
@[simp] theorem tfk_95 : tE.fk 95 = true := rfl
@[simp] theorem tfk_96 : tE.fk 96 = true := rfl
@[simp] theorem tfk_97 : tE.fk 97 = true := rfl
@[simp] theorem tfk_98 : tE.fk 98 = true := rfl
@[simp] theorem tfk_99 : tE.fk 99 = true := rfl
@[simp] theorem tfk_100 : tE.fk 100 = true := rfl
@[simp] theorem tfk_101 : tE.fk 101 = true := rfl
@[simp] theorem tfk_102 : tE.fk 102 = true := rfl
@[simp] theorem tfk_103 : tE.fk 103 = true := rfl
@[simp] theorem tfk_104 : tE.fk 104 = true := rfl
@[simp] theorem tfk_105 : tE.fk 105 = true := rfl
@[simp] theorem tfk_106 : tE.fk 106 = true := rfl
@[simp] theorem tfk_107 : tE.fk 107 = true := rfl
@[simp] theorem tfk_108 : tE.fk 108 = true := rfl
@[simp] theorem tfk_109 : tE.fk 109 = true := rfl
@[simp] theorem tfk_110 : tE.fk 110 = true := rfl
@[simp] theorem tfk_111 : tE.fk 111 = true := rfl
@[simp] theorem tfk_112 : tE.fk 112 = true := rfl
@[simp] theorem tfk_113 : tE.fk 113 = true := rfl
@[simp] theorem tfk_114 : tE.fk 114 = true := rfl
theorem tfine_all : (taggs.all fun T => tsize T == ((tlay T).map tsize).sum) = true := by kernel_rfl
theorem tFine : tE.Fine where
  scalar T h := by
    have h : tagg T = false := h
    show tsize T = 1
    simp [tsize, h]
  aggr T h := by
    have h : taggs.contains T = true := h
    exact eq_of_beq (List.all_eq_true.1 tfine_all T (by simpa using h))
theorem tchk_all : tts.all (tchk tE) = true := by kernel_rfl
theorem fchk_all : tfs.all (fchk tE) = true := by kernel_rfl
theorem tOK : tE.OK := Env.ok_of_check tFine tts tfs (fun T h => by
    have h : tts.contains T = true := h
    simpa using h) (fun f h => by
    have h : tfs.contains f = true := h
    simpa using h) tchk_all fchk_all
end Go.Proofs.YtdplbgfokoajjaaGreat
