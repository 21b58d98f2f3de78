/- The table of functions, and that it fits the program. Printed by program. -/
import Derived.Test.YtfekfnapgfddbaaGreatAf0
import Derived.Test.YtfekfnapgfddbaaGreatAf1
import Derived.Test.YtfekfnapgfddbaaGreatProg
import Derived.Test.YtfekfnapgfddbaaGreatAm18
import Derived.KernelRfl
set_option maxRecDepth 100000
set_option linter.unusedVariables false
set_option maxHeartbeats 0
namespace Go.Am
open Go

/-- A table of functions. -/
inductive BT where
  | lf
  | nd (k : Nat) (a : AF) (l r : BT)
noncomputable def BT.find (t : BT) : Nat → Option AF :=
  BT.rec (fun _ => none) (fun k a _ _ fl fr f => bif Nat.beq f k then some a else bif Nat.ble f k then fl f else fr f) t
def BT.all (p : Nat → AF → Prop) : BT → Prop
  | .lf => True
  | .nd k a l r => p k a ∧ l.all p ∧ r.all p
theorem BT.find_all {p : Nat → AF → Prop} : ∀ {t : BT}, t.all p → ∀ {f : Nat} {a : AF}, t.find f = some a → p f a
  | .lf, _, f, a, h => by cases h
  | .nd k b l r, ha, f, a, h => by
    obtain ⟨h1, h2, h3⟩ := ha
    have h : (bif Nat.beq f k then some b else bif Nat.ble f k then l.find f else r.find f) = some a := h
    cases e : Nat.beq f k with
    | true => rw [e] at h; cases h; rw [Nat.eq_of_beq_eq_true e]; exact h1
    | false =>
      rw [e] at h
      cases e2 : Nat.ble f k with
      | true => rw [e2] at h; exact BT.find_all h2 h
      | false => rw [e2] at h; exact BT.find_all h3 h

section
variable (f : Nat)
theorem c_law18_SubZero : cFun Go.Proofs.Tryz.prog 14 = some af_law18_SubZero := by kernel_rfl
theorem c_ref13_Parse : cFun Go.Proofs.Tryz.prog 22 = some af_ref13_Parse := by kernel_rfl
theorem c_ref16_Build : cFun Go.Proofs.Tryz.prog 23 = some af_ref16_Build := by kernel_rfl
theorem c_nav_New : cFun Go.Proofs.Tryz.prog 24 = some af_nav_New := by kernel_rfl
theorem c_nav_Nav_Len : cFun Go.Proofs.Tryz.prog 26 = some af_nav_Nav_Len := by kernel_rfl
theorem c_law18_awake : cFun Go.Proofs.Tryz.prog 29 = some af_law18_awake := by kernel_rfl
theorem c_law18_of : cFun Go.Proofs.Tryz.prog 30 = some af_law18_of := by kernel_rfl
theorem c_sub_Range : cFun Go.Proofs.Tryz.prog 32 = some af_sub_Range := by kernel_rfl
theorem c_sub_Nodes : cFun Go.Proofs.Tryz.prog 34 = some af_sub_Nodes := by kernel_rfl
theorem c_ref15_Children : cFun Go.Proofs.Tryz.prog 35 = some af_ref15_Children := by kernel_rfl
theorem c_nav_Nav_Row : cFun Go.Proofs.Tryz.prog 36 = some af_nav_Nav_Row := by kernel_rfl
theorem c_ref02_Same : cFun Go.Proofs.Tryz.prog 38 = some af_ref02_Same := by kernel_rfl
theorem c_sub_Steps : cFun Go.Proofs.Tryz.prog 39 = some af_sub_Steps := by kernel_rfl
theorem c_sub_Count : cFun Go.Proofs.Tryz.prog 40 = some af_sub_Count := by kernel_rfl
theorem c_nav_Nav_Symbols : cFun Go.Proofs.Tryz.prog 42 = some af_nav_Nav_Symbols := by kernel_rfl
theorem c_wave_New : cFun Go.Proofs.Tryz.prog 46 = some af_wave_New := by kernel_rfl
theorem c_ints_Tight : cFun Go.Proofs.Tryz.prog 47 = some af_ints_Tight := by kernel_rfl
theorem c_bits_Make : cFun Go.Proofs.Tryz.prog 49 = some af_bits_Make := by kernel_rfl
theorem c_nav_Nav_Symbol : cFun Go.Proofs.Tryz.prog 58 = some af_nav_Nav_Symbol := by kernel_rfl
theorem c_ref15_Symbol : cFun Go.Proofs.Tryz.prog 67 = some af_ref15_Symbol := by kernel_rfl
theorem c_ref15_Up : cFun Go.Proofs.Tryz.prog 68 = some af_ref15_Up := by kernel_rfl
theorem c_ref15_Parent : cFun Go.Proofs.Tryz.prog 70 = some af_ref15_Parent := by kernel_rfl
theorem c_nav_Nav_Leaf : cFun Go.Proofs.Tryz.prog 72 = some af_nav_Nav_Leaf := by kernel_rfl
theorem c_nav_Nav_Group : cFun Go.Proofs.Tryz.prog 73 = some af_nav_Nav_Group := by kernel_rfl
theorem c_nav_Nav_Among : cFun Go.Proofs.Tryz.prog 74 = some af_nav_Nav_Among := by kernel_rfl
theorem c_nav_Nav_Begin : cFun Go.Proofs.Tryz.prog 75 = some af_nav_Nav_Begin := by kernel_rfl
theorem c_nav_Nav_Inner : cFun Go.Proofs.Tryz.prog 76 = some af_nav_Nav_Inner := by kernel_rfl
theorem c_sub_Below : cFun Go.Proofs.Tryz.prog 77 = some af_sub_Below := by kernel_rfl
theorem c_nav_Nav_Node : cFun Go.Proofs.Tryz.prog 79 = some af_nav_Nav_Node := by kernel_rfl
theorem c_ref12_Lex : cFun Go.Proofs.Tryz.prog 87 = some af_ref12_Lex := by kernel_rfl
theorem c_ref13_texts : cFun Go.Proofs.Tryz.prog 88 = some af_ref13_texts := by kernel_rfl
theorem c_ref13_spaces : cFun Go.Proofs.Tryz.prog 89 = some af_ref13_spaces := by kernel_rfl
theorem c_ref13_element : cFun Go.Proofs.Tryz.prog 90 = some af_ref13_element := by kernel_rfl
theorem c_ref13_limited : cFun Go.Proofs.Tryz.prog 91 = some af_ref13_limited := by kernel_rfl
theorem c_ref16_Order : cFun Go.Proofs.Tryz.prog 92 = some af_ref16_Order := by kernel_rfl
theorem c_nav_shape : cFun Go.Proofs.Tryz.prog 93 = some af_nav_shape := by kernel_rfl
theorem c_order_Inverse : cFun Go.Proofs.Tryz.prog 94 = some af_order_Inverse := by kernel_rfl
theorem c_slices_IsSorted_int : cFun Go.Proofs.Tryz.prog 95 = some af_slices_IsSorted_int := by kernel_rfl
theorem c_nav_made : cFun Go.Proofs.Tryz.prog 96 = some af_nav_made := by kernel_rfl
theorem c_nav_Nav_skeleton : cFun Go.Proofs.Tryz.prog 97 = some af_nav_Nav_skeleton := by kernel_rfl
theorem c_xbw_Build : cFun Go.Proofs.Tryz.prog 98 = some af_xbw_Build := by kernel_rfl
theorem c_nav_alike : cFun Go.Proofs.Tryz.prog 99 = some af_nav_alike := by kernel_rfl
theorem c_ints_Ints_Len : cFun Go.Proofs.Tryz.prog 101 = some af_ints_Ints_Len := by kernel_rfl
theorem c_slices_Clone_int : cFun Go.Proofs.Tryz.prog 103 = some af_slices_Clone_int := by kernel_rfl
theorem c_sub_Nodes_1 : cFun Go.Proofs.Tryz.prog 105 = some af_sub_Nodes_1 := by kernel_rfl
theorem c_sub_ends : cFun Go.Proofs.Tryz.prog 106 = some af_sub_ends := by kernel_rfl
theorem c_slices_Sort_int : cFun Go.Proofs.Tryz.prog 107 = some af_slices_Sort_int := by kernel_rfl
theorem c_ints_Ints_At : cFun Go.Proofs.Tryz.prog 108 = some af_ints_Ints_At := by kernel_rfl
theorem c_wave_New_1 : cFun Go.Proofs.Tryz.prog 111 = some af_wave_New_1 := by kernel_rfl
theorem c_slices_ContainsFunc_int : cFun Go.Proofs.Tryz.prog 112 = some af_slices_ContainsFunc_int := by kernel_rfl
theorem c_wave_width : cFun Go.Proofs.Tryz.prog 113 = some af_wave_width := by kernel_rfl
theorem c_bits_New : cFun Go.Proofs.Tryz.prog 114 = some af_bits_New := by kernel_rfl
theorem c_bits_Builder_Add : cFun Go.Proofs.Tryz.prog 115 = some af_bits_Builder_Add := by kernel_rfl
theorem c_rank_New : cFun Go.Proofs.Tryz.prog 116 = some af_rank_New := by kernel_rfl
theorem c_bits_Builder_Bits : cFun Go.Proofs.Tryz.prog 117 = some af_bits_Builder_Bits := by kernel_rfl
theorem c_wave_parted : cFun Go.Proofs.Tryz.prog 118 = some af_wave_parted := by kernel_rfl
theorem c_ints_Pack : cFun Go.Proofs.Tryz.prog 119 = some af_ints_Pack := by kernel_rfl
theorem c_ints_Width : cFun Go.Proofs.Tryz.prog 120 = some af_ints_Width := by kernel_rfl
theorem c_wave_Wave_At : cFun Go.Proofs.Tryz.prog 127 = some af_wave_Wave_At := by kernel_rfl
theorem c_bits_Bits_One : cFun Go.Proofs.Tryz.prog 134 = some af_bits_Bits_One := by kernel_rfl
theorem c_nav_Nav_above : cFun Go.Proofs.Tryz.prog 135 = some af_nav_Nav_above := by kernel_rfl
theorem c_rank_Rank_Rank1 : cFun Go.Proofs.Tryz.prog 136 = some af_rank_Rank_Rank1 := by kernel_rfl
theorem c_rank_Rank_Select1 : cFun Go.Proofs.Tryz.prog 137 = some af_rank_Rank_Select1 := by kernel_rfl
theorem c_nav_Nav_is : cFun Go.Proofs.Tryz.prog 138 = some af_nav_Nav_is := by kernel_rfl
theorem c_nav_Nav_Among_1 : cFun Go.Proofs.Tryz.prog 139 = some af_nav_Nav_Among_1 := by kernel_rfl
theorem c_wave_Wave_Rank : cFun Go.Proofs.Tryz.prog 140 = some af_wave_Wave_Rank := by kernel_rfl
theorem c_wave_Wave_Count : cFun Go.Proofs.Tryz.prog 141 = some af_wave_Wave_Count := by kernel_rfl
theorem c_wave_Wave_Select : cFun Go.Proofs.Tryz.prog 142 = some af_wave_Wave_Select := by kernel_rfl
theorem c_order_Merge : cFun Go.Proofs.Tryz.prog 143 = some af_order_Merge := by kernel_rfl
theorem c_nav_coded : cFun Go.Proofs.Tryz.prog 144 = some af_nav_coded := by kernel_rfl
theorem c_ref11_Valid : cFun Go.Proofs.Tryz.prog 155 = some af_ref11_Valid := by kernel_rfl
theorem c_ref12_piece : cFun Go.Proofs.Tryz.prog 156 = some af_ref12_piece := by kernel_rfl
theorem c_ref11_Skip : cFun Go.Proofs.Tryz.prog 157 = some af_ref11_Skip := by kernel_rfl
theorem c_ref13_with : cFun Go.Proofs.Tryz.prog 158 = some af_ref13_with := by kernel_rfl
theorem c_ref13_Number : cFun Go.Proofs.Tryz.prog 159 = some af_ref13_Number := by kernel_rfl
theorem c_ref07_Less : cFun Go.Proofs.Tryz.prog 160 = some af_ref07_Less := by kernel_rfl
theorem c_nav_shape_1 : cFun Go.Proofs.Tryz.prog 161 = some af_nav_shape_1 := by kernel_rfl
theorem c_nav_shape_2 : cFun Go.Proofs.Tryz.prog 162 = some af_nav_shape_2 := by kernel_rfl
theorem c_slices_Repeat_int : cFun Go.Proofs.Tryz.prog 163 = some af_slices_Repeat_int := by kernel_rfl
theorem c_cmp_Less_int : cFun Go.Proofs.Tryz.prog 164 = some af_cmp_Less_int := by kernel_rfl
theorem c_tree_Symbols : cFun Go.Proofs.Tryz.prog 165 = some af_tree_Symbols := by kernel_rfl
theorem c_tree_Parent : cFun Go.Proofs.Tryz.prog 166 = some af_tree_Parent := by kernel_rfl
theorem c_tree_Symbol : cFun Go.Proofs.Tryz.prog 167 = some af_tree_Symbol := by kernel_rfl
theorem c_xbw_Order : cFun Go.Proofs.Tryz.prog 168 = some af_xbw_Order := by kernel_rfl
theorem c_slices_Equal_int : cFun Go.Proofs.Tryz.prog 169 = some af_slices_Equal_int := by kernel_rfl
theorem c_slices_Equal_bool : cFun Go.Proofs.Tryz.prog 170 = some af_slices_Equal_bool := by kernel_rfl
theorem c_slices_pdqsortOrdered_int : cFun Go.Proofs.Tryz.prog 172 = some af_slices_pdqsortOrdered_int := by kernel_rfl
theorem c_math_bits_Len : cFun Go.Proofs.Tryz.prog 173 = some af_math_bits_Len := by kernel_rfl
theorem c_ints_Ints_Get : cFun Go.Proofs.Tryz.prog 174 = some af_ints_Ints_Get := by kernel_rfl
theorem c_slices_IndexFunc_int : cFun Go.Proofs.Tryz.prog 177 = some af_slices_IndexFunc_int := by kernel_rfl
theorem c_bits_Bits_Len : cFun Go.Proofs.Tryz.prog 178 = some af_bits_Bits_Len := by kernel_rfl
theorem c_bits_Bits_Ones : cFun Go.Proofs.Tryz.prog 179 = some af_bits_Bits_Ones := by kernel_rfl
theorem c_slices_SortStableFunc_int : cFun Go.Proofs.Tryz.prog 180 = some af_slices_SortStableFunc_int := by kernel_rfl
theorem c_wave_parted_1 : cFun Go.Proofs.Tryz.prog 181 = some af_wave_parted_1 := by kernel_rfl
theorem c_ints_Pack_1 : cFun Go.Proofs.Tryz.prog 182 = some af_ints_Pack_1 := by kernel_rfl
theorem c_bits_Builder_Put : cFun Go.Proofs.Tryz.prog 183 = some af_bits_Builder_Put := by kernel_rfl
theorem c_wave_Wave_Get : cFun Go.Proofs.Tryz.prog 189 = some af_wave_Wave_Get := by kernel_rfl
theorem c_sort_Search : cFun Go.Proofs.Tryz.prog 191 = some af_sort_Search := by kernel_rfl
theorem c_nav_Nav_above_1 : cFun Go.Proofs.Tryz.prog 192 = some af_nav_Nav_above_1 := by kernel_rfl
theorem c_rank_Rank_Len : cFun Go.Proofs.Tryz.prog 193 = some af_rank_Rank_Len := by kernel_rfl
theorem c_bits_Bits_Number : cFun Go.Proofs.Tryz.prog 194 = some af_bits_Bits_Number := by kernel_rfl
theorem c_rank_Rank_find : cFun Go.Proofs.Tryz.prog 195 = some af_rank_Rank_find := by kernel_rfl
theorem c_rank_Rank_Select1_1 : cFun Go.Proofs.Tryz.prog 196 = some af_rank_Rank_Select1_1 := by kernel_rfl
theorem c_wave_Wave_is : cFun Go.Proofs.Tryz.prog 197 = some af_wave_Wave_is := by kernel_rfl
theorem c_wave_Wave_bit : cFun Go.Proofs.Tryz.prog 198 = some af_wave_Wave_bit := by kernel_rfl
theorem c_wave_part_place : cFun Go.Proofs.Tryz.prog 199 = some af_wave_part_place := by kernel_rfl
theorem c_wave_part_down : cFun Go.Proofs.Tryz.prog 200 = some af_wave_part_down := by kernel_rfl
theorem c_slices_Backward_Rank : cFun Go.Proofs.Tryz.prog 201 = some af_slices_Backward_Rank := by kernel_rfl
theorem c_rank_Rank_Select0 : cFun Go.Proofs.Tryz.prog 202 = some af_rank_Rank_Select0 := by kernel_rfl
theorem c_rank_Rank_Rank0 : cFun Go.Proofs.Tryz.prog 203 = some af_rank_Rank_Rank0 := by kernel_rfl
theorem c_order_picked : cFun Go.Proofs.Tryz.prog 204 = some af_order_picked := by kernel_rfl
theorem c_order_Merge_1 : cFun Go.Proofs.Tryz.prog 205 = some af_order_Merge_1 := by kernel_rfl
theorem c_ref11_Rune : cFun Go.Proofs.Tryz.prog 221 = some af_ref11_Rune := by kernel_rfl
theorem c_ref11_Allowed : cFun Go.Proofs.Tryz.prog 222 = some af_ref11_Allowed := by kernel_rfl
theorem c_ref12_begins : cFun Go.Proofs.Tryz.prog 223 = some af_ref12_begins := by kernel_rfl
theorem c_ref12_find : cFun Go.Proofs.Tryz.prog 224 = some af_ref12_find := by kernel_rfl
theorem c_ref11_NameEnd : cFun Go.Proofs.Tryz.prog 225 = some af_ref11_NameEnd := by kernel_rfl
theorem c_ref12_tag : cFun Go.Proofs.Tryz.prog 226 = some af_ref12_tag := by kernel_rfl
theorem c_ref12_decoded : cFun Go.Proofs.Tryz.prog 227 = some af_ref12_decoded := by kernel_rfl
theorem c_ref11_Space : cFun Go.Proofs.Tryz.prog 228 = some af_ref11_Space := by kernel_rfl
theorem c_math_bits_Mul : cFun Go.Proofs.Tryz.prog 229 = some af_math_bits_Mul := by kernel_rfl
theorem c_cmp_isNaN_int : cFun Go.Proofs.Tryz.prog 230 = some af_cmp_isNaN_int := by kernel_rfl
theorem c_order_Stable : cFun Go.Proofs.Tryz.prog 231 = some af_order_Stable := by kernel_rfl
theorem c_xbw_ranks : cFun Go.Proofs.Tryz.prog 232 = some af_xbw_ranks := by kernel_rfl
theorem c_slices_insertionSortOrdered_int : cFun Go.Proofs.Tryz.prog 233 = some af_slices_insertionSortOrdered_int := by kernel_rfl
theorem c_slices_heapSortOrdered_int : cFun Go.Proofs.Tryz.prog 234 = some af_slices_heapSortOrdered_int := by kernel_rfl
theorem c_slices_breakPatternsOrdered_int : cFun Go.Proofs.Tryz.prog 235 = some af_slices_breakPatternsOrdered_int := by kernel_rfl
theorem c_slices_choosePivotOrdered_int : cFun Go.Proofs.Tryz.prog 236 = some af_slices_choosePivotOrdered_int := by kernel_rfl
theorem c_slices_reverseRangeOrdered_int : cFun Go.Proofs.Tryz.prog 237 = some af_slices_reverseRangeOrdered_int := by kernel_rfl
theorem c_slices_partialInsertionSortOrdered_int : cFun Go.Proofs.Tryz.prog 238 = some af_slices_partialInsertionSortOrdered_int := by kernel_rfl
theorem c_slices_partitionEqualOrdered_int : cFun Go.Proofs.Tryz.prog 239 = some af_slices_partitionEqualOrdered_int := by kernel_rfl
theorem c_slices_partitionOrdered_int : cFun Go.Proofs.Tryz.prog 240 = some af_slices_partitionOrdered_int := by kernel_rfl
theorem c_math_bits_Len32 : cFun Go.Proofs.Tryz.prog 241 = some af_math_bits_Len32 := by kernel_rfl
theorem c_math_bits_Len64 : cFun Go.Proofs.Tryz.prog 242 = some af_math_bits_Len64 := by kernel_rfl
theorem c_rank_Rank_One : cFun Go.Proofs.Tryz.prog 244 = some af_rank_Rank_One := by kernel_rfl
theorem c_bits_Bits_ahead : cFun Go.Proofs.Tryz.prog 245 = some af_bits_Bits_ahead := by kernel_rfl
theorem c_slices_stableCmpFunc_int : cFun Go.Proofs.Tryz.prog 246 = some af_slices_stableCmpFunc_int := by kernel_rfl
theorem c_bits_fits : cFun Go.Proofs.Tryz.prog 247 = some af_bits_fits := by kernel_rfl
theorem c_order_Pairs : cFun Go.Proofs.Tryz.prog 251 = some af_order_Pairs := by kernel_rfl
theorem c_slices_Backward_Rank_1 : cFun Go.Proofs.Tryz.prog 257 = some af_slices_Backward_Rank_1 := by kernel_rfl
theorem c_rank_Rank_Select0_1 : cFun Go.Proofs.Tryz.prog 258 = some af_rank_Rank_Select0_1 := by kernel_rfl
theorem c_order_side : cFun Go.Proofs.Tryz.prog 259 = some af_order_side := by kernel_rfl
theorem c_order_picked_1 : cFun Go.Proofs.Tryz.prog 260 = some af_order_picked_1 := by kernel_rfl
theorem c_ref11_Encode : cFun Go.Proofs.Tryz.prog 266 = some af_ref11_Encode := by kernel_rfl
theorem c_ref12_attr : cFun Go.Proofs.Tryz.prog 267 = some af_ref12_attr := by kernel_rfl
theorem c_ref11_Entity : cFun Go.Proofs.Tryz.prog 268 = some af_ref11_Entity := by kernel_rfl
theorem c_math_bits_Mul32 : cFun Go.Proofs.Tryz.prog 269 = some af_math_bits_Mul32 := by kernel_rfl
theorem c_math_bits_Mul64 : cFun Go.Proofs.Tryz.prog 270 = some af_math_bits_Mul64 := by kernel_rfl
theorem c_order_Stable_1 : cFun Go.Proofs.Tryz.prog 271 = some af_order_Stable_1 := by kernel_rfl
theorem c_order_buckets : cFun Go.Proofs.Tryz.prog 272 = some af_order_buckets := by kernel_rfl
theorem c_order_all : cFun Go.Proofs.Tryz.prog 273 = some af_order_all := by kernel_rfl
theorem c_order_Ranks : cFun Go.Proofs.Tryz.prog 274 = some af_order_Ranks := by kernel_rfl
theorem c_slices_Max_int : cFun Go.Proofs.Tryz.prog 275 = some af_slices_Max_int := by kernel_rfl
theorem c_xbw_ranks_1 : cFun Go.Proofs.Tryz.prog 276 = some af_xbw_ranks_1 := by kernel_rfl
theorem c_slices_siftDownOrdered_int : cFun Go.Proofs.Tryz.prog 277 = some af_slices_siftDownOrdered_int := by kernel_rfl
theorem c_slices_nextPowerOfTwo : cFun Go.Proofs.Tryz.prog 278 = some af_slices_nextPowerOfTwo := by kernel_rfl
theorem c_slices_xorshift_Next : cFun Go.Proofs.Tryz.prog 279 = some af_slices_xorshift_Next := by kernel_rfl
theorem c_slices_medianAdjacentOrdered_int : cFun Go.Proofs.Tryz.prog 280 = some af_slices_medianAdjacentOrdered_int := by kernel_rfl
theorem c_slices_medianOrdered_int : cFun Go.Proofs.Tryz.prog 281 = some af_slices_medianOrdered_int := by kernel_rfl
theorem c_bits_Bits_ahead_1 : cFun Go.Proofs.Tryz.prog 283 = some af_bits_Bits_ahead_1 := by kernel_rfl
theorem c_math_bits_OnesCount64 : cFun Go.Proofs.Tryz.prog 284 = some af_math_bits_OnesCount64 := by kernel_rfl
theorem c_slices_insertionSortCmpFunc_int : cFun Go.Proofs.Tryz.prog 285 = some af_slices_insertionSortCmpFunc_int := by kernel_rfl
theorem c_slices_symMergeCmpFunc_int : cFun Go.Proofs.Tryz.prog 286 = some af_slices_symMergeCmpFunc_int := by kernel_rfl
theorem c_slices_Compact_int : cFun Go.Proofs.Tryz.prog 292 = some af_slices_Compact_int := by kernel_rfl
theorem c_ref11_point : cFun Go.Proofs.Tryz.prog 295 = some af_ref11_point := by kernel_rfl
theorem c_ref11_begins : cFun Go.Proofs.Tryz.prog 296 = some af_ref11_begins := by kernel_rfl
theorem c_ref11_number : cFun Go.Proofs.Tryz.prog 297 = some af_ref11_number := by kernel_rfl
theorem c_order_buckets_1 : cFun Go.Proofs.Tryz.prog 298 = some af_order_buckets_1 := by kernel_rfl
theorem c_order_buckets_2 : cFun Go.Proofs.Tryz.prog 299 = some af_order_buckets_2 := by kernel_rfl
theorem c_order_buckets_3 : cFun Go.Proofs.Tryz.prog 300 = some af_order_buckets_3 := by kernel_rfl
theorem c_slices_BinarySearch_int : cFun Go.Proofs.Tryz.prog 301 = some af_slices_BinarySearch_int := by kernel_rfl
theorem c_slices_order2Ordered_int : cFun Go.Proofs.Tryz.prog 302 = some af_slices_order2Ordered_int := by kernel_rfl
theorem c_slices_rotateCmpFunc_int : cFun Go.Proofs.Tryz.prog 303 = some af_slices_rotateCmpFunc_int := by kernel_rfl
theorem c_slices_isNaN_int : cFun Go.Proofs.Tryz.prog 309 = some af_slices_isNaN_int := by kernel_rfl
theorem c_slices_swapRangeCmpFunc_int : cFun Go.Proofs.Tryz.prog 310 = some af_slices_swapRangeCmpFunc_int := by kernel_rfl
end
def tb : BT := (.nd 173 af_math_bits_Len (.nd 103 af_slices_Clone_int (.nd 70 af_ref15_Parent (.nd 36 af_nav_Nav_Row (.nd 29 af_law18_awake (.nd 23 af_ref16_Build (.nd 22 af_ref13_Parse (.nd 14 af_law18_SubZero .lf .lf) .lf) (.nd 26 af_nav_Nav_Len (.nd 24 af_nav_New .lf .lf) .lf)) (.nd 34 af_sub_Nodes (.nd 32 af_sub_Range (.nd 30 af_law18_of .lf .lf) .lf) (.nd 35 af_ref15_Children .lf .lf))) (.nd 47 af_ints_Tight (.nd 40 af_sub_Count (.nd 39 af_sub_Steps (.nd 38 af_ref02_Same .lf .lf) .lf) (.nd 46 af_wave_New (.nd 42 af_nav_Nav_Symbols .lf .lf) .lf)) (.nd 67 af_ref15_Symbol (.nd 58 af_nav_Nav_Symbol (.nd 49 af_bits_Make .lf .lf) .lf) (.nd 68 af_ref15_Up .lf .lf)))) (.nd 90 af_ref13_element (.nd 77 af_sub_Below (.nd 74 af_nav_Nav_Among (.nd 73 af_nav_Nav_Group (.nd 72 af_nav_Nav_Leaf .lf .lf) .lf) (.nd 76 af_nav_Nav_Inner (.nd 75 af_nav_Nav_Begin .lf .lf) .lf)) (.nd 88 af_ref13_texts (.nd 87 af_ref12_Lex (.nd 79 af_nav_Nav_Node .lf .lf) .lf) (.nd 89 af_ref13_spaces .lf .lf))) (.nd 96 af_nav_made (.nd 93 af_nav_shape (.nd 92 af_ref16_Order (.nd 91 af_ref13_limited .lf .lf) .lf) (.nd 95 af_slices_IsSorted_int (.nd 94 af_order_Inverse .lf .lf) .lf)) (.nd 99 af_nav_alike (.nd 98 af_xbw_Build (.nd 97 af_nav_Nav_skeleton .lf .lf) .lf) (.nd 101 af_ints_Ints_Len .lf .lf))))) (.nd 140 af_wave_Wave_Rank (.nd 117 af_bits_Builder_Bits (.nd 112 af_slices_ContainsFunc_int (.nd 107 af_slices_Sort_int (.nd 106 af_sub_ends (.nd 105 af_sub_Nodes_1 .lf .lf) .lf) (.nd 111 af_wave_New_1 (.nd 108 af_ints_Ints_At .lf .lf) .lf)) (.nd 115 af_bits_Builder_Add (.nd 114 af_bits_New (.nd 113 af_wave_width .lf .lf) .lf) (.nd 116 af_rank_New .lf .lf))) (.nd 135 af_nav_Nav_above (.nd 120 af_ints_Width (.nd 119 af_ints_Pack (.nd 118 af_wave_parted .lf .lf) .lf) (.nd 134 af_bits_Bits_One (.nd 127 af_wave_Wave_At .lf .lf) .lf)) (.nd 138 af_nav_Nav_is (.nd 137 af_rank_Rank_Select1 (.nd 136 af_rank_Rank_Rank1 .lf .lf) .lf) (.nd 139 af_nav_Nav_Among_1 .lf .lf)))) (.nd 161 af_nav_shape_1 (.nd 156 af_ref12_piece (.nd 143 af_order_Merge (.nd 142 af_wave_Wave_Select (.nd 141 af_wave_Wave_Count .lf .lf) .lf) (.nd 155 af_ref11_Valid (.nd 144 af_nav_coded .lf .lf) .lf)) (.nd 159 af_ref13_Number (.nd 158 af_ref13_with (.nd 157 af_ref11_Skip .lf .lf) .lf) (.nd 160 af_ref07_Less .lf .lf))) (.nd 167 af_tree_Symbol (.nd 164 af_cmp_Less_int (.nd 163 af_slices_Repeat_int (.nd 162 af_nav_shape_2 .lf .lf) .lf) (.nd 166 af_tree_Parent (.nd 165 af_tree_Symbols .lf .lf) .lf)) (.nd 170 af_slices_Equal_bool (.nd 169 af_slices_Equal_int (.nd 168 af_xbw_Order .lf .lf) .lf) (.nd 172 af_slices_pdqsortOrdered_int .lf .lf)))))) (.nd 240 af_slices_partitionOrdered_int (.nd 203 af_rank_Rank_Rank0 (.nd 192 af_nav_Nav_above_1 (.nd 181 af_wave_parted_1 (.nd 178 af_bits_Bits_Len (.nd 177 af_slices_IndexFunc_int (.nd 174 af_ints_Ints_Get .lf .lf) .lf) (.nd 180 af_slices_SortStableFunc_int (.nd 179 af_bits_Bits_Ones .lf .lf) .lf)) (.nd 189 af_wave_Wave_Get (.nd 183 af_bits_Builder_Put (.nd 182 af_ints_Pack_1 .lf .lf) .lf) (.nd 191 af_sort_Search .lf .lf))) (.nd 198 af_wave_Wave_bit (.nd 195 af_rank_Rank_find (.nd 194 af_bits_Bits_Number (.nd 193 af_rank_Rank_Len .lf .lf) .lf) (.nd 197 af_wave_Wave_is (.nd 196 af_rank_Rank_Select1_1 .lf .lf) .lf)) (.nd 201 af_slices_Backward_Rank (.nd 200 af_wave_part_down (.nd 199 af_wave_part_place .lf .lf) .lf) (.nd 202 af_rank_Rank_Select0 .lf .lf)))) (.nd 229 af_math_bits_Mul (.nd 224 af_ref12_find (.nd 221 af_ref11_Rune (.nd 205 af_order_Merge_1 (.nd 204 af_order_picked .lf .lf) .lf) (.nd 223 af_ref12_begins (.nd 222 af_ref11_Allowed .lf .lf) .lf)) (.nd 227 af_ref12_decoded (.nd 226 af_ref12_tag (.nd 225 af_ref11_NameEnd .lf .lf) .lf) (.nd 228 af_ref11_Space .lf .lf))) (.nd 235 af_slices_breakPatternsOrdered_int (.nd 232 af_xbw_ranks (.nd 231 af_order_Stable (.nd 230 af_cmp_isNaN_int .lf .lf) .lf) (.nd 234 af_slices_heapSortOrdered_int (.nd 233 af_slices_insertionSortOrdered_int .lf .lf) .lf)) (.nd 238 af_slices_partialInsertionSortOrdered_int (.nd 237 af_slices_reverseRangeOrdered_int (.nd 236 af_slices_choosePivotOrdered_int .lf .lf) .lf) (.nd 239 af_slices_partitionEqualOrdered_int .lf .lf))))) (.nd 276 af_xbw_ranks_1 (.nd 260 af_order_picked_1 (.nd 247 af_bits_fits (.nd 244 af_rank_Rank_One (.nd 242 af_math_bits_Len64 (.nd 241 af_math_bits_Len32 .lf .lf) .lf) (.nd 246 af_slices_stableCmpFunc_int (.nd 245 af_bits_Bits_ahead .lf .lf) .lf)) (.nd 258 af_rank_Rank_Select0_1 (.nd 257 af_slices_Backward_Rank_1 (.nd 251 af_order_Pairs .lf .lf) .lf) (.nd 259 af_order_side .lf .lf))) (.nd 271 af_order_Stable_1 (.nd 268 af_ref11_Entity (.nd 267 af_ref12_attr (.nd 266 af_ref11_Encode .lf .lf) .lf) (.nd 270 af_math_bits_Mul64 (.nd 269 af_math_bits_Mul32 .lf .lf) .lf)) (.nd 274 af_order_Ranks (.nd 273 af_order_all (.nd 272 af_order_buckets .lf .lf) .lf) (.nd 275 af_slices_Max_int .lf .lf)))) (.nd 295 af_ref11_point (.nd 283 af_bits_Bits_ahead_1 (.nd 279 af_slices_xorshift_Next (.nd 278 af_slices_nextPowerOfTwo (.nd 277 af_slices_siftDownOrdered_int .lf .lf) .lf) (.nd 281 af_slices_medianOrdered_int (.nd 280 af_slices_medianAdjacentOrdered_int .lf .lf) .lf)) (.nd 286 af_slices_symMergeCmpFunc_int (.nd 285 af_slices_insertionSortCmpFunc_int (.nd 284 af_math_bits_OnesCount64 .lf .lf) .lf) (.nd 292 af_slices_Compact_int .lf .lf))) (.nd 301 af_slices_BinarySearch_int (.nd 298 af_order_buckets_1 (.nd 297 af_ref11_number (.nd 296 af_ref11_begins .lf .lf) .lf) (.nd 300 af_order_buckets_3 (.nd 299 af_order_buckets_2 .lf .lf) .lf)) (.nd 309 af_slices_isNaN_int (.nd 303 af_slices_rotateCmpFunc_int (.nd 302 af_slices_order2Ordered_int .lf .lf) .lf) (.nd 310 af_slices_swapRangeCmpFunc_int .lf .lf)))))))
noncomputable def Tb (f : Nat) : Option Fun := match tb.find f with
  | none => none
  | some a => some (.code a)
theorem tb_all : tb.all fun f a => cFun Go.Proofs.Tryz.prog f = some a := ⟨c_math_bits_Len, ⟨c_slices_Clone_int, ⟨c_ref15_Parent, ⟨c_nav_Nav_Row, ⟨c_law18_awake, ⟨c_ref16_Build, ⟨c_ref13_Parse, ⟨c_law18_SubZero, trivial, trivial⟩, trivial⟩, ⟨c_nav_Nav_Len, ⟨c_nav_New, trivial, trivial⟩, trivial⟩⟩, ⟨c_sub_Nodes, ⟨c_sub_Range, ⟨c_law18_of, trivial, trivial⟩, trivial⟩, ⟨c_ref15_Children, trivial, trivial⟩⟩⟩, ⟨c_ints_Tight, ⟨c_sub_Count, ⟨c_sub_Steps, ⟨c_ref02_Same, trivial, trivial⟩, trivial⟩, ⟨c_wave_New, ⟨c_nav_Nav_Symbols, trivial, trivial⟩, trivial⟩⟩, ⟨c_ref15_Symbol, ⟨c_nav_Nav_Symbol, ⟨c_bits_Make, trivial, trivial⟩, trivial⟩, ⟨c_ref15_Up, trivial, trivial⟩⟩⟩⟩, ⟨c_ref13_element, ⟨c_sub_Below, ⟨c_nav_Nav_Among, ⟨c_nav_Nav_Group, ⟨c_nav_Nav_Leaf, trivial, trivial⟩, trivial⟩, ⟨c_nav_Nav_Inner, ⟨c_nav_Nav_Begin, trivial, trivial⟩, trivial⟩⟩, ⟨c_ref13_texts, ⟨c_ref12_Lex, ⟨c_nav_Nav_Node, trivial, trivial⟩, trivial⟩, ⟨c_ref13_spaces, trivial, trivial⟩⟩⟩, ⟨c_nav_made, ⟨c_nav_shape, ⟨c_ref16_Order, ⟨c_ref13_limited, trivial, trivial⟩, trivial⟩, ⟨c_slices_IsSorted_int, ⟨c_order_Inverse, trivial, trivial⟩, trivial⟩⟩, ⟨c_nav_alike, ⟨c_xbw_Build, ⟨c_nav_Nav_skeleton, trivial, trivial⟩, trivial⟩, ⟨c_ints_Ints_Len, trivial, trivial⟩⟩⟩⟩⟩, ⟨c_wave_Wave_Rank, ⟨c_bits_Builder_Bits, ⟨c_slices_ContainsFunc_int, ⟨c_slices_Sort_int, ⟨c_sub_ends, ⟨c_sub_Nodes_1, trivial, trivial⟩, trivial⟩, ⟨c_wave_New_1, ⟨c_ints_Ints_At, trivial, trivial⟩, trivial⟩⟩, ⟨c_bits_Builder_Add, ⟨c_bits_New, ⟨c_wave_width, trivial, trivial⟩, trivial⟩, ⟨c_rank_New, trivial, trivial⟩⟩⟩, ⟨c_nav_Nav_above, ⟨c_ints_Width, ⟨c_ints_Pack, ⟨c_wave_parted, trivial, trivial⟩, trivial⟩, ⟨c_bits_Bits_One, ⟨c_wave_Wave_At, trivial, trivial⟩, trivial⟩⟩, ⟨c_nav_Nav_is, ⟨c_rank_Rank_Select1, ⟨c_rank_Rank_Rank1, trivial, trivial⟩, trivial⟩, ⟨c_nav_Nav_Among_1, trivial, trivial⟩⟩⟩⟩, ⟨c_nav_shape_1, ⟨c_ref12_piece, ⟨c_order_Merge, ⟨c_wave_Wave_Select, ⟨c_wave_Wave_Count, trivial, trivial⟩, trivial⟩, ⟨c_ref11_Valid, ⟨c_nav_coded, trivial, trivial⟩, trivial⟩⟩, ⟨c_ref13_Number, ⟨c_ref13_with, ⟨c_ref11_Skip, trivial, trivial⟩, trivial⟩, ⟨c_ref07_Less, trivial, trivial⟩⟩⟩, ⟨c_tree_Symbol, ⟨c_cmp_Less_int, ⟨c_slices_Repeat_int, ⟨c_nav_shape_2, trivial, trivial⟩, trivial⟩, ⟨c_tree_Parent, ⟨c_tree_Symbols, trivial, trivial⟩, trivial⟩⟩, ⟨c_slices_Equal_bool, ⟨c_slices_Equal_int, ⟨c_xbw_Order, trivial, trivial⟩, trivial⟩, ⟨c_slices_pdqsortOrdered_int, trivial, trivial⟩⟩⟩⟩⟩⟩, ⟨c_slices_partitionOrdered_int, ⟨c_rank_Rank_Rank0, ⟨c_nav_Nav_above_1, ⟨c_wave_parted_1, ⟨c_bits_Bits_Len, ⟨c_slices_IndexFunc_int, ⟨c_ints_Ints_Get, trivial, trivial⟩, trivial⟩, ⟨c_slices_SortStableFunc_int, ⟨c_bits_Bits_Ones, trivial, trivial⟩, trivial⟩⟩, ⟨c_wave_Wave_Get, ⟨c_bits_Builder_Put, ⟨c_ints_Pack_1, trivial, trivial⟩, trivial⟩, ⟨c_sort_Search, trivial, trivial⟩⟩⟩, ⟨c_wave_Wave_bit, ⟨c_rank_Rank_find, ⟨c_bits_Bits_Number, ⟨c_rank_Rank_Len, trivial, trivial⟩, trivial⟩, ⟨c_wave_Wave_is, ⟨c_rank_Rank_Select1_1, trivial, trivial⟩, trivial⟩⟩, ⟨c_slices_Backward_Rank, ⟨c_wave_part_down, ⟨c_wave_part_place, trivial, trivial⟩, trivial⟩, ⟨c_rank_Rank_Select0, trivial, trivial⟩⟩⟩⟩, ⟨c_math_bits_Mul, ⟨c_ref12_find, ⟨c_ref11_Rune, ⟨c_order_Merge_1, ⟨c_order_picked, trivial, trivial⟩, trivial⟩, ⟨c_ref12_begins, ⟨c_ref11_Allowed, trivial, trivial⟩, trivial⟩⟩, ⟨c_ref12_decoded, ⟨c_ref12_tag, ⟨c_ref11_NameEnd, trivial, trivial⟩, trivial⟩, ⟨c_ref11_Space, trivial, trivial⟩⟩⟩, ⟨c_slices_breakPatternsOrdered_int, ⟨c_xbw_ranks, ⟨c_order_Stable, ⟨c_cmp_isNaN_int, trivial, trivial⟩, trivial⟩, ⟨c_slices_heapSortOrdered_int, ⟨c_slices_insertionSortOrdered_int, trivial, trivial⟩, trivial⟩⟩, ⟨c_slices_partialInsertionSortOrdered_int, ⟨c_slices_reverseRangeOrdered_int, ⟨c_slices_choosePivotOrdered_int, trivial, trivial⟩, trivial⟩, ⟨c_slices_partitionEqualOrdered_int, trivial, trivial⟩⟩⟩⟩⟩, ⟨c_xbw_ranks_1, ⟨c_order_picked_1, ⟨c_bits_fits, ⟨c_rank_Rank_One, ⟨c_math_bits_Len64, ⟨c_math_bits_Len32, trivial, trivial⟩, trivial⟩, ⟨c_slices_stableCmpFunc_int, ⟨c_bits_Bits_ahead, trivial, trivial⟩, trivial⟩⟩, ⟨c_rank_Rank_Select0_1, ⟨c_slices_Backward_Rank_1, ⟨c_order_Pairs, trivial, trivial⟩, trivial⟩, ⟨c_order_side, trivial, trivial⟩⟩⟩, ⟨c_order_Stable_1, ⟨c_ref11_Entity, ⟨c_ref12_attr, ⟨c_ref11_Encode, trivial, trivial⟩, trivial⟩, ⟨c_math_bits_Mul64, ⟨c_math_bits_Mul32, trivial, trivial⟩, trivial⟩⟩, ⟨c_order_Ranks, ⟨c_order_all, ⟨c_order_buckets, trivial, trivial⟩, trivial⟩, ⟨c_slices_Max_int, trivial, trivial⟩⟩⟩⟩, ⟨c_ref11_point, ⟨c_bits_Bits_ahead_1, ⟨c_slices_xorshift_Next, ⟨c_slices_nextPowerOfTwo, ⟨c_slices_siftDownOrdered_int, trivial, trivial⟩, trivial⟩, ⟨c_slices_medianOrdered_int, ⟨c_slices_medianAdjacentOrdered_int, trivial, trivial⟩, trivial⟩⟩, ⟨c_slices_symMergeCmpFunc_int, ⟨c_slices_insertionSortCmpFunc_int, ⟨c_math_bits_OnesCount64, trivial, trivial⟩, trivial⟩, ⟨c_slices_Compact_int, trivial, trivial⟩⟩⟩, ⟨c_slices_BinarySearch_int, ⟨c_order_buckets_1, ⟨c_ref11_number, ⟨c_ref11_begins, trivial, trivial⟩, trivial⟩, ⟨c_order_buckets_3, ⟨c_order_buckets_2, trivial, trivial⟩, trivial⟩⟩, ⟨c_slices_isNaN_int, ⟨c_slices_rotateCmpFunc_int, ⟨c_slices_order2Ordered_int, trivial, trivial⟩, trivial⟩, ⟨c_slices_swapRangeCmpFunc_int, trivial, trivial⟩⟩⟩⟩⟩⟩⟩
def Cb : Cfg := ⟨fun f => Nat.beq f 90 || Nat.beq f 114 || Nat.beq f 107 || Nat.beq f 172 || Nat.beq f 233 || Nat.beq f 234 || Nat.beq f 235 || Nat.beq f 236 || Nat.beq f 237 || Nat.beq f 238 || Nat.beq f 239 || Nat.beq f 240 || Nat.beq f 277 || Nat.beq f 180 || Nat.beq f 246 || Nat.beq f 285 || Nat.beq f 286 || Nat.beq f 303 || Nat.beq f 310 || Nat.beq f 201 || Nat.beq f 292, fun f => Nat.beq f 163 || Nat.beq f 103, fun f => Nat.beq f 117, false⟩
noncomputable instance : HasProg := ⟨Go.Proofs.Tryz.prog⟩
theorem Tb_fits : Fits Go.Proofs.Tryz.prog Tb := by
  refine ⟨by kernel_rfl, fun f af h => ?_, fun f g h => ?_⟩
  · unfold Tb at h
    split at h
    · cases h
    · rename_i a ha; cases h; exact BT.find_all tb_all ha
  · unfold Tb at h
    split at h <;> cases h
theorem mixed : (Go.Proofs.Tryz.prog).follows .mixedOrders = true := by kernel_rfl
theorem Wb_sound : SoundW Go.Proofs.Tryz.prog (W Cb Tb) := W_sound rfl Tb_fits mixed
end Go.Am
