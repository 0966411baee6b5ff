/- Go functions, as the interpreter runs them: written by a program of this claim's own, proved to be what the compiler makes of them. No condition. -/
import Derived.Test.YtlhjpcgfkkhogaaGreatZcT0
import Derived.Test.YtlhjpcgfkkhogaaGreatZcKt
set_option linter.all false
namespace Go.Proofs.YtlhjpcgfkkhogaaGreat.Zt
open Go Go.Zc
set_option maxRecDepth 100000

/-- All of them. -/
def tab : List (Nat × FInfo) := [(7, l06_VerifyTurns_I), (9, l06_nothing_I), (13, l06_judged_I), (12, verify_Right_I), (17, verify_First_I), (23, verify_judge_rules_I), (24, verify_rule_broken_I), (33, verify_judge_rules_1_I), (39, verify_judge_rules_2_I), (41, verify_judge_rules_3_I), (36, verify_one_I), (56, verify_one_1_I), (37, verify_within_int_I), (59, verify_within_int64_I), (38, verify_judge_section_I), (40, verify_judge_times_I), (43, verify_judge_point_I), (44, verify_judge_points_I), (45, verify_judge_goes_I), (46, verify_judge_part_I), (67, verify_judge_part_1_I), (47, verify_judge_once_I), (48, verify_judge_route_I), (57, verify_judge_node_I), (65, verify_judge_on_I), (80, verify_judge_other_I), (34, plane_Place_I), (54, plane_whole_I), (58, plane_Fits_I), (74, plane_Square_I), (79, plane_Ahead_I), (88, plane_Dot_I), (106, plane_turned_I), (35, slices_Contains_complex128_I), (55, slices_Index_complex128_I), (66, slices_ContainsFunc_int_I), (81, slices_IndexFunc_Int_I), (82, slices_Contains_int_I), (100, slices_Index_int_I), (62, slices_Equal_int_I), (61, slices_Sort_int_I), (75, slices_pdqsortOrdered_int_I), (89, slices_insertionSortOrdered_int_I), (95, cmp_Less_int_I), (112, cmp_isNaN_int_I), (76, math_bits_Len_I), (99, math_bits_Len64_I), (98, math_bits_Len32_I), (63, slices_Compact_int_I), (18, r01_Dot_I), (25, r01_At_I), (49, r01_Place_I), (69, r01_whole_I), (51, r01_Fits_I), (19, r06_First_I), (26, r06_places_I), (27, r06_holds_I), (28, r06_part_I), (50, r06_node_I), (52, r06_on_I), (70, r06_other_I), (53, r05_Path_I), (71, r05_way_I), (10, r04_Small_I), (11, r05_Full_I), (14, r04_Make_I), (15, r05_Walk_I), (16, r01_Rise_I), (20, r05_Around_I), (21, r01_Has_I), (22, graph_New_I), (29, r05_node_I), (30, r05_Point_I), (31, r05_one_I), (32, r05_Ends_I), (42, graph_Graph_Ends_I), (60, graph_Graph_section_I), (64, graph_Graph_Point_I), (77, slices_IndexFunc_Point_I), (78, graph_Graph_Point_1_I), (68, graph_Graph_Path_I), (83, graph_Graph_way_I), (101, graph_Graph_Around_I), (102, slices_IndexFunc_End_I), (103, graph_Graph_way_1_I), (104, graph_Graph_need_I), (113, graph_Graph_node_I), (114, slices_DeleteFunc_End_I), (115, graph_Graph_Around_1_I), (116, slices_Concat_End_I), (117, graph_Graph_at_I), (119, slices_Grow_End_I)]
/-- What has a contract of its own. -/
def prims : List (Nat × (List CV → List Blk → Option (CV × List Blk))) := Zk.prims
def ctx : Ctx := ⟨Zc.look tab, Zc.look prims⟩
theorem l06_VerifyTurns_ok : compF Tryz.prog (quietOf ctx) l06_VerifyTurns_A (.fz false) Tryz.f7 = some l06_VerifyTurns_I := by kernel_rfl
theorem l06_nothing_ok : compF Tryz.prog (quietOf ctx) l06_nothing_A (.fz false) Tryz.f9 = some l06_nothing_I := by kernel_rfl
theorem l06_judged_ok : compF Tryz.prog (quietOf ctx) l06_judged_A (.fz false) Tryz.f13 = some l06_judged_I := by kernel_rfl
theorem verify_Right_ok : compF Tryz.prog (quietOf ctx) verify_Right_A (.fz false) Tryz.f12 = some verify_Right_I := by kernel_rfl
theorem verify_First_ok : compF Tryz.prog (quietOf ctx) verify_First_A (.fz false) Tryz.f17 = some verify_First_I := by kernel_rfl
theorem verify_judge_rules_ok : compF Tryz.prog (quietOf ctx) verify_judge_rules_A (.fz false) Tryz.f23 = some verify_judge_rules_I := by kernel_rfl
theorem verify_rule_broken_ok : compF Tryz.prog (quietOf ctx) verify_rule_broken_A (.fz false) Tryz.f24 = some verify_rule_broken_I := by kernel_rfl
theorem verify_judge_rules_1_ok : compF Tryz.prog (quietOf ctx) verify_judge_rules_1_A (.fz false) Tryz.f33 = some verify_judge_rules_1_I := by kernel_rfl
theorem verify_judge_rules_2_ok : compF Tryz.prog (quietOf ctx) verify_judge_rules_2_A (.fz false) Tryz.f39 = some verify_judge_rules_2_I := by kernel_rfl
theorem verify_judge_rules_3_ok : compF Tryz.prog (quietOf ctx) verify_judge_rules_3_A (.fz false) Tryz.f41 = some verify_judge_rules_3_I := by kernel_rfl
theorem verify_one_ok : compF Tryz.prog (quietOf ctx) verify_one_A (.fz false) Tryz.f36 = some verify_one_I := by kernel_rfl
theorem verify_one_1_ok : compF Tryz.prog (quietOf ctx) verify_one_1_A (.fz false) Tryz.f56 = some verify_one_1_I := by kernel_rfl
theorem verify_within_int_ok : compF Tryz.prog (quietOf ctx) verify_within_int_A (.fz false) Tryz.f37 = some verify_within_int_I := by kernel_rfl
theorem verify_within_int64_ok : compF Tryz.prog (quietOf ctx) verify_within_int64_A (.fz false) Tryz.f59 = some verify_within_int64_I := by kernel_rfl
theorem verify_judge_section_ok : compF Tryz.prog (quietOf ctx) verify_judge_section_A (.fz false) Tryz.f38 = some verify_judge_section_I := by kernel_rfl
theorem verify_judge_times_ok : compF Tryz.prog (quietOf ctx) verify_judge_times_A (.fz false) Tryz.f40 = some verify_judge_times_I := by kernel_rfl
theorem verify_judge_point_ok : compF Tryz.prog (quietOf ctx) verify_judge_point_A (.fz false) Tryz.f43 = some verify_judge_point_I := by kernel_rfl
theorem verify_judge_points_ok : compF Tryz.prog (quietOf ctx) verify_judge_points_A (.fz false) Tryz.f44 = some verify_judge_points_I := by kernel_rfl
theorem verify_judge_goes_ok : compF Tryz.prog (quietOf ctx) verify_judge_goes_A (.fz false) Tryz.f45 = some verify_judge_goes_I := by kernel_rfl
theorem verify_judge_part_ok : compF Tryz.prog (quietOf ctx) verify_judge_part_A (.fz false) Tryz.f46 = some verify_judge_part_I := by kernel_rfl
theorem verify_judge_part_1_ok : compF Tryz.prog (quietOf ctx) verify_judge_part_1_A (.fz false) Tryz.f67 = some verify_judge_part_1_I := by kernel_rfl
theorem verify_judge_once_ok : compF Tryz.prog (quietOf ctx) verify_judge_once_A (.fz false) Tryz.f47 = some verify_judge_once_I := by kernel_rfl
theorem verify_judge_route_ok : compF Tryz.prog (quietOf ctx) verify_judge_route_A (.fz false) Tryz.f48 = some verify_judge_route_I := by kernel_rfl
theorem verify_judge_node_ok : compF Tryz.prog (quietOf ctx) verify_judge_node_A (.fz false) Tryz.f57 = some verify_judge_node_I := by kernel_rfl
theorem verify_judge_on_ok : compF Tryz.prog (quietOf ctx) verify_judge_on_A (.fz false) Tryz.f65 = some verify_judge_on_I := by kernel_rfl
theorem verify_judge_other_ok : compF Tryz.prog (quietOf ctx) verify_judge_other_A (.fz false) Tryz.f80 = some verify_judge_other_I := by kernel_rfl
theorem plane_Place_ok : compF Tryz.prog (quietOf ctx) plane_Place_A (.fz false) Tryz.f34 = some plane_Place_I := by kernel_rfl
theorem plane_whole_ok : compF Tryz.prog (quietOf ctx) plane_whole_A (.fz false) Tryz.f54 = some plane_whole_I := by kernel_rfl
theorem plane_Fits_ok : compF Tryz.prog (quietOf ctx) plane_Fits_A (.fz false) Tryz.f58 = some plane_Fits_I := by kernel_rfl
theorem plane_Square_ok : compF Tryz.prog (quietOf ctx) plane_Square_A (.fz false) Tryz.f74 = some plane_Square_I := by kernel_rfl
theorem plane_Ahead_ok : compF Tryz.prog (quietOf ctx) plane_Ahead_A (.fz false) Tryz.f79 = some plane_Ahead_I := by kernel_rfl
theorem plane_Dot_ok : compF Tryz.prog (quietOf ctx) plane_Dot_A (.fz false) Tryz.f88 = some plane_Dot_I := by kernel_rfl
theorem plane_turned_ok : compF Tryz.prog (quietOf ctx) plane_turned_A (.fz false) Tryz.f106 = some plane_turned_I := by kernel_rfl
theorem slices_Contains_complex128_ok : compF Tryz.prog (quietOf ctx) slices_Contains_complex128_A (.fz false) Tryz.f35 = some slices_Contains_complex128_I := by kernel_rfl
theorem slices_Index_complex128_ok : compF Tryz.prog (quietOf ctx) slices_Index_complex128_A (.fz false) Tryz.f55 = some slices_Index_complex128_I := by kernel_rfl
theorem slices_ContainsFunc_int_ok : compF Tryz.prog (quietOf ctx) slices_ContainsFunc_int_A (.fz false) Tryz.f66 = some slices_ContainsFunc_int_I := by kernel_rfl
theorem slices_IndexFunc_Int_ok : compF Tryz.prog (quietOf ctx) slices_IndexFunc_Int_A (.fz false) Tryz.f81 = some slices_IndexFunc_Int_I := by kernel_rfl
theorem slices_Contains_int_ok : compF Tryz.prog (quietOf ctx) slices_Contains_int_A (.fz false) Tryz.f82 = some slices_Contains_int_I := by kernel_rfl
theorem slices_Index_int_ok : compF Tryz.prog (quietOf ctx) slices_Index_int_A (.fz false) Tryz.f100 = some slices_Index_int_I := by kernel_rfl
theorem slices_Equal_int_ok : compF Tryz.prog (quietOf ctx) slices_Equal_int_A (.fz false) Tryz.f62 = some slices_Equal_int_I := by kernel_rfl
theorem slices_Sort_int_ok : compF Tryz.prog (quietOf ctx) slices_Sort_int_A .ref Tryz.f61 = some slices_Sort_int_I := by kernel_rfl
theorem slices_pdqsortOrdered_int_ok : compF Tryz.prog (quietOf ctx) slices_pdqsortOrdered_int_A .ref Tryz.f75 = some slices_pdqsortOrdered_int_I := by kernel_rfl
theorem slices_insertionSortOrdered_int_ok : compF Tryz.prog (quietOf ctx) slices_insertionSortOrdered_int_A .ref Tryz.f89 = some slices_insertionSortOrdered_int_I := by kernel_rfl
theorem cmp_Less_int_ok : compF Tryz.prog (quietOf ctx) cmp_Less_int_A (.fz false) Tryz.f95 = some cmp_Less_int_I := by kernel_rfl
theorem cmp_isNaN_int_ok : compF Tryz.prog (quietOf ctx) cmp_isNaN_int_A (.fz false) Tryz.f112 = some cmp_isNaN_int_I := by kernel_rfl
theorem math_bits_Len_ok : compF Tryz.prog (quietOf ctx) math_bits_Len_A (.fz false) Tryz.f76 = some math_bits_Len_I := by kernel_rfl
theorem math_bits_Len64_ok : compF Tryz.prog (quietOf ctx) math_bits_Len64_A (.fz false) Tryz.f99 = some math_bits_Len64_I := by kernel_rfl
theorem math_bits_Len32_ok : compF Tryz.prog (quietOf ctx) math_bits_Len32_A (.fz false) Tryz.f98 = some math_bits_Len32_I := by kernel_rfl
theorem slices_Compact_int_ok : compF Tryz.prog (quietOf ctx) slices_Compact_int_A .ref Tryz.f63 = some slices_Compact_int_I := by kernel_rfl
theorem r01_Dot_ok : compF Tryz.prog (quietOf ctx) r01_Dot_A (.fz false) Tryz.f18 = some r01_Dot_I := by kernel_rfl
theorem r01_At_ok : compF Tryz.prog (quietOf ctx) r01_At_A (.fz false) Tryz.f25 = some r01_At_I := by kernel_rfl
theorem r01_Place_ok : compF Tryz.prog (quietOf ctx) r01_Place_A (.fz false) Tryz.f49 = some r01_Place_I := by kernel_rfl
theorem r01_whole_ok : compF Tryz.prog (quietOf ctx) r01_whole_A (.fz false) Tryz.f69 = some r01_whole_I := by kernel_rfl
theorem r01_Fits_ok : compF Tryz.prog (quietOf ctx) r01_Fits_A (.fz false) Tryz.f51 = some r01_Fits_I := by kernel_rfl
theorem r06_First_ok : compF Tryz.prog (quietOf ctx) r06_First_A (.fz false) Tryz.f19 = some r06_First_I := by kernel_rfl
theorem r06_places_ok : compF Tryz.prog (quietOf ctx) r06_places_A (.fz false) Tryz.f26 = some r06_places_I := by kernel_rfl
theorem r06_holds_ok : compF Tryz.prog (quietOf ctx) r06_holds_A (.fz false) Tryz.f27 = some r06_holds_I := by kernel_rfl
theorem r06_part_ok : compF Tryz.prog (quietOf ctx) r06_part_A (.fz false) Tryz.f28 = some r06_part_I := by kernel_rfl
theorem r06_node_ok : compF Tryz.prog (quietOf ctx) r06_node_A (.fz false) Tryz.f50 = some r06_node_I := by kernel_rfl
theorem r06_on_ok : compF Tryz.prog (quietOf ctx) r06_on_A (.fz false) Tryz.f52 = some r06_on_I := by kernel_rfl
theorem r06_other_ok : compF Tryz.prog (quietOf ctx) r06_other_A (.fz false) Tryz.f70 = some r06_other_I := by kernel_rfl
theorem r05_Path_ok : compF Tryz.prog (quietOf ctx) r05_Path_A (.fz false) Tryz.f53 = some r05_Path_I := by kernel_rfl
theorem r05_way_ok : compF Tryz.prog (quietOf ctx) r05_way_A (.fz false) Tryz.f71 = some r05_way_I := by kernel_rfl
theorem r04_Small_ok : compF Tryz.prog (quietOf ctx) r04_Small_A (.fz false) Tryz.f10 = some r04_Small_I := by kernel_rfl
theorem r05_Full_ok : compF Tryz.prog (quietOf ctx) r05_Full_A (.fz false) Tryz.f11 = some r05_Full_I := by kernel_rfl
theorem r04_Make_ok : compF Tryz.prog (quietOf ctx) r04_Make_A (.fz true) Tryz.f14 = some r04_Make_I := by kernel_rfl
theorem r05_Walk_ok : compF Tryz.prog (quietOf ctx) r05_Walk_A (.fz false) Tryz.f15 = some r05_Walk_I := by kernel_rfl
theorem r01_Rise_ok : compF Tryz.prog (quietOf ctx) r01_Rise_A (.fz false) Tryz.f16 = some r01_Rise_I := by kernel_rfl
theorem r05_Around_ok : compF Tryz.prog (quietOf ctx) r05_Around_A (.fz false) Tryz.f20 = some r05_Around_I := by kernel_rfl
theorem r01_Has_ok : compF Tryz.prog (quietOf ctx) r01_Has_A (.fz false) Tryz.f21 = some r01_Has_I := by kernel_rfl
theorem graph_New_ok : compF Tryz.prog (quietOf ctx) graph_New_A (.fz false) Tryz.f22 = some graph_New_I := by kernel_rfl
theorem r05_node_ok : compF Tryz.prog (quietOf ctx) r05_node_A (.fz false) Tryz.f29 = some r05_node_I := by kernel_rfl
theorem r05_Point_ok : compF Tryz.prog (quietOf ctx) r05_Point_A (.fz false) Tryz.f30 = some r05_Point_I := by kernel_rfl
theorem r05_one_ok : compF Tryz.prog (quietOf ctx) r05_one_A (.fz false) Tryz.f31 = some r05_one_I := by kernel_rfl
theorem r05_Ends_ok : compF Tryz.prog (quietOf ctx) r05_Ends_A (.fz false) Tryz.f32 = some r05_Ends_I := by kernel_rfl
theorem graph_Graph_Ends_ok : compF Tryz.prog (quietOf ctx) graph_Graph_Ends_A .own Tryz.f42 = some graph_Graph_Ends_I := by kernel_rfl
theorem graph_Graph_section_ok : compF Tryz.prog (quietOf ctx) graph_Graph_section_A (.fz false) Tryz.f60 = some graph_Graph_section_I := by kernel_rfl
theorem graph_Graph_Point_ok : compF Tryz.prog (quietOf ctx) graph_Graph_Point_A (.fz false) Tryz.f64 = some graph_Graph_Point_I := by kernel_rfl
theorem slices_IndexFunc_Point_ok : compF Tryz.prog (quietOf ctx) slices_IndexFunc_Point_A (.fz false) Tryz.f77 = some slices_IndexFunc_Point_I := by kernel_rfl
theorem graph_Graph_Point_1_ok : compF Tryz.prog (quietOf ctx) graph_Graph_Point_1_A (.fz false) Tryz.f78 = some graph_Graph_Point_1_I := by kernel_rfl
theorem graph_Graph_Path_ok : compF Tryz.prog (quietOf ctx) graph_Graph_Path_A (.fz false) Tryz.f68 = some graph_Graph_Path_I := by kernel_rfl
theorem graph_Graph_way_ok : compF Tryz.prog (quietOf ctx) graph_Graph_way_A (.fz false) Tryz.f83 = some graph_Graph_way_I := by kernel_rfl
theorem graph_Graph_Around_ok : compF Tryz.prog (quietOf ctx) graph_Graph_Around_A (.fz false) Tryz.f101 = some graph_Graph_Around_I := by kernel_rfl
theorem slices_IndexFunc_End_ok : compF Tryz.prog (quietOf ctx) slices_IndexFunc_End_A (.fz false) Tryz.f102 = some slices_IndexFunc_End_I := by kernel_rfl
theorem graph_Graph_way_1_ok : compF Tryz.prog (quietOf ctx) graph_Graph_way_1_A (.fz false) Tryz.f103 = some graph_Graph_way_1_I := by kernel_rfl
theorem graph_Graph_need_ok : compF Tryz.prog (quietOf ctx) graph_Graph_need_A (.fz false) Tryz.f104 = some graph_Graph_need_I := by kernel_rfl
theorem graph_Graph_node_ok : compF Tryz.prog (quietOf ctx) graph_Graph_node_A (.fz false) Tryz.f113 = some graph_Graph_node_I := by kernel_rfl
theorem slices_DeleteFunc_End_ok : compF Tryz.prog (quietOf ctx) slices_DeleteFunc_End_A .ref Tryz.f114 = some slices_DeleteFunc_End_I := by kernel_rfl
theorem graph_Graph_Around_1_ok : compF Tryz.prog (quietOf ctx) graph_Graph_Around_1_A (.fz false) Tryz.f115 = some graph_Graph_Around_1_I := by kernel_rfl
theorem slices_Concat_End_ok : compF Tryz.prog (quietOf ctx) slices_Concat_End_A (.fz false) Tryz.f116 = some slices_Concat_End_I := by kernel_rfl
theorem graph_Graph_at_ok : compF Tryz.prog (quietOf ctx) graph_Graph_at_A (.fz false) Tryz.f117 = some graph_Graph_at_I := by kernel_rfl
theorem slices_Grow_End_ok : compF Tryz.prog (quietOf ctx) slices_Grow_End_A .ref Tryz.f119 = some slices_Grow_End_I := by kernel_rfl
theorem ctx_ok : CtxOk Tryz.prog ctx :=
  ctxOk_prims (by kernel_rfl) (
    .cons ⟨_, _, Tryz.func7, l06_VerifyTurns_ok⟩ (
    .cons ⟨_, _, Tryz.func9, l06_nothing_ok⟩ (
    .cons ⟨_, _, Tryz.func13, l06_judged_ok⟩ (
    .cons ⟨_, _, Tryz.func12, verify_Right_ok⟩ (
    .cons ⟨_, _, Tryz.func17, verify_First_ok⟩ (
    .cons ⟨_, _, Tryz.func23, verify_judge_rules_ok⟩ (
    .cons ⟨_, _, Tryz.func24, verify_rule_broken_ok⟩ (
    .cons ⟨_, _, Tryz.func33, verify_judge_rules_1_ok⟩ (
    .cons ⟨_, _, Tryz.func39, verify_judge_rules_2_ok⟩ (
    .cons ⟨_, _, Tryz.func41, verify_judge_rules_3_ok⟩ (
    .cons ⟨_, _, Tryz.func36, verify_one_ok⟩ (
    .cons ⟨_, _, Tryz.func56, verify_one_1_ok⟩ (
    .cons ⟨_, _, Tryz.func37, verify_within_int_ok⟩ (
    .cons ⟨_, _, Tryz.func59, verify_within_int64_ok⟩ (
    .cons ⟨_, _, Tryz.func38, verify_judge_section_ok⟩ (
    .cons ⟨_, _, Tryz.func40, verify_judge_times_ok⟩ (
    .cons ⟨_, _, Tryz.func43, verify_judge_point_ok⟩ (
    .cons ⟨_, _, Tryz.func44, verify_judge_points_ok⟩ (
    .cons ⟨_, _, Tryz.func45, verify_judge_goes_ok⟩ (
    .cons ⟨_, _, Tryz.func46, verify_judge_part_ok⟩ (
    .cons ⟨_, _, Tryz.func67, verify_judge_part_1_ok⟩ (
    .cons ⟨_, _, Tryz.func47, verify_judge_once_ok⟩ (
    .cons ⟨_, _, Tryz.func48, verify_judge_route_ok⟩ (
    .cons ⟨_, _, Tryz.func57, verify_judge_node_ok⟩ (
    .cons ⟨_, _, Tryz.func65, verify_judge_on_ok⟩ (
    .cons ⟨_, _, Tryz.func80, verify_judge_other_ok⟩ (
    .cons ⟨_, _, Tryz.func34, plane_Place_ok⟩ (
    .cons ⟨_, _, Tryz.func54, plane_whole_ok⟩ (
    .cons ⟨_, _, Tryz.func58, plane_Fits_ok⟩ (
    .cons ⟨_, _, Tryz.func74, plane_Square_ok⟩ (
    .cons ⟨_, _, Tryz.func79, plane_Ahead_ok⟩ (
    .cons ⟨_, _, Tryz.func88, plane_Dot_ok⟩ (
    .cons ⟨_, _, Tryz.func106, plane_turned_ok⟩ (
    .cons ⟨_, _, Tryz.func35, slices_Contains_complex128_ok⟩ (
    .cons ⟨_, _, Tryz.func55, slices_Index_complex128_ok⟩ (
    .cons ⟨_, _, Tryz.func66, slices_ContainsFunc_int_ok⟩ (
    .cons ⟨_, _, Tryz.func81, slices_IndexFunc_Int_ok⟩ (
    .cons ⟨_, _, Tryz.func82, slices_Contains_int_ok⟩ (
    .cons ⟨_, _, Tryz.func100, slices_Index_int_ok⟩ (
    .cons ⟨_, _, Tryz.func62, slices_Equal_int_ok⟩ (
    .cons ⟨_, _, Tryz.func61, slices_Sort_int_ok⟩ (
    .cons ⟨_, _, Tryz.func75, slices_pdqsortOrdered_int_ok⟩ (
    .cons ⟨_, _, Tryz.func89, slices_insertionSortOrdered_int_ok⟩ (
    .cons ⟨_, _, Tryz.func95, cmp_Less_int_ok⟩ (
    .cons ⟨_, _, Tryz.func112, cmp_isNaN_int_ok⟩ (
    .cons ⟨_, _, Tryz.func76, math_bits_Len_ok⟩ (
    .cons ⟨_, _, Tryz.func99, math_bits_Len64_ok⟩ (
    .cons ⟨_, _, Tryz.func98, math_bits_Len32_ok⟩ (
    .cons ⟨_, _, Tryz.func63, slices_Compact_int_ok⟩ (
    .cons ⟨_, _, Tryz.func18, r01_Dot_ok⟩ (
    .cons ⟨_, _, Tryz.func25, r01_At_ok⟩ (
    .cons ⟨_, _, Tryz.func49, r01_Place_ok⟩ (
    .cons ⟨_, _, Tryz.func69, r01_whole_ok⟩ (
    .cons ⟨_, _, Tryz.func51, r01_Fits_ok⟩ (
    .cons ⟨_, _, Tryz.func19, r06_First_ok⟩ (
    .cons ⟨_, _, Tryz.func26, r06_places_ok⟩ (
    .cons ⟨_, _, Tryz.func27, r06_holds_ok⟩ (
    .cons ⟨_, _, Tryz.func28, r06_part_ok⟩ (
    .cons ⟨_, _, Tryz.func50, r06_node_ok⟩ (
    .cons ⟨_, _, Tryz.func52, r06_on_ok⟩ (
    .cons ⟨_, _, Tryz.func70, r06_other_ok⟩ (
    .cons ⟨_, _, Tryz.func53, r05_Path_ok⟩ (
    .cons ⟨_, _, Tryz.func71, r05_way_ok⟩ (
    .cons ⟨_, _, Tryz.func10, r04_Small_ok⟩ (
    .cons ⟨_, _, Tryz.func11, r05_Full_ok⟩ (
    .cons ⟨_, _, Tryz.func14, r04_Make_ok⟩ (
    .cons ⟨_, _, Tryz.func15, r05_Walk_ok⟩ (
    .cons ⟨_, _, Tryz.func16, r01_Rise_ok⟩ (
    .cons ⟨_, _, Tryz.func20, r05_Around_ok⟩ (
    .cons ⟨_, _, Tryz.func21, r01_Has_ok⟩ (
    .cons ⟨_, _, Tryz.func22, graph_New_ok⟩ (
    .cons ⟨_, _, Tryz.func29, r05_node_ok⟩ (
    .cons ⟨_, _, Tryz.func30, r05_Point_ok⟩ (
    .cons ⟨_, _, Tryz.func31, r05_one_ok⟩ (
    .cons ⟨_, _, Tryz.func32, r05_Ends_ok⟩ (
    .cons ⟨_, _, Tryz.func42, graph_Graph_Ends_ok⟩ (
    .cons ⟨_, _, Tryz.func60, graph_Graph_section_ok⟩ (
    .cons ⟨_, _, Tryz.func64, graph_Graph_Point_ok⟩ (
    .cons ⟨_, _, Tryz.func77, slices_IndexFunc_Point_ok⟩ (
    .cons ⟨_, _, Tryz.func78, graph_Graph_Point_1_ok⟩ (
    .cons ⟨_, _, Tryz.func68, graph_Graph_Path_ok⟩ (
    .cons ⟨_, _, Tryz.func83, graph_Graph_way_ok⟩ (
    .cons ⟨_, _, Tryz.func101, graph_Graph_Around_ok⟩ (
    .cons ⟨_, _, Tryz.func102, slices_IndexFunc_End_ok⟩ (
    .cons ⟨_, _, Tryz.func103, graph_Graph_way_1_ok⟩ (
    .cons ⟨_, _, Tryz.func104, graph_Graph_need_ok⟩ (
    .cons ⟨_, _, Tryz.func113, graph_Graph_node_ok⟩ (
    .cons ⟨_, _, Tryz.func114, slices_DeleteFunc_End_ok⟩ (
    .cons ⟨_, _, Tryz.func115, graph_Graph_Around_1_ok⟩ (
    .cons ⟨_, _, Tryz.func116, slices_Concat_End_ok⟩ (
    .cons ⟨_, _, Tryz.func117, graph_Graph_at_ok⟩ (
    .cons ⟨_, _, Tryz.func119, slices_Grow_End_ok⟩ (
    .nil))))))))))))))))))))))))))))))))))))))))))))))))))))))))))))))))))))))))))))))))))))))))))))) Zk.prims_ok
noncomputable def l06_VerifyTurns_F := fzE ctx false 3 l06_VerifyTurns_C [.tmp 6]
theorem l06_VerifyTurns_F_eq : FzEq ctx false 3 l06_VerifyTurns_C [.tmp 6] l06_VerifyTurns_F := fz_eq _ _ _ _ _
theorem l06_VerifyTurns_call : FzCall ctx 7 l06_VerifyTurns_F := fz_called rfl (show ctx.info 7 = some l06_VerifyTurns_I by kernel_rfl)
noncomputable def l06_nothing_F := fzE ctx false 0 l06_nothing_C [.tmp 0]
theorem l06_nothing_F_eq : FzEq ctx false 0 l06_nothing_C [.tmp 0] l06_nothing_F := fz_eq _ _ _ _ _
theorem l06_nothing_call : FzCall ctx 9 l06_nothing_F := fz_called rfl (show ctx.info 9 = some l06_nothing_I by kernel_rfl)
noncomputable def l06_judged_F := fzE ctx false 1 l06_judged_C [.tmp 2]
theorem l06_judged_F_eq : FzEq ctx false 1 l06_judged_C [.tmp 2] l06_judged_F := fz_eq _ _ _ _ _
theorem l06_judged_call : FzCall ctx 13 l06_judged_F := fz_called rfl (show ctx.info 13 = some l06_judged_I by kernel_rfl)
noncomputable def verify_Right_F := fzE ctx false 1 verify_Right_C [.tmp 2]
theorem verify_Right_F_eq : FzEq ctx false 1 verify_Right_C [.tmp 2] verify_Right_F := fz_eq _ _ _ _ _
theorem verify_Right_call : FzCall ctx 12 verify_Right_F := fz_called rfl (show ctx.info 12 = some verify_Right_I by kernel_rfl)
noncomputable def verify_First_F := fzE ctx false 1 verify_First_C [.tmp 2, .tmp 3]
theorem verify_First_F_eq : FzEq ctx false 1 verify_First_C [.tmp 2, .tmp 3] verify_First_F := fz_eq _ _ _ _ _
theorem verify_First_call : FzCall ctx 17 verify_First_F := fz_called rfl (show ctx.info 17 = some verify_First_I by kernel_rfl)
noncomputable def verify_judge_rules_F := fzE ctx false 1 verify_judge_rules_C [.tmp 2]
theorem verify_judge_rules_F_eq : FzEq ctx false 1 verify_judge_rules_C [.tmp 2] verify_judge_rules_F := fz_eq _ _ _ _ _
theorem verify_judge_rules_call : FzCall ctx 23 verify_judge_rules_F := fz_called rfl (show ctx.info 23 = some verify_judge_rules_I by kernel_rfl)
noncomputable def verify_rule_broken_F := fzE ctx false 1 verify_rule_broken_C [.tmp 2]
theorem verify_rule_broken_F_eq : FzEq ctx false 1 verify_rule_broken_C [.tmp 2] verify_rule_broken_F := fz_eq _ _ _ _ _
theorem verify_rule_broken_call : FzCall ctx 24 verify_rule_broken_F := fz_called rfl (show ctx.info 24 = some verify_rule_broken_I by kernel_rfl)
noncomputable def verify_judge_rules_1_F := fzE ctx false 2 verify_judge_rules_1_C [.tmp 3]
theorem verify_judge_rules_1_F_eq : FzEq ctx false 2 verify_judge_rules_1_C [.tmp 3] verify_judge_rules_1_F := fz_eq _ _ _ _ _
theorem verify_judge_rules_1_call : FzCall ctx 33 verify_judge_rules_1_F := fz_called rfl (show ctx.info 33 = some verify_judge_rules_1_I by kernel_rfl)
noncomputable def verify_judge_rules_2_F := fzE ctx false 2 verify_judge_rules_2_C [.tmp 3]
theorem verify_judge_rules_2_F_eq : FzEq ctx false 2 verify_judge_rules_2_C [.tmp 3] verify_judge_rules_2_F := fz_eq _ _ _ _ _
theorem verify_judge_rules_2_call : FzCall ctx 39 verify_judge_rules_2_F := fz_called rfl (show ctx.info 39 = some verify_judge_rules_2_I by kernel_rfl)
noncomputable def verify_judge_rules_3_F := fzE ctx false 2 verify_judge_rules_3_C [.tmp 3]
theorem verify_judge_rules_3_F_eq : FzEq ctx false 2 verify_judge_rules_3_C [.tmp 3] verify_judge_rules_3_F := fz_eq _ _ _ _ _
theorem verify_judge_rules_3_call : FzCall ctx 41 verify_judge_rules_3_F := fz_called rfl (show ctx.info 41 = some verify_judge_rules_3_I by kernel_rfl)
noncomputable def verify_one_F := fzE ctx false 1 verify_one_C [.cell 2 true 2]
theorem verify_one_F_eq : FzEq ctx false 1 verify_one_C [.cell 2 true 2] verify_one_F := fz_eq _ _ _ _ _
theorem verify_one_call : FzCall ctx 36 verify_one_F := fz_called rfl (show ctx.info 36 = some verify_one_I by kernel_rfl)
noncomputable def verify_one_1_F := fzE ctx false 2 verify_one_1_C [.tmp 3]
theorem verify_one_1_F_eq : FzEq ctx false 2 verify_one_1_C [.tmp 3] verify_one_1_F := fz_eq _ _ _ _ _
theorem verify_one_1_call : FzCall ctx 56 verify_one_1_F := fz_called rfl (show ctx.info 56 = some verify_one_1_I by kernel_rfl)
noncomputable def verify_within_int_F := fzE ctx false 3 verify_within_int_C [.tmp 6]
theorem verify_within_int_F_eq : FzEq ctx false 3 verify_within_int_C [.tmp 6] verify_within_int_F := fz_eq _ _ _ _ _
theorem verify_within_int_call : FzCall ctx 37 verify_within_int_F := fz_called rfl (show ctx.info 37 = some verify_within_int_I by kernel_rfl)
noncomputable def verify_within_int64_F := fzE ctx false 3 verify_within_int64_C [.tmp 6]
theorem verify_within_int64_F_eq : FzEq ctx false 3 verify_within_int64_C [.tmp 6] verify_within_int64_F := fz_eq _ _ _ _ _
theorem verify_within_int64_call : FzCall ctx 59 verify_within_int64_F := fz_called rfl (show ctx.info 59 = some verify_within_int64_I by kernel_rfl)
noncomputable def verify_judge_section_F := fzE ctx false 2 verify_judge_section_C [.tmp 4]
theorem verify_judge_section_F_eq : FzEq ctx false 2 verify_judge_section_C [.tmp 4] verify_judge_section_F := fz_eq _ _ _ _ _
theorem verify_judge_section_call : FzCall ctx 38 verify_judge_section_F := fz_called rfl (show ctx.info 38 = some verify_judge_section_I by kernel_rfl)
noncomputable def verify_judge_times_F := fzE ctx false 1 verify_judge_times_C [.tmp 2]
theorem verify_judge_times_F_eq : FzEq ctx false 1 verify_judge_times_C [.tmp 2] verify_judge_times_F := fz_eq _ _ _ _ _
theorem verify_judge_times_call : FzCall ctx 40 verify_judge_times_F := fz_called rfl (show ctx.info 40 = some verify_judge_times_I by kernel_rfl)
noncomputable def verify_judge_point_F := fzE ctx false 2 verify_judge_point_C [.tmp 4]
theorem verify_judge_point_F_eq : FzEq ctx false 2 verify_judge_point_C [.tmp 4] verify_judge_point_F := fz_eq _ _ _ _ _
theorem verify_judge_point_call : FzCall ctx 43 verify_judge_point_F := fz_called rfl (show ctx.info 43 = some verify_judge_point_I by kernel_rfl)
noncomputable def verify_judge_points_F := fzE ctx false 2 verify_judge_points_C [.tmp 4]
theorem verify_judge_points_F_eq : FzEq ctx false 2 verify_judge_points_C [.tmp 4] verify_judge_points_F := fz_eq _ _ _ _ _
theorem verify_judge_points_call : FzCall ctx 44 verify_judge_points_F := fz_called rfl (show ctx.info 44 = some verify_judge_points_I by kernel_rfl)
noncomputable def verify_judge_goes_F := fzE ctx false 2 verify_judge_goes_C [.tmp 4]
theorem verify_judge_goes_F_eq : FzEq ctx false 2 verify_judge_goes_C [.tmp 4] verify_judge_goes_F := fz_eq _ _ _ _ _
theorem verify_judge_goes_call : FzCall ctx 45 verify_judge_goes_F := fz_called rfl (show ctx.info 45 = some verify_judge_goes_I by kernel_rfl)
noncomputable def verify_judge_part_F := fzE ctx false 2 verify_judge_part_C [.tmp 4]
theorem verify_judge_part_F_eq : FzEq ctx false 2 verify_judge_part_C [.tmp 4] verify_judge_part_F := fz_eq _ _ _ _ _
theorem verify_judge_part_call : FzCall ctx 46 verify_judge_part_F := fz_called rfl (show ctx.info 46 = some verify_judge_part_I by kernel_rfl)
noncomputable def verify_judge_part_1_F := fzE ctx false 2 verify_judge_part_1_C [.tmp 3]
theorem verify_judge_part_1_F_eq : FzEq ctx false 2 verify_judge_part_1_C [.tmp 3] verify_judge_part_1_F := fz_eq _ _ _ _ _
theorem verify_judge_part_1_call : FzCall ctx 67 verify_judge_part_1_F := fz_called rfl (show ctx.info 67 = some verify_judge_part_1_I by kernel_rfl)
noncomputable def verify_judge_once_F := fzE ctx false 2 verify_judge_once_C [.tmp 4]
theorem verify_judge_once_F_eq : FzEq ctx false 2 verify_judge_once_C [.tmp 4] verify_judge_once_F := fz_eq _ _ _ _ _
theorem verify_judge_once_call : FzCall ctx 47 verify_judge_once_F := fz_called rfl (show ctx.info 47 = some verify_judge_once_I by kernel_rfl)
noncomputable def verify_judge_route_F := fzE ctx false 2 verify_judge_route_C [.tmp 4]
theorem verify_judge_route_F_eq : FzEq ctx false 2 verify_judge_route_C [.tmp 4] verify_judge_route_F := fz_eq _ _ _ _ _
theorem verify_judge_route_call : FzCall ctx 48 verify_judge_route_F := fz_called rfl (show ctx.info 48 = some verify_judge_route_I by kernel_rfl)
noncomputable def verify_judge_node_F := fzE ctx false 2 verify_judge_node_C [.tmp 4]
theorem verify_judge_node_F_eq : FzEq ctx false 2 verify_judge_node_C [.tmp 4] verify_judge_node_F := fz_eq _ _ _ _ _
theorem verify_judge_node_call : FzCall ctx 57 verify_judge_node_F := fz_called rfl (show ctx.info 57 = some verify_judge_node_I by kernel_rfl)
noncomputable def verify_judge_on_F := fzE ctx false 4 verify_judge_on_C [.tmp 8]
theorem verify_judge_on_F_eq : FzEq ctx false 4 verify_judge_on_C [.tmp 8] verify_judge_on_F := fz_eq _ _ _ _ _
theorem verify_judge_on_call : FzCall ctx 65 verify_judge_on_F := fz_called rfl (show ctx.info 65 = some verify_judge_on_I by kernel_rfl)
noncomputable def verify_judge_other_F := fzE ctx false 3 verify_judge_other_C [.tmp 6]
theorem verify_judge_other_F_eq : FzEq ctx false 3 verify_judge_other_C [.tmp 6] verify_judge_other_F := fz_eq _ _ _ _ _
theorem verify_judge_other_call : FzCall ctx 80 verify_judge_other_F := fz_called rfl (show ctx.info 80 = some verify_judge_other_I by kernel_rfl)
noncomputable def plane_Place_F := fzE ctx false 1 plane_Place_C [.tmp 2]
theorem plane_Place_F_eq : FzEq ctx false 1 plane_Place_C [.tmp 2] plane_Place_F := fz_eq _ _ _ _ _
theorem plane_Place_call : FzCall ctx 34 plane_Place_F := fz_called rfl (show ctx.info 34 = some plane_Place_I by kernel_rfl)
noncomputable def plane_whole_F := fzE ctx false 1 plane_whole_C [.tmp 2]
theorem plane_whole_F_eq : FzEq ctx false 1 plane_whole_C [.tmp 2] plane_whole_F := fz_eq _ _ _ _ _
theorem plane_whole_call : FzCall ctx 54 plane_whole_F := fz_called rfl (show ctx.info 54 = some plane_whole_I by kernel_rfl)
noncomputable def plane_Fits_F := fzE ctx false 3 plane_Fits_C [.tmp 6]
theorem plane_Fits_F_eq : FzEq ctx false 3 plane_Fits_C [.tmp 6] plane_Fits_F := fz_eq _ _ _ _ _
theorem plane_Fits_call : FzCall ctx 58 plane_Fits_F := fz_called rfl (show ctx.info 58 = some plane_Fits_I by kernel_rfl)
noncomputable def plane_Square_F := fzE ctx false 1 plane_Square_C [.tmp 2]
theorem plane_Square_F_eq : FzEq ctx false 1 plane_Square_C [.tmp 2] plane_Square_F := fz_eq _ _ _ _ _
theorem plane_Square_call : FzCall ctx 74 plane_Square_F := fz_called rfl (show ctx.info 74 = some plane_Square_I by kernel_rfl)
noncomputable def plane_Ahead_F := fzE ctx false 3 plane_Ahead_C [.tmp 6]
theorem plane_Ahead_F_eq : FzEq ctx false 3 plane_Ahead_C [.tmp 6] plane_Ahead_F := fz_eq _ _ _ _ _
theorem plane_Ahead_call : FzCall ctx 79 plane_Ahead_F := fz_called rfl (show ctx.info 79 = some plane_Ahead_I by kernel_rfl)
noncomputable def plane_Dot_F := fzE ctx false 2 plane_Dot_C [.tmp 4]
theorem plane_Dot_F_eq : FzEq ctx false 2 plane_Dot_C [.tmp 4] plane_Dot_F := fz_eq _ _ _ _ _
theorem plane_Dot_call : FzCall ctx 88 plane_Dot_F := fz_called rfl (show ctx.info 88 = some plane_Dot_I by kernel_rfl)
noncomputable def plane_turned_F := fzE ctx false 2 plane_turned_C [.tmp 4]
theorem plane_turned_F_eq : FzEq ctx false 2 plane_turned_C [.tmp 4] plane_turned_F := fz_eq _ _ _ _ _
theorem plane_turned_call : FzCall ctx 106 plane_turned_F := fz_called rfl (show ctx.info 106 = some plane_turned_I by kernel_rfl)
noncomputable def slices_Contains_complex128_F := fzE ctx false 2 slices_Contains_complex128_C [.tmp 4]
theorem slices_Contains_complex128_F_eq : FzEq ctx false 2 slices_Contains_complex128_C [.tmp 4] slices_Contains_complex128_F := fz_eq _ _ _ _ _
theorem slices_Contains_complex128_call : FzCall ctx 35 slices_Contains_complex128_F := fz_called rfl (show ctx.info 35 = some slices_Contains_complex128_I by kernel_rfl)
noncomputable def slices_Index_complex128_F := fzE ctx false 2 slices_Index_complex128_C [.tmp 4]
theorem slices_Index_complex128_F_eq : FzEq ctx false 2 slices_Index_complex128_C [.tmp 4] slices_Index_complex128_F := fz_eq _ _ _ _ _
theorem slices_Index_complex128_call : FzCall ctx 55 slices_Index_complex128_F := fz_called rfl (show ctx.info 55 = some slices_Index_complex128_I by kernel_rfl)
noncomputable def slices_ContainsFunc_int_F := fzE ctx false 2 slices_ContainsFunc_int_C [.tmp 4]
theorem slices_ContainsFunc_int_F_eq : FzEq ctx false 2 slices_ContainsFunc_int_C [.tmp 4] slices_ContainsFunc_int_F := fz_eq _ _ _ _ _
theorem slices_ContainsFunc_int_call : FzCall ctx 66 slices_ContainsFunc_int_F := fz_called rfl (show ctx.info 66 = some slices_ContainsFunc_int_I by kernel_rfl)
noncomputable def slices_IndexFunc_Int_F := fzE ctx false 2 slices_IndexFunc_Int_C [.tmp 4]
theorem slices_IndexFunc_Int_F_eq : FzEq ctx false 2 slices_IndexFunc_Int_C [.tmp 4] slices_IndexFunc_Int_F := fz_eq _ _ _ _ _
theorem slices_IndexFunc_Int_call : FzCall ctx 81 slices_IndexFunc_Int_F := fz_called rfl (show ctx.info 81 = some slices_IndexFunc_Int_I by kernel_rfl)
noncomputable def slices_Contains_int_F := fzE ctx false 2 slices_Contains_int_C [.tmp 4]
theorem slices_Contains_int_F_eq : FzEq ctx false 2 slices_Contains_int_C [.tmp 4] slices_Contains_int_F := fz_eq _ _ _ _ _
theorem slices_Contains_int_call : FzCall ctx 82 slices_Contains_int_F := fz_called rfl (show ctx.info 82 = some slices_Contains_int_I by kernel_rfl)
noncomputable def slices_Index_int_F := fzE ctx false 2 slices_Index_int_C [.tmp 4]
theorem slices_Index_int_F_eq : FzEq ctx false 2 slices_Index_int_C [.tmp 4] slices_Index_int_F := fz_eq _ _ _ _ _
theorem slices_Index_int_call : FzCall ctx 100 slices_Index_int_F := fz_called rfl (show ctx.info 100 = some slices_Index_int_I by kernel_rfl)
noncomputable def slices_Equal_int_F := fzE ctx false 2 slices_Equal_int_C [.tmp 4]
theorem slices_Equal_int_F_eq : FzEq ctx false 2 slices_Equal_int_C [.tmp 4] slices_Equal_int_F := fz_eq _ _ _ _ _
theorem slices_Equal_int_call : FzCall ctx 62 slices_Equal_int_F := fz_called rfl (show ctx.info 62 = some slices_Equal_int_I by kernel_rfl)
noncomputable def slices_Sort_int_F := refE ctx 1 slices_Sort_int_C []
theorem slices_Sort_int_F_eq : RefEq ctx 1 slices_Sort_int_C [] slices_Sort_int_F := ref_eq _ _ _ _
theorem slices_Sort_int_call : RefCall ctx 61 slices_Sort_int_F := ref_called rfl (show ctx.info 61 = some slices_Sort_int_I by kernel_rfl)
noncomputable def slices_pdqsortOrdered_int_F := refE ctx 4 slices_pdqsortOrdered_int_C []
theorem slices_pdqsortOrdered_int_F_eq : RefEq ctx 4 slices_pdqsortOrdered_int_C [] slices_pdqsortOrdered_int_F := ref_eq _ _ _ _
theorem slices_pdqsortOrdered_int_call : RefCall ctx 75 slices_pdqsortOrdered_int_F := ref_called rfl (show ctx.info 75 = some slices_pdqsortOrdered_int_I by kernel_rfl)
noncomputable def slices_insertionSortOrdered_int_F := refE ctx 3 slices_insertionSortOrdered_int_C []
theorem slices_insertionSortOrdered_int_F_eq : RefEq ctx 3 slices_insertionSortOrdered_int_C [] slices_insertionSortOrdered_int_F := ref_eq _ _ _ _
theorem slices_insertionSortOrdered_int_call : RefCall ctx 89 slices_insertionSortOrdered_int_F := ref_called rfl (show ctx.info 89 = some slices_insertionSortOrdered_int_I by kernel_rfl)
noncomputable def cmp_Less_int_F := fzE ctx false 2 cmp_Less_int_C [.tmp 4]
theorem cmp_Less_int_F_eq : FzEq ctx false 2 cmp_Less_int_C [.tmp 4] cmp_Less_int_F := fz_eq _ _ _ _ _
theorem cmp_Less_int_call : FzCall ctx 95 cmp_Less_int_F := fz_called rfl (show ctx.info 95 = some cmp_Less_int_I by kernel_rfl)
noncomputable def cmp_isNaN_int_F := fzE ctx false 1 cmp_isNaN_int_C [.tmp 2]
theorem cmp_isNaN_int_F_eq : FzEq ctx false 1 cmp_isNaN_int_C [.tmp 2] cmp_isNaN_int_F := fz_eq _ _ _ _ _
theorem cmp_isNaN_int_call : FzCall ctx 112 cmp_isNaN_int_F := fz_called rfl (show ctx.info 112 = some cmp_isNaN_int_I by kernel_rfl)
noncomputable def math_bits_Len_F := fzE ctx false 1 math_bits_Len_C [.tmp 2]
theorem math_bits_Len_F_eq : FzEq ctx false 1 math_bits_Len_C [.tmp 2] math_bits_Len_F := fz_eq _ _ _ _ _
theorem math_bits_Len_call : FzCall ctx 76 math_bits_Len_F := fz_called rfl (show ctx.info 76 = some math_bits_Len_I by kernel_rfl)
noncomputable def math_bits_Len64_F := fzE ctx false 1 math_bits_Len64_C [.tmp 2]
theorem math_bits_Len64_F_eq : FzEq ctx false 1 math_bits_Len64_C [.tmp 2] math_bits_Len64_F := fz_eq _ _ _ _ _
theorem math_bits_Len64_call : FzCall ctx 99 math_bits_Len64_F := fz_called rfl (show ctx.info 99 = some math_bits_Len64_I by kernel_rfl)
noncomputable def math_bits_Len32_F := fzE ctx false 1 math_bits_Len32_C [.tmp 2]
theorem math_bits_Len32_F_eq : FzEq ctx false 1 math_bits_Len32_C [.tmp 2] math_bits_Len32_F := fz_eq _ _ _ _ _
theorem math_bits_Len32_call : FzCall ctx 98 math_bits_Len32_F := fz_called rfl (show ctx.info 98 = some math_bits_Len32_I by kernel_rfl)
noncomputable def slices_Compact_int_F := refE ctx 1 slices_Compact_int_C [.tmp 2]
theorem slices_Compact_int_F_eq : RefEq ctx 1 slices_Compact_int_C [.tmp 2] slices_Compact_int_F := ref_eq _ _ _ _
theorem slices_Compact_int_call : RefCall ctx 63 slices_Compact_int_F := ref_called rfl (show ctx.info 63 = some slices_Compact_int_I by kernel_rfl)
noncomputable def r01_Dot_F := fzE ctx false 2 r01_Dot_C [.tmp 4]
theorem r01_Dot_F_eq : FzEq ctx false 2 r01_Dot_C [.tmp 4] r01_Dot_F := fz_eq _ _ _ _ _
theorem r01_Dot_call : FzCall ctx 18 r01_Dot_F := fz_called rfl (show ctx.info 18 = some r01_Dot_I by kernel_rfl)
noncomputable def r01_At_F := fzE ctx false 1 r01_At_C [.tmp 2, .tmp 3]
theorem r01_At_F_eq : FzEq ctx false 1 r01_At_C [.tmp 2, .tmp 3] r01_At_F := fz_eq _ _ _ _ _
theorem r01_At_call : FzCall ctx 25 r01_At_F := fz_called rfl (show ctx.info 25 = some r01_At_I by kernel_rfl)
noncomputable def r01_Place_F := fzE ctx false 1 r01_Place_C [.tmp 2]
theorem r01_Place_F_eq : FzEq ctx false 1 r01_Place_C [.tmp 2] r01_Place_F := fz_eq _ _ _ _ _
theorem r01_Place_call : FzCall ctx 49 r01_Place_F := fz_called rfl (show ctx.info 49 = some r01_Place_I by kernel_rfl)
noncomputable def r01_whole_F := fzE ctx false 1 r01_whole_C [.tmp 2]
theorem r01_whole_F_eq : FzEq ctx false 1 r01_whole_C [.tmp 2] r01_whole_F := fz_eq _ _ _ _ _
theorem r01_whole_call : FzCall ctx 69 r01_whole_F := fz_called rfl (show ctx.info 69 = some r01_whole_I by kernel_rfl)
noncomputable def r01_Fits_F := fzE ctx false 3 r01_Fits_C [.tmp 6]
theorem r01_Fits_F_eq : FzEq ctx false 3 r01_Fits_C [.tmp 6] r01_Fits_F := fz_eq _ _ _ _ _
theorem r01_Fits_call : FzCall ctx 51 r01_Fits_F := fz_called rfl (show ctx.info 51 = some r01_Fits_I by kernel_rfl)
noncomputable def r06_First_F := fzE ctx false 1 r06_First_C [.tmp 2, .tmp 3]
theorem r06_First_F_eq : FzEq ctx false 1 r06_First_C [.tmp 2, .tmp 3] r06_First_F := fz_eq _ _ _ _ _
theorem r06_First_call : FzCall ctx 19 r06_First_F := fz_called rfl (show ctx.info 19 = some r06_First_I by kernel_rfl)
noncomputable def r06_places_F := fzE ctx false 2 r06_places_C [.tmp 4, .tmp 5]
theorem r06_places_F_eq : FzEq ctx false 2 r06_places_C [.tmp 4, .tmp 5] r06_places_F := fz_eq _ _ _ _ _
theorem r06_places_call : FzCall ctx 26 r06_places_F := fz_called rfl (show ctx.info 26 = some r06_places_I by kernel_rfl)
noncomputable def r06_holds_F := fzE ctx false 3 r06_holds_C [.tmp 6]
theorem r06_holds_F_eq : FzEq ctx false 3 r06_holds_C [.tmp 6] r06_holds_F := fz_eq _ _ _ _ _
theorem r06_holds_call : FzCall ctx 27 r06_holds_F := fz_called rfl (show ctx.info 27 = some r06_holds_I by kernel_rfl)
noncomputable def r06_part_F := fzE ctx false 3 r06_part_C [.tmp 6]
theorem r06_part_F_eq : FzEq ctx false 3 r06_part_C [.tmp 6] r06_part_F := fz_eq _ _ _ _ _
theorem r06_part_call : FzCall ctx 28 r06_part_F := fz_called rfl (show ctx.info 28 = some r06_part_I by kernel_rfl)
noncomputable def r06_node_F := fzE ctx false 2 r06_node_C [.tmp 4]
theorem r06_node_F_eq : FzEq ctx false 2 r06_node_C [.tmp 4] r06_node_F := fz_eq _ _ _ _ _
theorem r06_node_call : FzCall ctx 50 r06_node_F := fz_called rfl (show ctx.info 50 = some r06_node_I by kernel_rfl)
noncomputable def r06_on_F := fzE ctx false 4 r06_on_C [.tmp 8]
theorem r06_on_F_eq : FzEq ctx false 4 r06_on_C [.tmp 8] r06_on_F := fz_eq _ _ _ _ _
theorem r06_on_call : FzCall ctx 52 r06_on_F := fz_called rfl (show ctx.info 52 = some r06_on_I by kernel_rfl)
noncomputable def r06_other_F := fzE ctx false 3 r06_other_C [.tmp 6]
theorem r06_other_F_eq : FzEq ctx false 3 r06_other_C [.tmp 6] r06_other_F := fz_eq _ _ _ _ _
theorem r06_other_call : FzCall ctx 70 r06_other_F := fz_called rfl (show ctx.info 70 = some r06_other_I by kernel_rfl)
noncomputable def r05_Path_F := fzE ctx false 2 r05_Path_C [.tmp 4, .tmp 5]
theorem r05_Path_F_eq : FzEq ctx false 2 r05_Path_C [.tmp 4, .tmp 5] r05_Path_F := fz_eq _ _ _ _ _
theorem r05_Path_call : FzCall ctx 53 r05_Path_F := fz_called rfl (show ctx.info 53 = some r05_Path_I by kernel_rfl)
noncomputable def r05_way_F := fzE ctx false 3 r05_way_C [.tmp 6, .tmp 7]
theorem r05_way_F_eq : FzEq ctx false 3 r05_way_C [.tmp 6, .tmp 7] r05_way_F := fz_eq _ _ _ _ _
theorem r05_way_call : FzCall ctx 71 r05_way_F := fz_called rfl (show ctx.info 71 = some r05_way_I by kernel_rfl)
noncomputable def r04_Small_F := fzE ctx false 1 r04_Small_C [.tmp 2]
theorem r04_Small_F_eq : FzEq ctx false 1 r04_Small_C [.tmp 2] r04_Small_F := fz_eq _ _ _ _ _
theorem r04_Small_call : FzCall ctx 10 r04_Small_F := fz_called rfl (show ctx.info 10 = some r04_Small_I by kernel_rfl)
noncomputable def r05_Full_F := fzE ctx false 1 r05_Full_C [.cell 2 true 10]
theorem r05_Full_F_eq : FzEq ctx false 1 r05_Full_C [.cell 2 true 10] r05_Full_F := fz_eq _ _ _ _ _
theorem r05_Full_call : FzCall ctx 11 r05_Full_F := fz_called rfl (show ctx.info 11 = some r05_Full_I by kernel_rfl)
noncomputable def r04_Make_F := fzE ctx true 1 r04_Make_C [.cell 2 true 10]
theorem r04_Make_F_eq : FzEq ctx true 1 r04_Make_C [.cell 2 true 10] r04_Make_F := fz_eq _ _ _ _ _
theorem r04_Make_call : FzCall ctx 14 r04_Make_F := fz_called rfl (show ctx.info 14 = some r04_Make_I by kernel_rfl)
noncomputable def r05_Walk_F := fzE ctx false 5 r05_Walk_C [.tmp 10]
theorem r05_Walk_F_eq : FzEq ctx false 5 r05_Walk_C [.tmp 10] r05_Walk_F := fz_eq _ _ _ _ _
theorem r05_Walk_call : FzCall ctx 15 r05_Walk_F := fz_called rfl (show ctx.info 15 = some r05_Walk_I by kernel_rfl)
noncomputable def r01_Rise_F := fzE ctx false 1 r01_Rise_C [.tmp 2]
theorem r01_Rise_F_eq : FzEq ctx false 1 r01_Rise_C [.tmp 2] r01_Rise_F := fz_eq _ _ _ _ _
theorem r01_Rise_call : FzCall ctx 16 r01_Rise_F := fz_called rfl (show ctx.info 16 = some r01_Rise_I by kernel_rfl)
noncomputable def r05_Around_F := fzE ctx false 2 r05_Around_C [.tmp 4]
theorem r05_Around_F_eq : FzEq ctx false 2 r05_Around_C [.tmp 4] r05_Around_F := fz_eq _ _ _ _ _
theorem r05_Around_call : FzCall ctx 20 r05_Around_F := fz_called rfl (show ctx.info 20 = some r05_Around_I by kernel_rfl)
noncomputable def r01_Has_F := fzE ctx false 2 r01_Has_C [.tmp 4]
theorem r01_Has_F_eq : FzEq ctx false 2 r01_Has_C [.tmp 4] r01_Has_F := fz_eq _ _ _ _ _
theorem r01_Has_call : FzCall ctx 21 r01_Has_F := fz_called rfl (show ctx.info 21 = some r01_Has_I by kernel_rfl)
noncomputable def graph_New_F := fzE ctx false 1 graph_New_C [.tmp 2]
theorem graph_New_F_eq : FzEq ctx false 1 graph_New_C [.tmp 2] graph_New_F := fz_eq _ _ _ _ _
theorem graph_New_call : FzCall ctx 22 graph_New_F := fz_called rfl (show ctx.info 22 = some graph_New_I by kernel_rfl)
noncomputable def r05_node_F := fzE ctx false 2 r05_node_C [.tmp 4, .tmp 5]
theorem r05_node_F_eq : FzEq ctx false 2 r05_node_C [.tmp 4, .tmp 5] r05_node_F := fz_eq _ _ _ _ _
theorem r05_node_call : FzCall ctx 29 r05_node_F := fz_called rfl (show ctx.info 29 = some r05_node_I by kernel_rfl)
noncomputable def r05_Point_F := fzE ctx false 2 r05_Point_C [.tmp 4]
theorem r05_Point_F_eq : FzEq ctx false 2 r05_Point_C [.tmp 4] r05_Point_F := fz_eq _ _ _ _ _
theorem r05_Point_call : FzCall ctx 30 r05_Point_F := fz_called rfl (show ctx.info 30 = some r05_Point_I by kernel_rfl)
noncomputable def r05_one_F := fzE ctx false 3 r05_one_C [.tmp 6]
theorem r05_one_F_eq : FzEq ctx false 3 r05_one_C [.tmp 6] r05_one_F := fz_eq _ _ _ _ _
theorem r05_one_call : FzCall ctx 31 r05_one_F := fz_called rfl (show ctx.info 31 = some r05_one_I by kernel_rfl)
noncomputable def r05_Ends_F := fzE ctx false 2 r05_Ends_C [.tmp 4]
theorem r05_Ends_F_eq : FzEq ctx false 2 r05_Ends_C [.tmp 4] r05_Ends_F := fz_eq _ _ _ _ _
theorem r05_Ends_call : FzCall ctx 32 r05_Ends_F := fz_called rfl (show ctx.info 32 = some r05_Ends_I by kernel_rfl)
noncomputable def graph_Graph_Ends_F := oE ctx 2 graph_Graph_Ends_C [.tmp 4]
theorem graph_Graph_Ends_F_eq : OwnEq ctx 2 graph_Graph_Ends_C [.tmp 4] graph_Graph_Ends_F := own_eq _ _ _ _
theorem graph_Graph_Ends_call : FzCall ctx 42 graph_Graph_Ends_F := own_called rfl (show ctx.info 42 = some graph_Graph_Ends_I by kernel_rfl)
noncomputable def graph_Graph_section_F := fzE ctx false 2 graph_Graph_section_C [.cell 4 true 3, .tmp 5]
theorem graph_Graph_section_F_eq : FzEq ctx false 2 graph_Graph_section_C [.cell 4 true 3, .tmp 5] graph_Graph_section_F := fz_eq _ _ _ _ _
theorem graph_Graph_section_call : FzCall ctx 60 graph_Graph_section_F := fz_called rfl (show ctx.info 60 = some graph_Graph_section_I by kernel_rfl)
noncomputable def graph_Graph_Point_F := fzE ctx false 2 graph_Graph_Point_C [.tmp 4]
theorem graph_Graph_Point_F_eq : FzEq ctx false 2 graph_Graph_Point_C [.tmp 4] graph_Graph_Point_F := fz_eq _ _ _ _ _
theorem graph_Graph_Point_call : FzCall ctx 64 graph_Graph_Point_F := fz_called rfl (show ctx.info 64 = some graph_Graph_Point_I by kernel_rfl)
noncomputable def slices_IndexFunc_Point_F := fzE ctx false 2 slices_IndexFunc_Point_C [.tmp 4]
theorem slices_IndexFunc_Point_F_eq : FzEq ctx false 2 slices_IndexFunc_Point_C [.tmp 4] slices_IndexFunc_Point_F := fz_eq _ _ _ _ _
theorem slices_IndexFunc_Point_call : FzCall ctx 77 slices_IndexFunc_Point_F := fz_called rfl (show ctx.info 77 = some slices_IndexFunc_Point_I by kernel_rfl)
noncomputable def graph_Graph_Point_1_F := fzE ctx false 2 graph_Graph_Point_1_C [.tmp 3]
theorem graph_Graph_Point_1_F_eq : FzEq ctx false 2 graph_Graph_Point_1_C [.tmp 3] graph_Graph_Point_1_F := fz_eq _ _ _ _ _
theorem graph_Graph_Point_1_call : FzCall ctx 78 graph_Graph_Point_1_F := fz_called rfl (show ctx.info 78 = some graph_Graph_Point_1_I by kernel_rfl)
noncomputable def graph_Graph_Path_F := fzE ctx false 2 graph_Graph_Path_C [.tmp 4, .tmp 5]
theorem graph_Graph_Path_F_eq : FzEq ctx false 2 graph_Graph_Path_C [.tmp 4, .tmp 5] graph_Graph_Path_F := fz_eq _ _ _ _ _
theorem graph_Graph_Path_call : FzCall ctx 68 graph_Graph_Path_F := fz_called rfl (show ctx.info 68 = some graph_Graph_Path_I by kernel_rfl)
noncomputable def graph_Graph_way_F := fzE ctx false 3 graph_Graph_way_C [.tmp 6, .tmp 7]
theorem graph_Graph_way_F_eq : FzEq ctx false 3 graph_Graph_way_C [.tmp 6, .tmp 7] graph_Graph_way_F := fz_eq _ _ _ _ _
theorem graph_Graph_way_call : FzCall ctx 83 graph_Graph_way_F := fz_called rfl (show ctx.info 83 = some graph_Graph_way_I by kernel_rfl)
noncomputable def graph_Graph_Around_F := fzE ctx false 2 graph_Graph_Around_C [.tmp 4]
theorem graph_Graph_Around_F_eq : FzEq ctx false 2 graph_Graph_Around_C [.tmp 4] graph_Graph_Around_F := fz_eq _ _ _ _ _
theorem graph_Graph_Around_call : FzCall ctx 101 graph_Graph_Around_F := fz_called rfl (show ctx.info 101 = some graph_Graph_Around_I by kernel_rfl)
noncomputable def slices_IndexFunc_End_F := fzE ctx false 2 slices_IndexFunc_End_C [.tmp 4]
theorem slices_IndexFunc_End_F_eq : FzEq ctx false 2 slices_IndexFunc_End_C [.tmp 4] slices_IndexFunc_End_F := fz_eq _ _ _ _ _
theorem slices_IndexFunc_End_call : FzCall ctx 102 slices_IndexFunc_End_F := fz_called rfl (show ctx.info 102 = some slices_IndexFunc_End_I by kernel_rfl)
noncomputable def graph_Graph_way_1_F := fzE ctx false 2 graph_Graph_way_1_C [.tmp 3]
theorem graph_Graph_way_1_F_eq : FzEq ctx false 2 graph_Graph_way_1_C [.tmp 3] graph_Graph_way_1_F := fz_eq _ _ _ _ _
theorem graph_Graph_way_1_call : FzCall ctx 103 graph_Graph_way_1_F := fz_called rfl (show ctx.info 103 = some graph_Graph_way_1_I by kernel_rfl)
noncomputable def graph_Graph_need_F := fzE ctx false 3 graph_Graph_need_C [.tmp 6]
theorem graph_Graph_need_F_eq : FzEq ctx false 3 graph_Graph_need_C [.tmp 6] graph_Graph_need_F := fz_eq _ _ _ _ _
theorem graph_Graph_need_call : FzCall ctx 104 graph_Graph_need_F := fz_called rfl (show ctx.info 104 = some graph_Graph_need_I by kernel_rfl)
noncomputable def graph_Graph_node_F := fzE ctx false 2 graph_Graph_node_C [.tmp 4, .tmp 5]
theorem graph_Graph_node_F_eq : FzEq ctx false 2 graph_Graph_node_C [.tmp 4, .tmp 5] graph_Graph_node_F := fz_eq _ _ _ _ _
theorem graph_Graph_node_call : FzCall ctx 113 graph_Graph_node_F := fz_called rfl (show ctx.info 113 = some graph_Graph_node_I by kernel_rfl)
noncomputable def slices_DeleteFunc_End_F := refE ctx 2 slices_DeleteFunc_End_C [.tmp 4]
theorem slices_DeleteFunc_End_F_eq : RefEq ctx 2 slices_DeleteFunc_End_C [.tmp 4] slices_DeleteFunc_End_F := ref_eq _ _ _ _
theorem slices_DeleteFunc_End_call : RefCall ctx 114 slices_DeleteFunc_End_F := ref_called rfl (show ctx.info 114 = some slices_DeleteFunc_End_I by kernel_rfl)
noncomputable def graph_Graph_Around_1_F := fzE ctx false 2 graph_Graph_Around_1_C [.tmp 3]
theorem graph_Graph_Around_1_F_eq : FzEq ctx false 2 graph_Graph_Around_1_C [.tmp 3] graph_Graph_Around_1_F := fz_eq _ _ _ _ _
theorem graph_Graph_Around_1_call : FzCall ctx 115 graph_Graph_Around_1_F := fz_called rfl (show ctx.info 115 = some graph_Graph_Around_1_I by kernel_rfl)
noncomputable def slices_Concat_End_F := fzE ctx false 1 slices_Concat_End_C [.tmp 2]
theorem slices_Concat_End_F_eq : FzEq ctx false 1 slices_Concat_End_C [.tmp 2] slices_Concat_End_F := fz_eq _ _ _ _ _
theorem slices_Concat_End_call : FzCall ctx 116 slices_Concat_End_F := fz_called rfl (show ctx.info 116 = some slices_Concat_End_I by kernel_rfl)
noncomputable def graph_Graph_at_F := fzE ctx false 3 graph_Graph_at_C [.tmp 6]
theorem graph_Graph_at_F_eq : FzEq ctx false 3 graph_Graph_at_C [.tmp 6] graph_Graph_at_F := fz_eq _ _ _ _ _
theorem graph_Graph_at_call : FzCall ctx 117 graph_Graph_at_F := fz_called rfl (show ctx.info 117 = some graph_Graph_at_I by kernel_rfl)
noncomputable def slices_Grow_End_F := refE ctx 2 slices_Grow_End_C [.tmp 4]
theorem slices_Grow_End_F_eq : RefEq ctx 2 slices_Grow_End_C [.tmp 4] slices_Grow_End_F := ref_eq _ _ _ _
theorem slices_Grow_End_call : RefCall ctx 119 slices_Grow_End_F := ref_called rfl (show ctx.info 119 = some slices_Grow_End_I by kernel_rfl)
noncomputable def verify_First_R2 := intoE ctx 2 [5, 15, 16, 17, 22, 23, 24] [15, 16, 17] verify_First_B2
noncomputable def verify_First_K2 := roundE ctx 2 [5, 15, 16, 17, 22, 23, 24] [15, 16, 17] verify_First_B2
theorem verify_First_L2_eq : LEq ctx [5, 15, 16, 17, 22, 23, 24] verify_First_L2 verify_First_R2 := l_eq ctx 2 [5, 15, 16, 17, 22, 23, 24] [15, 16, 17] _
theorem verify_First_R2_eq : REq ctx verify_First_B2 verify_First_R2 verify_First_K2 := r_eq ctx 2 [5, 15, 16, 17, 22, 23, 24] [15, 16, 17] _
theorem verify_First_K2_a : KEq 2 [5, 15, 16, 17, 22, 23, 24] [15, 16, 17] verify_First_R2 verify_First_K2 := k_eq ctx 2 [5, 15, 16, 17, 22, 23, 24] [15, 16, 17] _
noncomputable def verify_First_R0 := intoE ctx 0 [15, 16, 17] [] verify_First_B0
noncomputable def verify_First_K0 := roundE ctx 0 [15, 16, 17] [] verify_First_B0
theorem verify_First_L0_eq : LEq ctx [15, 16, 17] verify_First_L0 verify_First_R0 := l_eq ctx 0 [15, 16, 17] [] _
theorem verify_First_R0_eq : REq ctx verify_First_B0 verify_First_R0 verify_First_K0 := r_eq ctx 0 [15, 16, 17] [] _
theorem verify_First_K0_a : KEq 0 [15, 16, 17] [] verify_First_R0 verify_First_K0 := k_eq ctx 0 [15, 16, 17] [] _
noncomputable def verify_rule_broken_R0 := intoE ctx 0 [1, 5, 6] [] verify_rule_broken_B0
noncomputable def verify_rule_broken_K0 := roundE ctx 0 [1, 5, 6] [] verify_rule_broken_B0
theorem verify_rule_broken_L0_eq : LEq ctx [1, 5, 6] verify_rule_broken_L0 verify_rule_broken_R0 := l_eq ctx 0 [1, 5, 6] [] _
theorem verify_rule_broken_R0_eq : REq ctx verify_rule_broken_B0 verify_rule_broken_R0 verify_rule_broken_K0 := r_eq ctx 0 [1, 5, 6] [] _
theorem verify_rule_broken_K0_a : KEq 0 [1, 5, 6] [] verify_rule_broken_R0 verify_rule_broken_K0 := k_eq ctx 0 [1, 5, 6] [] _
noncomputable def verify_judge_times_R0 := intoE ctx 0 [1, 14, 15, 16] [1] verify_judge_times_B0
noncomputable def verify_judge_times_K0 := roundE ctx 0 [1, 14, 15, 16] [1] verify_judge_times_B0
theorem verify_judge_times_L0_eq : LEq ctx [1, 14, 15, 16] verify_judge_times_L0 verify_judge_times_R0 := l_eq ctx 0 [1, 14, 15, 16] [1] _
theorem verify_judge_times_R0_eq : REq ctx verify_judge_times_B0 verify_judge_times_R0 verify_judge_times_K0 := r_eq ctx 0 [1, 14, 15, 16] [1] _
theorem verify_judge_times_K0_a : KEq 0 [1, 14, 15, 16] [1] verify_judge_times_R0 verify_judge_times_K0 := k_eq ctx 0 [1, 14, 15, 16] [1] _
noncomputable def verify_judge_points_R0 := intoE ctx 0 [1, 2, 5, 10, 11, 12] [1, 2, 5] verify_judge_points_B0
noncomputable def verify_judge_points_K0 := roundE ctx 0 [1, 2, 5, 10, 11, 12] [1, 2, 5] verify_judge_points_B0
theorem verify_judge_points_L0_eq : LEq ctx [1, 2, 5, 10, 11, 12] verify_judge_points_L0 verify_judge_points_R0 := l_eq ctx 0 [1, 2, 5, 10, 11, 12] [1, 2, 5] _
theorem verify_judge_points_R0_eq : REq ctx verify_judge_points_B0 verify_judge_points_R0 verify_judge_points_K0 := r_eq ctx 0 [1, 2, 5, 10, 11, 12] [1, 2, 5] _
theorem verify_judge_points_K0_a : KEq 0 [1, 2, 5, 10, 11, 12] [1, 2, 5] verify_judge_points_R0 verify_judge_points_K0 := k_eq ctx 0 [1, 2, 5, 10, 11, 12] [1, 2, 5] _
noncomputable def verify_judge_once_R2 := intoE ctx 2 [1, 5, 12, 13, 14, 18, 19, 20] [1, 5, 12, 13, 14] verify_judge_once_B2
noncomputable def verify_judge_once_K2 := roundE ctx 2 [1, 5, 12, 13, 14, 18, 19, 20] [1, 5, 12, 13, 14] verify_judge_once_B2
theorem verify_judge_once_L2_eq : LEq ctx [1, 5, 12, 13, 14, 18, 19, 20] verify_judge_once_L2 verify_judge_once_R2 := l_eq ctx 2 [1, 5, 12, 13, 14, 18, 19, 20] [1, 5, 12, 13, 14] _
theorem verify_judge_once_R2_eq : REq ctx verify_judge_once_B2 verify_judge_once_R2 verify_judge_once_K2 := r_eq ctx 2 [1, 5, 12, 13, 14, 18, 19, 20] [1, 5, 12, 13, 14] _
theorem verify_judge_once_K2_a : KEq 2 [1, 5, 12, 13, 14, 18, 19, 20] [1, 5, 12, 13, 14] verify_judge_once_R2 verify_judge_once_K2 := k_eq ctx 2 [1, 5, 12, 13, 14, 18, 19, 20] [1, 5, 12, 13, 14] _
noncomputable def verify_judge_once_R0 := intoE ctx 0 [1, 5, 12, 13, 14] [5] verify_judge_once_B0
noncomputable def verify_judge_once_K0 := roundE ctx 0 [1, 5, 12, 13, 14] [5] verify_judge_once_B0
theorem verify_judge_once_L0_eq : LEq ctx [1, 5, 12, 13, 14] verify_judge_once_L0 verify_judge_once_R0 := l_eq ctx 0 [1, 5, 12, 13, 14] [5] _
theorem verify_judge_once_R0_eq : REq ctx verify_judge_once_B0 verify_judge_once_R0 verify_judge_once_K0 := r_eq ctx 0 [1, 5, 12, 13, 14] [5] _
theorem verify_judge_once_K0_a : KEq 0 [1, 5, 12, 13, 14] [5] verify_judge_once_R0 verify_judge_once_K0 := k_eq ctx 0 [1, 5, 12, 13, 14] [5] _
noncomputable def slices_Index_complex128_R0 := intoE ctx 0 [0, 1, 7, 8] [] slices_Index_complex128_B0
noncomputable def slices_Index_complex128_K0 := roundE ctx 0 [0, 1, 7, 8] [] slices_Index_complex128_B0
theorem slices_Index_complex128_L0_eq : LEq ctx [0, 1, 7, 8] slices_Index_complex128_L0 slices_Index_complex128_R0 := l_eq ctx 0 [0, 1, 7, 8] [] _
theorem slices_Index_complex128_R0_eq : REq ctx slices_Index_complex128_B0 slices_Index_complex128_R0 slices_Index_complex128_K0 := r_eq ctx 0 [0, 1, 7, 8] [] _
theorem slices_Index_complex128_K0_a : KEq 0 [0, 1, 7, 8] [] slices_Index_complex128_R0 slices_Index_complex128_K0 := k_eq ctx 0 [0, 1, 7, 8] [] _
noncomputable def slices_IndexFunc_Int_R0 := intoE ctx 0 [0, 1, 7, 8] [] slices_IndexFunc_Int_B0
noncomputable def slices_IndexFunc_Int_K0 := roundE ctx 0 [0, 1, 7, 8] [] slices_IndexFunc_Int_B0
theorem slices_IndexFunc_Int_L0_eq : LEq ctx [0, 1, 7, 8] slices_IndexFunc_Int_L0 slices_IndexFunc_Int_R0 := l_eq ctx 0 [0, 1, 7, 8] [] _
theorem slices_IndexFunc_Int_R0_eq : REq ctx slices_IndexFunc_Int_B0 slices_IndexFunc_Int_R0 slices_IndexFunc_Int_K0 := r_eq ctx 0 [0, 1, 7, 8] [] _
theorem slices_IndexFunc_Int_K0_a : KEq 0 [0, 1, 7, 8] [] slices_IndexFunc_Int_R0 slices_IndexFunc_Int_K0 := k_eq ctx 0 [0, 1, 7, 8] [] _
noncomputable def slices_Index_int_R0 := intoE ctx 0 [0, 1, 7, 8] [] slices_Index_int_B0
noncomputable def slices_Index_int_K0 := roundE ctx 0 [0, 1, 7, 8] [] slices_Index_int_B0
theorem slices_Index_int_L0_eq : LEq ctx [0, 1, 7, 8] slices_Index_int_L0 slices_Index_int_R0 := l_eq ctx 0 [0, 1, 7, 8] [] _
theorem slices_Index_int_R0_eq : REq ctx slices_Index_int_B0 slices_Index_int_R0 slices_Index_int_K0 := r_eq ctx 0 [0, 1, 7, 8] [] _
theorem slices_Index_int_K0_a : KEq 0 [0, 1, 7, 8] [] slices_Index_int_R0 slices_Index_int_K0 := k_eq ctx 0 [0, 1, 7, 8] [] _
noncomputable def slices_Equal_int_R0 := intoE ctx 0 [0, 1, 12, 13] [] slices_Equal_int_B0
noncomputable def slices_Equal_int_K0 := roundE ctx 0 [0, 1, 12, 13] [] slices_Equal_int_B0
theorem slices_Equal_int_L0_eq : LEq ctx [0, 1, 12, 13] slices_Equal_int_L0 slices_Equal_int_R0 := l_eq ctx 0 [0, 1, 12, 13] [] _
theorem slices_Equal_int_R0_eq : REq ctx slices_Equal_int_B0 slices_Equal_int_R0 slices_Equal_int_K0 := r_eq ctx 0 [0, 1, 12, 13] [] _
theorem slices_Equal_int_K0_a : KEq 0 [0, 1, 12, 13] [] slices_Equal_int_R0 slices_Equal_int_K0 := k_eq ctx 0 [0, 1, 12, 13] [] _
noncomputable def slices_pdqsortOrdered_int_R0 := intoE ctx 0 [0, 1, 2, 3, 8, 9] [] slices_pdqsortOrdered_int_B0
noncomputable def slices_pdqsortOrdered_int_K0 := roundE ctx 0 [0, 1, 2, 3, 8, 9] [] slices_pdqsortOrdered_int_B0
theorem slices_pdqsortOrdered_int_L0_eq : LEq ctx [0, 1, 2, 3, 8, 9] slices_pdqsortOrdered_int_L0 slices_pdqsortOrdered_int_R0 := l_eq ctx 0 [0, 1, 2, 3, 8, 9] [] _
theorem slices_pdqsortOrdered_int_R0_eq : REq ctx slices_pdqsortOrdered_int_B0 slices_pdqsortOrdered_int_R0 slices_pdqsortOrdered_int_K0 := r_eq ctx 0 [0, 1, 2, 3, 8, 9] [] _
theorem slices_pdqsortOrdered_int_K0_a : KEq 0 [0, 1, 2, 3, 8, 9] [] slices_pdqsortOrdered_int_R0 slices_pdqsortOrdered_int_K0 := k_eq ctx 0 [0, 1, 2, 3, 8, 9] [] _
noncomputable def slices_insertionSortOrdered_int_R2 := intoE ctx 2 [0, 1, 2, 6, 7] [0, 1, 2, 6] slices_insertionSortOrdered_int_B2
noncomputable def slices_insertionSortOrdered_int_K2 := roundE ctx 2 [0, 1, 2, 6, 7] [0, 1, 2, 6] slices_insertionSortOrdered_int_B2
theorem slices_insertionSortOrdered_int_L2_eq : LEq ctx [0, 1, 2, 6, 7] slices_insertionSortOrdered_int_L2 slices_insertionSortOrdered_int_R2 := l_eq ctx 2 [0, 1, 2, 6, 7] [0, 1, 2, 6] _
theorem slices_insertionSortOrdered_int_R2_eq : REq ctx slices_insertionSortOrdered_int_B2 slices_insertionSortOrdered_int_R2 slices_insertionSortOrdered_int_K2 := r_eq ctx 2 [0, 1, 2, 6, 7] [0, 1, 2, 6] _
theorem slices_insertionSortOrdered_int_K2_a : KEq 2 [0, 1, 2, 6, 7] [0, 1, 2, 6] slices_insertionSortOrdered_int_R2 slices_insertionSortOrdered_int_K2 := k_eq ctx 2 [0, 1, 2, 6, 7] [0, 1, 2, 6] _
noncomputable def slices_insertionSortOrdered_int_R0 := intoE ctx 0 [0, 1, 2, 6] [] slices_insertionSortOrdered_int_B0
noncomputable def slices_insertionSortOrdered_int_K0 := roundE ctx 0 [0, 1, 2, 6] [] slices_insertionSortOrdered_int_B0
theorem slices_insertionSortOrdered_int_L0_eq : LEq ctx [0, 1, 2, 6] slices_insertionSortOrdered_int_L0 slices_insertionSortOrdered_int_R0 := l_eq ctx 0 [0, 1, 2, 6] [] _
theorem slices_insertionSortOrdered_int_R0_eq : REq ctx slices_insertionSortOrdered_int_B0 slices_insertionSortOrdered_int_R0 slices_insertionSortOrdered_int_K0 := r_eq ctx 0 [0, 1, 2, 6] [] _
theorem slices_insertionSortOrdered_int_K0_a : KEq 0 [0, 1, 2, 6] [] slices_insertionSortOrdered_int_R0 slices_insertionSortOrdered_int_K0 := k_eq ctx 0 [0, 1, 2, 6] [] _
noncomputable def slices_Compact_int_R2 := intoE ctx 2 [0, 3, 4, 5] [0, 3] slices_Compact_int_B2
noncomputable def slices_Compact_int_K2 := roundE ctx 2 [0, 3, 4, 5] [0, 3] slices_Compact_int_B2
theorem slices_Compact_int_L2_eq : LEq ctx [0, 3, 4, 5] slices_Compact_int_L2 slices_Compact_int_R2 := l_eq ctx 2 [0, 3, 4, 5] [0, 3] _
theorem slices_Compact_int_R2_eq : REq ctx slices_Compact_int_B2 slices_Compact_int_R2 slices_Compact_int_K2 := r_eq ctx 2 [0, 3, 4, 5] [0, 3] _
theorem slices_Compact_int_K2_a : KEq 2 [0, 3, 4, 5] [0, 3] slices_Compact_int_R2 slices_Compact_int_K2 := k_eq ctx 2 [0, 3, 4, 5] [0, 3] _
noncomputable def slices_Compact_int_R0 := intoE ctx 0 [0, 3] [0] slices_Compact_int_B0
noncomputable def slices_Compact_int_K0 := roundE ctx 0 [0, 3] [0] slices_Compact_int_B0
theorem slices_Compact_int_L0_eq : LEq ctx [0, 3] slices_Compact_int_L0 slices_Compact_int_R0 := l_eq ctx 0 [0, 3] [0] _
theorem slices_Compact_int_R0_eq : REq ctx slices_Compact_int_B0 slices_Compact_int_R0 slices_Compact_int_K0 := r_eq ctx 0 [0, 3] [0] _
theorem slices_Compact_int_K0_a : KEq 0 [0, 3] [0] slices_Compact_int_R0 slices_Compact_int_K0 := k_eq ctx 0 [0, 3] [0] _
noncomputable def r06_First_R2 := intoE ctx 2 [1, 4, 5, 6, 7] [1, 4, 6] r06_First_B2
noncomputable def r06_First_K2 := roundE ctx 2 [1, 4, 5, 6, 7] [1, 4, 6] r06_First_B2
theorem r06_First_L2_eq : LEq ctx [1, 4, 5, 6, 7] r06_First_L2 r06_First_R2 := l_eq ctx 2 [1, 4, 5, 6, 7] [1, 4, 6] _
theorem r06_First_R2_eq : REq ctx r06_First_B2 r06_First_R2 r06_First_K2 := r_eq ctx 2 [1, 4, 5, 6, 7] [1, 4, 6] _
theorem r06_First_K2_a : KEq 2 [1, 4, 5, 6, 7] [1, 4, 6] r06_First_R2 r06_First_K2 := k_eq ctx 2 [1, 4, 5, 6, 7] [1, 4, 6] _
noncomputable def r06_First_R4 := intoE ctx 4 [1, 4, 6, 8] [1, 4] r06_First_B4
noncomputable def r06_First_K4 := roundE ctx 4 [1, 4, 6, 8] [1, 4] r06_First_B4
theorem r06_First_L4_eq : LEq ctx [1, 4, 6, 8] r06_First_L4 r06_First_R4 := l_eq ctx 4 [1, 4, 6, 8] [1, 4] _
theorem r06_First_R4_eq : REq ctx r06_First_B4 r06_First_R4 r06_First_K4 := r_eq ctx 4 [1, 4, 6, 8] [1, 4] _
theorem r06_First_K4_a : KEq 4 [1, 4, 6, 8] [1, 4] r06_First_R4 r06_First_K4 := k_eq ctx 4 [1, 4, 6, 8] [1, 4] _
noncomputable def r06_First_R0 := intoE ctx 0 [1, 4] [] r06_First_B0
noncomputable def r06_First_K0 := roundE ctx 0 [1, 4] [] r06_First_B0
theorem r06_First_L0_eq : LEq ctx [1, 4] r06_First_L0 r06_First_R0 := l_eq ctx 0 [1, 4] [] _
theorem r06_First_R0_eq : REq ctx r06_First_B0 r06_First_R0 r06_First_K0 := r_eq ctx 0 [1, 4] [] _
theorem r06_First_K0_a : KEq 0 [1, 4] [] r06_First_R0 r06_First_K0 := k_eq ctx 0 [1, 4] [] _
noncomputable def r06_holds_R1 := intoE ctx 1 [2, 3, 7] [2, 3] r06_holds_B1
noncomputable def r06_holds_K1 := roundE ctx 1 [2, 3, 7] [2, 3] r06_holds_B1
theorem r06_holds_L1_eq : LEq ctx [2, 3, 7] r06_holds_L1 r06_holds_R1 := l_eq ctx 1 [2, 3, 7] [2, 3] _
theorem r06_holds_R1_eq : REq ctx r06_holds_B1 r06_holds_R1 r06_holds_K1 := r_eq ctx 1 [2, 3, 7] [2, 3] _
theorem r06_holds_K1_a : KEq 1 [2, 3, 7] [2, 3] r06_holds_R1 r06_holds_K1 := k_eq ctx 1 [2, 3, 7] [2, 3] _
noncomputable def r06_holds_R3 := intoE ctx 3 [10, 11, 12] [11] r06_holds_B3
noncomputable def r06_holds_K3 := roundE ctx 3 [10, 11, 12] [11] r06_holds_B3
theorem r06_holds_L3_eq : LEq ctx [10, 11, 12] r06_holds_L3 r06_holds_R3 := l_eq ctx 3 [10, 11, 12] [11] _
theorem r06_holds_R3_eq : REq ctx r06_holds_B3 r06_holds_R3 r06_holds_K3 := r_eq ctx 3 [10, 11, 12] [11] _
theorem r06_holds_K3_a : KEq 3 [10, 11, 12] [11] r06_holds_R3 r06_holds_K3 := k_eq ctx 3 [10, 11, 12] [11] _
noncomputable def r06_holds_R5 := intoE ctx 5 [2, 3, 14, 15] [2, 3, 14] r06_holds_B5
noncomputable def r06_holds_K5 := roundE ctx 5 [2, 3, 14, 15] [2, 3, 14] r06_holds_B5
theorem r06_holds_L5_eq : LEq ctx [2, 3, 14, 15] r06_holds_L5 r06_holds_R5 := l_eq ctx 5 [2, 3, 14, 15] [2, 3, 14] _
theorem r06_holds_R5_eq : REq ctx r06_holds_B5 r06_holds_R5 r06_holds_K5 := r_eq ctx 5 [2, 3, 14, 15] [2, 3, 14] _
theorem r06_holds_K5_a : KEq 5 [2, 3, 14, 15] [2, 3, 14] r06_holds_R5 r06_holds_K5 := k_eq ctx 5 [2, 3, 14, 15] [2, 3, 14] _
noncomputable def r06_holds_R9 := intoE ctx 9 [2, 3, 18, 19, 20] [2, 3, 18, 19] r06_holds_B9
noncomputable def r06_holds_K9 := roundE ctx 9 [2, 3, 18, 19, 20] [2, 3, 18, 19] r06_holds_B9
theorem r06_holds_L9_eq : LEq ctx [2, 3, 18, 19, 20] r06_holds_L9 r06_holds_R9 := l_eq ctx 9 [2, 3, 18, 19, 20] [2, 3, 18, 19] _
theorem r06_holds_R9_eq : REq ctx r06_holds_B9 r06_holds_R9 r06_holds_K9 := r_eq ctx 9 [2, 3, 18, 19, 20] [2, 3, 18, 19] _
theorem r06_holds_K9_a : KEq 9 [2, 3, 18, 19, 20] [2, 3, 18, 19] r06_holds_R9 r06_holds_K9 := k_eq ctx 9 [2, 3, 18, 19, 20] [2, 3, 18, 19] _
noncomputable def r06_holds_R7 := intoE ctx 7 [2, 3, 18, 19] [18] r06_holds_B7
noncomputable def r06_holds_K7 := roundE ctx 7 [2, 3, 18, 19] [18] r06_holds_B7
theorem r06_holds_L7_eq : LEq ctx [2, 3, 18, 19] r06_holds_L7 r06_holds_R7 := l_eq ctx 7 [2, 3, 18, 19] [18] _
theorem r06_holds_R7_eq : REq ctx r06_holds_B7 r06_holds_R7 r06_holds_K7 := r_eq ctx 7 [2, 3, 18, 19] [18] _
theorem r06_holds_K7_a : KEq 7 [2, 3, 18, 19] [18] r06_holds_R7 r06_holds_K7 := k_eq ctx 7 [2, 3, 18, 19] [18] _
noncomputable def r06_part_R0 := intoE ctx 0 [2, 3, 9] [2, 3] r06_part_B0
noncomputable def r06_part_K0 := roundE ctx 0 [2, 3, 9] [2, 3] r06_part_B0
theorem r06_part_L0_eq : LEq ctx [2, 3, 9] r06_part_L0 r06_part_R0 := l_eq ctx 0 [2, 3, 9] [2, 3] _
theorem r06_part_R0_eq : REq ctx r06_part_B0 r06_part_R0 r06_part_K0 := r_eq ctx 0 [2, 3, 9] [2, 3] _
theorem r06_part_K0_a : KEq 0 [2, 3, 9] [2, 3] r06_part_R0 r06_part_K0 := k_eq ctx 0 [2, 3, 9] [2, 3] _
noncomputable def r05_Path_R0 := intoE ctx 0 [1, 2, 6] [] r05_Path_B0
noncomputable def r05_Path_K0 := roundE ctx 0 [1, 2, 6] [] r05_Path_B0
theorem r05_Path_L0_eq : LEq ctx [1, 2, 6] r05_Path_L0 r05_Path_R0 := l_eq ctx 0 [1, 2, 6] [] _
theorem r05_Path_R0_eq : REq ctx r05_Path_B0 r05_Path_R0 r05_Path_K0 := r_eq ctx 0 [1, 2, 6] [] _
theorem r05_Path_K0_a : KEq 0 [1, 2, 6] [] r05_Path_R0 r05_Path_K0 := k_eq ctx 0 [1, 2, 6] [] _
noncomputable def r05_way_R2 := intoE ctx 2 [2, 3, 4, 8, 9, 10, 11] [2, 3, 4, 8, 9, 10, 11] r05_way_B2
noncomputable def r05_way_K2 := roundE ctx 2 [2, 3, 4, 8, 9, 10, 11] [2, 3, 4, 8, 9, 10, 11] r05_way_B2
theorem r05_way_L2_eq : LEq ctx [2, 3, 4, 8, 9, 10, 11] r05_way_L2 r05_way_R2 := l_eq ctx 2 [2, 3, 4, 8, 9, 10, 11] [2, 3, 4, 8, 9, 10, 11] _
theorem r05_way_R2_eq : REq ctx r05_way_B2 r05_way_R2 r05_way_K2 := r_eq ctx 2 [2, 3, 4, 8, 9, 10, 11] [2, 3, 4, 8, 9, 10, 11] _
theorem r05_way_K2_a : KEq 2 [2, 3, 4, 8, 9, 10, 11] [2, 3, 4, 8, 9, 10, 11] r05_way_R2 r05_way_K2 := k_eq ctx 2 [2, 3, 4, 8, 9, 10, 11] [2, 3, 4, 8, 9, 10, 11] _
noncomputable def r05_way_R0 := intoE ctx 0 [2, 3, 4, 8, 9] [8] r05_way_B0
noncomputable def r05_way_K0 := roundE ctx 0 [2, 3, 4, 8, 9] [8] r05_way_B0
theorem r05_way_L0_eq : LEq ctx [2, 3, 4, 8, 9] r05_way_L0 r05_way_R0 := l_eq ctx 0 [2, 3, 4, 8, 9] [8] _
theorem r05_way_R0_eq : REq ctx r05_way_B0 r05_way_R0 r05_way_K0 := r_eq ctx 0 [2, 3, 4, 8, 9] [8] _
theorem r05_way_K0_a : KEq 0 [2, 3, 4, 8, 9] [8] r05_way_R0 r05_way_K0 := k_eq ctx 0 [2, 3, 4, 8, 9] [8] _
noncomputable def r04_Small_R0 := intoE ctx 0 [1, 3] [1] r04_Small_B0
noncomputable def r04_Small_K0 := roundE ctx 0 [1, 3] [1] r04_Small_B0
theorem r04_Small_L0_eq : LEq ctx [1, 3] r04_Small_L0 r04_Small_R0 := l_eq ctx 0 [1, 3] [1] _
theorem r04_Small_R0_eq : REq ctx r04_Small_B0 r04_Small_R0 r04_Small_K0 := r_eq ctx 0 [1, 3] [1] _
theorem r04_Small_K0_a : KEq 0 [1, 3] [1] r04_Small_R0 r04_Small_K0 := k_eq ctx 0 [1, 3] [1] _
noncomputable def r05_Full_R0 := intoE ctx 0 [1, 2, 3, 4] [2, 3] r05_Full_B0
noncomputable def r05_Full_K0 := roundE ctx 0 [1, 2, 3, 4] [2, 3] r05_Full_B0
theorem r05_Full_L0_eq : LEq ctx [1, 2, 3, 4] r05_Full_L0 r05_Full_R0 := l_eq ctx 0 [1, 2, 3, 4] [2, 3] _
theorem r05_Full_R0_eq : REq ctx r05_Full_B0 r05_Full_R0 r05_Full_K0 := r_eq ctx 0 [1, 2, 3, 4] [2, 3] _
theorem r05_Full_K0_a : KEq 0 [1, 2, 3, 4] [2, 3] r05_Full_R0 r05_Full_K0 := k_eq ctx 0 [1, 2, 3, 4] [2, 3] _
noncomputable def r04_Make_R1 := intoE ctx 1 [1, 2, 3, 6, 7, 8, 9] [1, 2, 3, 6, 7, 8] r04_Make_B1
noncomputable def r04_Make_K1 := roundE ctx 1 [1, 2, 3, 6, 7, 8, 9] [1, 2, 3, 6, 7, 8] r04_Make_B1
theorem r04_Make_L1_eq : LEq ctx [1, 2, 3, 6, 7, 8, 9] r04_Make_L1 r04_Make_R1 := l_eq ctx 1 [1, 2, 3, 6, 7, 8, 9] [1, 2, 3, 6, 7, 8] _
theorem r04_Make_R1_eq : REq ctx r04_Make_B1 r04_Make_R1 r04_Make_K1 := r_eq ctx 1 [1, 2, 3, 6, 7, 8, 9] [1, 2, 3, 6, 7, 8] _
theorem r04_Make_K1_a : KEq 1 [1, 2, 3, 6, 7, 8, 9] [1, 2, 3, 6, 7, 8] r04_Make_R1 r04_Make_K1 := k_eq ctx 1 [1, 2, 3, 6, 7, 8, 9] [1, 2, 3, 6, 7, 8] _
noncomputable def r04_Make_R3 := intoE ctx 3 [1, 2, 3, 6, 7, 8, 10] [1, 2, 3, 6, 7] r04_Make_B3
noncomputable def r04_Make_K3 := roundE ctx 3 [1, 2, 3, 6, 7, 8, 10] [1, 2, 3, 6, 7] r04_Make_B3
theorem r04_Make_L3_eq : LEq ctx [1, 2, 3, 6, 7, 8, 10] r04_Make_L3 r04_Make_R3 := l_eq ctx 3 [1, 2, 3, 6, 7, 8, 10] [1, 2, 3, 6, 7] _
theorem r04_Make_R3_eq : REq ctx r04_Make_B3 r04_Make_R3 r04_Make_K3 := r_eq ctx 3 [1, 2, 3, 6, 7, 8, 10] [1, 2, 3, 6, 7] _
theorem r04_Make_K3_a : KEq 3 [1, 2, 3, 6, 7, 8, 10] [1, 2, 3, 6, 7] r04_Make_R3 r04_Make_K3 := k_eq ctx 3 [1, 2, 3, 6, 7, 8, 10] [1, 2, 3, 6, 7] _
noncomputable def r04_Make_R5 := intoE ctx 5 [1, 2, 3, 6, 7, 11] [1, 2, 3, 6, 7] r04_Make_B5
noncomputable def r04_Make_K5 := roundE ctx 5 [1, 2, 3, 6, 7, 11] [1, 2, 3, 6, 7] r04_Make_B5
theorem r04_Make_L5_eq : LEq ctx [1, 2, 3, 6, 7, 11] r04_Make_L5 r04_Make_R5 := l_eq ctx 5 [1, 2, 3, 6, 7, 11] [1, 2, 3, 6, 7] _
theorem r04_Make_R5_eq : REq ctx r04_Make_B5 r04_Make_R5 r04_Make_K5 := r_eq ctx 5 [1, 2, 3, 6, 7, 11] [1, 2, 3, 6, 7] _
theorem r04_Make_K5_a : KEq 5 [1, 2, 3, 6, 7, 11] [1, 2, 3, 6, 7] r04_Make_R5 r04_Make_K5 := k_eq ctx 5 [1, 2, 3, 6, 7, 11] [1, 2, 3, 6, 7] _
noncomputable def r04_Make_R7 := intoE ctx 7 [1, 2, 3, 6, 7, 12] [1, 2, 3, 6] r04_Make_B7
noncomputable def r04_Make_K7 := roundE ctx 7 [1, 2, 3, 6, 7, 12] [1, 2, 3, 6] r04_Make_B7
theorem r04_Make_L7_eq : LEq ctx [1, 2, 3, 6, 7, 12] r04_Make_L7 r04_Make_R7 := l_eq ctx 7 [1, 2, 3, 6, 7, 12] [1, 2, 3, 6] _
theorem r04_Make_R7_eq : REq ctx r04_Make_B7 r04_Make_R7 r04_Make_K7 := r_eq ctx 7 [1, 2, 3, 6, 7, 12] [1, 2, 3, 6] _
theorem r04_Make_K7_a : KEq 7 [1, 2, 3, 6, 7, 12] [1, 2, 3, 6] r04_Make_R7 r04_Make_K7 := k_eq ctx 7 [1, 2, 3, 6, 7, 12] [1, 2, 3, 6] _
noncomputable def r05_Walk_R0 := intoE ctx 0 [3, 4, 5, 11, 12, 13] [11] r05_Walk_B0
noncomputable def r05_Walk_K0 := roundE ctx 0 [3, 4, 5, 11, 12, 13] [11] r05_Walk_B0
theorem r05_Walk_L0_eq : LEq ctx [3, 4, 5, 11, 12, 13] r05_Walk_L0 r05_Walk_R0 := l_eq ctx 0 [3, 4, 5, 11, 12, 13] [11] _
theorem r05_Walk_R0_eq : REq ctx r05_Walk_B0 r05_Walk_R0 r05_Walk_K0 := r_eq ctx 0 [3, 4, 5, 11, 12, 13] [11] _
theorem r05_Walk_K0_a : KEq 0 [3, 4, 5, 11, 12, 13] [11] r05_Walk_R0 r05_Walk_K0 := k_eq ctx 0 [3, 4, 5, 11, 12, 13] [11] _
noncomputable def r01_Rise_R2 := intoE ctx 2 [0, 3, 4, 5] [0, 3, 4] r01_Rise_B2
noncomputable def r01_Rise_K2 := roundE ctx 2 [0, 3, 4, 5] [0, 3, 4] r01_Rise_B2
theorem r01_Rise_L2_eq : LEq ctx [0, 3, 4, 5] r01_Rise_L2 r01_Rise_R2 := l_eq ctx 2 [0, 3, 4, 5] [0, 3, 4] _
theorem r01_Rise_R2_eq : REq ctx r01_Rise_B2 r01_Rise_R2 r01_Rise_K2 := r_eq ctx 2 [0, 3, 4, 5] [0, 3, 4] _
theorem r01_Rise_K2_a : KEq 2 [0, 3, 4, 5] [0, 3, 4] r01_Rise_R2 r01_Rise_K2 := k_eq ctx 2 [0, 3, 4, 5] [0, 3, 4] _
noncomputable def r01_Rise_R0 := intoE ctx 0 [0, 3] [] r01_Rise_B0
noncomputable def r01_Rise_K0 := roundE ctx 0 [0, 3] [] r01_Rise_B0
theorem r01_Rise_L0_eq : LEq ctx [0, 3] r01_Rise_L0 r01_Rise_R0 := l_eq ctx 0 [0, 3] [] _
theorem r01_Rise_R0_eq : REq ctx r01_Rise_B0 r01_Rise_R0 r01_Rise_K0 := r_eq ctx 0 [0, 3] [] _
theorem r01_Rise_K0_a : KEq 0 [0, 3] [] r01_Rise_R0 r01_Rise_K0 := k_eq ctx 0 [0, 3] [] _
noncomputable def r05_Around_R0 := intoE ctx 0 [3, 8, 10, 11] [8] r05_Around_B0
noncomputable def r05_Around_K0 := roundE ctx 0 [3, 8, 10, 11] [8] r05_Around_B0
theorem r05_Around_L0_eq : LEq ctx [3, 8, 10, 11] r05_Around_L0 r05_Around_R0 := l_eq ctx 0 [3, 8, 10, 11] [8] _
theorem r05_Around_R0_eq : REq ctx r05_Around_B0 r05_Around_R0 r05_Around_K0 := r_eq ctx 0 [3, 8, 10, 11] [8] _
theorem r05_Around_K0_a : KEq 0 [3, 8, 10, 11] [8] r05_Around_R0 r05_Around_K0 := k_eq ctx 0 [3, 8, 10, 11] [8] _
noncomputable def r01_Has_R0 := intoE ctx 0 [0, 1, 5] [] r01_Has_B0
noncomputable def r01_Has_K0 := roundE ctx 0 [0, 1, 5] [] r01_Has_B0
theorem r01_Has_L0_eq : LEq ctx [0, 1, 5] r01_Has_L0 r01_Has_R0 := l_eq ctx 0 [0, 1, 5] [] _
theorem r01_Has_R0_eq : REq ctx r01_Has_B0 r01_Has_R0 r01_Has_K0 := r_eq ctx 0 [0, 1, 5] [] _
theorem r01_Has_K0_a : KEq 0 [0, 1, 5] [] r01_Has_R0 r01_Has_K0 := k_eq ctx 0 [0, 1, 5] [] _
noncomputable def r05_Point_R0 := intoE ctx 0 [1, 2, 5] [] r05_Point_B0
noncomputable def r05_Point_K0 := roundE ctx 0 [1, 2, 5] [] r05_Point_B0
theorem r05_Point_L0_eq : LEq ctx [1, 2, 5] r05_Point_L0 r05_Point_R0 := l_eq ctx 0 [1, 2, 5] [] _
theorem r05_Point_R0_eq : REq ctx r05_Point_B0 r05_Point_R0 r05_Point_K0 := r_eq ctx 0 [1, 2, 5] [] _
theorem r05_Point_K0_a : KEq 0 [1, 2, 5] [] r05_Point_R0 r05_Point_K0 := k_eq ctx 0 [1, 2, 5] [] _
noncomputable def r05_one_R0 := intoE ctx 0 [1, 7, 8] [] r05_one_B0
noncomputable def r05_one_K0 := roundE ctx 0 [1, 7, 8] [] r05_one_B0
theorem r05_one_L0_eq : LEq ctx [1, 7, 8] r05_one_L0 r05_one_R0 := l_eq ctx 0 [1, 7, 8] [] _
theorem r05_one_R0_eq : REq ctx r05_one_B0 r05_one_R0 r05_one_K0 := r_eq ctx 0 [1, 7, 8] [] _
theorem r05_one_K0_a : KEq 0 [1, 7, 8] [] r05_one_R0 r05_one_K0 := k_eq ctx 0 [1, 7, 8] [] _
noncomputable def r05_Ends_R0 := intoE ctx 0 [1, 2, 5, 6] [5] r05_Ends_B0
noncomputable def r05_Ends_K0 := roundE ctx 0 [1, 2, 5, 6] [5] r05_Ends_B0
theorem r05_Ends_L0_eq : LEq ctx [1, 2, 5, 6] r05_Ends_L0 r05_Ends_R0 := l_eq ctx 0 [1, 2, 5, 6] [5] _
theorem r05_Ends_R0_eq : REq ctx r05_Ends_B0 r05_Ends_R0 r05_Ends_K0 := r_eq ctx 0 [1, 2, 5, 6] [5] _
theorem r05_Ends_K0_a : KEq 0 [1, 2, 5, 6] [5] r05_Ends_R0 r05_Ends_K0 := k_eq ctx 0 [1, 2, 5, 6] [5] _
noncomputable def graph_Graph_Ends_R2 := intoE ctx 2 [0, 1, 5, 6, 26, 27] [0, 1, 5, 6] graph_Graph_Ends_B2
noncomputable def graph_Graph_Ends_K2 := roundE ctx 2 [0, 1, 5, 6, 26, 27] [0, 1, 5, 6] graph_Graph_Ends_B2
theorem graph_Graph_Ends_L2_eq : LEq ctx [0, 1, 5, 6, 26, 27] graph_Graph_Ends_L2 graph_Graph_Ends_R2 := l_eq ctx 2 [0, 1, 5, 6, 26, 27] [0, 1, 5, 6] _
theorem graph_Graph_Ends_R2_eq : REq ctx graph_Graph_Ends_B2 graph_Graph_Ends_R2 graph_Graph_Ends_K2 := r_eq ctx 2 [0, 1, 5, 6, 26, 27] [0, 1, 5, 6] _
theorem graph_Graph_Ends_K2_a : KEq 2 [0, 1, 5, 6, 26, 27] [0, 1, 5, 6] graph_Graph_Ends_R2 graph_Graph_Ends_K2 := k_eq ctx 2 [0, 1, 5, 6, 26, 27] [0, 1, 5, 6] _
noncomputable def graph_Graph_Ends_R0 := intoE ctx 0 [0, 1, 5, 6] [] graph_Graph_Ends_B0
noncomputable def graph_Graph_Ends_K0 := roundE ctx 0 [0, 1, 5, 6] [] graph_Graph_Ends_B0
theorem graph_Graph_Ends_L0_eq : LEq ctx [0, 1, 5, 6] graph_Graph_Ends_L0 graph_Graph_Ends_R0 := l_eq ctx 0 [0, 1, 5, 6] [] _
theorem graph_Graph_Ends_R0_eq : REq ctx graph_Graph_Ends_B0 graph_Graph_Ends_R0 graph_Graph_Ends_K0 := r_eq ctx 0 [0, 1, 5, 6] [] _
theorem graph_Graph_Ends_K0_a : KEq 0 [0, 1, 5, 6] [] graph_Graph_Ends_R0 graph_Graph_Ends_K0 := k_eq ctx 0 [0, 1, 5, 6] [] _
noncomputable def slices_IndexFunc_Point_R0 := intoE ctx 0 [0, 1, 7, 8] [] slices_IndexFunc_Point_B0
noncomputable def slices_IndexFunc_Point_K0 := roundE ctx 0 [0, 1, 7, 8] [] slices_IndexFunc_Point_B0
theorem slices_IndexFunc_Point_L0_eq : LEq ctx [0, 1, 7, 8] slices_IndexFunc_Point_L0 slices_IndexFunc_Point_R0 := l_eq ctx 0 [0, 1, 7, 8] [] _
theorem slices_IndexFunc_Point_R0_eq : REq ctx slices_IndexFunc_Point_B0 slices_IndexFunc_Point_R0 slices_IndexFunc_Point_K0 := r_eq ctx 0 [0, 1, 7, 8] [] _
theorem slices_IndexFunc_Point_K0_a : KEq 0 [0, 1, 7, 8] [] slices_IndexFunc_Point_R0 slices_IndexFunc_Point_K0 := k_eq ctx 0 [0, 1, 7, 8] [] _
noncomputable def graph_Graph_Path_R0 := intoE ctx 0 [0, 1, 14, 15, 16] [0, 1] graph_Graph_Path_B0
noncomputable def graph_Graph_Path_K0 := roundE ctx 0 [0, 1, 14, 15, 16] [0, 1] graph_Graph_Path_B0
theorem graph_Graph_Path_L0_eq : LEq ctx [0, 1, 14, 15, 16] graph_Graph_Path_L0 graph_Graph_Path_R0 := l_eq ctx 0 [0, 1, 14, 15, 16] [0, 1] _
theorem graph_Graph_Path_R0_eq : REq ctx graph_Graph_Path_B0 graph_Graph_Path_R0 graph_Graph_Path_K0 := r_eq ctx 0 [0, 1, 14, 15, 16] [0, 1] _
theorem graph_Graph_Path_K0_a : KEq 0 [0, 1, 14, 15, 16] [0, 1] graph_Graph_Path_R0 graph_Graph_Path_K0 := k_eq ctx 0 [0, 1, 14, 15, 16] [0, 1] _
noncomputable def graph_Graph_Path_R2 := intoE ctx 2 [0, 1, 27] [] graph_Graph_Path_B2
noncomputable def graph_Graph_Path_K2 := roundE ctx 2 [0, 1, 27] [] graph_Graph_Path_B2
theorem graph_Graph_Path_L2_eq : LEq ctx [0, 1, 27] graph_Graph_Path_L2 graph_Graph_Path_R2 := l_eq ctx 2 [0, 1, 27] [] _
theorem graph_Graph_Path_R2_eq : REq ctx graph_Graph_Path_B2 graph_Graph_Path_R2 graph_Graph_Path_K2 := r_eq ctx 2 [0, 1, 27] [] _
theorem graph_Graph_Path_K2_a : KEq 2 [0, 1, 27] [] graph_Graph_Path_R2 graph_Graph_Path_K2 := k_eq ctx 2 [0, 1, 27] [] _
noncomputable def graph_Graph_way_R0 := intoE ctx 0 [0, 4, 8, 13, 14, 15] [8] graph_Graph_way_B0
noncomputable def graph_Graph_way_K0 := roundE ctx 0 [0, 4, 8, 13, 14, 15] [8] graph_Graph_way_B0
theorem graph_Graph_way_L0_eq : LEq ctx [0, 4, 8, 13, 14, 15] graph_Graph_way_L0 graph_Graph_way_R0 := l_eq ctx 0 [0, 4, 8, 13, 14, 15] [8] _
theorem graph_Graph_way_R0_eq : REq ctx graph_Graph_way_B0 graph_Graph_way_R0 graph_Graph_way_K0 := r_eq ctx 0 [0, 4, 8, 13, 14, 15] [8] _
theorem graph_Graph_way_K0_a : KEq 0 [0, 4, 8, 13, 14, 15] [8] graph_Graph_way_R0 graph_Graph_way_K0 := k_eq ctx 0 [0, 4, 8, 13, 14, 15] [8] _
noncomputable def slices_IndexFunc_End_R0 := intoE ctx 0 [0, 1, 7, 8] [] slices_IndexFunc_End_B0
noncomputable def slices_IndexFunc_End_K0 := roundE ctx 0 [0, 1, 7, 8] [] slices_IndexFunc_End_B0
theorem slices_IndexFunc_End_L0_eq : LEq ctx [0, 1, 7, 8] slices_IndexFunc_End_L0 slices_IndexFunc_End_R0 := l_eq ctx 0 [0, 1, 7, 8] [] _
theorem slices_IndexFunc_End_R0_eq : REq ctx slices_IndexFunc_End_B0 slices_IndexFunc_End_R0 slices_IndexFunc_End_K0 := r_eq ctx 0 [0, 1, 7, 8] [] _
theorem slices_IndexFunc_End_K0_a : KEq 0 [0, 1, 7, 8] [] slices_IndexFunc_End_R0 slices_IndexFunc_End_K0 := k_eq ctx 0 [0, 1, 7, 8] [] _
noncomputable def slices_DeleteFunc_End_R0 := intoE ctx 0 [0, 1, 5, 6] [0, 5] slices_DeleteFunc_End_B0
noncomputable def slices_DeleteFunc_End_K0 := roundE ctx 0 [0, 1, 5, 6] [0, 5] slices_DeleteFunc_End_B0
theorem slices_DeleteFunc_End_L0_eq : LEq ctx [0, 1, 5, 6] slices_DeleteFunc_End_L0 slices_DeleteFunc_End_R0 := l_eq ctx 0 [0, 1, 5, 6] [0, 5] _
theorem slices_DeleteFunc_End_R0_eq : REq ctx slices_DeleteFunc_End_B0 slices_DeleteFunc_End_R0 slices_DeleteFunc_End_K0 := r_eq ctx 0 [0, 1, 5, 6] [0, 5] _
theorem slices_DeleteFunc_End_K0_a : KEq 0 [0, 1, 5, 6] [0, 5] slices_DeleteFunc_End_R0 slices_DeleteFunc_End_K0 := k_eq ctx 0 [0, 1, 5, 6] [0, 5] _
noncomputable def slices_Concat_End_R0 := intoE ctx 0 [0, 3, 9, 10, 11] [0, 3] slices_Concat_End_B0
noncomputable def slices_Concat_End_K0 := roundE ctx 0 [0, 3, 9, 10, 11] [0, 3] slices_Concat_End_B0
theorem slices_Concat_End_L0_eq : LEq ctx [0, 3, 9, 10, 11] slices_Concat_End_L0 slices_Concat_End_R0 := l_eq ctx 0 [0, 3, 9, 10, 11] [0, 3] _
theorem slices_Concat_End_R0_eq : REq ctx slices_Concat_End_B0 slices_Concat_End_R0 slices_Concat_End_K0 := r_eq ctx 0 [0, 3, 9, 10, 11] [0, 3] _
theorem slices_Concat_End_K0_a : KEq 0 [0, 3, 9, 10, 11] [0, 3] slices_Concat_End_R0 slices_Concat_End_K0 := k_eq ctx 0 [0, 3, 9, 10, 11] [0, 3] _
noncomputable def slices_Concat_End_R2 := intoE ctx 2 [6, 25, 26, 27] [6] slices_Concat_End_B2
noncomputable def slices_Concat_End_K2 := roundE ctx 2 [6, 25, 26, 27] [6] slices_Concat_End_B2
theorem slices_Concat_End_L2_eq : LEq ctx [6, 25, 26, 27] slices_Concat_End_L2 slices_Concat_End_R2 := l_eq ctx 2 [6, 25, 26, 27] [6] _
theorem slices_Concat_End_R2_eq : REq ctx slices_Concat_End_B2 slices_Concat_End_R2 slices_Concat_End_K2 := r_eq ctx 2 [6, 25, 26, 27] [6] _
theorem slices_Concat_End_K2_a : KEq 2 [6, 25, 26, 27] [6] slices_Concat_End_R2 slices_Concat_End_K2 := k_eq ctx 2 [6, 25, 26, 27] [6] _
noncomputable def graph_Graph_at_R0 := intoE ctx 0 [1, 11, 12, 13] [] graph_Graph_at_B0
noncomputable def graph_Graph_at_K0 := roundE ctx 0 [1, 11, 12, 13] [] graph_Graph_at_B0
theorem graph_Graph_at_L0_eq : LEq ctx [1, 11, 12, 13] graph_Graph_at_L0 graph_Graph_at_R0 := l_eq ctx 0 [1, 11, 12, 13] [] _
theorem graph_Graph_at_R0_eq : REq ctx graph_Graph_at_B0 graph_Graph_at_R0 graph_Graph_at_K0 := r_eq ctx 0 [1, 11, 12, 13] [] _
theorem graph_Graph_at_K0_a : KEq 0 [1, 11, 12, 13] [] graph_Graph_at_R0 graph_Graph_at_K0 := k_eq ctx 0 [1, 11, 12, 13] [] _
end Go.Proofs.YtlhjpcgfkkhogaaGreat.Zt
