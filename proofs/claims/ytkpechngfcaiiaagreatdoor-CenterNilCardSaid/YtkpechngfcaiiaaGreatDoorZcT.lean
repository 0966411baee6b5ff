/- Go functions, as the interpreter runs them: written by a program of this claim's own, proved to be what the compiler makes of them. No condition. -/
import Derived.Test.YtkpechngfcaiiaaGreatDoorZcT0
import Derived.Test.YtkpechngfcaiiaaGreatDoorZcKt
set_option linter.all false
namespace Go.Proofs.YtkpechngfcaiiaaGreatDoor.Zt
open Go Go.Zc
set_option maxRecDepth 100000

/-- All of them. -/
def tab : List (Nat × FInfo) := [(4, l19_CenterNil_I), (5, l19_short_I), (7, r04_Encode_I), (9, center_New_I), (21, center_Center_Bad_I), (13, r19_Same_I), (11, center_Center_Step_I), (19, center_Center_Locks_I), (17, center_Center_Trains_I), (25, r01_Bytes_I), (20, center_Center_Authority_I), (71, r01_Join_I), (16, center_Center_Owners_I), (18, center_Center_Span_I), (22, r04_Same_I), (23, center_Center_Layout_I), (12, center_Center_Train_I), (14, center_Center_Now_I), (15, center_Center_Image_I), (24, r04_Make_I), (26, r04_put_I), (27, r01_At_I), (28, r04_lists_I), (29, r03_Close_I), (30, r02_Bytes_I), (32, layout_Decode_I), (33, verify_Right_I), (34, graph_New_I), (35, detect_New_I), (36, train_New_I), (37, route_New_I), (38, center_locks_I), (39, slices_Clone_bool_I), (40, own_Start_I), (41, slices_Repeat_byte_I), (69, r02_Put_I), (60, r13_Same_I), (61, r01_Bools_I), (46, detect_Filter_Step_I), (48, train_Register_Mute_I), (49, train_Register_Doubt_I), (50, center_Center_look_I), (51, own_Next_I), (52, center_Center_declare_I), (53, state_Of_I), (55, route_Table_Step_I), (56, center_Center_move_I), (57, slices_Clone_byte_I), (58, state_Changes_I), (63, route_Table_Locks_I), (65, train_Register_All_I), (67, r01_Lists_I), (70, r03_Of_I), (74, crc_Open_I), (75, bits_NewReader_I), (76, layout_list_complex128_I), (77, layout_Decode_1_I), (78, layout_coordinate_I), (79, layout_list_Section_I), (80, layout_Decode_2_I), (81, bits_Reader_Get_I), (82, layout_tiny_I), (83, layout_nested_I), (84, layout_list_Point_I), (86, layout_ticks_I), (87, bits_Reader_OK_I), (88, bits_Reader_Left_I), (89, verify_First_I), (93, slices_Repeat_int_I), (94, math_bits_Mul_I), (107, detect_Filter_Clear_I), (114, train_Register_those_I), (122, graph_Graph_Part_I), (123, state_one_I), (127, slices_DeleteFunc_pLock_I), (132, state_Kind_I), (138, maps_Keys_Train_I), (135, crc_Close_I), (154, bytes_Clone_I), (155, bytes_Equal_I), (156, bits_held_I), (157, layout_list_Ints_I), (158, layout_nested_1_I), (159, layout_list_int_I), (160, layout_nested_1_1_I), (161, verify_judge_rules_I), (162, verify_rule_broken_I), (167, math_bits_Mul64_I), (173, detect_Filter_Count_I), (181, slices_IndexFunc_int_I), (182, graph_Graph_Part_1_I), (183, slices_Contains_int_I), (200, slices_IndexFunc_pLock_I), (208, crc_Of_I), (216, verify_judge_rules_1_I), (217, plane_Place_I), (218, slices_Contains_complex128_I), (219, verify_one_I), (220, verify_within_int_I), (221, verify_judge_section_I), (222, verify_judge_rules_2_I), (223, verify_judge_times_I), (224, verify_judge_rules_3_I), (225, graph_Graph_Ends_I), (227, verify_judge_points_I), (228, verify_judge_goes_I), (229, verify_judge_part_I), (230, verify_judge_once_I), (245, slices_Index_int_I), (249, slices_ContainsFunc_int_I), (269, plane_whole_I), (270, slices_Index_complex128_I), (271, verify_one_1_I), (272, verify_judge_node_I), (273, plane_Fits_I), (274, verify_within_int64_I), (275, graph_Graph_section_I), (276, graph_Graph_Point_I), (277, verify_judge_on_I), (278, verify_judge_part_1_I), (286, slices_IndexFunc_Int_I), (303, plane_Square_I), (304, slices_IndexFunc_Point_I), (306, plane_Ahead_I), (307, verify_judge_other_I), (324, plane_Dot_I), (328, plane_turned_I), (85, layout_Decode_3_I), (90, image_Decode_I), (91, route_Table_Load_I), (92, route_Table_Anew_I), (129, route_over_I), (131, slices_Equal_int_I), (163, image_lock_I), (164, bits_Reader_End_I), (165, route_Table_fits_I), (166, math_bits_Mul32_I), (186, route_Table_has_I), (187, route_Table_find_I), (189, graph_Graph_Path_I), (196, route_Table_pieces_I), (226, verify_judge_point_I), (231, verify_judge_route_I), (232, bits_Reader_Flag_I), (233, route_Table_Whose_I), (242, graph_Graph_Around_I), (243, slices_IndexFunc_End_I), (248, slices_Compact_int_I), (251, route_Table_find_1_I), (253, graph_Graph_way_I), (279, graph_Graph_node_I), (280, slices_DeleteFunc_End_I), (281, graph_Graph_Around_1_I), (282, slices_Concat_End_I), (283, graph_Graph_at_I), (287, graph_Graph_way_1_I), (288, graph_Graph_need_I), (305, graph_Graph_Point_1_I), (308, slices_Grow_End_I)]
/-- What has a contract of its own. -/
def prims : List (Nat × (List CV → List Blk → Option (CV × List Blk))) := Zk.prims
def ctx : Ctx := ⟨Zc.look tab, Zc.look prims⟩
theorem l19_CenterNil_ok : compF Tryz.prog (quietOf ctx) l19_CenterNil_A (.fz false) Tryz.f4 = some l19_CenterNil_I := by kernel_rfl
theorem l19_short_ok : compF Tryz.prog (quietOf ctx) l19_short_A (.fz false) Tryz.f5 = some l19_short_I := by kernel_rfl
theorem r04_Encode_ok : compF Tryz.prog (quietOf ctx) r04_Encode_A (.fz false) Tryz.f7 = some r04_Encode_I := by kernel_rfl
theorem center_New_ok : compF Tryz.prog (quietOf ctx) center_New_A .ref Tryz.f9 = some center_New_I := by kernel_rfl
theorem center_Center_Bad_ok : compF Tryz.prog (quietOf ctx) center_Center_Bad_A .ref Tryz.f21 = some center_Center_Bad_I := by kernel_rfl
theorem r19_Same_ok : compF Tryz.prog (quietOf ctx) r19_Same_A (.fz false) Tryz.f13 = some r19_Same_I := by kernel_rfl
theorem center_Center_Step_ok : compF Tryz.prog (quietOf ctx) center_Center_Step_A .ref Tryz.f11 = some center_Center_Step_I := by kernel_rfl
theorem center_Center_Locks_ok : compF Tryz.prog (quietOf ctx) center_Center_Locks_A .ref Tryz.f19 = some center_Center_Locks_I := by kernel_rfl
theorem center_Center_Trains_ok : compF Tryz.prog (quietOf ctx) center_Center_Trains_A .ref Tryz.f17 = some center_Center_Trains_I := by kernel_rfl
theorem r01_Bytes_ok : compF Tryz.prog (quietOf ctx) r01_Bytes_A (.fz false) Tryz.f25 = some r01_Bytes_I := by kernel_rfl
theorem center_Center_Authority_ok : compF Tryz.prog (quietOf ctx) center_Center_Authority_A .ref Tryz.f20 = some center_Center_Authority_I := by kernel_rfl
theorem r01_Join_ok : compF Tryz.prog (quietOf ctx) r01_Join_A (.fz false) Tryz.f71 = some r01_Join_I := by kernel_rfl
theorem center_Center_Owners_ok : compF Tryz.prog (quietOf ctx) center_Center_Owners_A .ref Tryz.f16 = some center_Center_Owners_I := by kernel_rfl
theorem center_Center_Span_ok : compF Tryz.prog (quietOf ctx) center_Center_Span_A .ref Tryz.f18 = some center_Center_Span_I := by kernel_rfl
theorem r04_Same_ok : compF Tryz.prog (quietOf ctx) r04_Same_A (.fz false) Tryz.f22 = some r04_Same_I := by kernel_rfl
theorem center_Center_Layout_ok : compF Tryz.prog (quietOf ctx) center_Center_Layout_A .ref Tryz.f23 = some center_Center_Layout_I := by kernel_rfl
theorem center_Center_Train_ok : compF Tryz.prog (quietOf ctx) center_Center_Train_A .ref Tryz.f12 = some center_Center_Train_I := by kernel_rfl
theorem center_Center_Now_ok : compF Tryz.prog (quietOf ctx) center_Center_Now_A .ref Tryz.f14 = some center_Center_Now_I := by kernel_rfl
theorem center_Center_Image_ok : compF Tryz.prog (quietOf ctx) center_Center_Image_A .ref Tryz.f15 = some center_Center_Image_I := by kernel_rfl
theorem r04_Make_ok : compF Tryz.prog (quietOf ctx) r04_Make_A (.fz true) Tryz.f24 = some r04_Make_I := by kernel_rfl
theorem r04_put_ok : compF Tryz.prog (quietOf ctx) r04_put_A (.fz false) Tryz.f26 = some r04_put_I := by kernel_rfl
theorem r01_At_ok : compF Tryz.prog (quietOf ctx) r01_At_A (.fz false) Tryz.f27 = some r01_At_I := by kernel_rfl
theorem r04_lists_ok : compF Tryz.prog (quietOf ctx) r04_lists_A (.fz false) Tryz.f28 = some r04_lists_I := by kernel_rfl
theorem r03_Close_ok : compF Tryz.prog (quietOf ctx) r03_Close_A (.fz false) Tryz.f29 = some r03_Close_I := by kernel_rfl
theorem r02_Bytes_ok : compF Tryz.prog (quietOf ctx) r02_Bytes_A (.fz false) Tryz.f30 = some r02_Bytes_I := by kernel_rfl
theorem layout_Decode_ok : compF Tryz.prog (quietOf ctx) layout_Decode_A (.fz false) Tryz.f32 = some layout_Decode_I := by kernel_rfl
theorem verify_Right_ok : compF Tryz.prog (quietOf ctx) verify_Right_A (.fz false) Tryz.f33 = some verify_Right_I := by kernel_rfl
theorem graph_New_ok : compF Tryz.prog (quietOf ctx) graph_New_A (.fz false) Tryz.f34 = some graph_New_I := by kernel_rfl
theorem detect_New_ok : compF Tryz.prog (quietOf ctx) detect_New_A .ref Tryz.f35 = some detect_New_I := by kernel_rfl
theorem train_New_ok : compF Tryz.prog (quietOf ctx) train_New_A .ref Tryz.f36 = some train_New_I := by kernel_rfl
theorem route_New_ok : compF Tryz.prog (quietOf ctx) route_New_A .ref Tryz.f37 = some route_New_I := by kernel_rfl
theorem center_locks_ok : compF Tryz.prog (quietOf ctx) center_locks_A .ref Tryz.f38 = some center_locks_I := by kernel_rfl
theorem slices_Clone_bool_ok : compF Tryz.prog (quietOf ctx) slices_Clone_bool_A .ref Tryz.f39 = some slices_Clone_bool_I := by kernel_rfl
theorem own_Start_ok : compF Tryz.prog (quietOf ctx) own_Start_A (.fz false) Tryz.f40 = some own_Start_I := by kernel_rfl
theorem slices_Repeat_byte_ok : compF Tryz.prog (quietOf ctx) slices_Repeat_byte_A (.fz false) Tryz.f41 = some slices_Repeat_byte_I := by kernel_rfl
theorem r02_Put_ok : compF Tryz.prog (quietOf ctx) r02_Put_A (.fz false) Tryz.f69 = some r02_Put_I := by kernel_rfl
theorem r13_Same_ok : compF Tryz.prog (quietOf ctx) r13_Same_A (.fz false) Tryz.f60 = some r13_Same_I := by kernel_rfl
theorem r01_Bools_ok : compF Tryz.prog (quietOf ctx) r01_Bools_A (.fz false) Tryz.f61 = some r01_Bools_I := by kernel_rfl
theorem detect_Filter_Step_ok : compF Tryz.prog (quietOf ctx) detect_Filter_Step_A .ref Tryz.f46 = some detect_Filter_Step_I := by kernel_rfl
theorem train_Register_Mute_ok : compF Tryz.prog (quietOf ctx) train_Register_Mute_A .ref Tryz.f48 = some train_Register_Mute_I := by kernel_rfl
theorem train_Register_Doubt_ok : compF Tryz.prog (quietOf ctx) train_Register_Doubt_A .ref Tryz.f49 = some train_Register_Doubt_I := by kernel_rfl
theorem center_Center_look_ok : compF Tryz.prog (quietOf ctx) center_Center_look_A .ref Tryz.f50 = some center_Center_look_I := by kernel_rfl
theorem own_Next_ok : compF Tryz.prog (quietOf ctx) own_Next_A (.fz false) Tryz.f51 = some own_Next_I := by kernel_rfl
theorem center_Center_declare_ok : compF Tryz.prog (quietOf ctx) center_Center_declare_A .ref Tryz.f52 = some center_Center_declare_I := by kernel_rfl
theorem state_Of_ok : compF Tryz.prog (quietOf ctx) state_Of_A (.fz false) Tryz.f53 = some state_Of_I := by kernel_rfl
theorem route_Table_Step_ok : compF Tryz.prog (quietOf ctx) route_Table_Step_A .ref Tryz.f55 = some route_Table_Step_I := by kernel_rfl
theorem center_Center_move_ok : compF Tryz.prog (quietOf ctx) center_Center_move_A .ref Tryz.f56 = some center_Center_move_I := by kernel_rfl
theorem slices_Clone_byte_ok : compF Tryz.prog (quietOf ctx) slices_Clone_byte_A .ref Tryz.f57 = some slices_Clone_byte_I := by kernel_rfl
theorem state_Changes_ok : compF Tryz.prog (quietOf ctx) state_Changes_A (.fz false) Tryz.f58 = some state_Changes_I := by kernel_rfl
theorem route_Table_Locks_ok : compF Tryz.prog (quietOf ctx) route_Table_Locks_A .ref Tryz.f63 = some route_Table_Locks_I := by kernel_rfl
theorem train_Register_All_ok : compF Tryz.prog (quietOf ctx) train_Register_All_A .ref Tryz.f65 = some train_Register_All_I := by kernel_rfl
theorem r01_Lists_ok : compF Tryz.prog (quietOf ctx) r01_Lists_A (.fz false) Tryz.f67 = some r01_Lists_I := by kernel_rfl
theorem r03_Of_ok : compF Tryz.prog (quietOf ctx) r03_Of_A (.fz false) Tryz.f70 = some r03_Of_I := by kernel_rfl
theorem crc_Open_ok : compF Tryz.prog (quietOf ctx) crc_Open_A (.fz false) Tryz.f74 = some crc_Open_I := by kernel_rfl
theorem bits_NewReader_ok : compF Tryz.prog (quietOf ctx) bits_NewReader_A .ref Tryz.f75 = some bits_NewReader_I := by kernel_rfl
theorem layout_list_complex128_ok : compF Tryz.prog (quietOf ctx) layout_list_complex128_A .ref Tryz.f76 = some layout_list_complex128_I := by kernel_rfl
theorem layout_Decode_1_ok : compF Tryz.prog (quietOf ctx) layout_Decode_1_A .ref Tryz.f77 = some layout_Decode_1_I := by kernel_rfl
theorem layout_coordinate_ok : compF Tryz.prog (quietOf ctx) layout_coordinate_A .ref Tryz.f78 = some layout_coordinate_I := by kernel_rfl
theorem layout_list_Section_ok : compF Tryz.prog (quietOf ctx) layout_list_Section_A .ref Tryz.f79 = some layout_list_Section_I := by kernel_rfl
theorem layout_Decode_2_ok : compF Tryz.prog (quietOf ctx) layout_Decode_2_A .ref Tryz.f80 = some layout_Decode_2_I := by kernel_rfl
theorem bits_Reader_Get_ok : compF Tryz.prog (quietOf ctx) bits_Reader_Get_A .ref Tryz.f81 = some bits_Reader_Get_I := by kernel_rfl
theorem layout_tiny_ok : compF Tryz.prog (quietOf ctx) layout_tiny_A .ref Tryz.f82 = some layout_tiny_I := by kernel_rfl
theorem layout_nested_ok : compF Tryz.prog (quietOf ctx) layout_nested_A .ref Tryz.f83 = some layout_nested_I := by kernel_rfl
theorem layout_list_Point_ok : compF Tryz.prog (quietOf ctx) layout_list_Point_A .ref Tryz.f84 = some layout_list_Point_I := by kernel_rfl
theorem layout_ticks_ok : compF Tryz.prog (quietOf ctx) layout_ticks_A .ref Tryz.f86 = some layout_ticks_I := by kernel_rfl
theorem bits_Reader_OK_ok : compF Tryz.prog (quietOf ctx) bits_Reader_OK_A .ref Tryz.f87 = some bits_Reader_OK_I := by kernel_rfl
theorem bits_Reader_Left_ok : compF Tryz.prog (quietOf ctx) bits_Reader_Left_A .ref Tryz.f88 = some bits_Reader_Left_I := by kernel_rfl
theorem verify_First_ok : compF Tryz.prog (quietOf ctx) verify_First_A (.fz false) Tryz.f89 = some verify_First_I := by kernel_rfl
theorem slices_Repeat_int_ok : compF Tryz.prog (quietOf ctx) slices_Repeat_int_A (.fz false) Tryz.f93 = some slices_Repeat_int_I := by kernel_rfl
theorem math_bits_Mul_ok : compF Tryz.prog (quietOf ctx) math_bits_Mul_A (.fz false) Tryz.f94 = some math_bits_Mul_I := by kernel_rfl
theorem detect_Filter_Clear_ok : compF Tryz.prog (quietOf ctx) detect_Filter_Clear_A .ref Tryz.f107 = some detect_Filter_Clear_I := by kernel_rfl
theorem train_Register_those_ok : compF Tryz.prog (quietOf ctx) train_Register_those_A .ref Tryz.f114 = some train_Register_those_I := by kernel_rfl
theorem graph_Graph_Part_ok : compF Tryz.prog (quietOf ctx) graph_Graph_Part_A (.fz false) Tryz.f122 = some graph_Graph_Part_I := by kernel_rfl
theorem state_one_ok : compF Tryz.prog (quietOf ctx) state_one_A (.fz false) Tryz.f123 = some state_one_I := by kernel_rfl
theorem slices_DeleteFunc_pLock_ok : compF Tryz.prog (quietOf ctx) slices_DeleteFunc_pLock_A .ref Tryz.f127 = some slices_DeleteFunc_pLock_I := by kernel_rfl
theorem state_Kind_ok : compF Tryz.prog (quietOf ctx) state_Kind_A (.fz false) Tryz.f132 = some state_Kind_I := by kernel_rfl
theorem maps_Keys_Train_ok : compF Tryz.prog (quietOf ctx) maps_Keys_Train_A .ref Tryz.f138 = some maps_Keys_Train_I := by kernel_rfl
theorem crc_Close_ok : compF Tryz.prog (quietOf ctx) crc_Close_A (.fz false) Tryz.f135 = some crc_Close_I := by kernel_rfl
theorem bytes_Clone_ok : compF Tryz.prog (quietOf ctx) bytes_Clone_A .own Tryz.f154 = some bytes_Clone_I := by kernel_rfl
theorem bytes_Equal_ok : compF Tryz.prog (quietOf ctx) bytes_Equal_A (.fz false) Tryz.f155 = some bytes_Equal_I := by kernel_rfl
theorem bits_held_ok : compF Tryz.prog (quietOf ctx) bits_held_A (.fz false) Tryz.f156 = some bits_held_I := by kernel_rfl
theorem layout_list_Ints_ok : compF Tryz.prog (quietOf ctx) layout_list_Ints_A .ref Tryz.f157 = some layout_list_Ints_I := by kernel_rfl
theorem layout_nested_1_ok : compF Tryz.prog (quietOf ctx) layout_nested_1_A .ref Tryz.f158 = some layout_nested_1_I := by kernel_rfl
theorem layout_list_int_ok : compF Tryz.prog (quietOf ctx) layout_list_int_A .ref Tryz.f159 = some layout_list_int_I := by kernel_rfl
theorem layout_nested_1_1_ok : compF Tryz.prog (quietOf ctx) layout_nested_1_1_A .ref Tryz.f160 = some layout_nested_1_1_I := by kernel_rfl
theorem verify_judge_rules_ok : compF Tryz.prog (quietOf ctx) verify_judge_rules_A (.fz false) Tryz.f161 = some verify_judge_rules_I := by kernel_rfl
theorem verify_rule_broken_ok : compF Tryz.prog (quietOf ctx) verify_rule_broken_A (.fz false) Tryz.f162 = some verify_rule_broken_I := by kernel_rfl
theorem math_bits_Mul64_ok : compF Tryz.prog (quietOf ctx) math_bits_Mul64_A (.fz false) Tryz.f167 = some math_bits_Mul64_I := by kernel_rfl
theorem detect_Filter_Count_ok : compF Tryz.prog (quietOf ctx) detect_Filter_Count_A .ref Tryz.f173 = some detect_Filter_Count_I := by kernel_rfl
theorem slices_IndexFunc_int_ok : compF Tryz.prog (quietOf ctx) slices_IndexFunc_int_A (.fz false) Tryz.f181 = some slices_IndexFunc_int_I := by kernel_rfl
theorem graph_Graph_Part_1_ok : compF Tryz.prog (quietOf ctx) graph_Graph_Part_1_A (.fz false) Tryz.f182 = some graph_Graph_Part_1_I := by kernel_rfl
theorem slices_Contains_int_ok : compF Tryz.prog (quietOf ctx) slices_Contains_int_A (.fz false) Tryz.f183 = some slices_Contains_int_I := by kernel_rfl
theorem slices_IndexFunc_pLock_ok : compF Tryz.prog (quietOf ctx) slices_IndexFunc_pLock_A .ref Tryz.f200 = some slices_IndexFunc_pLock_I := by kernel_rfl
theorem crc_Of_ok : compF Tryz.prog (quietOf ctx) crc_Of_A (.fz false) Tryz.f208 = some crc_Of_I := by kernel_rfl
theorem verify_judge_rules_1_ok : compF Tryz.prog (quietOf ctx) verify_judge_rules_1_A (.fz false) Tryz.f216 = some verify_judge_rules_1_I := by kernel_rfl
theorem plane_Place_ok : compF Tryz.prog (quietOf ctx) plane_Place_A (.fz false) Tryz.f217 = some plane_Place_I := by kernel_rfl
theorem slices_Contains_complex128_ok : compF Tryz.prog (quietOf ctx) slices_Contains_complex128_A (.fz false) Tryz.f218 = some slices_Contains_complex128_I := by kernel_rfl
theorem verify_one_ok : compF Tryz.prog (quietOf ctx) verify_one_A (.fz false) Tryz.f219 = some verify_one_I := by kernel_rfl
theorem verify_within_int_ok : compF Tryz.prog (quietOf ctx) verify_within_int_A (.fz false) Tryz.f220 = some verify_within_int_I := by kernel_rfl
theorem verify_judge_section_ok : compF Tryz.prog (quietOf ctx) verify_judge_section_A (.fz false) Tryz.f221 = some verify_judge_section_I := by kernel_rfl
theorem verify_judge_rules_2_ok : compF Tryz.prog (quietOf ctx) verify_judge_rules_2_A (.fz false) Tryz.f222 = some verify_judge_rules_2_I := by kernel_rfl
theorem verify_judge_times_ok : compF Tryz.prog (quietOf ctx) verify_judge_times_A (.fz false) Tryz.f223 = some verify_judge_times_I := by kernel_rfl
theorem verify_judge_rules_3_ok : compF Tryz.prog (quietOf ctx) verify_judge_rules_3_A (.fz false) Tryz.f224 = some verify_judge_rules_3_I := by kernel_rfl
theorem graph_Graph_Ends_ok : compF Tryz.prog (quietOf ctx) graph_Graph_Ends_A .own Tryz.f225 = some graph_Graph_Ends_I := by kernel_rfl
theorem verify_judge_points_ok : compF Tryz.prog (quietOf ctx) verify_judge_points_A (.fz false) Tryz.f227 = some verify_judge_points_I := by kernel_rfl
theorem verify_judge_goes_ok : compF Tryz.prog (quietOf ctx) verify_judge_goes_A (.fz false) Tryz.f228 = some verify_judge_goes_I := by kernel_rfl
theorem verify_judge_part_ok : compF Tryz.prog (quietOf ctx) verify_judge_part_A (.fz false) Tryz.f229 = some verify_judge_part_I := by kernel_rfl
theorem verify_judge_once_ok : compF Tryz.prog (quietOf ctx) verify_judge_once_A (.fz false) Tryz.f230 = some verify_judge_once_I := by kernel_rfl
theorem slices_Index_int_ok : compF Tryz.prog (quietOf ctx) slices_Index_int_A (.fz false) Tryz.f245 = some slices_Index_int_I := by kernel_rfl
theorem slices_ContainsFunc_int_ok : compF Tryz.prog (quietOf ctx) slices_ContainsFunc_int_A (.fz false) Tryz.f249 = some slices_ContainsFunc_int_I := by kernel_rfl
theorem plane_whole_ok : compF Tryz.prog (quietOf ctx) plane_whole_A (.fz false) Tryz.f269 = some plane_whole_I := by kernel_rfl
theorem slices_Index_complex128_ok : compF Tryz.prog (quietOf ctx) slices_Index_complex128_A (.fz false) Tryz.f270 = some slices_Index_complex128_I := by kernel_rfl
theorem verify_one_1_ok : compF Tryz.prog (quietOf ctx) verify_one_1_A (.fz false) Tryz.f271 = some verify_one_1_I := by kernel_rfl
theorem verify_judge_node_ok : compF Tryz.prog (quietOf ctx) verify_judge_node_A (.fz false) Tryz.f272 = some verify_judge_node_I := by kernel_rfl
theorem plane_Fits_ok : compF Tryz.prog (quietOf ctx) plane_Fits_A (.fz false) Tryz.f273 = some plane_Fits_I := by kernel_rfl
theorem verify_within_int64_ok : compF Tryz.prog (quietOf ctx) verify_within_int64_A (.fz false) Tryz.f274 = some verify_within_int64_I := by kernel_rfl
theorem graph_Graph_section_ok : compF Tryz.prog (quietOf ctx) graph_Graph_section_A (.fz false) Tryz.f275 = some graph_Graph_section_I := by kernel_rfl
theorem graph_Graph_Point_ok : compF Tryz.prog (quietOf ctx) graph_Graph_Point_A (.fz false) Tryz.f276 = some graph_Graph_Point_I := by kernel_rfl
theorem verify_judge_on_ok : compF Tryz.prog (quietOf ctx) verify_judge_on_A (.fz false) Tryz.f277 = some verify_judge_on_I := by kernel_rfl
theorem verify_judge_part_1_ok : compF Tryz.prog (quietOf ctx) verify_judge_part_1_A (.fz false) Tryz.f278 = some verify_judge_part_1_I := by kernel_rfl
theorem slices_IndexFunc_Int_ok : compF Tryz.prog (quietOf ctx) slices_IndexFunc_Int_A (.fz false) Tryz.f286 = some slices_IndexFunc_Int_I := by kernel_rfl
theorem plane_Square_ok : compF Tryz.prog (quietOf ctx) plane_Square_A (.fz false) Tryz.f303 = some plane_Square_I := by kernel_rfl
theorem slices_IndexFunc_Point_ok : compF Tryz.prog (quietOf ctx) slices_IndexFunc_Point_A (.fz false) Tryz.f304 = some slices_IndexFunc_Point_I := by kernel_rfl
theorem plane_Ahead_ok : compF Tryz.prog (quietOf ctx) plane_Ahead_A (.fz false) Tryz.f306 = some plane_Ahead_I := by kernel_rfl
theorem verify_judge_other_ok : compF Tryz.prog (quietOf ctx) verify_judge_other_A (.fz false) Tryz.f307 = some verify_judge_other_I := by kernel_rfl
theorem plane_Dot_ok : compF Tryz.prog (quietOf ctx) plane_Dot_A (.fz false) Tryz.f324 = some plane_Dot_I := by kernel_rfl
theorem plane_turned_ok : compF Tryz.prog (quietOf ctx) plane_turned_A (.fz false) Tryz.f328 = some plane_turned_I := by kernel_rfl
theorem layout_Decode_3_ok : compF Tryz.prog (quietOf ctx) layout_Decode_3_A .ref Tryz.f85 = some layout_Decode_3_I := by kernel_rfl
theorem image_Decode_ok : compF Tryz.prog (quietOf ctx) image_Decode_A (.fz false) Tryz.f90 = some image_Decode_I := by kernel_rfl
theorem route_Table_Load_ok : compF Tryz.prog (quietOf ctx) route_Table_Load_A .ref Tryz.f91 = some route_Table_Load_I := by kernel_rfl
theorem route_Table_Anew_ok : compF Tryz.prog (quietOf ctx) route_Table_Anew_A .ref Tryz.f92 = some route_Table_Anew_I := by kernel_rfl
theorem route_over_ok : compF Tryz.prog (quietOf ctx) route_over_A (.fz false) Tryz.f129 = some route_over_I := by kernel_rfl
theorem slices_Equal_int_ok : compF Tryz.prog (quietOf ctx) slices_Equal_int_A (.fz false) Tryz.f131 = some slices_Equal_int_I := by kernel_rfl
theorem image_lock_ok : compF Tryz.prog (quietOf ctx) image_lock_A .ref Tryz.f163 = some image_lock_I := by kernel_rfl
theorem bits_Reader_End_ok : compF Tryz.prog (quietOf ctx) bits_Reader_End_A .ref Tryz.f164 = some bits_Reader_End_I := by kernel_rfl
theorem route_Table_fits_ok : compF Tryz.prog (quietOf ctx) route_Table_fits_A .ref Tryz.f165 = some route_Table_fits_I := by kernel_rfl
theorem math_bits_Mul32_ok : compF Tryz.prog (quietOf ctx) math_bits_Mul32_A (.fz false) Tryz.f166 = some math_bits_Mul32_I := by kernel_rfl
theorem route_Table_has_ok : compF Tryz.prog (quietOf ctx) route_Table_has_A .ref Tryz.f186 = some route_Table_has_I := by kernel_rfl
theorem route_Table_find_ok : compF Tryz.prog (quietOf ctx) route_Table_find_A .ref Tryz.f187 = some route_Table_find_I := by kernel_rfl
theorem graph_Graph_Path_ok : compF Tryz.prog (quietOf ctx) graph_Graph_Path_A (.fz false) Tryz.f189 = some graph_Graph_Path_I := by kernel_rfl
theorem route_Table_pieces_ok : compF Tryz.prog (quietOf ctx) route_Table_pieces_A .ref Tryz.f196 = some route_Table_pieces_I := by kernel_rfl
theorem verify_judge_point_ok : compF Tryz.prog (quietOf ctx) verify_judge_point_A (.fz false) Tryz.f226 = some verify_judge_point_I := by kernel_rfl
theorem verify_judge_route_ok : compF Tryz.prog (quietOf ctx) verify_judge_route_A (.fz false) Tryz.f231 = some verify_judge_route_I := by kernel_rfl
theorem bits_Reader_Flag_ok : compF Tryz.prog (quietOf ctx) bits_Reader_Flag_A .ref Tryz.f232 = some bits_Reader_Flag_I := by kernel_rfl
theorem route_Table_Whose_ok : compF Tryz.prog (quietOf ctx) route_Table_Whose_A .ref Tryz.f233 = some route_Table_Whose_I := by kernel_rfl
theorem graph_Graph_Around_ok : compF Tryz.prog (quietOf ctx) graph_Graph_Around_A (.fz false) Tryz.f242 = some graph_Graph_Around_I := by kernel_rfl
theorem slices_IndexFunc_End_ok : compF Tryz.prog (quietOf ctx) slices_IndexFunc_End_A (.fz false) Tryz.f243 = some slices_IndexFunc_End_I := by kernel_rfl
theorem slices_Compact_int_ok : compF Tryz.prog (quietOf ctx) slices_Compact_int_A .ref Tryz.f248 = some slices_Compact_int_I := by kernel_rfl
theorem route_Table_find_1_ok : compF Tryz.prog (quietOf ctx) route_Table_find_1_A .ref Tryz.f251 = some route_Table_find_1_I := by kernel_rfl
theorem graph_Graph_way_ok : compF Tryz.prog (quietOf ctx) graph_Graph_way_A (.fz false) Tryz.f253 = some graph_Graph_way_I := by kernel_rfl
theorem graph_Graph_node_ok : compF Tryz.prog (quietOf ctx) graph_Graph_node_A (.fz false) Tryz.f279 = some graph_Graph_node_I := by kernel_rfl
theorem slices_DeleteFunc_End_ok : compF Tryz.prog (quietOf ctx) slices_DeleteFunc_End_A .ref Tryz.f280 = some slices_DeleteFunc_End_I := by kernel_rfl
theorem graph_Graph_Around_1_ok : compF Tryz.prog (quietOf ctx) graph_Graph_Around_1_A (.fz false) Tryz.f281 = some graph_Graph_Around_1_I := by kernel_rfl
theorem slices_Concat_End_ok : compF Tryz.prog (quietOf ctx) slices_Concat_End_A (.fz false) Tryz.f282 = some slices_Concat_End_I := by kernel_rfl
theorem graph_Graph_at_ok : compF Tryz.prog (quietOf ctx) graph_Graph_at_A (.fz false) Tryz.f283 = some graph_Graph_at_I := by kernel_rfl
theorem graph_Graph_way_1_ok : compF Tryz.prog (quietOf ctx) graph_Graph_way_1_A (.fz false) Tryz.f287 = some graph_Graph_way_1_I := by kernel_rfl
theorem graph_Graph_need_ok : compF Tryz.prog (quietOf ctx) graph_Graph_need_A (.fz false) Tryz.f288 = some graph_Graph_need_I := by kernel_rfl
theorem graph_Graph_Point_1_ok : compF Tryz.prog (quietOf ctx) graph_Graph_Point_1_A (.fz false) Tryz.f305 = some graph_Graph_Point_1_I := by kernel_rfl
theorem slices_Grow_End_ok : compF Tryz.prog (quietOf ctx) slices_Grow_End_A .ref Tryz.f308 = some slices_Grow_End_I := by kernel_rfl
theorem ctx_ok : CtxOk Tryz.prog ctx :=
  ctxOk_prims (by kernel_rfl) (
    .cons ⟨_, _, Tryz.func4, l19_CenterNil_ok⟩ (
    .cons ⟨_, _, Tryz.func5, l19_short_ok⟩ (
    .cons ⟨_, _, Tryz.func7, r04_Encode_ok⟩ (
    .cons ⟨_, _, Tryz.func9, center_New_ok⟩ (
    .cons ⟨_, _, Tryz.func21, center_Center_Bad_ok⟩ (
    .cons ⟨_, _, Tryz.func13, r19_Same_ok⟩ (
    .cons ⟨_, _, Tryz.func11, center_Center_Step_ok⟩ (
    .cons ⟨_, _, Tryz.func19, center_Center_Locks_ok⟩ (
    .cons ⟨_, _, Tryz.func17, center_Center_Trains_ok⟩ (
    .cons ⟨_, _, Tryz.func25, r01_Bytes_ok⟩ (
    .cons ⟨_, _, Tryz.func20, center_Center_Authority_ok⟩ (
    .cons ⟨_, _, Tryz.func71, r01_Join_ok⟩ (
    .cons ⟨_, _, Tryz.func16, center_Center_Owners_ok⟩ (
    .cons ⟨_, _, Tryz.func18, center_Center_Span_ok⟩ (
    .cons ⟨_, _, Tryz.func22, r04_Same_ok⟩ (
    .cons ⟨_, _, Tryz.func23, center_Center_Layout_ok⟩ (
    .cons ⟨_, _, Tryz.func12, center_Center_Train_ok⟩ (
    .cons ⟨_, _, Tryz.func14, center_Center_Now_ok⟩ (
    .cons ⟨_, _, Tryz.func15, center_Center_Image_ok⟩ (
    .cons ⟨_, _, Tryz.func24, r04_Make_ok⟩ (
    .cons ⟨_, _, Tryz.func26, r04_put_ok⟩ (
    .cons ⟨_, _, Tryz.func27, r01_At_ok⟩ (
    .cons ⟨_, _, Tryz.func28, r04_lists_ok⟩ (
    .cons ⟨_, _, Tryz.func29, r03_Close_ok⟩ (
    .cons ⟨_, _, Tryz.func30, r02_Bytes_ok⟩ (
    .cons ⟨_, _, Tryz.func32, layout_Decode_ok⟩ (
    .cons ⟨_, _, Tryz.func33, verify_Right_ok⟩ (
    .cons ⟨_, _, Tryz.func34, graph_New_ok⟩ (
    .cons ⟨_, _, Tryz.func35, detect_New_ok⟩ (
    .cons ⟨_, _, Tryz.func36, train_New_ok⟩ (
    .cons ⟨_, _, Tryz.func37, route_New_ok⟩ (
    .cons ⟨_, _, Tryz.func38, center_locks_ok⟩ (
    .cons ⟨_, _, Tryz.func39, slices_Clone_bool_ok⟩ (
    .cons ⟨_, _, Tryz.func40, own_Start_ok⟩ (
    .cons ⟨_, _, Tryz.func41, slices_Repeat_byte_ok⟩ (
    .cons ⟨_, _, Tryz.func69, r02_Put_ok⟩ (
    .cons ⟨_, _, Tryz.func60, r13_Same_ok⟩ (
    .cons ⟨_, _, Tryz.func61, r01_Bools_ok⟩ (
    .cons ⟨_, _, Tryz.func46, detect_Filter_Step_ok⟩ (
    .cons ⟨_, _, Tryz.func48, train_Register_Mute_ok⟩ (
    .cons ⟨_, _, Tryz.func49, train_Register_Doubt_ok⟩ (
    .cons ⟨_, _, Tryz.func50, center_Center_look_ok⟩ (
    .cons ⟨_, _, Tryz.func51, own_Next_ok⟩ (
    .cons ⟨_, _, Tryz.func52, center_Center_declare_ok⟩ (
    .cons ⟨_, _, Tryz.func53, state_Of_ok⟩ (
    .cons ⟨_, _, Tryz.func55, route_Table_Step_ok⟩ (
    .cons ⟨_, _, Tryz.func56, center_Center_move_ok⟩ (
    .cons ⟨_, _, Tryz.func57, slices_Clone_byte_ok⟩ (
    .cons ⟨_, _, Tryz.func58, state_Changes_ok⟩ (
    .cons ⟨_, _, Tryz.func63, route_Table_Locks_ok⟩ (
    .cons ⟨_, _, Tryz.func65, train_Register_All_ok⟩ (
    .cons ⟨_, _, Tryz.func67, r01_Lists_ok⟩ (
    .cons ⟨_, _, Tryz.func70, r03_Of_ok⟩ (
    .cons ⟨_, _, Tryz.func74, crc_Open_ok⟩ (
    .cons ⟨_, _, Tryz.func75, bits_NewReader_ok⟩ (
    .cons ⟨_, _, Tryz.func76, layout_list_complex128_ok⟩ (
    .cons ⟨_, _, Tryz.func77, layout_Decode_1_ok⟩ (
    .cons ⟨_, _, Tryz.func78, layout_coordinate_ok⟩ (
    .cons ⟨_, _, Tryz.func79, layout_list_Section_ok⟩ (
    .cons ⟨_, _, Tryz.func80, layout_Decode_2_ok⟩ (
    .cons ⟨_, _, Tryz.func81, bits_Reader_Get_ok⟩ (
    .cons ⟨_, _, Tryz.func82, layout_tiny_ok⟩ (
    .cons ⟨_, _, Tryz.func83, layout_nested_ok⟩ (
    .cons ⟨_, _, Tryz.func84, layout_list_Point_ok⟩ (
    .cons ⟨_, _, Tryz.func86, layout_ticks_ok⟩ (
    .cons ⟨_, _, Tryz.func87, bits_Reader_OK_ok⟩ (
    .cons ⟨_, _, Tryz.func88, bits_Reader_Left_ok⟩ (
    .cons ⟨_, _, Tryz.func89, verify_First_ok⟩ (
    .cons ⟨_, _, Tryz.func93, slices_Repeat_int_ok⟩ (
    .cons ⟨_, _, Tryz.func94, math_bits_Mul_ok⟩ (
    .cons ⟨_, _, Tryz.func107, detect_Filter_Clear_ok⟩ (
    .cons ⟨_, _, Tryz.func114, train_Register_those_ok⟩ (
    .cons ⟨_, _, Tryz.func122, graph_Graph_Part_ok⟩ (
    .cons ⟨_, _, Tryz.func123, state_one_ok⟩ (
    .cons ⟨_, _, Tryz.func127, slices_DeleteFunc_pLock_ok⟩ (
    .cons ⟨_, _, Tryz.func132, state_Kind_ok⟩ (
    .cons ⟨_, _, Tryz.func138, maps_Keys_Train_ok⟩ (
    .cons ⟨_, _, Tryz.func135, crc_Close_ok⟩ (
    .cons ⟨_, _, Tryz.func154, bytes_Clone_ok⟩ (
    .cons ⟨_, _, Tryz.func155, bytes_Equal_ok⟩ (
    .cons ⟨_, _, Tryz.func156, bits_held_ok⟩ (
    .cons ⟨_, _, Tryz.func157, layout_list_Ints_ok⟩ (
    .cons ⟨_, _, Tryz.func158, layout_nested_1_ok⟩ (
    .cons ⟨_, _, Tryz.func159, layout_list_int_ok⟩ (
    .cons ⟨_, _, Tryz.func160, layout_nested_1_1_ok⟩ (
    .cons ⟨_, _, Tryz.func161, verify_judge_rules_ok⟩ (
    .cons ⟨_, _, Tryz.func162, verify_rule_broken_ok⟩ (
    .cons ⟨_, _, Tryz.func167, math_bits_Mul64_ok⟩ (
    .cons ⟨_, _, Tryz.func173, detect_Filter_Count_ok⟩ (
    .cons ⟨_, _, Tryz.func181, slices_IndexFunc_int_ok⟩ (
    .cons ⟨_, _, Tryz.func182, graph_Graph_Part_1_ok⟩ (
    .cons ⟨_, _, Tryz.func183, slices_Contains_int_ok⟩ (
    .cons ⟨_, _, Tryz.func200, slices_IndexFunc_pLock_ok⟩ (
    .cons ⟨_, _, Tryz.func208, crc_Of_ok⟩ (
    .cons ⟨_, _, Tryz.func216, verify_judge_rules_1_ok⟩ (
    .cons ⟨_, _, Tryz.func217, plane_Place_ok⟩ (
    .cons ⟨_, _, Tryz.func218, slices_Contains_complex128_ok⟩ (
    .cons ⟨_, _, Tryz.func219, verify_one_ok⟩ (
    .cons ⟨_, _, Tryz.func220, verify_within_int_ok⟩ (
    .cons ⟨_, _, Tryz.func221, verify_judge_section_ok⟩ (
    .cons ⟨_, _, Tryz.func222, verify_judge_rules_2_ok⟩ (
    .cons ⟨_, _, Tryz.func223, verify_judge_times_ok⟩ (
    .cons ⟨_, _, Tryz.func224, verify_judge_rules_3_ok⟩ (
    .cons ⟨_, _, Tryz.func225, graph_Graph_Ends_ok⟩ (
    .cons ⟨_, _, Tryz.func227, verify_judge_points_ok⟩ (
    .cons ⟨_, _, Tryz.func228, verify_judge_goes_ok⟩ (
    .cons ⟨_, _, Tryz.func229, verify_judge_part_ok⟩ (
    .cons ⟨_, _, Tryz.func230, verify_judge_once_ok⟩ (
    .cons ⟨_, _, Tryz.func245, slices_Index_int_ok⟩ (
    .cons ⟨_, _, Tryz.func249, slices_ContainsFunc_int_ok⟩ (
    .cons ⟨_, _, Tryz.func269, plane_whole_ok⟩ (
    .cons ⟨_, _, Tryz.func270, slices_Index_complex128_ok⟩ (
    .cons ⟨_, _, Tryz.func271, verify_one_1_ok⟩ (
    .cons ⟨_, _, Tryz.func272, verify_judge_node_ok⟩ (
    .cons ⟨_, _, Tryz.func273, plane_Fits_ok⟩ (
    .cons ⟨_, _, Tryz.func274, verify_within_int64_ok⟩ (
    .cons ⟨_, _, Tryz.func275, graph_Graph_section_ok⟩ (
    .cons ⟨_, _, Tryz.func276, graph_Graph_Point_ok⟩ (
    .cons ⟨_, _, Tryz.func277, verify_judge_on_ok⟩ (
    .cons ⟨_, _, Tryz.func278, verify_judge_part_1_ok⟩ (
    .cons ⟨_, _, Tryz.func286, slices_IndexFunc_Int_ok⟩ (
    .cons ⟨_, _, Tryz.func303, plane_Square_ok⟩ (
    .cons ⟨_, _, Tryz.func304, slices_IndexFunc_Point_ok⟩ (
    .cons ⟨_, _, Tryz.func306, plane_Ahead_ok⟩ (
    .cons ⟨_, _, Tryz.func307, verify_judge_other_ok⟩ (
    .cons ⟨_, _, Tryz.func324, plane_Dot_ok⟩ (
    .cons ⟨_, _, Tryz.func328, plane_turned_ok⟩ (
    .cons ⟨_, _, Tryz.func85, layout_Decode_3_ok⟩ (
    .cons ⟨_, _, Tryz.func90, image_Decode_ok⟩ (
    .cons ⟨_, _, Tryz.func91, route_Table_Load_ok⟩ (
    .cons ⟨_, _, Tryz.func92, route_Table_Anew_ok⟩ (
    .cons ⟨_, _, Tryz.func129, route_over_ok⟩ (
    .cons ⟨_, _, Tryz.func131, slices_Equal_int_ok⟩ (
    .cons ⟨_, _, Tryz.func163, image_lock_ok⟩ (
    .cons ⟨_, _, Tryz.func164, bits_Reader_End_ok⟩ (
    .cons ⟨_, _, Tryz.func165, route_Table_fits_ok⟩ (
    .cons ⟨_, _, Tryz.func166, math_bits_Mul32_ok⟩ (
    .cons ⟨_, _, Tryz.func186, route_Table_has_ok⟩ (
    .cons ⟨_, _, Tryz.func187, route_Table_find_ok⟩ (
    .cons ⟨_, _, Tryz.func189, graph_Graph_Path_ok⟩ (
    .cons ⟨_, _, Tryz.func196, route_Table_pieces_ok⟩ (
    .cons ⟨_, _, Tryz.func226, verify_judge_point_ok⟩ (
    .cons ⟨_, _, Tryz.func231, verify_judge_route_ok⟩ (
    .cons ⟨_, _, Tryz.func232, bits_Reader_Flag_ok⟩ (
    .cons ⟨_, _, Tryz.func233, route_Table_Whose_ok⟩ (
    .cons ⟨_, _, Tryz.func242, graph_Graph_Around_ok⟩ (
    .cons ⟨_, _, Tryz.func243, slices_IndexFunc_End_ok⟩ (
    .cons ⟨_, _, Tryz.func248, slices_Compact_int_ok⟩ (
    .cons ⟨_, _, Tryz.func251, route_Table_find_1_ok⟩ (
    .cons ⟨_, _, Tryz.func253, graph_Graph_way_ok⟩ (
    .cons ⟨_, _, Tryz.func279, graph_Graph_node_ok⟩ (
    .cons ⟨_, _, Tryz.func280, slices_DeleteFunc_End_ok⟩ (
    .cons ⟨_, _, Tryz.func281, graph_Graph_Around_1_ok⟩ (
    .cons ⟨_, _, Tryz.func282, slices_Concat_End_ok⟩ (
    .cons ⟨_, _, Tryz.func283, graph_Graph_at_ok⟩ (
    .cons ⟨_, _, Tryz.func287, graph_Graph_way_1_ok⟩ (
    .cons ⟨_, _, Tryz.func288, graph_Graph_need_ok⟩ (
    .cons ⟨_, _, Tryz.func305, graph_Graph_Point_1_ok⟩ (
    .cons ⟨_, _, Tryz.func308, slices_Grow_End_ok⟩ (
    .nil)))))))))))))))))))))))))))))))))))))))))))))))))))))))))))))))))))))))))))))))))))))))))))))))))))))))))))))))))))))))))))))))))))))))))))))))))))))))))))))))) Zk.prims_ok
noncomputable def l19_CenterNil_F := fzE ctx false 2 l19_CenterNil_C [.tmp 4]
theorem l19_CenterNil_F_eq : FzEq ctx false 2 l19_CenterNil_C [.tmp 4] l19_CenterNil_F := fz_eq _ _ _ _ _
theorem l19_CenterNil_call : FzCall ctx 4 l19_CenterNil_F := fz_called rfl (show ctx.info 4 = some l19_CenterNil_I by kernel_rfl)
noncomputable def l19_short_F := fzE ctx false 0 l19_short_C [.tmp 0]
theorem l19_short_F_eq : FzEq ctx false 0 l19_short_C [.tmp 0] l19_short_F := fz_eq _ _ _ _ _
theorem l19_short_call : FzCall ctx 5 l19_short_F := fz_called rfl (show ctx.info 5 = some l19_short_I by kernel_rfl)
noncomputable def r04_Encode_F := fzE ctx false 1 r04_Encode_C [.tmp 2]
theorem r04_Encode_F_eq : FzEq ctx false 1 r04_Encode_C [.tmp 2] r04_Encode_F := fz_eq _ _ _ _ _
theorem r04_Encode_call : FzCall ctx 7 r04_Encode_F := fz_called rfl (show ctx.info 7 = some r04_Encode_I by kernel_rfl)
noncomputable def center_New_F := refE ctx 4 center_New_C [.tmp 8, .tmp 9]
theorem center_New_F_eq : RefEq ctx 4 center_New_C [.tmp 8, .tmp 9] center_New_F := ref_eq _ _ _ _
theorem center_New_call : RefCall ctx 9 center_New_F := ref_called rfl (show ctx.info 9 = some center_New_I by kernel_rfl)
noncomputable def center_Center_Bad_F := refE ctx 1 center_Center_Bad_C [.tmp 2]
theorem center_Center_Bad_F_eq : RefEq ctx 1 center_Center_Bad_C [.tmp 2] center_Center_Bad_F := ref_eq _ _ _ _
theorem center_Center_Bad_call : RefCall ctx 21 center_Center_Bad_F := ref_called rfl (show ctx.info 21 = some center_Center_Bad_I by kernel_rfl)
noncomputable def r19_Same_F := fzE ctx false 2 r19_Same_C [.tmp 4]
theorem r19_Same_F_eq : FzEq ctx false 2 r19_Same_C [.tmp 4] r19_Same_F := fz_eq _ _ _ _ _
theorem r19_Same_call : FzCall ctx 13 r19_Same_F := fz_called rfl (show ctx.info 13 = some r19_Same_I by kernel_rfl)
noncomputable def center_Center_Step_F := refE ctx 2 center_Center_Step_C [.cell 4 true 6]
theorem center_Center_Step_F_eq : RefEq ctx 2 center_Center_Step_C [.cell 4 true 6] center_Center_Step_F := ref_eq _ _ _ _
theorem center_Center_Step_call : RefCall ctx 11 center_Center_Step_F := ref_called rfl (show ctx.info 11 = some center_Center_Step_I by kernel_rfl)
noncomputable def center_Center_Locks_F := refE ctx 1 center_Center_Locks_C [.tmp 2]
theorem center_Center_Locks_F_eq : RefEq ctx 1 center_Center_Locks_C [.tmp 2] center_Center_Locks_F := ref_eq _ _ _ _
theorem center_Center_Locks_call : RefCall ctx 19 center_Center_Locks_F := ref_called rfl (show ctx.info 19 = some center_Center_Locks_I by kernel_rfl)
noncomputable def center_Center_Trains_F := refE ctx 1 center_Center_Trains_C [.tmp 2]
theorem center_Center_Trains_F_eq : RefEq ctx 1 center_Center_Trains_C [.tmp 2] center_Center_Trains_F := ref_eq _ _ _ _
theorem center_Center_Trains_call : RefCall ctx 17 center_Center_Trains_F := ref_called rfl (show ctx.info 17 = some center_Center_Trains_I by kernel_rfl)
noncomputable def r01_Bytes_F := fzE ctx false 2 r01_Bytes_C [.tmp 4]
theorem r01_Bytes_F_eq : FzEq ctx false 2 r01_Bytes_C [.tmp 4] r01_Bytes_F := fz_eq _ _ _ _ _
theorem r01_Bytes_call : FzCall ctx 25 r01_Bytes_F := fz_called rfl (show ctx.info 25 = some r01_Bytes_I by kernel_rfl)
noncomputable def center_Center_Authority_F := refE ctx 2 center_Center_Authority_C [.tmp 4]
theorem center_Center_Authority_F_eq : RefEq ctx 2 center_Center_Authority_C [.tmp 4] center_Center_Authority_F := ref_eq _ _ _ _
theorem center_Center_Authority_call : RefCall ctx 20 center_Center_Authority_F := ref_called rfl (show ctx.info 20 = some center_Center_Authority_I by kernel_rfl)
noncomputable def r01_Join_F := fzE ctx false 2 r01_Join_C [.tmp 4]
theorem r01_Join_F_eq : FzEq ctx false 2 r01_Join_C [.tmp 4] r01_Join_F := fz_eq _ _ _ _ _
theorem r01_Join_call : FzCall ctx 71 r01_Join_F := fz_called rfl (show ctx.info 71 = some r01_Join_I by kernel_rfl)
noncomputable def center_Center_Owners_F := refE ctx 1 center_Center_Owners_C [.tmp 2]
theorem center_Center_Owners_F_eq : RefEq ctx 1 center_Center_Owners_C [.tmp 2] center_Center_Owners_F := ref_eq _ _ _ _
theorem center_Center_Owners_call : RefCall ctx 16 center_Center_Owners_F := ref_called rfl (show ctx.info 16 = some center_Center_Owners_I by kernel_rfl)
noncomputable def center_Center_Span_F := refE ctx 2 center_Center_Span_C [.tmp 4]
theorem center_Center_Span_F_eq : RefEq ctx 2 center_Center_Span_C [.tmp 4] center_Center_Span_F := ref_eq _ _ _ _
theorem center_Center_Span_call : RefCall ctx 18 center_Center_Span_F := ref_called rfl (show ctx.info 18 = some center_Center_Span_I by kernel_rfl)
noncomputable def r04_Same_F := fzE ctx false 2 r04_Same_C [.tmp 4]
theorem r04_Same_F_eq : FzEq ctx false 2 r04_Same_C [.tmp 4] r04_Same_F := fz_eq _ _ _ _ _
theorem r04_Same_call : FzCall ctx 22 r04_Same_F := fz_called rfl (show ctx.info 22 = some r04_Same_I by kernel_rfl)
noncomputable def center_Center_Layout_F := refE ctx 1 center_Center_Layout_C [.cell 2 true 10]
theorem center_Center_Layout_F_eq : RefEq ctx 1 center_Center_Layout_C [.cell 2 true 10] center_Center_Layout_F := ref_eq _ _ _ _
theorem center_Center_Layout_call : RefCall ctx 23 center_Center_Layout_F := ref_called rfl (show ctx.info 23 = some center_Center_Layout_I by kernel_rfl)
noncomputable def center_Center_Train_F := refE ctx 2 center_Center_Train_C [.cell 4 true 6, .tmp 5]
theorem center_Center_Train_F_eq : RefEq ctx 2 center_Center_Train_C [.cell 4 true 6, .tmp 5] center_Center_Train_F := ref_eq _ _ _ _
theorem center_Center_Train_call : RefCall ctx 12 center_Center_Train_F := ref_called rfl (show ctx.info 12 = some center_Center_Train_I by kernel_rfl)
noncomputable def center_Center_Now_F := refE ctx 1 center_Center_Now_C [.tmp 2]
theorem center_Center_Now_F_eq : RefEq ctx 1 center_Center_Now_C [.tmp 2] center_Center_Now_F := ref_eq _ _ _ _
theorem center_Center_Now_call : RefCall ctx 14 center_Center_Now_F := ref_called rfl (show ctx.info 14 = some center_Center_Now_I by kernel_rfl)
noncomputable def center_Center_Image_F := refE ctx 1 center_Center_Image_C [.tmp 2]
theorem center_Center_Image_F_eq : RefEq ctx 1 center_Center_Image_C [.tmp 2] center_Center_Image_F := ref_eq _ _ _ _
theorem center_Center_Image_call : RefCall ctx 15 center_Center_Image_F := ref_called rfl (show ctx.info 15 = some center_Center_Image_I by kernel_rfl)
noncomputable def r04_Make_F := fzE ctx true 1 r04_Make_C [.cell 2 true 10]
theorem r04_Make_F_eq : FzEq ctx true 1 r04_Make_C [.cell 2 true 10] r04_Make_F := fz_eq _ _ _ _ _
theorem r04_Make_call : FzCall ctx 24 r04_Make_F := fz_called rfl (show ctx.info 24 = some r04_Make_I by kernel_rfl)
noncomputable def r04_put_F := fzE ctx false 3 r04_put_C [.tmp 6]
theorem r04_put_F_eq : FzEq ctx false 3 r04_put_C [.tmp 6] r04_put_F := fz_eq _ _ _ _ _
theorem r04_put_call : FzCall ctx 26 r04_put_F := fz_called rfl (show ctx.info 26 = some r04_put_I by kernel_rfl)
noncomputable def r01_At_F := fzE ctx false 1 r01_At_C [.tmp 2, .tmp 3]
theorem r01_At_F_eq : FzEq ctx false 1 r01_At_C [.tmp 2, .tmp 3] r01_At_F := fz_eq _ _ _ _ _
theorem r01_At_call : FzCall ctx 27 r01_At_F := fz_called rfl (show ctx.info 27 = some r01_At_I by kernel_rfl)
noncomputable def r04_lists_F := fzE ctx false 2 r04_lists_C [.tmp 4]
theorem r04_lists_F_eq : FzEq ctx false 2 r04_lists_C [.tmp 4] r04_lists_F := fz_eq _ _ _ _ _
theorem r04_lists_call : FzCall ctx 28 r04_lists_F := fz_called rfl (show ctx.info 28 = some r04_lists_I by kernel_rfl)
noncomputable def r03_Close_F := fzE ctx false 1 r03_Close_C [.tmp 2]
theorem r03_Close_F_eq : FzEq ctx false 1 r03_Close_C [.tmp 2] r03_Close_F := fz_eq _ _ _ _ _
theorem r03_Close_call : FzCall ctx 29 r03_Close_F := fz_called rfl (show ctx.info 29 = some r03_Close_I by kernel_rfl)
noncomputable def r02_Bytes_F := fzE ctx false 1 r02_Bytes_C [.tmp 2]
theorem r02_Bytes_F_eq : FzEq ctx false 1 r02_Bytes_C [.tmp 2] r02_Bytes_F := fz_eq _ _ _ _ _
theorem r02_Bytes_call : FzCall ctx 30 r02_Bytes_F := fz_called rfl (show ctx.info 30 = some r02_Bytes_I by kernel_rfl)
noncomputable def layout_Decode_F := fzE ctx false 1 layout_Decode_C [.cell 2 true 10, .tmp 3]
theorem layout_Decode_F_eq : FzEq ctx false 1 layout_Decode_C [.cell 2 true 10, .tmp 3] layout_Decode_F := fz_eq _ _ _ _ _
theorem layout_Decode_call : FzCall ctx 32 layout_Decode_F := fz_called rfl (show ctx.info 32 = some layout_Decode_I by kernel_rfl)
noncomputable def verify_Right_F := fzE ctx false 1 verify_Right_C [.tmp 2]
theorem verify_Right_F_eq : FzEq ctx false 1 verify_Right_C [.tmp 2] verify_Right_F := fz_eq _ _ _ _ _
theorem verify_Right_call : FzCall ctx 33 verify_Right_F := fz_called rfl (show ctx.info 33 = some verify_Right_I by kernel_rfl)
noncomputable def graph_New_F := fzE ctx false 1 graph_New_C [.tmp 2]
theorem graph_New_F_eq : FzEq ctx false 1 graph_New_C [.tmp 2] graph_New_F := fz_eq _ _ _ _ _
theorem graph_New_call : FzCall ctx 34 graph_New_F := fz_called rfl (show ctx.info 34 = some graph_New_I by kernel_rfl)
noncomputable def detect_New_F := refE ctx 2 detect_New_C [.tmp 4]
theorem detect_New_F_eq : RefEq ctx 2 detect_New_C [.tmp 4] detect_New_F := ref_eq _ _ _ _
theorem detect_New_call : RefCall ctx 35 detect_New_F := ref_called rfl (show ctx.info 35 = some detect_New_I by kernel_rfl)
noncomputable def train_New_F := refE ctx 0 train_New_C [.tmp 0]
theorem train_New_F_eq : RefEq ctx 0 train_New_C [.tmp 0] train_New_F := ref_eq _ _ _ _
theorem train_New_call : RefCall ctx 36 train_New_F := ref_called rfl (show ctx.info 36 = some train_New_I by kernel_rfl)
noncomputable def route_New_F := refE ctx 1 route_New_C [.tmp 2]
theorem route_New_F_eq : RefEq ctx 1 route_New_C [.tmp 2] route_New_F := ref_eq _ _ _ _
theorem route_New_call : RefCall ctx 37 route_New_F := ref_called rfl (show ctx.info 37 = some route_New_I by kernel_rfl)
noncomputable def center_locks_F := refE ctx 3 center_locks_C [.tmp 6]
theorem center_locks_F_eq : RefEq ctx 3 center_locks_C [.tmp 6] center_locks_F := ref_eq _ _ _ _
theorem center_locks_call : RefCall ctx 38 center_locks_F := ref_called rfl (show ctx.info 38 = some center_locks_I by kernel_rfl)
noncomputable def slices_Clone_bool_F := refE ctx 1 slices_Clone_bool_C [.tmp 2]
theorem slices_Clone_bool_F_eq : RefEq ctx 1 slices_Clone_bool_C [.tmp 2] slices_Clone_bool_F := ref_eq _ _ _ _
theorem slices_Clone_bool_call : RefCall ctx 39 slices_Clone_bool_F := ref_called rfl (show ctx.info 39 = some slices_Clone_bool_I by kernel_rfl)
noncomputable def own_Start_F := fzE ctx false 1 own_Start_C [.tmp 2]
theorem own_Start_F_eq : FzEq ctx false 1 own_Start_C [.tmp 2] own_Start_F := fz_eq _ _ _ _ _
theorem own_Start_call : FzCall ctx 40 own_Start_F := fz_called rfl (show ctx.info 40 = some own_Start_I by kernel_rfl)
noncomputable def slices_Repeat_byte_F := fzE ctx false 2 slices_Repeat_byte_C [.tmp 4]
theorem slices_Repeat_byte_F_eq : FzEq ctx false 2 slices_Repeat_byte_C [.tmp 4] slices_Repeat_byte_F := fz_eq _ _ _ _ _
theorem slices_Repeat_byte_call : FzCall ctx 41 slices_Repeat_byte_F := fz_called rfl (show ctx.info 41 = some slices_Repeat_byte_I by kernel_rfl)
noncomputable def r02_Put_F := fzE ctx false 3 r02_Put_C [.tmp 6]
theorem r02_Put_F_eq : FzEq ctx false 3 r02_Put_C [.tmp 6] r02_Put_F := fz_eq _ _ _ _ _
theorem r02_Put_call : FzCall ctx 69 r02_Put_F := fz_called rfl (show ctx.info 69 = some r02_Put_I by kernel_rfl)
noncomputable def r13_Same_F := fzE ctx false 2 r13_Same_C [.tmp 4]
theorem r13_Same_F_eq : FzEq ctx false 2 r13_Same_C [.tmp 4] r13_Same_F := fz_eq _ _ _ _ _
theorem r13_Same_call : FzCall ctx 60 r13_Same_F := fz_called rfl (show ctx.info 60 = some r13_Same_I by kernel_rfl)
noncomputable def r01_Bools_F := fzE ctx false 2 r01_Bools_C [.tmp 4]
theorem r01_Bools_F_eq : FzEq ctx false 2 r01_Bools_C [.tmp 4] r01_Bools_F := fz_eq _ _ _ _ _
theorem r01_Bools_call : FzCall ctx 61 r01_Bools_F := fz_called rfl (show ctx.info 61 = some r01_Bools_I by kernel_rfl)
noncomputable def detect_Filter_Step_F := refE ctx 2 detect_Filter_Step_C [.tmp 4]
theorem detect_Filter_Step_F_eq : RefEq ctx 2 detect_Filter_Step_C [.tmp 4] detect_Filter_Step_F := ref_eq _ _ _ _
theorem detect_Filter_Step_call : RefCall ctx 46 detect_Filter_Step_F := ref_called rfl (show ctx.info 46 = some detect_Filter_Step_I by kernel_rfl)
noncomputable def train_Register_Mute_F := refE ctx 3 train_Register_Mute_C [.tmp 6]
theorem train_Register_Mute_F_eq : RefEq ctx 3 train_Register_Mute_C [.tmp 6] train_Register_Mute_F := ref_eq _ _ _ _
theorem train_Register_Mute_call : RefCall ctx 48 train_Register_Mute_F := ref_called rfl (show ctx.info 48 = some train_Register_Mute_I by kernel_rfl)
noncomputable def train_Register_Doubt_F := refE ctx 3 train_Register_Doubt_C [.tmp 6]
theorem train_Register_Doubt_F_eq : RefEq ctx 3 train_Register_Doubt_C [.tmp 6] train_Register_Doubt_F := ref_eq _ _ _ _
theorem train_Register_Doubt_call : RefCall ctx 49 train_Register_Doubt_F := ref_called rfl (show ctx.info 49 = some train_Register_Doubt_I by kernel_rfl)
noncomputable def center_Center_look_F := refE ctx 1 center_Center_look_C []
theorem center_Center_look_F_eq : RefEq ctx 1 center_Center_look_C [] center_Center_look_F := ref_eq _ _ _ _
theorem center_Center_look_call : RefCall ctx 50 center_Center_look_F := ref_called rfl (show ctx.info 50 = some center_Center_look_I by kernel_rfl)
noncomputable def own_Next_F := fzE ctx false 4 own_Next_C [.tmp 8]
theorem own_Next_F_eq : FzEq ctx false 4 own_Next_C [.tmp 8] own_Next_F := fz_eq _ _ _ _ _
theorem own_Next_call : FzCall ctx 51 own_Next_F := fz_called rfl (show ctx.info 51 = some own_Next_I by kernel_rfl)
noncomputable def center_Center_declare_F := refE ctx 4 center_Center_declare_C []
theorem center_Center_declare_F_eq : RefEq ctx 4 center_Center_declare_C [] center_Center_declare_F := ref_eq _ _ _ _
theorem center_Center_declare_call : RefCall ctx 52 center_Center_declare_F := ref_called rfl (show ctx.info 52 = some center_Center_declare_I by kernel_rfl)
noncomputable def state_Of_F := fzE ctx false 3 state_Of_C [.tmp 6]
theorem state_Of_F_eq : FzEq ctx false 3 state_Of_C [.tmp 6] state_Of_F := fz_eq _ _ _ _ _
theorem state_Of_call : FzCall ctx 53 state_Of_F := fz_called rfl (show ctx.info 53 = some state_Of_I by kernel_rfl)
noncomputable def route_Table_Step_F := refE ctx 4 route_Table_Step_C []
theorem route_Table_Step_F_eq : RefEq ctx 4 route_Table_Step_C [] route_Table_Step_F := ref_eq _ _ _ _
theorem route_Table_Step_call : RefCall ctx 55 route_Table_Step_F := ref_called rfl (show ctx.info 55 = some route_Table_Step_I by kernel_rfl)
noncomputable def center_Center_move_F := refE ctx 1 center_Center_move_C [.tmp 2]
theorem center_Center_move_F_eq : RefEq ctx 1 center_Center_move_C [.tmp 2] center_Center_move_F := ref_eq _ _ _ _
theorem center_Center_move_call : RefCall ctx 56 center_Center_move_F := ref_called rfl (show ctx.info 56 = some center_Center_move_I by kernel_rfl)
noncomputable def slices_Clone_byte_F := refE ctx 1 slices_Clone_byte_C [.tmp 2]
theorem slices_Clone_byte_F_eq : RefEq ctx 1 slices_Clone_byte_C [.tmp 2] slices_Clone_byte_F := ref_eq _ _ _ _
theorem slices_Clone_byte_call : RefCall ctx 57 slices_Clone_byte_F := ref_called rfl (show ctx.info 57 = some slices_Clone_byte_I by kernel_rfl)
noncomputable def state_Changes_F := fzE ctx false 2 state_Changes_C [.tmp 4]
theorem state_Changes_F_eq : FzEq ctx false 2 state_Changes_C [.tmp 4] state_Changes_F := fz_eq _ _ _ _ _
theorem state_Changes_call : FzCall ctx 58 state_Changes_F := fz_called rfl (show ctx.info 58 = some state_Changes_I by kernel_rfl)
noncomputable def route_Table_Locks_F := refE ctx 1 route_Table_Locks_C [.tmp 2]
theorem route_Table_Locks_F_eq : RefEq ctx 1 route_Table_Locks_C [.tmp 2] route_Table_Locks_F := ref_eq _ _ _ _
theorem route_Table_Locks_call : RefCall ctx 63 route_Table_Locks_F := ref_called rfl (show ctx.info 63 = some route_Table_Locks_I by kernel_rfl)
noncomputable def train_Register_All_F := refE ctx 1 train_Register_All_C [.tmp 2]
theorem train_Register_All_F_eq : RefEq ctx 1 train_Register_All_C [.tmp 2] train_Register_All_F := ref_eq _ _ _ _
theorem train_Register_All_call : RefCall ctx 65 train_Register_All_F := ref_called rfl (show ctx.info 65 = some train_Register_All_I by kernel_rfl)
noncomputable def r01_Lists_F := fzE ctx false 2 r01_Lists_C [.tmp 4]
theorem r01_Lists_F_eq : FzEq ctx false 2 r01_Lists_C [.tmp 4] r01_Lists_F := fz_eq _ _ _ _ _
theorem r01_Lists_call : FzCall ctx 67 r01_Lists_F := fz_called rfl (show ctx.info 67 = some r01_Lists_I by kernel_rfl)
noncomputable def r03_Of_F := fzE ctx false 1 r03_Of_C [.tmp 2]
theorem r03_Of_F_eq : FzEq ctx false 1 r03_Of_C [.tmp 2] r03_Of_F := fz_eq _ _ _ _ _
theorem r03_Of_call : FzCall ctx 70 r03_Of_F := fz_called rfl (show ctx.info 70 = some r03_Of_I by kernel_rfl)
noncomputable def crc_Open_F := fzE ctx false 1 crc_Open_C [.tmp 2, .tmp 3]
theorem crc_Open_F_eq : FzEq ctx false 1 crc_Open_C [.tmp 2, .tmp 3] crc_Open_F := fz_eq _ _ _ _ _
theorem crc_Open_call : FzCall ctx 74 crc_Open_F := fz_called rfl (show ctx.info 74 = some crc_Open_I by kernel_rfl)
noncomputable def bits_NewReader_F := refE ctx 1 bits_NewReader_C [.tmp 2]
theorem bits_NewReader_F_eq : RefEq ctx 1 bits_NewReader_C [.tmp 2] bits_NewReader_F := ref_eq _ _ _ _
theorem bits_NewReader_call : RefCall ctx 75 bits_NewReader_F := ref_called rfl (show ctx.info 75 = some bits_NewReader_I by kernel_rfl)
noncomputable def layout_list_complex128_F := refE ctx 2 layout_list_complex128_C [.tmp 4]
theorem layout_list_complex128_F_eq : RefEq ctx 2 layout_list_complex128_C [.tmp 4] layout_list_complex128_F := ref_eq _ _ _ _
theorem layout_list_complex128_call : RefCall ctx 76 layout_list_complex128_F := ref_called rfl (show ctx.info 76 = some layout_list_complex128_I by kernel_rfl)
noncomputable def layout_Decode_1_F := refE ctx 1 layout_Decode_1_C [.tmp 1]
theorem layout_Decode_1_F_eq : RefEq ctx 1 layout_Decode_1_C [.tmp 1] layout_Decode_1_F := ref_eq _ _ _ _
theorem layout_Decode_1_call : RefCall ctx 77 layout_Decode_1_F := ref_called rfl (show ctx.info 77 = some layout_Decode_1_I by kernel_rfl)
noncomputable def layout_coordinate_F := refE ctx 1 layout_coordinate_C [.tmp 2]
theorem layout_coordinate_F_eq : RefEq ctx 1 layout_coordinate_C [.tmp 2] layout_coordinate_F := ref_eq _ _ _ _
theorem layout_coordinate_call : RefCall ctx 78 layout_coordinate_F := ref_called rfl (show ctx.info 78 = some layout_coordinate_I by kernel_rfl)
noncomputable def layout_list_Section_F := refE ctx 2 layout_list_Section_C [.tmp 4]
theorem layout_list_Section_F_eq : RefEq ctx 2 layout_list_Section_C [.tmp 4] layout_list_Section_F := ref_eq _ _ _ _
theorem layout_list_Section_call : RefCall ctx 79 layout_list_Section_F := ref_called rfl (show ctx.info 79 = some layout_list_Section_I by kernel_rfl)
noncomputable def layout_Decode_2_F := refE ctx 1 layout_Decode_2_C [.cell 1 true 3]
theorem layout_Decode_2_F_eq : RefEq ctx 1 layout_Decode_2_C [.cell 1 true 3] layout_Decode_2_F := ref_eq _ _ _ _
theorem layout_Decode_2_call : RefCall ctx 80 layout_Decode_2_F := ref_called rfl (show ctx.info 80 = some layout_Decode_2_I by kernel_rfl)
noncomputable def bits_Reader_Get_F := refE ctx 2 bits_Reader_Get_C [.tmp 4]
theorem bits_Reader_Get_F_eq : RefEq ctx 2 bits_Reader_Get_C [.tmp 4] bits_Reader_Get_F := ref_eq _ _ _ _
theorem bits_Reader_Get_call : RefCall ctx 81 bits_Reader_Get_F := ref_called rfl (show ctx.info 81 = some bits_Reader_Get_I by kernel_rfl)
noncomputable def layout_tiny_F := refE ctx 1 layout_tiny_C [.tmp 2]
theorem layout_tiny_F_eq : RefEq ctx 1 layout_tiny_C [.tmp 2] layout_tiny_F := ref_eq _ _ _ _
theorem layout_tiny_call : RefCall ctx 82 layout_tiny_F := ref_called rfl (show ctx.info 82 = some layout_tiny_I by kernel_rfl)
noncomputable def layout_nested_F := refE ctx 1 layout_nested_C [.tmp 2]
theorem layout_nested_F_eq : RefEq ctx 1 layout_nested_C [.tmp 2] layout_nested_F := ref_eq _ _ _ _
theorem layout_nested_call : RefCall ctx 83 layout_nested_F := ref_called rfl (show ctx.info 83 = some layout_nested_I by kernel_rfl)
noncomputable def layout_list_Point_F := refE ctx 2 layout_list_Point_C [.tmp 4]
theorem layout_list_Point_F_eq : RefEq ctx 2 layout_list_Point_C [.tmp 4] layout_list_Point_F := ref_eq _ _ _ _
theorem layout_list_Point_call : RefCall ctx 84 layout_list_Point_F := ref_called rfl (show ctx.info 84 = some layout_list_Point_I by kernel_rfl)
noncomputable def layout_ticks_F := refE ctx 1 layout_ticks_C [.tmp 2]
theorem layout_ticks_F_eq : RefEq ctx 1 layout_ticks_C [.tmp 2] layout_ticks_F := ref_eq _ _ _ _
theorem layout_ticks_call : RefCall ctx 86 layout_ticks_F := ref_called rfl (show ctx.info 86 = some layout_ticks_I by kernel_rfl)
noncomputable def bits_Reader_OK_F := refE ctx 1 bits_Reader_OK_C [.tmp 2]
theorem bits_Reader_OK_F_eq : RefEq ctx 1 bits_Reader_OK_C [.tmp 2] bits_Reader_OK_F := ref_eq _ _ _ _
theorem bits_Reader_OK_call : RefCall ctx 87 bits_Reader_OK_F := ref_called rfl (show ctx.info 87 = some bits_Reader_OK_I by kernel_rfl)
noncomputable def bits_Reader_Left_F := refE ctx 1 bits_Reader_Left_C [.tmp 2]
theorem bits_Reader_Left_F_eq : RefEq ctx 1 bits_Reader_Left_C [.tmp 2] bits_Reader_Left_F := ref_eq _ _ _ _
theorem bits_Reader_Left_call : RefCall ctx 88 bits_Reader_Left_F := ref_called rfl (show ctx.info 88 = some bits_Reader_Left_I by kernel_rfl)
noncomputable def verify_First_F := fzE ctx false 1 verify_First_C [.tmp 2, .tmp 3]
theorem verify_First_F_eq : FzEq ctx false 1 verify_First_C [.tmp 2, .tmp 3] verify_First_F := fz_eq _ _ _ _ _
theorem verify_First_call : FzCall ctx 89 verify_First_F := fz_called rfl (show ctx.info 89 = some verify_First_I by kernel_rfl)
noncomputable def slices_Repeat_int_F := fzE ctx false 2 slices_Repeat_int_C [.tmp 4]
theorem slices_Repeat_int_F_eq : FzEq ctx false 2 slices_Repeat_int_C [.tmp 4] slices_Repeat_int_F := fz_eq _ _ _ _ _
theorem slices_Repeat_int_call : FzCall ctx 93 slices_Repeat_int_F := fz_called rfl (show ctx.info 93 = some slices_Repeat_int_I by kernel_rfl)
noncomputable def math_bits_Mul_F := fzE ctx false 2 math_bits_Mul_C [.tmp 4, .tmp 5]
theorem math_bits_Mul_F_eq : FzEq ctx false 2 math_bits_Mul_C [.tmp 4, .tmp 5] math_bits_Mul_F := fz_eq _ _ _ _ _
theorem math_bits_Mul_call : FzCall ctx 94 math_bits_Mul_F := fz_called rfl (show ctx.info 94 = some math_bits_Mul_I by kernel_rfl)
noncomputable def detect_Filter_Clear_F := refE ctx 2 detect_Filter_Clear_C [.tmp 4]
theorem detect_Filter_Clear_F_eq : RefEq ctx 2 detect_Filter_Clear_C [.tmp 4] detect_Filter_Clear_F := ref_eq _ _ _ _
theorem detect_Filter_Clear_call : RefCall ctx 107 detect_Filter_Clear_F := ref_called rfl (show ctx.info 107 = some detect_Filter_Clear_I by kernel_rfl)
noncomputable def train_Register_those_F := refE ctx 3 train_Register_those_C [.tmp 6]
theorem train_Register_those_F_eq : RefEq ctx 3 train_Register_those_C [.tmp 6] train_Register_those_F := ref_eq _ _ _ _
theorem train_Register_those_call : RefCall ctx 114 train_Register_those_F := ref_called rfl (show ctx.info 114 = some train_Register_those_I by kernel_rfl)
noncomputable def graph_Graph_Part_F := fzE ctx false 2 graph_Graph_Part_C [.tmp 4]
theorem graph_Graph_Part_F_eq : FzEq ctx false 2 graph_Graph_Part_C [.tmp 4] graph_Graph_Part_F := fz_eq _ _ _ _ _
theorem graph_Graph_Part_call : FzCall ctx 122 graph_Graph_Part_F := fz_called rfl (show ctx.info 122 = some graph_Graph_Part_I by kernel_rfl)
noncomputable def state_one_F := fzE ctx false 3 state_one_C [.tmp 6]
theorem state_one_F_eq : FzEq ctx false 3 state_one_C [.tmp 6] state_one_F := fz_eq _ _ _ _ _
theorem state_one_call : FzCall ctx 123 state_one_F := fz_called rfl (show ctx.info 123 = some state_one_I by kernel_rfl)
noncomputable def slices_DeleteFunc_pLock_F := refE ctx 2 slices_DeleteFunc_pLock_C [.tmp 4]
theorem slices_DeleteFunc_pLock_F_eq : RefEq ctx 2 slices_DeleteFunc_pLock_C [.tmp 4] slices_DeleteFunc_pLock_F := ref_eq _ _ _ _
theorem slices_DeleteFunc_pLock_call : RefCall ctx 127 slices_DeleteFunc_pLock_F := ref_called rfl (show ctx.info 127 = some slices_DeleteFunc_pLock_I by kernel_rfl)
noncomputable def state_Kind_F := fzE ctx false 2 state_Kind_C [.tmp 4]
theorem state_Kind_F_eq : FzEq ctx false 2 state_Kind_C [.tmp 4] state_Kind_F := fz_eq _ _ _ _ _
theorem state_Kind_call : FzCall ctx 132 state_Kind_F := fz_called rfl (show ctx.info 132 = some state_Kind_I by kernel_rfl)
noncomputable def maps_Keys_Train_F := refE ctx 1 maps_Keys_Train_C [.tmp 2]
theorem maps_Keys_Train_F_eq : RefEq ctx 1 maps_Keys_Train_C [.tmp 2] maps_Keys_Train_F := ref_eq _ _ _ _
theorem maps_Keys_Train_call : RefCall ctx 138 maps_Keys_Train_F := ref_called rfl (show ctx.info 138 = some maps_Keys_Train_I by kernel_rfl)
noncomputable def crc_Close_F := fzE ctx false 1 crc_Close_C [.tmp 2]
theorem crc_Close_F_eq : FzEq ctx false 1 crc_Close_C [.tmp 2] crc_Close_F := fz_eq _ _ _ _ _
theorem crc_Close_call : FzCall ctx 135 crc_Close_F := fz_called rfl (show ctx.info 135 = some crc_Close_I by kernel_rfl)
noncomputable def bytes_Clone_F := oE ctx 1 bytes_Clone_C [.tmp 2]
theorem bytes_Clone_F_eq : OwnEq ctx 1 bytes_Clone_C [.tmp 2] bytes_Clone_F := own_eq _ _ _ _
theorem bytes_Clone_call : FzCall ctx 154 bytes_Clone_F := own_called rfl (show ctx.info 154 = some bytes_Clone_I by kernel_rfl)
noncomputable def bytes_Equal_F := fzE ctx false 2 bytes_Equal_C [.tmp 4]
theorem bytes_Equal_F_eq : FzEq ctx false 2 bytes_Equal_C [.tmp 4] bytes_Equal_F := fz_eq _ _ _ _ _
theorem bytes_Equal_call : FzCall ctx 155 bytes_Equal_F := fz_called rfl (show ctx.info 155 = some bytes_Equal_I by kernel_rfl)
noncomputable def bits_held_F := fzE ctx false 1 bits_held_C [.tmp 2]
theorem bits_held_F_eq : FzEq ctx false 1 bits_held_C [.tmp 2] bits_held_F := fz_eq _ _ _ _ _
theorem bits_held_call : FzCall ctx 156 bits_held_F := fz_called rfl (show ctx.info 156 = some bits_held_I by kernel_rfl)
noncomputable def layout_list_Ints_F := refE ctx 2 layout_list_Ints_C [.tmp 4]
theorem layout_list_Ints_F_eq : RefEq ctx 2 layout_list_Ints_C [.tmp 4] layout_list_Ints_F := ref_eq _ _ _ _
theorem layout_list_Ints_call : RefCall ctx 157 layout_list_Ints_F := ref_called rfl (show ctx.info 157 = some layout_list_Ints_I by kernel_rfl)
noncomputable def layout_nested_1_F := refE ctx 1 layout_nested_1_C [.tmp 1]
theorem layout_nested_1_F_eq : RefEq ctx 1 layout_nested_1_C [.tmp 1] layout_nested_1_F := ref_eq _ _ _ _
theorem layout_nested_1_call : RefCall ctx 158 layout_nested_1_F := ref_called rfl (show ctx.info 158 = some layout_nested_1_I by kernel_rfl)
noncomputable def layout_list_int_F := refE ctx 2 layout_list_int_C [.tmp 4]
theorem layout_list_int_F_eq : RefEq ctx 2 layout_list_int_C [.tmp 4] layout_list_int_F := ref_eq _ _ _ _
theorem layout_list_int_call : RefCall ctx 159 layout_list_int_F := ref_called rfl (show ctx.info 159 = some layout_list_int_I by kernel_rfl)
noncomputable def layout_nested_1_1_F := refE ctx 1 layout_nested_1_1_C [.tmp 1]
theorem layout_nested_1_1_F_eq : RefEq ctx 1 layout_nested_1_1_C [.tmp 1] layout_nested_1_1_F := ref_eq _ _ _ _
theorem layout_nested_1_1_call : RefCall ctx 160 layout_nested_1_1_F := ref_called rfl (show ctx.info 160 = some layout_nested_1_1_I by kernel_rfl)
noncomputable def verify_judge_rules_F := fzE ctx false 1 verify_judge_rules_C [.tmp 2]
theorem verify_judge_rules_F_eq : FzEq ctx false 1 verify_judge_rules_C [.tmp 2] verify_judge_rules_F := fz_eq _ _ _ _ _
theorem verify_judge_rules_call : FzCall ctx 161 verify_judge_rules_F := fz_called rfl (show ctx.info 161 = some verify_judge_rules_I by kernel_rfl)
noncomputable def verify_rule_broken_F := fzE ctx false 1 verify_rule_broken_C [.tmp 2]
theorem verify_rule_broken_F_eq : FzEq ctx false 1 verify_rule_broken_C [.tmp 2] verify_rule_broken_F := fz_eq _ _ _ _ _
theorem verify_rule_broken_call : FzCall ctx 162 verify_rule_broken_F := fz_called rfl (show ctx.info 162 = some verify_rule_broken_I by kernel_rfl)
noncomputable def math_bits_Mul64_F := fzE ctx false 2 math_bits_Mul64_C [.tmp 4, .tmp 5]
theorem math_bits_Mul64_F_eq : FzEq ctx false 2 math_bits_Mul64_C [.tmp 4, .tmp 5] math_bits_Mul64_F := fz_eq _ _ _ _ _
theorem math_bits_Mul64_call : FzCall ctx 167 math_bits_Mul64_F := fz_called rfl (show ctx.info 167 = some math_bits_Mul64_I by kernel_rfl)
noncomputable def detect_Filter_Count_F := refE ctx 2 detect_Filter_Count_C [.tmp 4]
theorem detect_Filter_Count_F_eq : RefEq ctx 2 detect_Filter_Count_C [.tmp 4] detect_Filter_Count_F := ref_eq _ _ _ _
theorem detect_Filter_Count_call : RefCall ctx 173 detect_Filter_Count_F := ref_called rfl (show ctx.info 173 = some detect_Filter_Count_I by kernel_rfl)
noncomputable def slices_IndexFunc_int_F := fzE ctx false 2 slices_IndexFunc_int_C [.tmp 4]
theorem slices_IndexFunc_int_F_eq : FzEq ctx false 2 slices_IndexFunc_int_C [.tmp 4] slices_IndexFunc_int_F := fz_eq _ _ _ _ _
theorem slices_IndexFunc_int_call : FzCall ctx 181 slices_IndexFunc_int_F := fz_called rfl (show ctx.info 181 = some slices_IndexFunc_int_I by kernel_rfl)
noncomputable def graph_Graph_Part_1_F := fzE ctx false 2 graph_Graph_Part_1_C [.tmp 3]
theorem graph_Graph_Part_1_F_eq : FzEq ctx false 2 graph_Graph_Part_1_C [.tmp 3] graph_Graph_Part_1_F := fz_eq _ _ _ _ _
theorem graph_Graph_Part_1_call : FzCall ctx 182 graph_Graph_Part_1_F := fz_called rfl (show ctx.info 182 = some graph_Graph_Part_1_I by kernel_rfl)
noncomputable def slices_Contains_int_F := fzE ctx false 2 slices_Contains_int_C [.tmp 4]
theorem slices_Contains_int_F_eq : FzEq ctx false 2 slices_Contains_int_C [.tmp 4] slices_Contains_int_F := fz_eq _ _ _ _ _
theorem slices_Contains_int_call : FzCall ctx 183 slices_Contains_int_F := fz_called rfl (show ctx.info 183 = some slices_Contains_int_I by kernel_rfl)
noncomputable def slices_IndexFunc_pLock_F := refE ctx 2 slices_IndexFunc_pLock_C [.tmp 4]
theorem slices_IndexFunc_pLock_F_eq : RefEq ctx 2 slices_IndexFunc_pLock_C [.tmp 4] slices_IndexFunc_pLock_F := ref_eq _ _ _ _
theorem slices_IndexFunc_pLock_call : RefCall ctx 200 slices_IndexFunc_pLock_F := ref_called rfl (show ctx.info 200 = some slices_IndexFunc_pLock_I by kernel_rfl)
noncomputable def crc_Of_F := fzE ctx false 1 crc_Of_C [.tmp 2]
theorem crc_Of_F_eq : FzEq ctx false 1 crc_Of_C [.tmp 2] crc_Of_F := fz_eq _ _ _ _ _
theorem crc_Of_call : FzCall ctx 208 crc_Of_F := fz_called rfl (show ctx.info 208 = some crc_Of_I by kernel_rfl)
noncomputable def verify_judge_rules_1_F := fzE ctx false 2 verify_judge_rules_1_C [.tmp 3]
theorem verify_judge_rules_1_F_eq : FzEq ctx false 2 verify_judge_rules_1_C [.tmp 3] verify_judge_rules_1_F := fz_eq _ _ _ _ _
theorem verify_judge_rules_1_call : FzCall ctx 216 verify_judge_rules_1_F := fz_called rfl (show ctx.info 216 = some verify_judge_rules_1_I by kernel_rfl)
noncomputable def plane_Place_F := fzE ctx false 1 plane_Place_C [.tmp 2]
theorem plane_Place_F_eq : FzEq ctx false 1 plane_Place_C [.tmp 2] plane_Place_F := fz_eq _ _ _ _ _
theorem plane_Place_call : FzCall ctx 217 plane_Place_F := fz_called rfl (show ctx.info 217 = some plane_Place_I by kernel_rfl)
noncomputable def slices_Contains_complex128_F := fzE ctx false 2 slices_Contains_complex128_C [.tmp 4]
theorem slices_Contains_complex128_F_eq : FzEq ctx false 2 slices_Contains_complex128_C [.tmp 4] slices_Contains_complex128_F := fz_eq _ _ _ _ _
theorem slices_Contains_complex128_call : FzCall ctx 218 slices_Contains_complex128_F := fz_called rfl (show ctx.info 218 = some slices_Contains_complex128_I by kernel_rfl)
noncomputable def verify_one_F := fzE ctx false 1 verify_one_C [.cell 2 true 2]
theorem verify_one_F_eq : FzEq ctx false 1 verify_one_C [.cell 2 true 2] verify_one_F := fz_eq _ _ _ _ _
theorem verify_one_call : FzCall ctx 219 verify_one_F := fz_called rfl (show ctx.info 219 = some verify_one_I by kernel_rfl)
noncomputable def verify_within_int_F := fzE ctx false 3 verify_within_int_C [.tmp 6]
theorem verify_within_int_F_eq : FzEq ctx false 3 verify_within_int_C [.tmp 6] verify_within_int_F := fz_eq _ _ _ _ _
theorem verify_within_int_call : FzCall ctx 220 verify_within_int_F := fz_called rfl (show ctx.info 220 = some verify_within_int_I by kernel_rfl)
noncomputable def verify_judge_section_F := fzE ctx false 2 verify_judge_section_C [.tmp 4]
theorem verify_judge_section_F_eq : FzEq ctx false 2 verify_judge_section_C [.tmp 4] verify_judge_section_F := fz_eq _ _ _ _ _
theorem verify_judge_section_call : FzCall ctx 221 verify_judge_section_F := fz_called rfl (show ctx.info 221 = some verify_judge_section_I by kernel_rfl)
noncomputable def verify_judge_rules_2_F := fzE ctx false 2 verify_judge_rules_2_C [.tmp 3]
theorem verify_judge_rules_2_F_eq : FzEq ctx false 2 verify_judge_rules_2_C [.tmp 3] verify_judge_rules_2_F := fz_eq _ _ _ _ _
theorem verify_judge_rules_2_call : FzCall ctx 222 verify_judge_rules_2_F := fz_called rfl (show ctx.info 222 = some verify_judge_rules_2_I by kernel_rfl)
noncomputable def verify_judge_times_F := fzE ctx false 1 verify_judge_times_C [.tmp 2]
theorem verify_judge_times_F_eq : FzEq ctx false 1 verify_judge_times_C [.tmp 2] verify_judge_times_F := fz_eq _ _ _ _ _
theorem verify_judge_times_call : FzCall ctx 223 verify_judge_times_F := fz_called rfl (show ctx.info 223 = some verify_judge_times_I by kernel_rfl)
noncomputable def verify_judge_rules_3_F := fzE ctx false 2 verify_judge_rules_3_C [.tmp 3]
theorem verify_judge_rules_3_F_eq : FzEq ctx false 2 verify_judge_rules_3_C [.tmp 3] verify_judge_rules_3_F := fz_eq _ _ _ _ _
theorem verify_judge_rules_3_call : FzCall ctx 224 verify_judge_rules_3_F := fz_called rfl (show ctx.info 224 = some verify_judge_rules_3_I by kernel_rfl)
noncomputable def graph_Graph_Ends_F := oE ctx 2 graph_Graph_Ends_C [.tmp 4]
theorem graph_Graph_Ends_F_eq : OwnEq ctx 2 graph_Graph_Ends_C [.tmp 4] graph_Graph_Ends_F := own_eq _ _ _ _
theorem graph_Graph_Ends_call : FzCall ctx 225 graph_Graph_Ends_F := own_called rfl (show ctx.info 225 = some graph_Graph_Ends_I by kernel_rfl)
noncomputable def verify_judge_points_F := fzE ctx false 2 verify_judge_points_C [.tmp 4]
theorem verify_judge_points_F_eq : FzEq ctx false 2 verify_judge_points_C [.tmp 4] verify_judge_points_F := fz_eq _ _ _ _ _
theorem verify_judge_points_call : FzCall ctx 227 verify_judge_points_F := fz_called rfl (show ctx.info 227 = some verify_judge_points_I by kernel_rfl)
noncomputable def verify_judge_goes_F := fzE ctx false 2 verify_judge_goes_C [.tmp 4]
theorem verify_judge_goes_F_eq : FzEq ctx false 2 verify_judge_goes_C [.tmp 4] verify_judge_goes_F := fz_eq _ _ _ _ _
theorem verify_judge_goes_call : FzCall ctx 228 verify_judge_goes_F := fz_called rfl (show ctx.info 228 = some verify_judge_goes_I by kernel_rfl)
noncomputable def verify_judge_part_F := fzE ctx false 2 verify_judge_part_C [.tmp 4]
theorem verify_judge_part_F_eq : FzEq ctx false 2 verify_judge_part_C [.tmp 4] verify_judge_part_F := fz_eq _ _ _ _ _
theorem verify_judge_part_call : FzCall ctx 229 verify_judge_part_F := fz_called rfl (show ctx.info 229 = some verify_judge_part_I by kernel_rfl)
noncomputable def verify_judge_once_F := fzE ctx false 2 verify_judge_once_C [.tmp 4]
theorem verify_judge_once_F_eq : FzEq ctx false 2 verify_judge_once_C [.tmp 4] verify_judge_once_F := fz_eq _ _ _ _ _
theorem verify_judge_once_call : FzCall ctx 230 verify_judge_once_F := fz_called rfl (show ctx.info 230 = some verify_judge_once_I by kernel_rfl)
noncomputable def slices_Index_int_F := fzE ctx false 2 slices_Index_int_C [.tmp 4]
theorem slices_Index_int_F_eq : FzEq ctx false 2 slices_Index_int_C [.tmp 4] slices_Index_int_F := fz_eq _ _ _ _ _
theorem slices_Index_int_call : FzCall ctx 245 slices_Index_int_F := fz_called rfl (show ctx.info 245 = some slices_Index_int_I by kernel_rfl)
noncomputable def slices_ContainsFunc_int_F := fzE ctx false 2 slices_ContainsFunc_int_C [.tmp 4]
theorem slices_ContainsFunc_int_F_eq : FzEq ctx false 2 slices_ContainsFunc_int_C [.tmp 4] slices_ContainsFunc_int_F := fz_eq _ _ _ _ _
theorem slices_ContainsFunc_int_call : FzCall ctx 249 slices_ContainsFunc_int_F := fz_called rfl (show ctx.info 249 = some slices_ContainsFunc_int_I by kernel_rfl)
noncomputable def plane_whole_F := fzE ctx false 1 plane_whole_C [.tmp 2]
theorem plane_whole_F_eq : FzEq ctx false 1 plane_whole_C [.tmp 2] plane_whole_F := fz_eq _ _ _ _ _
theorem plane_whole_call : FzCall ctx 269 plane_whole_F := fz_called rfl (show ctx.info 269 = some plane_whole_I by kernel_rfl)
noncomputable def slices_Index_complex128_F := fzE ctx false 2 slices_Index_complex128_C [.tmp 4]
theorem slices_Index_complex128_F_eq : FzEq ctx false 2 slices_Index_complex128_C [.tmp 4] slices_Index_complex128_F := fz_eq _ _ _ _ _
theorem slices_Index_complex128_call : FzCall ctx 270 slices_Index_complex128_F := fz_called rfl (show ctx.info 270 = some slices_Index_complex128_I by kernel_rfl)
noncomputable def verify_one_1_F := fzE ctx false 2 verify_one_1_C [.tmp 3]
theorem verify_one_1_F_eq : FzEq ctx false 2 verify_one_1_C [.tmp 3] verify_one_1_F := fz_eq _ _ _ _ _
theorem verify_one_1_call : FzCall ctx 271 verify_one_1_F := fz_called rfl (show ctx.info 271 = some verify_one_1_I by kernel_rfl)
noncomputable def verify_judge_node_F := fzE ctx false 2 verify_judge_node_C [.tmp 4]
theorem verify_judge_node_F_eq : FzEq ctx false 2 verify_judge_node_C [.tmp 4] verify_judge_node_F := fz_eq _ _ _ _ _
theorem verify_judge_node_call : FzCall ctx 272 verify_judge_node_F := fz_called rfl (show ctx.info 272 = some verify_judge_node_I by kernel_rfl)
noncomputable def plane_Fits_F := fzE ctx false 3 plane_Fits_C [.tmp 6]
theorem plane_Fits_F_eq : FzEq ctx false 3 plane_Fits_C [.tmp 6] plane_Fits_F := fz_eq _ _ _ _ _
theorem plane_Fits_call : FzCall ctx 273 plane_Fits_F := fz_called rfl (show ctx.info 273 = some plane_Fits_I by kernel_rfl)
noncomputable def verify_within_int64_F := fzE ctx false 3 verify_within_int64_C [.tmp 6]
theorem verify_within_int64_F_eq : FzEq ctx false 3 verify_within_int64_C [.tmp 6] verify_within_int64_F := fz_eq _ _ _ _ _
theorem verify_within_int64_call : FzCall ctx 274 verify_within_int64_F := fz_called rfl (show ctx.info 274 = some verify_within_int64_I by kernel_rfl)
noncomputable def graph_Graph_section_F := fzE ctx false 2 graph_Graph_section_C [.cell 4 true 3, .tmp 5]
theorem graph_Graph_section_F_eq : FzEq ctx false 2 graph_Graph_section_C [.cell 4 true 3, .tmp 5] graph_Graph_section_F := fz_eq _ _ _ _ _
theorem graph_Graph_section_call : FzCall ctx 275 graph_Graph_section_F := fz_called rfl (show ctx.info 275 = some graph_Graph_section_I by kernel_rfl)
noncomputable def graph_Graph_Point_F := fzE ctx false 2 graph_Graph_Point_C [.tmp 4]
theorem graph_Graph_Point_F_eq : FzEq ctx false 2 graph_Graph_Point_C [.tmp 4] graph_Graph_Point_F := fz_eq _ _ _ _ _
theorem graph_Graph_Point_call : FzCall ctx 276 graph_Graph_Point_F := fz_called rfl (show ctx.info 276 = some graph_Graph_Point_I by kernel_rfl)
noncomputable def verify_judge_on_F := fzE ctx false 4 verify_judge_on_C [.tmp 8]
theorem verify_judge_on_F_eq : FzEq ctx false 4 verify_judge_on_C [.tmp 8] verify_judge_on_F := fz_eq _ _ _ _ _
theorem verify_judge_on_call : FzCall ctx 277 verify_judge_on_F := fz_called rfl (show ctx.info 277 = some verify_judge_on_I by kernel_rfl)
noncomputable def verify_judge_part_1_F := fzE ctx false 2 verify_judge_part_1_C [.tmp 3]
theorem verify_judge_part_1_F_eq : FzEq ctx false 2 verify_judge_part_1_C [.tmp 3] verify_judge_part_1_F := fz_eq _ _ _ _ _
theorem verify_judge_part_1_call : FzCall ctx 278 verify_judge_part_1_F := fz_called rfl (show ctx.info 278 = some verify_judge_part_1_I by kernel_rfl)
noncomputable def slices_IndexFunc_Int_F := fzE ctx false 2 slices_IndexFunc_Int_C [.tmp 4]
theorem slices_IndexFunc_Int_F_eq : FzEq ctx false 2 slices_IndexFunc_Int_C [.tmp 4] slices_IndexFunc_Int_F := fz_eq _ _ _ _ _
theorem slices_IndexFunc_Int_call : FzCall ctx 286 slices_IndexFunc_Int_F := fz_called rfl (show ctx.info 286 = some slices_IndexFunc_Int_I by kernel_rfl)
noncomputable def plane_Square_F := fzE ctx false 1 plane_Square_C [.tmp 2]
theorem plane_Square_F_eq : FzEq ctx false 1 plane_Square_C [.tmp 2] plane_Square_F := fz_eq _ _ _ _ _
theorem plane_Square_call : FzCall ctx 303 plane_Square_F := fz_called rfl (show ctx.info 303 = some plane_Square_I by kernel_rfl)
noncomputable def slices_IndexFunc_Point_F := fzE ctx false 2 slices_IndexFunc_Point_C [.tmp 4]
theorem slices_IndexFunc_Point_F_eq : FzEq ctx false 2 slices_IndexFunc_Point_C [.tmp 4] slices_IndexFunc_Point_F := fz_eq _ _ _ _ _
theorem slices_IndexFunc_Point_call : FzCall ctx 304 slices_IndexFunc_Point_F := fz_called rfl (show ctx.info 304 = some slices_IndexFunc_Point_I by kernel_rfl)
noncomputable def plane_Ahead_F := fzE ctx false 3 plane_Ahead_C [.tmp 6]
theorem plane_Ahead_F_eq : FzEq ctx false 3 plane_Ahead_C [.tmp 6] plane_Ahead_F := fz_eq _ _ _ _ _
theorem plane_Ahead_call : FzCall ctx 306 plane_Ahead_F := fz_called rfl (show ctx.info 306 = some plane_Ahead_I by kernel_rfl)
noncomputable def verify_judge_other_F := fzE ctx false 3 verify_judge_other_C [.tmp 6]
theorem verify_judge_other_F_eq : FzEq ctx false 3 verify_judge_other_C [.tmp 6] verify_judge_other_F := fz_eq _ _ _ _ _
theorem verify_judge_other_call : FzCall ctx 307 verify_judge_other_F := fz_called rfl (show ctx.info 307 = some verify_judge_other_I by kernel_rfl)
noncomputable def plane_Dot_F := fzE ctx false 2 plane_Dot_C [.tmp 4]
theorem plane_Dot_F_eq : FzEq ctx false 2 plane_Dot_C [.tmp 4] plane_Dot_F := fz_eq _ _ _ _ _
theorem plane_Dot_call : FzCall ctx 324 plane_Dot_F := fz_called rfl (show ctx.info 324 = some plane_Dot_I by kernel_rfl)
noncomputable def plane_turned_F := fzE ctx false 2 plane_turned_C [.tmp 4]
theorem plane_turned_F_eq : FzEq ctx false 2 plane_turned_C [.tmp 4] plane_turned_F := fz_eq _ _ _ _ _
theorem plane_turned_call : FzCall ctx 328 plane_turned_F := fz_called rfl (show ctx.info 328 = some plane_turned_I by kernel_rfl)
noncomputable def layout_Decode_3_F := refE ctx 1 layout_Decode_3_C [.cell 1 true 4]
theorem layout_Decode_3_F_eq : RefEq ctx 1 layout_Decode_3_C [.cell 1 true 4] layout_Decode_3_F := ref_eq _ _ _ _
theorem layout_Decode_3_call : RefCall ctx 85 layout_Decode_3_F := ref_called rfl (show ctx.info 85 = some layout_Decode_3_I by kernel_rfl)
noncomputable def image_Decode_F := fzE ctx false 1 image_Decode_C [.tmp 2, .tmp 3]
theorem image_Decode_F_eq : FzEq ctx false 1 image_Decode_C [.tmp 2, .tmp 3] image_Decode_F := fz_eq _ _ _ _ _
theorem image_Decode_call : FzCall ctx 90 image_Decode_F := fz_called rfl (show ctx.info 90 = some image_Decode_I by kernel_rfl)
noncomputable def route_Table_Load_F := refE ctx 2 route_Table_Load_C [.tmp 4]
theorem route_Table_Load_F_eq : RefEq ctx 2 route_Table_Load_C [.tmp 4] route_Table_Load_F := ref_eq _ _ _ _
theorem route_Table_Load_call : RefCall ctx 91 route_Table_Load_F := ref_called rfl (show ctx.info 91 = some route_Table_Load_I by kernel_rfl)
noncomputable def route_Table_Anew_F := refE ctx 2 route_Table_Anew_C []
theorem route_Table_Anew_F_eq : RefEq ctx 2 route_Table_Anew_C [] route_Table_Anew_F := ref_eq _ _ _ _
theorem route_Table_Anew_call : RefCall ctx 92 route_Table_Anew_F := ref_called rfl (show ctx.info 92 = some route_Table_Anew_I by kernel_rfl)
noncomputable def route_over_F := fzE ctx false 1 route_over_C [.tmp 2]
theorem route_over_F_eq : FzEq ctx false 1 route_over_C [.tmp 2] route_over_F := fz_eq _ _ _ _ _
theorem route_over_call : FzCall ctx 129 route_over_F := fz_called rfl (show ctx.info 129 = some route_over_I by kernel_rfl)
noncomputable def slices_Equal_int_F := fzE ctx false 2 slices_Equal_int_C [.tmp 4]
theorem slices_Equal_int_F_eq : FzEq ctx false 2 slices_Equal_int_C [.tmp 4] slices_Equal_int_F := fz_eq _ _ _ _ _
theorem slices_Equal_int_call : FzCall ctx 131 slices_Equal_int_F := fz_called rfl (show ctx.info 131 = some slices_Equal_int_I by kernel_rfl)
noncomputable def image_lock_F := refE ctx 1 image_lock_C [.cell 2 true 4]
theorem image_lock_F_eq : RefEq ctx 1 image_lock_C [.cell 2 true 4] image_lock_F := ref_eq _ _ _ _
theorem image_lock_call : RefCall ctx 163 image_lock_F := ref_called rfl (show ctx.info 163 = some image_lock_I by kernel_rfl)
noncomputable def bits_Reader_End_F := refE ctx 1 bits_Reader_End_C [.tmp 2]
theorem bits_Reader_End_F_eq : RefEq ctx 1 bits_Reader_End_C [.tmp 2] bits_Reader_End_F := ref_eq _ _ _ _
theorem bits_Reader_End_call : RefCall ctx 164 bits_Reader_End_F := ref_called rfl (show ctx.info 164 = some bits_Reader_End_I by kernel_rfl)
noncomputable def route_Table_fits_F := refE ctx 2 route_Table_fits_C [.tmp 4]
theorem route_Table_fits_F_eq : RefEq ctx 2 route_Table_fits_C [.tmp 4] route_Table_fits_F := ref_eq _ _ _ _
theorem route_Table_fits_call : RefCall ctx 165 route_Table_fits_F := ref_called rfl (show ctx.info 165 = some route_Table_fits_I by kernel_rfl)
noncomputable def math_bits_Mul32_F := fzE ctx false 2 math_bits_Mul32_C [.tmp 4, .tmp 5]
theorem math_bits_Mul32_F_eq : FzEq ctx false 2 math_bits_Mul32_C [.tmp 4, .tmp 5] math_bits_Mul32_F := fz_eq _ _ _ _ _
theorem math_bits_Mul32_call : FzCall ctx 166 math_bits_Mul32_F := fz_called rfl (show ctx.info 166 = some math_bits_Mul32_I by kernel_rfl)
noncomputable def route_Table_has_F := refE ctx 2 route_Table_has_C [.tmp 4]
theorem route_Table_has_F_eq : RefEq ctx 2 route_Table_has_C [.tmp 4] route_Table_has_F := ref_eq _ _ _ _
theorem route_Table_has_call : RefCall ctx 186 route_Table_has_F := ref_called rfl (show ctx.info 186 = some route_Table_has_I by kernel_rfl)
noncomputable def route_Table_find_F := refE ctx 2 route_Table_find_C [.tmp 4]
theorem route_Table_find_F_eq : RefEq ctx 2 route_Table_find_C [.tmp 4] route_Table_find_F := ref_eq _ _ _ _
theorem route_Table_find_call : RefCall ctx 187 route_Table_find_F := ref_called rfl (show ctx.info 187 = some route_Table_find_I by kernel_rfl)
noncomputable def graph_Graph_Path_F := fzE ctx false 2 graph_Graph_Path_C [.tmp 4, .tmp 5]
theorem graph_Graph_Path_F_eq : FzEq ctx false 2 graph_Graph_Path_C [.tmp 4, .tmp 5] graph_Graph_Path_F := fz_eq _ _ _ _ _
theorem graph_Graph_Path_call : FzCall ctx 189 graph_Graph_Path_F := fz_called rfl (show ctx.info 189 = some graph_Graph_Path_I by kernel_rfl)
noncomputable def route_Table_pieces_F := refE ctx 2 route_Table_pieces_C [.tmp 4]
theorem route_Table_pieces_F_eq : RefEq ctx 2 route_Table_pieces_C [.tmp 4] route_Table_pieces_F := ref_eq _ _ _ _
theorem route_Table_pieces_call : RefCall ctx 196 route_Table_pieces_F := ref_called rfl (show ctx.info 196 = some route_Table_pieces_I by kernel_rfl)
noncomputable def verify_judge_point_F := fzE ctx false 2 verify_judge_point_C [.tmp 4]
theorem verify_judge_point_F_eq : FzEq ctx false 2 verify_judge_point_C [.tmp 4] verify_judge_point_F := fz_eq _ _ _ _ _
theorem verify_judge_point_call : FzCall ctx 226 verify_judge_point_F := fz_called rfl (show ctx.info 226 = some verify_judge_point_I by kernel_rfl)
noncomputable def verify_judge_route_F := fzE ctx false 2 verify_judge_route_C [.tmp 4]
theorem verify_judge_route_F_eq : FzEq ctx false 2 verify_judge_route_C [.tmp 4] verify_judge_route_F := fz_eq _ _ _ _ _
theorem verify_judge_route_call : FzCall ctx 231 verify_judge_route_F := fz_called rfl (show ctx.info 231 = some verify_judge_route_I by kernel_rfl)
noncomputable def bits_Reader_Flag_F := refE ctx 1 bits_Reader_Flag_C [.tmp 2]
theorem bits_Reader_Flag_F_eq : RefEq ctx 1 bits_Reader_Flag_C [.tmp 2] bits_Reader_Flag_F := ref_eq _ _ _ _
theorem bits_Reader_Flag_call : RefCall ctx 232 bits_Reader_Flag_F := ref_called rfl (show ctx.info 232 = some bits_Reader_Flag_I by kernel_rfl)
noncomputable def route_Table_Whose_F := refE ctx 2 route_Table_Whose_C [.tmp 4]
theorem route_Table_Whose_F_eq : RefEq ctx 2 route_Table_Whose_C [.tmp 4] route_Table_Whose_F := ref_eq _ _ _ _
theorem route_Table_Whose_call : RefCall ctx 233 route_Table_Whose_F := ref_called rfl (show ctx.info 233 = some route_Table_Whose_I by kernel_rfl)
noncomputable def graph_Graph_Around_F := fzE ctx false 2 graph_Graph_Around_C [.tmp 4]
theorem graph_Graph_Around_F_eq : FzEq ctx false 2 graph_Graph_Around_C [.tmp 4] graph_Graph_Around_F := fz_eq _ _ _ _ _
theorem graph_Graph_Around_call : FzCall ctx 242 graph_Graph_Around_F := fz_called rfl (show ctx.info 242 = some graph_Graph_Around_I by kernel_rfl)
noncomputable def slices_IndexFunc_End_F := fzE ctx false 2 slices_IndexFunc_End_C [.tmp 4]
theorem slices_IndexFunc_End_F_eq : FzEq ctx false 2 slices_IndexFunc_End_C [.tmp 4] slices_IndexFunc_End_F := fz_eq _ _ _ _ _
theorem slices_IndexFunc_End_call : FzCall ctx 243 slices_IndexFunc_End_F := fz_called rfl (show ctx.info 243 = some slices_IndexFunc_End_I by kernel_rfl)
noncomputable def slices_Compact_int_F := refE ctx 1 slices_Compact_int_C [.tmp 2]
theorem slices_Compact_int_F_eq : RefEq ctx 1 slices_Compact_int_C [.tmp 2] slices_Compact_int_F := ref_eq _ _ _ _
theorem slices_Compact_int_call : RefCall ctx 248 slices_Compact_int_F := ref_called rfl (show ctx.info 248 = some slices_Compact_int_I by kernel_rfl)
noncomputable def route_Table_find_1_F := refE ctx 2 route_Table_find_1_C [.tmp 3]
theorem route_Table_find_1_F_eq : RefEq ctx 2 route_Table_find_1_C [.tmp 3] route_Table_find_1_F := ref_eq _ _ _ _
theorem route_Table_find_1_call : RefCall ctx 251 route_Table_find_1_F := ref_called rfl (show ctx.info 251 = some route_Table_find_1_I by kernel_rfl)
noncomputable def graph_Graph_way_F := fzE ctx false 3 graph_Graph_way_C [.tmp 6, .tmp 7]
theorem graph_Graph_way_F_eq : FzEq ctx false 3 graph_Graph_way_C [.tmp 6, .tmp 7] graph_Graph_way_F := fz_eq _ _ _ _ _
theorem graph_Graph_way_call : FzCall ctx 253 graph_Graph_way_F := fz_called rfl (show ctx.info 253 = some graph_Graph_way_I by kernel_rfl)
noncomputable def graph_Graph_node_F := fzE ctx false 2 graph_Graph_node_C [.tmp 4, .tmp 5]
theorem graph_Graph_node_F_eq : FzEq ctx false 2 graph_Graph_node_C [.tmp 4, .tmp 5] graph_Graph_node_F := fz_eq _ _ _ _ _
theorem graph_Graph_node_call : FzCall ctx 279 graph_Graph_node_F := fz_called rfl (show ctx.info 279 = some graph_Graph_node_I by kernel_rfl)
noncomputable def slices_DeleteFunc_End_F := refE ctx 2 slices_DeleteFunc_End_C [.tmp 4]
theorem slices_DeleteFunc_End_F_eq : RefEq ctx 2 slices_DeleteFunc_End_C [.tmp 4] slices_DeleteFunc_End_F := ref_eq _ _ _ _
theorem slices_DeleteFunc_End_call : RefCall ctx 280 slices_DeleteFunc_End_F := ref_called rfl (show ctx.info 280 = some slices_DeleteFunc_End_I by kernel_rfl)
noncomputable def graph_Graph_Around_1_F := fzE ctx false 2 graph_Graph_Around_1_C [.tmp 3]
theorem graph_Graph_Around_1_F_eq : FzEq ctx false 2 graph_Graph_Around_1_C [.tmp 3] graph_Graph_Around_1_F := fz_eq _ _ _ _ _
theorem graph_Graph_Around_1_call : FzCall ctx 281 graph_Graph_Around_1_F := fz_called rfl (show ctx.info 281 = some graph_Graph_Around_1_I by kernel_rfl)
noncomputable def slices_Concat_End_F := fzE ctx false 1 slices_Concat_End_C [.tmp 2]
theorem slices_Concat_End_F_eq : FzEq ctx false 1 slices_Concat_End_C [.tmp 2] slices_Concat_End_F := fz_eq _ _ _ _ _
theorem slices_Concat_End_call : FzCall ctx 282 slices_Concat_End_F := fz_called rfl (show ctx.info 282 = some slices_Concat_End_I by kernel_rfl)
noncomputable def graph_Graph_at_F := fzE ctx false 3 graph_Graph_at_C [.tmp 6]
theorem graph_Graph_at_F_eq : FzEq ctx false 3 graph_Graph_at_C [.tmp 6] graph_Graph_at_F := fz_eq _ _ _ _ _
theorem graph_Graph_at_call : FzCall ctx 283 graph_Graph_at_F := fz_called rfl (show ctx.info 283 = some graph_Graph_at_I by kernel_rfl)
noncomputable def graph_Graph_way_1_F := fzE ctx false 2 graph_Graph_way_1_C [.tmp 3]
theorem graph_Graph_way_1_F_eq : FzEq ctx false 2 graph_Graph_way_1_C [.tmp 3] graph_Graph_way_1_F := fz_eq _ _ _ _ _
theorem graph_Graph_way_1_call : FzCall ctx 287 graph_Graph_way_1_F := fz_called rfl (show ctx.info 287 = some graph_Graph_way_1_I by kernel_rfl)
noncomputable def graph_Graph_need_F := fzE ctx false 3 graph_Graph_need_C [.tmp 6]
theorem graph_Graph_need_F_eq : FzEq ctx false 3 graph_Graph_need_C [.tmp 6] graph_Graph_need_F := fz_eq _ _ _ _ _
theorem graph_Graph_need_call : FzCall ctx 288 graph_Graph_need_F := fz_called rfl (show ctx.info 288 = some graph_Graph_need_I by kernel_rfl)
noncomputable def graph_Graph_Point_1_F := fzE ctx false 2 graph_Graph_Point_1_C [.tmp 3]
theorem graph_Graph_Point_1_F_eq : FzEq ctx false 2 graph_Graph_Point_1_C [.tmp 3] graph_Graph_Point_1_F := fz_eq _ _ _ _ _
theorem graph_Graph_Point_1_call : FzCall ctx 305 graph_Graph_Point_1_F := fz_called rfl (show ctx.info 305 = some graph_Graph_Point_1_I by kernel_rfl)
noncomputable def slices_Grow_End_F := refE ctx 2 slices_Grow_End_C [.tmp 4]
theorem slices_Grow_End_F_eq : RefEq ctx 2 slices_Grow_End_C [.tmp 4] slices_Grow_End_F := ref_eq _ _ _ _
theorem slices_Grow_End_call : RefCall ctx 308 slices_Grow_End_F := ref_called rfl (show ctx.info 308 = some slices_Grow_End_I by kernel_rfl)
noncomputable def r04_Encode_R0 := intoE ctx 0 [1, 3, 4] [1, 3] r04_Encode_B0
noncomputable def r04_Encode_K0 := roundE ctx 0 [1, 3, 4] [1, 3] r04_Encode_B0
theorem r04_Encode_L0_eq : LEq ctx [1, 3, 4] r04_Encode_L0 r04_Encode_R0 := l_eq ctx 0 [1, 3, 4] [1, 3] _
theorem r04_Encode_R0_eq : REq ctx r04_Encode_B0 r04_Encode_R0 r04_Encode_K0 := r_eq ctx 0 [1, 3, 4] [1, 3] _
theorem r04_Encode_K0_a : KEq 0 [1, 3, 4] [1, 3] r04_Encode_R0 r04_Encode_K0 := k_eq ctx 0 [1, 3, 4] [1, 3] _
noncomputable def r04_Encode_R2 := intoE ctx 2 [1, 3, 7] [1, 3] r04_Encode_B2
noncomputable def r04_Encode_K2 := roundE ctx 2 [1, 3, 7] [1, 3] r04_Encode_B2
theorem r04_Encode_L2_eq : LEq ctx [1, 3, 7] r04_Encode_L2 r04_Encode_R2 := l_eq ctx 2 [1, 3, 7] [1, 3] _
theorem r04_Encode_R2_eq : REq ctx r04_Encode_B2 r04_Encode_R2 r04_Encode_K2 := r_eq ctx 2 [1, 3, 7] [1, 3] _
theorem r04_Encode_K2_a : KEq 2 [1, 3, 7] [1, 3] r04_Encode_R2 r04_Encode_K2 := k_eq ctx 2 [1, 3, 7] [1, 3] _
noncomputable def r04_Encode_R4 := intoE ctx 4 [1, 3, 9] [1, 3] r04_Encode_B4
noncomputable def r04_Encode_K4 := roundE ctx 4 [1, 3, 9] [1, 3] r04_Encode_B4
theorem r04_Encode_L4_eq : LEq ctx [1, 3, 9] r04_Encode_L4 r04_Encode_R4 := l_eq ctx 4 [1, 3, 9] [1, 3] _
theorem r04_Encode_R4_eq : REq ctx r04_Encode_B4 r04_Encode_R4 r04_Encode_K4 := r_eq ctx 4 [1, 3, 9] [1, 3] _
theorem r04_Encode_K4_a : KEq 4 [1, 3, 9] [1, 3] r04_Encode_R4 r04_Encode_K4 := k_eq ctx 4 [1, 3, 9] [1, 3] _
noncomputable def r19_Same_R0 := intoE ctx 0 [2, 3, 5] [2, 3] r19_Same_B0
noncomputable def r19_Same_K0 := roundE ctx 0 [2, 3, 5] [2, 3] r19_Same_B0
theorem r19_Same_L0_eq : LEq ctx [2, 3, 5] r19_Same_L0 r19_Same_R0 := l_eq ctx 0 [2, 3, 5] [2, 3] _
theorem r19_Same_R0_eq : REq ctx r19_Same_B0 r19_Same_R0 r19_Same_K0 := r_eq ctx 0 [2, 3, 5] [2, 3] _
theorem r19_Same_K0_a : KEq 0 [2, 3, 5] [2, 3] r19_Same_R0 r19_Same_K0 := k_eq ctx 0 [2, 3, 5] [2, 3] _
noncomputable def r19_Same_R2 := intoE ctx 2 [2, 3, 6] [] r19_Same_B2
noncomputable def r19_Same_K2 := roundE ctx 2 [2, 3, 6] [] r19_Same_B2
theorem r19_Same_L2_eq : LEq ctx [2, 3, 6] r19_Same_L2 r19_Same_R2 := l_eq ctx 2 [2, 3, 6] [] _
theorem r19_Same_R2_eq : REq ctx r19_Same_B2 r19_Same_R2 r19_Same_K2 := r_eq ctx 2 [2, 3, 6] [] _
theorem r19_Same_K2_a : KEq 2 [2, 3, 6] [] r19_Same_R2 r19_Same_K2 := k_eq ctx 2 [2, 3, 6] [] _
noncomputable def center_Center_Step_R0 := intoE ctx 0 [0, 3, 4, 5, 6, 33, 34, 35] [0, 3, 4, 5, 6] center_Center_Step_B0
noncomputable def center_Center_Step_K0 := roundE ctx 0 [0, 3, 4, 5, 6, 33, 34, 35] [0, 3, 4, 5, 6] center_Center_Step_B0
theorem center_Center_Step_L0_eq : LEq ctx [0, 3, 4, 5, 6, 33, 34, 35] center_Center_Step_L0 center_Center_Step_R0 := l_eq ctx 0 [0, 3, 4, 5, 6, 33, 34, 35] [0, 3, 4, 5, 6] _
theorem center_Center_Step_R0_eq : REq ctx center_Center_Step_B0 center_Center_Step_R0 center_Center_Step_K0 := r_eq ctx 0 [0, 3, 4, 5, 6, 33, 34, 35] [0, 3, 4, 5, 6] _
theorem center_Center_Step_K0_a : KEq 0 [0, 3, 4, 5, 6, 33, 34, 35] [0, 3, 4, 5, 6] center_Center_Step_R0 center_Center_Step_K0 := k_eq ctx 0 [0, 3, 4, 5, 6, 33, 34, 35] [0, 3, 4, 5, 6] _
noncomputable def center_Center_Step_R2 := intoE ctx 2 [0, 4, 6, 9, 10, 125, 126, 127] [0, 4, 6, 9, 10] center_Center_Step_B2
noncomputable def center_Center_Step_K2 := roundE ctx 2 [0, 4, 6, 9, 10, 125, 126, 127] [0, 4, 6, 9, 10] center_Center_Step_B2
theorem center_Center_Step_L2_eq : LEq ctx [0, 4, 6, 9, 10, 125, 126, 127] center_Center_Step_L2 center_Center_Step_R2 := l_eq ctx 2 [0, 4, 6, 9, 10, 125, 126, 127] [0, 4, 6, 9, 10] _
theorem center_Center_Step_R2_eq : REq ctx center_Center_Step_B2 center_Center_Step_R2 center_Center_Step_K2 := r_eq ctx 2 [0, 4, 6, 9, 10, 125, 126, 127] [0, 4, 6, 9, 10] _
theorem center_Center_Step_K2_a : KEq 2 [0, 4, 6, 9, 10, 125, 126, 127] [0, 4, 6, 9, 10] center_Center_Step_R2 center_Center_Step_K2 := k_eq ctx 2 [0, 4, 6, 9, 10, 125, 126, 127] [0, 4, 6, 9, 10] _
noncomputable def r01_Bytes_R0 := intoE ctx 0 [0, 1, 5] [] r01_Bytes_B0
noncomputable def r01_Bytes_K0 := roundE ctx 0 [0, 1, 5] [] r01_Bytes_B0
theorem r01_Bytes_L0_eq : LEq ctx [0, 1, 5] r01_Bytes_L0 r01_Bytes_R0 := l_eq ctx 0 [0, 1, 5] [] _
theorem r01_Bytes_R0_eq : REq ctx r01_Bytes_B0 r01_Bytes_R0 r01_Bytes_K0 := r_eq ctx 0 [0, 1, 5] [] _
theorem r01_Bytes_K0_a : KEq 0 [0, 1, 5] [] r01_Bytes_R0 r01_Bytes_K0 := k_eq ctx 0 [0, 1, 5] [] _
noncomputable def r04_Same_R0 := intoE ctx 0 [2, 3, 5] [2, 3] r04_Same_B0
noncomputable def r04_Same_K0 := roundE ctx 0 [2, 3, 5] [2, 3] r04_Same_B0
theorem r04_Same_L0_eq : LEq ctx [2, 3, 5] r04_Same_L0 r04_Same_R0 := l_eq ctx 0 [2, 3, 5] [2, 3] _
theorem r04_Same_R0_eq : REq ctx r04_Same_B0 r04_Same_R0 r04_Same_K0 := r_eq ctx 0 [2, 3, 5] [2, 3] _
theorem r04_Same_K0_a : KEq 0 [2, 3, 5] [2, 3] r04_Same_R0 r04_Same_K0 := k_eq ctx 0 [2, 3, 5] [2, 3] _
noncomputable def r04_Same_R2 := intoE ctx 2 [2, 3, 6] [2, 3] r04_Same_B2
noncomputable def r04_Same_K2 := roundE ctx 2 [2, 3, 6] [2, 3] r04_Same_B2
theorem r04_Same_L2_eq : LEq ctx [2, 3, 6] r04_Same_L2 r04_Same_R2 := l_eq ctx 2 [2, 3, 6] [2, 3] _
theorem r04_Same_R2_eq : REq ctx r04_Same_B2 r04_Same_R2 r04_Same_K2 := r_eq ctx 2 [2, 3, 6] [2, 3] _
theorem r04_Same_K2_a : KEq 2 [2, 3, 6] [2, 3] r04_Same_R2 r04_Same_K2 := k_eq ctx 2 [2, 3, 6] [2, 3] _
noncomputable def r04_Same_R4 := intoE ctx 4 [2, 3, 7] [2, 3] r04_Same_B4
noncomputable def r04_Same_K4 := roundE ctx 4 [2, 3, 7] [2, 3] r04_Same_B4
theorem r04_Same_L4_eq : LEq ctx [2, 3, 7] r04_Same_L4 r04_Same_R4 := l_eq ctx 4 [2, 3, 7] [2, 3] _
theorem r04_Same_R4_eq : REq ctx r04_Same_B4 r04_Same_R4 r04_Same_K4 := r_eq ctx 4 [2, 3, 7] [2, 3] _
theorem r04_Same_K4_a : KEq 4 [2, 3, 7] [2, 3] r04_Same_R4 r04_Same_K4 := k_eq ctx 4 [2, 3, 7] [2, 3] _
noncomputable def r04_Make_R1 := intoE ctx 1 [1, 2, 3, 6, 7, 8, 9] [1, 2, 3, 6, 7, 8] r04_Make_B1
noncomputable def r04_Make_K1 := roundE ctx 1 [1, 2, 3, 6, 7, 8, 9] [1, 2, 3, 6, 7, 8] r04_Make_B1
theorem r04_Make_L1_eq : LEq ctx [1, 2, 3, 6, 7, 8, 9] r04_Make_L1 r04_Make_R1 := l_eq ctx 1 [1, 2, 3, 6, 7, 8, 9] [1, 2, 3, 6, 7, 8] _
theorem r04_Make_R1_eq : REq ctx r04_Make_B1 r04_Make_R1 r04_Make_K1 := r_eq ctx 1 [1, 2, 3, 6, 7, 8, 9] [1, 2, 3, 6, 7, 8] _
theorem r04_Make_K1_a : KEq 1 [1, 2, 3, 6, 7, 8, 9] [1, 2, 3, 6, 7, 8] r04_Make_R1 r04_Make_K1 := k_eq ctx 1 [1, 2, 3, 6, 7, 8, 9] [1, 2, 3, 6, 7, 8] _
noncomputable def r04_Make_R3 := intoE ctx 3 [1, 2, 3, 6, 7, 8, 10] [1, 2, 3, 6, 7] r04_Make_B3
noncomputable def r04_Make_K3 := roundE ctx 3 [1, 2, 3, 6, 7, 8, 10] [1, 2, 3, 6, 7] r04_Make_B3
theorem r04_Make_L3_eq : LEq ctx [1, 2, 3, 6, 7, 8, 10] r04_Make_L3 r04_Make_R3 := l_eq ctx 3 [1, 2, 3, 6, 7, 8, 10] [1, 2, 3, 6, 7] _
theorem r04_Make_R3_eq : REq ctx r04_Make_B3 r04_Make_R3 r04_Make_K3 := r_eq ctx 3 [1, 2, 3, 6, 7, 8, 10] [1, 2, 3, 6, 7] _
theorem r04_Make_K3_a : KEq 3 [1, 2, 3, 6, 7, 8, 10] [1, 2, 3, 6, 7] r04_Make_R3 r04_Make_K3 := k_eq ctx 3 [1, 2, 3, 6, 7, 8, 10] [1, 2, 3, 6, 7] _
noncomputable def r04_Make_R5 := intoE ctx 5 [1, 2, 3, 6, 7, 11] [1, 2, 3, 6, 7] r04_Make_B5
noncomputable def r04_Make_K5 := roundE ctx 5 [1, 2, 3, 6, 7, 11] [1, 2, 3, 6, 7] r04_Make_B5
theorem r04_Make_L5_eq : LEq ctx [1, 2, 3, 6, 7, 11] r04_Make_L5 r04_Make_R5 := l_eq ctx 5 [1, 2, 3, 6, 7, 11] [1, 2, 3, 6, 7] _
theorem r04_Make_R5_eq : REq ctx r04_Make_B5 r04_Make_R5 r04_Make_K5 := r_eq ctx 5 [1, 2, 3, 6, 7, 11] [1, 2, 3, 6, 7] _
theorem r04_Make_K5_a : KEq 5 [1, 2, 3, 6, 7, 11] [1, 2, 3, 6, 7] r04_Make_R5 r04_Make_K5 := k_eq ctx 5 [1, 2, 3, 6, 7, 11] [1, 2, 3, 6, 7] _
noncomputable def r04_Make_R7 := intoE ctx 7 [1, 2, 3, 6, 7, 12] [1, 2, 3, 6] r04_Make_B7
noncomputable def r04_Make_K7 := roundE ctx 7 [1, 2, 3, 6, 7, 12] [1, 2, 3, 6] r04_Make_B7
theorem r04_Make_L7_eq : LEq ctx [1, 2, 3, 6, 7, 12] r04_Make_L7 r04_Make_R7 := l_eq ctx 7 [1, 2, 3, 6, 7, 12] [1, 2, 3, 6] _
theorem r04_Make_R7_eq : REq ctx r04_Make_B7 r04_Make_R7 r04_Make_K7 := r_eq ctx 7 [1, 2, 3, 6, 7, 12] [1, 2, 3, 6] _
theorem r04_Make_K7_a : KEq 7 [1, 2, 3, 6, 7, 12] [1, 2, 3, 6] r04_Make_R7 r04_Make_K7 := k_eq ctx 7 [1, 2, 3, 6, 7, 12] [1, 2, 3, 6] _
noncomputable def r04_put_R0 := intoE ctx 0 [0, 1, 2, 7] [0] r04_put_B0
noncomputable def r04_put_K0 := roundE ctx 0 [0, 1, 2, 7] [0] r04_put_B0
theorem r04_put_L0_eq : LEq ctx [0, 1, 2, 7] r04_put_L0 r04_put_R0 := l_eq ctx 0 [0, 1, 2, 7] [0] _
theorem r04_put_R0_eq : REq ctx r04_put_B0 r04_put_R0 r04_put_K0 := r_eq ctx 0 [0, 1, 2, 7] [0] _
theorem r04_put_K0_a : KEq 0 [0, 1, 2, 7] [0] r04_put_R0 r04_put_K0 := k_eq ctx 0 [0, 1, 2, 7] [0] _
noncomputable def r04_lists_R0 := intoE ctx 0 [0, 1, 5] [0] r04_lists_B0
noncomputable def r04_lists_K0 := roundE ctx 0 [0, 1, 5] [0] r04_lists_B0
theorem r04_lists_L0_eq : LEq ctx [0, 1, 5] r04_lists_L0 r04_lists_R0 := l_eq ctx 0 [0, 1, 5] [0] _
theorem r04_lists_R0_eq : REq ctx r04_lists_B0 r04_lists_R0 r04_lists_K0 := r_eq ctx 0 [0, 1, 5] [0] _
theorem r04_lists_K0_a : KEq 0 [0, 1, 5] [0] r04_lists_R0 r04_lists_K0 := k_eq ctx 0 [0, 1, 5] [0] _
noncomputable def r02_Bytes_R2 := intoE ctx 2 [0, 3, 4, 5, 6] [0, 3, 4, 5] r02_Bytes_B2
noncomputable def r02_Bytes_K2 := roundE ctx 2 [0, 3, 4, 5, 6] [0, 3, 4, 5] r02_Bytes_B2
theorem r02_Bytes_L2_eq : LEq ctx [0, 3, 4, 5, 6] r02_Bytes_L2 r02_Bytes_R2 := l_eq ctx 2 [0, 3, 4, 5, 6] [0, 3, 4, 5] _
theorem r02_Bytes_R2_eq : REq ctx r02_Bytes_B2 r02_Bytes_R2 r02_Bytes_K2 := r_eq ctx 2 [0, 3, 4, 5, 6] [0, 3, 4, 5] _
theorem r02_Bytes_K2_a : KEq 2 [0, 3, 4, 5, 6] [0, 3, 4, 5] r02_Bytes_R2 r02_Bytes_K2 := k_eq ctx 2 [0, 3, 4, 5, 6] [0, 3, 4, 5] _
noncomputable def r02_Bytes_R0 := intoE ctx 0 [0, 3, 4] [3] r02_Bytes_B0
noncomputable def r02_Bytes_K0 := roundE ctx 0 [0, 3, 4] [3] r02_Bytes_B0
theorem r02_Bytes_L0_eq : LEq ctx [0, 3, 4] r02_Bytes_L0 r02_Bytes_R0 := l_eq ctx 0 [0, 3, 4] [3] _
theorem r02_Bytes_R0_eq : REq ctx r02_Bytes_B0 r02_Bytes_R0 r02_Bytes_K0 := r_eq ctx 0 [0, 3, 4] [3] _
theorem r02_Bytes_K0_a : KEq 0 [0, 3, 4] [3] r02_Bytes_R0 r02_Bytes_K0 := k_eq ctx 0 [0, 3, 4] [3] _
noncomputable def slices_Repeat_byte_R0 := intoE ctx 0 [7, 8] [7] slices_Repeat_byte_B0
noncomputable def slices_Repeat_byte_K0 := roundE ctx 0 [7, 8] [7] slices_Repeat_byte_B0
theorem slices_Repeat_byte_L0_eq : LEq ctx [7, 8] slices_Repeat_byte_L0 slices_Repeat_byte_R0 := l_eq ctx 0 [7, 8] [7] _
theorem slices_Repeat_byte_R0_eq : REq ctx slices_Repeat_byte_B0 slices_Repeat_byte_R0 slices_Repeat_byte_K0 := r_eq ctx 0 [7, 8] [7] _
theorem slices_Repeat_byte_K0_a : KEq 0 [7, 8] [7] slices_Repeat_byte_R0 slices_Repeat_byte_K0 := k_eq ctx 0 [7, 8] [7] _
noncomputable def r02_Put_R0 := intoE ctx 0 [1, 2, 7, 8] [7] r02_Put_B0
noncomputable def r02_Put_K0 := roundE ctx 0 [1, 2, 7, 8] [7] r02_Put_B0
theorem r02_Put_L0_eq : LEq ctx [1, 2, 7, 8] r02_Put_L0 r02_Put_R0 := l_eq ctx 0 [1, 2, 7, 8] [7] _
theorem r02_Put_R0_eq : REq ctx r02_Put_B0 r02_Put_R0 r02_Put_K0 := r_eq ctx 0 [1, 2, 7, 8] [7] _
theorem r02_Put_K0_a : KEq 0 [1, 2, 7, 8] [7] r02_Put_R0 r02_Put_K0 := k_eq ctx 0 [1, 2, 7, 8] [7] _
noncomputable def r13_Same_R0 := intoE ctx 0 [0, 1, 5] [] r13_Same_B0
noncomputable def r13_Same_K0 := roundE ctx 0 [0, 1, 5] [] r13_Same_B0
theorem r13_Same_L0_eq : LEq ctx [0, 1, 5] r13_Same_L0 r13_Same_R0 := l_eq ctx 0 [0, 1, 5] [] _
theorem r13_Same_R0_eq : REq ctx r13_Same_B0 r13_Same_R0 r13_Same_K0 := r_eq ctx 0 [0, 1, 5] [] _
theorem r13_Same_K0_a : KEq 0 [0, 1, 5] [] r13_Same_R0 r13_Same_K0 := k_eq ctx 0 [0, 1, 5] [] _
noncomputable def r01_Bools_R0 := intoE ctx 0 [0, 1, 5] [] r01_Bools_B0
noncomputable def r01_Bools_K0 := roundE ctx 0 [0, 1, 5] [] r01_Bools_B0
theorem r01_Bools_L0_eq : LEq ctx [0, 1, 5] r01_Bools_L0 r01_Bools_R0 := l_eq ctx 0 [0, 1, 5] [] _
theorem r01_Bools_R0_eq : REq ctx r01_Bools_B0 r01_Bools_R0 r01_Bools_K0 := r_eq ctx 0 [0, 1, 5] [] _
theorem r01_Bools_K0_a : KEq 0 [0, 1, 5] [] r01_Bools_R0 r01_Bools_K0 := k_eq ctx 0 [0, 1, 5] [] _
noncomputable def detect_Filter_Step_R0 := intoE ctx 0 [0, 1, 5, 13, 14] [5] detect_Filter_Step_B0
noncomputable def detect_Filter_Step_K0 := roundE ctx 0 [0, 1, 5, 13, 14] [5] detect_Filter_Step_B0
theorem detect_Filter_Step_L0_eq : LEq ctx [0, 1, 5, 13, 14] detect_Filter_Step_L0 detect_Filter_Step_R0 := l_eq ctx 0 [0, 1, 5, 13, 14] [5] _
theorem detect_Filter_Step_R0_eq : REq ctx detect_Filter_Step_B0 detect_Filter_Step_R0 detect_Filter_Step_K0 := r_eq ctx 0 [0, 1, 5, 13, 14] [5] _
theorem detect_Filter_Step_K0_a : KEq 0 [0, 1, 5, 13, 14] [5] detect_Filter_Step_R0 detect_Filter_Step_K0 := k_eq ctx 0 [0, 1, 5, 13, 14] [5] _
noncomputable def center_Center_look_R0 := intoE ctx 0 [0, 6, 16, 17, 18] [0, 6] center_Center_look_B0
noncomputable def center_Center_look_K0 := roundE ctx 0 [0, 6, 16, 17, 18] [0, 6] center_Center_look_B0
theorem center_Center_look_L0_eq : LEq ctx [0, 6, 16, 17, 18] center_Center_look_L0 center_Center_look_R0 := l_eq ctx 0 [0, 6, 16, 17, 18] [0, 6] _
theorem center_Center_look_R0_eq : REq ctx center_Center_look_B0 center_Center_look_R0 center_Center_look_K0 := r_eq ctx 0 [0, 6, 16, 17, 18] [0, 6] _
theorem center_Center_look_K0_a : KEq 0 [0, 6, 16, 17, 18] [0, 6] center_Center_look_R0 center_Center_look_K0 := k_eq ctx 0 [0, 6, 16, 17, 18] [0, 6] _
noncomputable def center_Center_look_R2 := intoE ctx 2 [0, 6, 53] [] center_Center_look_B2
noncomputable def center_Center_look_K2 := roundE ctx 2 [0, 6, 53] [] center_Center_look_B2
theorem center_Center_look_L2_eq : LEq ctx [0, 6, 53] center_Center_look_L2 center_Center_look_R2 := l_eq ctx 2 [0, 6, 53] [] _
theorem center_Center_look_R2_eq : REq ctx center_Center_look_B2 center_Center_look_R2 center_Center_look_K2 := r_eq ctx 2 [0, 6, 53] [] _
theorem center_Center_look_K2_a : KEq 2 [0, 6, 53] [] center_Center_look_R2 center_Center_look_K2 := k_eq ctx 2 [0, 6, 53] [] _
noncomputable def own_Next_R0 := intoE ctx 0 [1, 2, 3, 4, 9, 10, 18, 19] [10] own_Next_B0
noncomputable def own_Next_K0 := roundE ctx 0 [1, 2, 3, 4, 9, 10, 18, 19] [10] own_Next_B0
theorem own_Next_L0_eq : LEq ctx [1, 2, 3, 4, 9, 10, 18, 19] own_Next_L0 own_Next_R0 := l_eq ctx 0 [1, 2, 3, 4, 9, 10, 18, 19] [10] _
theorem own_Next_R0_eq : REq ctx own_Next_B0 own_Next_R0 own_Next_K0 := r_eq ctx 0 [1, 2, 3, 4, 9, 10, 18, 19] [10] _
theorem own_Next_K0_a : KEq 0 [1, 2, 3, 4, 9, 10, 18, 19] [10] own_Next_R0 own_Next_K0 := k_eq ctx 0 [1, 2, 3, 4, 9, 10, 18, 19] [10] _
noncomputable def center_Center_declare_R0 := intoE ctx 0 [0, 1, 3, 10, 11, 12] [] center_Center_declare_B0
noncomputable def center_Center_declare_K0 := roundE ctx 0 [0, 1, 3, 10, 11, 12] [] center_Center_declare_B0
theorem center_Center_declare_L0_eq : LEq ctx [0, 1, 3, 10, 11, 12] center_Center_declare_L0 center_Center_declare_R0 := l_eq ctx 0 [0, 1, 3, 10, 11, 12] [] _
theorem center_Center_declare_R0_eq : REq ctx center_Center_declare_B0 center_Center_declare_R0 center_Center_declare_K0 := r_eq ctx 0 [0, 1, 3, 10, 11, 12] [] _
theorem center_Center_declare_K0_a : KEq 0 [0, 1, 3, 10, 11, 12] [] center_Center_declare_R0 center_Center_declare_K0 := k_eq ctx 0 [0, 1, 3, 10, 11, 12] [] _
noncomputable def state_Of_R0 := intoE ctx 0 [1, 2, 7, 8, 16, 17] [8] state_Of_B0
noncomputable def state_Of_K0 := roundE ctx 0 [1, 2, 7, 8, 16, 17] [8] state_Of_B0
theorem state_Of_L0_eq : LEq ctx [1, 2, 7, 8, 16, 17] state_Of_L0 state_Of_R0 := l_eq ctx 0 [1, 2, 7, 8, 16, 17] [8] _
theorem state_Of_R0_eq : REq ctx state_Of_B0 state_Of_R0 state_Of_K0 := r_eq ctx 0 [1, 2, 7, 8, 16, 17] [8] _
theorem state_Of_K0_a : KEq 0 [1, 2, 7, 8, 16, 17] [8] state_Of_R0 state_Of_K0 := k_eq ctx 0 [1, 2, 7, 8, 16, 17] [8] _
noncomputable def route_Table_Step_R2 := intoE ctx 2 [0, 1, 2, 3, 9, 16, 17, 18, 26, 27] [0, 1, 2, 3, 16, 17, 18] route_Table_Step_B2
noncomputable def route_Table_Step_K2 := roundE ctx 2 [0, 1, 2, 3, 9, 16, 17, 18, 26, 27] [0, 1, 2, 3, 16, 17, 18] route_Table_Step_B2
theorem route_Table_Step_L2_eq : LEq ctx [0, 1, 2, 3, 9, 16, 17, 18, 26, 27] route_Table_Step_L2 route_Table_Step_R2 := l_eq ctx 2 [0, 1, 2, 3, 9, 16, 17, 18, 26, 27] [0, 1, 2, 3, 16, 17, 18] _
theorem route_Table_Step_R2_eq : REq ctx route_Table_Step_B2 route_Table_Step_R2 route_Table_Step_K2 := r_eq ctx 2 [0, 1, 2, 3, 9, 16, 17, 18, 26, 27] [0, 1, 2, 3, 16, 17, 18] _
theorem route_Table_Step_K2_a : KEq 2 [0, 1, 2, 3, 9, 16, 17, 18, 26, 27] [0, 1, 2, 3, 16, 17, 18] route_Table_Step_R2 route_Table_Step_K2 := k_eq ctx 2 [0, 1, 2, 3, 9, 16, 17, 18, 26, 27] [0, 1, 2, 3, 16, 17, 18] _
noncomputable def route_Table_Step_R0 := intoE ctx 0 [0, 1, 2, 3, 16, 17, 18] [0] route_Table_Step_B0
noncomputable def route_Table_Step_K0 := roundE ctx 0 [0, 1, 2, 3, 16, 17, 18] [0] route_Table_Step_B0
theorem route_Table_Step_L0_eq : LEq ctx [0, 1, 2, 3, 16, 17, 18] route_Table_Step_L0 route_Table_Step_R0 := l_eq ctx 0 [0, 1, 2, 3, 16, 17, 18] [0] _
theorem route_Table_Step_R0_eq : REq ctx route_Table_Step_B0 route_Table_Step_R0 route_Table_Step_K0 := r_eq ctx 0 [0, 1, 2, 3, 16, 17, 18] [0] _
theorem route_Table_Step_K0_a : KEq 0 [0, 1, 2, 3, 16, 17, 18] [0] route_Table_Step_R0 route_Table_Step_K0 := k_eq ctx 0 [0, 1, 2, 3, 16, 17, 18] [0] _
noncomputable def center_Center_move_R0 := intoE ctx 0 [0, 3, 4, 16, 17, 18] [3] center_Center_move_B0
noncomputable def center_Center_move_K0 := roundE ctx 0 [0, 3, 4, 16, 17, 18] [3] center_Center_move_B0
theorem center_Center_move_L0_eq : LEq ctx [0, 3, 4, 16, 17, 18] center_Center_move_L0 center_Center_move_R0 := l_eq ctx 0 [0, 3, 4, 16, 17, 18] [3] _
theorem center_Center_move_R0_eq : REq ctx center_Center_move_B0 center_Center_move_R0 center_Center_move_K0 := r_eq ctx 0 [0, 3, 4, 16, 17, 18] [3] _
theorem center_Center_move_K0_a : KEq 0 [0, 3, 4, 16, 17, 18] [3] center_Center_move_R0 center_Center_move_K0 := k_eq ctx 0 [0, 3, 4, 16, 17, 18] [3] _
noncomputable def state_Changes_R0 := intoE ctx 0 [0, 1, 5, 12, 13] [5] state_Changes_B0
noncomputable def state_Changes_K0 := roundE ctx 0 [0, 1, 5, 12, 13] [5] state_Changes_B0
theorem state_Changes_L0_eq : LEq ctx [0, 1, 5, 12, 13] state_Changes_L0 state_Changes_R0 := l_eq ctx 0 [0, 1, 5, 12, 13] [5] _
theorem state_Changes_R0_eq : REq ctx state_Changes_B0 state_Changes_R0 state_Changes_K0 := r_eq ctx 0 [0, 1, 5, 12, 13] [5] _
theorem state_Changes_K0_a : KEq 0 [0, 1, 5, 12, 13] [5] state_Changes_R0 state_Changes_K0 := k_eq ctx 0 [0, 1, 5, 12, 13] [5] _
noncomputable def route_Table_Locks_R0 := intoE ctx 0 [3, 11, 12, 13] [3] route_Table_Locks_B0
noncomputable def route_Table_Locks_K0 := roundE ctx 0 [3, 11, 12, 13] [3] route_Table_Locks_B0
theorem route_Table_Locks_L0_eq : LEq ctx [3, 11, 12, 13] route_Table_Locks_L0 route_Table_Locks_R0 := l_eq ctx 0 [3, 11, 12, 13] [3] _
theorem route_Table_Locks_R0_eq : REq ctx route_Table_Locks_B0 route_Table_Locks_R0 route_Table_Locks_K0 := r_eq ctx 0 [3, 11, 12, 13] [3] _
theorem route_Table_Locks_K0_a : KEq 0 [3, 11, 12, 13] [3] route_Table_Locks_R0 route_Table_Locks_K0 := k_eq ctx 0 [3, 11, 12, 13] [3] _
noncomputable def r01_Lists_R0 := intoE ctx 0 [0, 1, 5] [] r01_Lists_B0
noncomputable def r01_Lists_K0 := roundE ctx 0 [0, 1, 5] [] r01_Lists_B0
theorem r01_Lists_L0_eq : LEq ctx [0, 1, 5] r01_Lists_L0 r01_Lists_R0 := l_eq ctx 0 [0, 1, 5] [] _
theorem r01_Lists_R0_eq : REq ctx r01_Lists_B0 r01_Lists_R0 r01_Lists_K0 := r_eq ctx 0 [0, 1, 5] [] _
theorem r01_Lists_K0_a : KEq 0 [0, 1, 5] [] r01_Lists_R0 r01_Lists_K0 := k_eq ctx 0 [0, 1, 5] [] _
noncomputable def r03_Of_R0 := intoE ctx 0 [0, 3, 4] [0, 3] r03_Of_B0
noncomputable def r03_Of_K0 := roundE ctx 0 [0, 3, 4] [0, 3] r03_Of_B0
theorem r03_Of_L0_eq : LEq ctx [0, 3, 4] r03_Of_L0 r03_Of_R0 := l_eq ctx 0 [0, 3, 4] [0, 3] _
theorem r03_Of_R0_eq : REq ctx r03_Of_B0 r03_Of_R0 r03_Of_K0 := r_eq ctx 0 [0, 3, 4] [0, 3] _
theorem r03_Of_K0_a : KEq 0 [0, 3, 4] [0, 3] r03_Of_R0 r03_Of_K0 := k_eq ctx 0 [0, 3, 4] [0, 3] _
noncomputable def r03_Of_R6 := intoE ctx 6 [0, 3, 5, 6, 7, 8] [0, 3, 5, 6, 7] r03_Of_B6
noncomputable def r03_Of_K6 := roundE ctx 6 [0, 3, 5, 6, 7, 8] [0, 3, 5, 6, 7] r03_Of_B6
theorem r03_Of_L6_eq : LEq ctx [0, 3, 5, 6, 7, 8] r03_Of_L6 r03_Of_R6 := l_eq ctx 6 [0, 3, 5, 6, 7, 8] [0, 3, 5, 6, 7] _
theorem r03_Of_R6_eq : REq ctx r03_Of_B6 r03_Of_R6 r03_Of_K6 := r_eq ctx 6 [0, 3, 5, 6, 7, 8] [0, 3, 5, 6, 7] _
theorem r03_Of_K6_a : KEq 6 [0, 3, 5, 6, 7, 8] [0, 3, 5, 6, 7] r03_Of_R6 r03_Of_K6 := k_eq ctx 6 [0, 3, 5, 6, 7, 8] [0, 3, 5, 6, 7] _
noncomputable def r03_Of_R4 := intoE ctx 4 [0, 3, 5, 6] [0, 3, 5] r03_Of_B4
noncomputable def r03_Of_K4 := roundE ctx 4 [0, 3, 5, 6] [0, 3, 5] r03_Of_B4
theorem r03_Of_L4_eq : LEq ctx [0, 3, 5, 6] r03_Of_L4 r03_Of_R4 := l_eq ctx 4 [0, 3, 5, 6] [0, 3, 5] _
theorem r03_Of_R4_eq : REq ctx r03_Of_B4 r03_Of_R4 r03_Of_K4 := r_eq ctx 4 [0, 3, 5, 6] [0, 3, 5] _
theorem r03_Of_K4_a : KEq 4 [0, 3, 5, 6] [0, 3, 5] r03_Of_R4 r03_Of_K4 := k_eq ctx 4 [0, 3, 5, 6] [0, 3, 5] _
noncomputable def r03_Of_R2 := intoE ctx 2 [0, 3, 5] [3] r03_Of_B2
noncomputable def r03_Of_K2 := roundE ctx 2 [0, 3, 5] [3] r03_Of_B2
theorem r03_Of_L2_eq : LEq ctx [0, 3, 5] r03_Of_L2 r03_Of_R2 := l_eq ctx 2 [0, 3, 5] [3] _
theorem r03_Of_R2_eq : REq ctx r03_Of_B2 r03_Of_R2 r03_Of_K2 := r_eq ctx 2 [0, 3, 5] [3] _
theorem r03_Of_K2_a : KEq 2 [0, 3, 5] [3] r03_Of_R2 r03_Of_K2 := k_eq ctx 2 [0, 3, 5] [3] _
noncomputable def r03_Of_R8 := intoE ctx 8 [3, 9, 10] [9] r03_Of_B8
noncomputable def r03_Of_K8 := roundE ctx 8 [3, 9, 10] [9] r03_Of_B8
theorem r03_Of_L8_eq : LEq ctx [3, 9, 10] r03_Of_L8 r03_Of_R8 := l_eq ctx 8 [3, 9, 10] [9] _
theorem r03_Of_R8_eq : REq ctx r03_Of_B8 r03_Of_R8 r03_Of_K8 := r_eq ctx 8 [3, 9, 10] [9] _
theorem r03_Of_K8_a : KEq 8 [3, 9, 10] [9] r03_Of_R8 r03_Of_K8 := k_eq ctx 8 [3, 9, 10] [9] _
noncomputable def layout_list_complex128_R0 := intoE ctx 0 [0, 1, 5, 8, 9] [5] layout_list_complex128_B0
noncomputable def layout_list_complex128_K0 := roundE ctx 0 [0, 1, 5, 8, 9] [5] layout_list_complex128_B0
theorem layout_list_complex128_L0_eq : LEq ctx [0, 1, 5, 8, 9] layout_list_complex128_L0 layout_list_complex128_R0 := l_eq ctx 0 [0, 1, 5, 8, 9] [5] _
theorem layout_list_complex128_R0_eq : REq ctx layout_list_complex128_B0 layout_list_complex128_R0 layout_list_complex128_K0 := r_eq ctx 0 [0, 1, 5, 8, 9] [5] _
theorem layout_list_complex128_K0_a : KEq 0 [0, 1, 5, 8, 9] [5] layout_list_complex128_R0 layout_list_complex128_K0 := k_eq ctx 0 [0, 1, 5, 8, 9] [5] _
noncomputable def layout_list_Section_R0 := intoE ctx 0 [0, 1, 5, 8, 9] [5] layout_list_Section_B0
noncomputable def layout_list_Section_K0 := roundE ctx 0 [0, 1, 5, 8, 9] [5] layout_list_Section_B0
theorem layout_list_Section_L0_eq : LEq ctx [0, 1, 5, 8, 9] layout_list_Section_L0 layout_list_Section_R0 := l_eq ctx 0 [0, 1, 5, 8, 9] [5] _
theorem layout_list_Section_R0_eq : REq ctx layout_list_Section_B0 layout_list_Section_R0 layout_list_Section_K0 := r_eq ctx 0 [0, 1, 5, 8, 9] [5] _
theorem layout_list_Section_K0_a : KEq 0 [0, 1, 5, 8, 9] [5] layout_list_Section_R0 layout_list_Section_K0 := k_eq ctx 0 [0, 1, 5, 8, 9] [5] _
noncomputable def bits_Reader_Get_R0 := intoE ctx 0 [0, 5, 17, 18] [5] bits_Reader_Get_B0
noncomputable def bits_Reader_Get_K0 := roundE ctx 0 [0, 5, 17, 18] [5] bits_Reader_Get_B0
theorem bits_Reader_Get_L0_eq : LEq ctx [0, 5, 17, 18] bits_Reader_Get_L0 bits_Reader_Get_R0 := l_eq ctx 0 [0, 5, 17, 18] [5] _
theorem bits_Reader_Get_R0_eq : REq ctx bits_Reader_Get_B0 bits_Reader_Get_R0 bits_Reader_Get_K0 := r_eq ctx 0 [0, 5, 17, 18] [5] _
theorem bits_Reader_Get_K0_a : KEq 0 [0, 5, 17, 18] [5] bits_Reader_Get_R0 bits_Reader_Get_K0 := k_eq ctx 0 [0, 5, 17, 18] [5] _
noncomputable def layout_list_Point_R0 := intoE ctx 0 [0, 1, 5, 8, 9] [5] layout_list_Point_B0
noncomputable def layout_list_Point_K0 := roundE ctx 0 [0, 1, 5, 8, 9] [5] layout_list_Point_B0
theorem layout_list_Point_L0_eq : LEq ctx [0, 1, 5, 8, 9] layout_list_Point_L0 layout_list_Point_R0 := l_eq ctx 0 [0, 1, 5, 8, 9] [5] _
theorem layout_list_Point_R0_eq : REq ctx layout_list_Point_B0 layout_list_Point_R0 layout_list_Point_K0 := r_eq ctx 0 [0, 1, 5, 8, 9] [5] _
theorem layout_list_Point_K0_a : KEq 0 [0, 1, 5, 8, 9] [5] layout_list_Point_R0 layout_list_Point_K0 := k_eq ctx 0 [0, 1, 5, 8, 9] [5] _
noncomputable def verify_First_R2 := intoE ctx 2 [5, 15, 16, 17, 22, 23, 24] [15, 16, 17] verify_First_B2
noncomputable def verify_First_K2 := roundE ctx 2 [5, 15, 16, 17, 22, 23, 24] [15, 16, 17] verify_First_B2
theorem verify_First_L2_eq : LEq ctx [5, 15, 16, 17, 22, 23, 24] verify_First_L2 verify_First_R2 := l_eq ctx 2 [5, 15, 16, 17, 22, 23, 24] [15, 16, 17] _
theorem verify_First_R2_eq : REq ctx verify_First_B2 verify_First_R2 verify_First_K2 := r_eq ctx 2 [5, 15, 16, 17, 22, 23, 24] [15, 16, 17] _
theorem verify_First_K2_a : KEq 2 [5, 15, 16, 17, 22, 23, 24] [15, 16, 17] verify_First_R2 verify_First_K2 := k_eq ctx 2 [5, 15, 16, 17, 22, 23, 24] [15, 16, 17] _
noncomputable def verify_First_R0 := intoE ctx 0 [15, 16, 17] [] verify_First_B0
noncomputable def verify_First_K0 := roundE ctx 0 [15, 16, 17] [] verify_First_B0
theorem verify_First_L0_eq : LEq ctx [15, 16, 17] verify_First_L0 verify_First_R0 := l_eq ctx 0 [15, 16, 17] [] _
theorem verify_First_R0_eq : REq ctx verify_First_B0 verify_First_R0 verify_First_K0 := r_eq ctx 0 [15, 16, 17] [] _
theorem verify_First_K0_a : KEq 0 [15, 16, 17] [] verify_First_R0 verify_First_K0 := k_eq ctx 0 [15, 16, 17] [] _
noncomputable def slices_Repeat_int_R0 := intoE ctx 0 [7, 8] [7] slices_Repeat_int_B0
noncomputable def slices_Repeat_int_K0 := roundE ctx 0 [7, 8] [7] slices_Repeat_int_B0
theorem slices_Repeat_int_L0_eq : LEq ctx [7, 8] slices_Repeat_int_L0 slices_Repeat_int_R0 := l_eq ctx 0 [7, 8] [7] _
theorem slices_Repeat_int_R0_eq : REq ctx slices_Repeat_int_B0 slices_Repeat_int_R0 slices_Repeat_int_K0 := r_eq ctx 0 [7, 8] [7] _
theorem slices_Repeat_int_K0_a : KEq 0 [7, 8] [7] slices_Repeat_int_R0 slices_Repeat_int_K0 := k_eq ctx 0 [7, 8] [7] _
noncomputable def train_Register_those_R0 := intoE ctx 0 [0, 1, 2, 7, 12, 13, 14] [7] train_Register_those_B0
noncomputable def train_Register_those_K0 := roundE ctx 0 [0, 1, 2, 7, 12, 13, 14] [7] train_Register_those_B0
theorem train_Register_those_L0_eq : LEq ctx [0, 1, 2, 7, 12, 13, 14] train_Register_those_L0 train_Register_those_R0 := l_eq ctx 0 [0, 1, 2, 7, 12, 13, 14] [7] _
theorem train_Register_those_R0_eq : REq ctx train_Register_those_B0 train_Register_those_R0 train_Register_those_K0 := r_eq ctx 0 [0, 1, 2, 7, 12, 13, 14] [7] _
theorem train_Register_those_K0_a : KEq 0 [0, 1, 2, 7, 12, 13, 14] [7] train_Register_those_R0 train_Register_those_K0 := k_eq ctx 0 [0, 1, 2, 7, 12, 13, 14] [7] _
noncomputable def slices_DeleteFunc_pLock_R0 := intoE ctx 0 [0, 1, 5, 6] [0, 5] slices_DeleteFunc_pLock_B0
noncomputable def slices_DeleteFunc_pLock_K0 := roundE ctx 0 [0, 1, 5, 6] [0, 5] slices_DeleteFunc_pLock_B0
theorem slices_DeleteFunc_pLock_L0_eq : LEq ctx [0, 1, 5, 6] slices_DeleteFunc_pLock_L0 slices_DeleteFunc_pLock_R0 := l_eq ctx 0 [0, 1, 5, 6] [0, 5] _
theorem slices_DeleteFunc_pLock_R0_eq : REq ctx slices_DeleteFunc_pLock_B0 slices_DeleteFunc_pLock_R0 slices_DeleteFunc_pLock_K0 := r_eq ctx 0 [0, 1, 5, 6] [0, 5] _
theorem slices_DeleteFunc_pLock_K0_a : KEq 0 [0, 1, 5, 6] [0, 5] slices_DeleteFunc_pLock_R0 slices_DeleteFunc_pLock_K0 := k_eq ctx 0 [0, 1, 5, 6] [0, 5] _
noncomputable def layout_list_Ints_R0 := intoE ctx 0 [0, 1, 5, 8, 9] [5] layout_list_Ints_B0
noncomputable def layout_list_Ints_K0 := roundE ctx 0 [0, 1, 5, 8, 9] [5] layout_list_Ints_B0
theorem layout_list_Ints_L0_eq : LEq ctx [0, 1, 5, 8, 9] layout_list_Ints_L0 layout_list_Ints_R0 := l_eq ctx 0 [0, 1, 5, 8, 9] [5] _
theorem layout_list_Ints_R0_eq : REq ctx layout_list_Ints_B0 layout_list_Ints_R0 layout_list_Ints_K0 := r_eq ctx 0 [0, 1, 5, 8, 9] [5] _
theorem layout_list_Ints_K0_a : KEq 0 [0, 1, 5, 8, 9] [5] layout_list_Ints_R0 layout_list_Ints_K0 := k_eq ctx 0 [0, 1, 5, 8, 9] [5] _
noncomputable def layout_list_int_R0 := intoE ctx 0 [0, 1, 5, 8, 9] [5] layout_list_int_B0
noncomputable def layout_list_int_K0 := roundE ctx 0 [0, 1, 5, 8, 9] [5] layout_list_int_B0
theorem layout_list_int_L0_eq : LEq ctx [0, 1, 5, 8, 9] layout_list_int_L0 layout_list_int_R0 := l_eq ctx 0 [0, 1, 5, 8, 9] [5] _
theorem layout_list_int_R0_eq : REq ctx layout_list_int_B0 layout_list_int_R0 layout_list_int_K0 := r_eq ctx 0 [0, 1, 5, 8, 9] [5] _
theorem layout_list_int_K0_a : KEq 0 [0, 1, 5, 8, 9] [5] layout_list_int_R0 layout_list_int_K0 := k_eq ctx 0 [0, 1, 5, 8, 9] [5] _
noncomputable def verify_rule_broken_R0 := intoE ctx 0 [1, 5, 6] [] verify_rule_broken_B0
noncomputable def verify_rule_broken_K0 := roundE ctx 0 [1, 5, 6] [] verify_rule_broken_B0
theorem verify_rule_broken_L0_eq : LEq ctx [1, 5, 6] verify_rule_broken_L0 verify_rule_broken_R0 := l_eq ctx 0 [1, 5, 6] [] _
theorem verify_rule_broken_R0_eq : REq ctx verify_rule_broken_B0 verify_rule_broken_R0 verify_rule_broken_K0 := r_eq ctx 0 [1, 5, 6] [] _
theorem verify_rule_broken_K0_a : KEq 0 [1, 5, 6] [] verify_rule_broken_R0 verify_rule_broken_K0 := k_eq ctx 0 [1, 5, 6] [] _
noncomputable def slices_IndexFunc_int_R0 := intoE ctx 0 [0, 1, 7, 8] [] slices_IndexFunc_int_B0
noncomputable def slices_IndexFunc_int_K0 := roundE ctx 0 [0, 1, 7, 8] [] slices_IndexFunc_int_B0
theorem slices_IndexFunc_int_L0_eq : LEq ctx [0, 1, 7, 8] slices_IndexFunc_int_L0 slices_IndexFunc_int_R0 := l_eq ctx 0 [0, 1, 7, 8] [] _
theorem slices_IndexFunc_int_R0_eq : REq ctx slices_IndexFunc_int_B0 slices_IndexFunc_int_R0 slices_IndexFunc_int_K0 := r_eq ctx 0 [0, 1, 7, 8] [] _
theorem slices_IndexFunc_int_K0_a : KEq 0 [0, 1, 7, 8] [] slices_IndexFunc_int_R0 slices_IndexFunc_int_K0 := k_eq ctx 0 [0, 1, 7, 8] [] _
noncomputable def slices_IndexFunc_pLock_R0 := intoE ctx 0 [0, 1, 7, 8] [] slices_IndexFunc_pLock_B0
noncomputable def slices_IndexFunc_pLock_K0 := roundE ctx 0 [0, 1, 7, 8] [] slices_IndexFunc_pLock_B0
theorem slices_IndexFunc_pLock_L0_eq : LEq ctx [0, 1, 7, 8] slices_IndexFunc_pLock_L0 slices_IndexFunc_pLock_R0 := l_eq ctx 0 [0, 1, 7, 8] [] _
theorem slices_IndexFunc_pLock_R0_eq : REq ctx slices_IndexFunc_pLock_B0 slices_IndexFunc_pLock_R0 slices_IndexFunc_pLock_K0 := r_eq ctx 0 [0, 1, 7, 8] [] _
theorem slices_IndexFunc_pLock_K0_a : KEq 0 [0, 1, 7, 8] [] slices_IndexFunc_pLock_R0 slices_IndexFunc_pLock_K0 := k_eq ctx 0 [0, 1, 7, 8] [] _
noncomputable def crc_Of_R2 := intoE ctx 2 [3, 7, 8, 9, 17] [3, 7, 8, 9] crc_Of_B2
noncomputable def crc_Of_K2 := roundE ctx 2 [3, 7, 8, 9, 17] [3, 7, 8, 9] crc_Of_B2
theorem crc_Of_L2_eq : LEq ctx [3, 7, 8, 9, 17] crc_Of_L2 crc_Of_R2 := l_eq ctx 2 [3, 7, 8, 9, 17] [3, 7, 8, 9] _
theorem crc_Of_R2_eq : REq ctx crc_Of_B2 crc_Of_R2 crc_Of_K2 := r_eq ctx 2 [3, 7, 8, 9, 17] [3, 7, 8, 9] _
theorem crc_Of_K2_a : KEq 2 [3, 7, 8, 9, 17] [3, 7, 8, 9] crc_Of_R2 crc_Of_K2 := k_eq ctx 2 [3, 7, 8, 9, 17] [3, 7, 8, 9] _
noncomputable def crc_Of_R0 := intoE ctx 0 [3, 7, 8, 9] [3] crc_Of_B0
noncomputable def crc_Of_K0 := roundE ctx 0 [3, 7, 8, 9] [3] crc_Of_B0
theorem crc_Of_L0_eq : LEq ctx [3, 7, 8, 9] crc_Of_L0 crc_Of_R0 := l_eq ctx 0 [3, 7, 8, 9] [3] _
theorem crc_Of_R0_eq : REq ctx crc_Of_B0 crc_Of_R0 crc_Of_K0 := r_eq ctx 0 [3, 7, 8, 9] [3] _
theorem crc_Of_K0_a : KEq 0 [3, 7, 8, 9] [3] crc_Of_R0 crc_Of_K0 := k_eq ctx 0 [3, 7, 8, 9] [3] _
noncomputable def verify_judge_times_R0 := intoE ctx 0 [1, 14, 15, 16] [1] verify_judge_times_B0
noncomputable def verify_judge_times_K0 := roundE ctx 0 [1, 14, 15, 16] [1] verify_judge_times_B0
theorem verify_judge_times_L0_eq : LEq ctx [1, 14, 15, 16] verify_judge_times_L0 verify_judge_times_R0 := l_eq ctx 0 [1, 14, 15, 16] [1] _
theorem verify_judge_times_R0_eq : REq ctx verify_judge_times_B0 verify_judge_times_R0 verify_judge_times_K0 := r_eq ctx 0 [1, 14, 15, 16] [1] _
theorem verify_judge_times_K0_a : KEq 0 [1, 14, 15, 16] [1] verify_judge_times_R0 verify_judge_times_K0 := k_eq ctx 0 [1, 14, 15, 16] [1] _
noncomputable def graph_Graph_Ends_R2 := intoE ctx 2 [0, 1, 5, 6, 26, 27] [0, 1, 5, 6] graph_Graph_Ends_B2
noncomputable def graph_Graph_Ends_K2 := roundE ctx 2 [0, 1, 5, 6, 26, 27] [0, 1, 5, 6] graph_Graph_Ends_B2
theorem graph_Graph_Ends_L2_eq : LEq ctx [0, 1, 5, 6, 26, 27] graph_Graph_Ends_L2 graph_Graph_Ends_R2 := l_eq ctx 2 [0, 1, 5, 6, 26, 27] [0, 1, 5, 6] _
theorem graph_Graph_Ends_R2_eq : REq ctx graph_Graph_Ends_B2 graph_Graph_Ends_R2 graph_Graph_Ends_K2 := r_eq ctx 2 [0, 1, 5, 6, 26, 27] [0, 1, 5, 6] _
theorem graph_Graph_Ends_K2_a : KEq 2 [0, 1, 5, 6, 26, 27] [0, 1, 5, 6] graph_Graph_Ends_R2 graph_Graph_Ends_K2 := k_eq ctx 2 [0, 1, 5, 6, 26, 27] [0, 1, 5, 6] _
noncomputable def graph_Graph_Ends_R0 := intoE ctx 0 [0, 1, 5, 6] [] graph_Graph_Ends_B0
noncomputable def graph_Graph_Ends_K0 := roundE ctx 0 [0, 1, 5, 6] [] graph_Graph_Ends_B0
theorem graph_Graph_Ends_L0_eq : LEq ctx [0, 1, 5, 6] graph_Graph_Ends_L0 graph_Graph_Ends_R0 := l_eq ctx 0 [0, 1, 5, 6] [] _
theorem graph_Graph_Ends_R0_eq : REq ctx graph_Graph_Ends_B0 graph_Graph_Ends_R0 graph_Graph_Ends_K0 := r_eq ctx 0 [0, 1, 5, 6] [] _
theorem graph_Graph_Ends_K0_a : KEq 0 [0, 1, 5, 6] [] graph_Graph_Ends_R0 graph_Graph_Ends_K0 := k_eq ctx 0 [0, 1, 5, 6] [] _
noncomputable def verify_judge_points_R0 := intoE ctx 0 [1, 2, 5, 10, 11, 12] [1, 2, 5] verify_judge_points_B0
noncomputable def verify_judge_points_K0 := roundE ctx 0 [1, 2, 5, 10, 11, 12] [1, 2, 5] verify_judge_points_B0
theorem verify_judge_points_L0_eq : LEq ctx [1, 2, 5, 10, 11, 12] verify_judge_points_L0 verify_judge_points_R0 := l_eq ctx 0 [1, 2, 5, 10, 11, 12] [1, 2, 5] _
theorem verify_judge_points_R0_eq : REq ctx verify_judge_points_B0 verify_judge_points_R0 verify_judge_points_K0 := r_eq ctx 0 [1, 2, 5, 10, 11, 12] [1, 2, 5] _
theorem verify_judge_points_K0_a : KEq 0 [1, 2, 5, 10, 11, 12] [1, 2, 5] verify_judge_points_R0 verify_judge_points_K0 := k_eq ctx 0 [1, 2, 5, 10, 11, 12] [1, 2, 5] _
noncomputable def verify_judge_once_R2 := intoE ctx 2 [1, 5, 12, 13, 14, 18, 19, 20] [1, 5, 12, 13, 14] verify_judge_once_B2
noncomputable def verify_judge_once_K2 := roundE ctx 2 [1, 5, 12, 13, 14, 18, 19, 20] [1, 5, 12, 13, 14] verify_judge_once_B2
theorem verify_judge_once_L2_eq : LEq ctx [1, 5, 12, 13, 14, 18, 19, 20] verify_judge_once_L2 verify_judge_once_R2 := l_eq ctx 2 [1, 5, 12, 13, 14, 18, 19, 20] [1, 5, 12, 13, 14] _
theorem verify_judge_once_R2_eq : REq ctx verify_judge_once_B2 verify_judge_once_R2 verify_judge_once_K2 := r_eq ctx 2 [1, 5, 12, 13, 14, 18, 19, 20] [1, 5, 12, 13, 14] _
theorem verify_judge_once_K2_a : KEq 2 [1, 5, 12, 13, 14, 18, 19, 20] [1, 5, 12, 13, 14] verify_judge_once_R2 verify_judge_once_K2 := k_eq ctx 2 [1, 5, 12, 13, 14, 18, 19, 20] [1, 5, 12, 13, 14] _
noncomputable def verify_judge_once_R0 := intoE ctx 0 [1, 5, 12, 13, 14] [5] verify_judge_once_B0
noncomputable def verify_judge_once_K0 := roundE ctx 0 [1, 5, 12, 13, 14] [5] verify_judge_once_B0
theorem verify_judge_once_L0_eq : LEq ctx [1, 5, 12, 13, 14] verify_judge_once_L0 verify_judge_once_R0 := l_eq ctx 0 [1, 5, 12, 13, 14] [5] _
theorem verify_judge_once_R0_eq : REq ctx verify_judge_once_B0 verify_judge_once_R0 verify_judge_once_K0 := r_eq ctx 0 [1, 5, 12, 13, 14] [5] _
theorem verify_judge_once_K0_a : KEq 0 [1, 5, 12, 13, 14] [5] verify_judge_once_R0 verify_judge_once_K0 := k_eq ctx 0 [1, 5, 12, 13, 14] [5] _
noncomputable def slices_Index_int_R0 := intoE ctx 0 [0, 1, 7, 8] [] slices_Index_int_B0
noncomputable def slices_Index_int_K0 := roundE ctx 0 [0, 1, 7, 8] [] slices_Index_int_B0
theorem slices_Index_int_L0_eq : LEq ctx [0, 1, 7, 8] slices_Index_int_L0 slices_Index_int_R0 := l_eq ctx 0 [0, 1, 7, 8] [] _
theorem slices_Index_int_R0_eq : REq ctx slices_Index_int_B0 slices_Index_int_R0 slices_Index_int_K0 := r_eq ctx 0 [0, 1, 7, 8] [] _
theorem slices_Index_int_K0_a : KEq 0 [0, 1, 7, 8] [] slices_Index_int_R0 slices_Index_int_K0 := k_eq ctx 0 [0, 1, 7, 8] [] _
noncomputable def slices_Index_complex128_R0 := intoE ctx 0 [0, 1, 7, 8] [] slices_Index_complex128_B0
noncomputable def slices_Index_complex128_K0 := roundE ctx 0 [0, 1, 7, 8] [] slices_Index_complex128_B0
theorem slices_Index_complex128_L0_eq : LEq ctx [0, 1, 7, 8] slices_Index_complex128_L0 slices_Index_complex128_R0 := l_eq ctx 0 [0, 1, 7, 8] [] _
theorem slices_Index_complex128_R0_eq : REq ctx slices_Index_complex128_B0 slices_Index_complex128_R0 slices_Index_complex128_K0 := r_eq ctx 0 [0, 1, 7, 8] [] _
theorem slices_Index_complex128_K0_a : KEq 0 [0, 1, 7, 8] [] slices_Index_complex128_R0 slices_Index_complex128_K0 := k_eq ctx 0 [0, 1, 7, 8] [] _
noncomputable def slices_IndexFunc_Int_R0 := intoE ctx 0 [0, 1, 7, 8] [] slices_IndexFunc_Int_B0
noncomputable def slices_IndexFunc_Int_K0 := roundE ctx 0 [0, 1, 7, 8] [] slices_IndexFunc_Int_B0
theorem slices_IndexFunc_Int_L0_eq : LEq ctx [0, 1, 7, 8] slices_IndexFunc_Int_L0 slices_IndexFunc_Int_R0 := l_eq ctx 0 [0, 1, 7, 8] [] _
theorem slices_IndexFunc_Int_R0_eq : REq ctx slices_IndexFunc_Int_B0 slices_IndexFunc_Int_R0 slices_IndexFunc_Int_K0 := r_eq ctx 0 [0, 1, 7, 8] [] _
theorem slices_IndexFunc_Int_K0_a : KEq 0 [0, 1, 7, 8] [] slices_IndexFunc_Int_R0 slices_IndexFunc_Int_K0 := k_eq ctx 0 [0, 1, 7, 8] [] _
noncomputable def slices_IndexFunc_Point_R0 := intoE ctx 0 [0, 1, 7, 8] [] slices_IndexFunc_Point_B0
noncomputable def slices_IndexFunc_Point_K0 := roundE ctx 0 [0, 1, 7, 8] [] slices_IndexFunc_Point_B0
theorem slices_IndexFunc_Point_L0_eq : LEq ctx [0, 1, 7, 8] slices_IndexFunc_Point_L0 slices_IndexFunc_Point_R0 := l_eq ctx 0 [0, 1, 7, 8] [] _
theorem slices_IndexFunc_Point_R0_eq : REq ctx slices_IndexFunc_Point_B0 slices_IndexFunc_Point_R0 slices_IndexFunc_Point_K0 := r_eq ctx 0 [0, 1, 7, 8] [] _
theorem slices_IndexFunc_Point_K0_a : KEq 0 [0, 1, 7, 8] [] slices_IndexFunc_Point_R0 slices_IndexFunc_Point_K0 := k_eq ctx 0 [0, 1, 7, 8] [] _
noncomputable def image_Decode_R0 := intoE ctx 0 [6, 7, 8] [6, 7] image_Decode_B0
noncomputable def image_Decode_K0 := roundE ctx 0 [6, 7, 8] [6, 7] image_Decode_B0
theorem image_Decode_L0_eq : LEq ctx [6, 7, 8] image_Decode_L0 image_Decode_R0 := l_eq ctx 0 [6, 7, 8] [6, 7] _
theorem image_Decode_R0_eq : REq ctx image_Decode_B0 image_Decode_R0 image_Decode_K0 := r_eq ctx 0 [6, 7, 8] [6, 7] _
theorem image_Decode_K0_a : KEq 0 [6, 7, 8] [6, 7] image_Decode_R0 image_Decode_K0 := k_eq ctx 0 [6, 7, 8] [6, 7] _
noncomputable def route_Table_Load_R0 := intoE ctx 0 [0, 5, 16, 17, 18] [0, 5] route_Table_Load_B0
noncomputable def route_Table_Load_K0 := roundE ctx 0 [0, 5, 16, 17, 18] [0, 5] route_Table_Load_B0
theorem route_Table_Load_L0_eq : LEq ctx [0, 5, 16, 17, 18] route_Table_Load_L0 route_Table_Load_R0 := l_eq ctx 0 [0, 5, 16, 17, 18] [0, 5] _
theorem route_Table_Load_R0_eq : REq ctx route_Table_Load_B0 route_Table_Load_R0 route_Table_Load_K0 := r_eq ctx 0 [0, 5, 16, 17, 18] [0, 5] _
theorem route_Table_Load_K0_a : KEq 0 [0, 5, 16, 17, 18] [0, 5] route_Table_Load_R0 route_Table_Load_K0 := k_eq ctx 0 [0, 5, 16, 17, 18] [0, 5] _
noncomputable def route_Table_Anew_R0 := intoE ctx 0 [0, 1, 11, 12, 13] [] route_Table_Anew_B0
noncomputable def route_Table_Anew_K0 := roundE ctx 0 [0, 1, 11, 12, 13] [] route_Table_Anew_B0
theorem route_Table_Anew_L0_eq : LEq ctx [0, 1, 11, 12, 13] route_Table_Anew_L0 route_Table_Anew_R0 := l_eq ctx 0 [0, 1, 11, 12, 13] [] _
theorem route_Table_Anew_R0_eq : REq ctx route_Table_Anew_B0 route_Table_Anew_R0 route_Table_Anew_K0 := r_eq ctx 0 [0, 1, 11, 12, 13] [] _
theorem route_Table_Anew_K0_a : KEq 0 [0, 1, 11, 12, 13] [] route_Table_Anew_R0 route_Table_Anew_K0 := k_eq ctx 0 [0, 1, 11, 12, 13] [] _
noncomputable def slices_Equal_int_R0 := intoE ctx 0 [0, 1, 12, 13] [] slices_Equal_int_B0
noncomputable def slices_Equal_int_K0 := roundE ctx 0 [0, 1, 12, 13] [] slices_Equal_int_B0
theorem slices_Equal_int_L0_eq : LEq ctx [0, 1, 12, 13] slices_Equal_int_L0 slices_Equal_int_R0 := l_eq ctx 0 [0, 1, 12, 13] [] _
theorem slices_Equal_int_R0_eq : REq ctx slices_Equal_int_B0 slices_Equal_int_R0 slices_Equal_int_K0 := r_eq ctx 0 [0, 1, 12, 13] [] _
theorem slices_Equal_int_K0_a : KEq 0 [0, 1, 12, 13] [] slices_Equal_int_R0 slices_Equal_int_K0 := k_eq ctx 0 [0, 1, 12, 13] [] _
noncomputable def image_lock_R0 := intoE ctx 0 [0, 2, 3, 15, 16] [2, 3] image_lock_B0
noncomputable def image_lock_K0 := roundE ctx 0 [0, 2, 3, 15, 16] [2, 3] image_lock_B0
theorem image_lock_L0_eq : LEq ctx [0, 2, 3, 15, 16] image_lock_L0 image_lock_R0 := l_eq ctx 0 [0, 2, 3, 15, 16] [2, 3] _
theorem image_lock_R0_eq : REq ctx image_lock_B0 image_lock_R0 image_lock_K0 := r_eq ctx 0 [0, 2, 3, 15, 16] [2, 3] _
theorem image_lock_K0_a : KEq 0 [0, 2, 3, 15, 16] [2, 3] image_lock_R0 image_lock_K0 := k_eq ctx 0 [0, 2, 3, 15, 16] [2, 3] _
noncomputable def route_Table_fits_R0 := intoE ctx 0 [0, 3, 41, 42, 43] [] route_Table_fits_B0
noncomputable def route_Table_fits_K0 := roundE ctx 0 [0, 3, 41, 42, 43] [] route_Table_fits_B0
theorem route_Table_fits_L0_eq : LEq ctx [0, 3, 41, 42, 43] route_Table_fits_L0 route_Table_fits_R0 := l_eq ctx 0 [0, 3, 41, 42, 43] [] _
theorem route_Table_fits_R0_eq : REq ctx route_Table_fits_B0 route_Table_fits_R0 route_Table_fits_K0 := r_eq ctx 0 [0, 3, 41, 42, 43] [] _
theorem route_Table_fits_K0_a : KEq 0 [0, 3, 41, 42, 43] [] route_Table_fits_R0 route_Table_fits_K0 := k_eq ctx 0 [0, 3, 41, 42, 43] [] _
noncomputable def graph_Graph_Path_R0 := intoE ctx 0 [0, 1, 14, 15, 16] [0, 1] graph_Graph_Path_B0
noncomputable def graph_Graph_Path_K0 := roundE ctx 0 [0, 1, 14, 15, 16] [0, 1] graph_Graph_Path_B0
theorem graph_Graph_Path_L0_eq : LEq ctx [0, 1, 14, 15, 16] graph_Graph_Path_L0 graph_Graph_Path_R0 := l_eq ctx 0 [0, 1, 14, 15, 16] [0, 1] _
theorem graph_Graph_Path_R0_eq : REq ctx graph_Graph_Path_B0 graph_Graph_Path_R0 graph_Graph_Path_K0 := r_eq ctx 0 [0, 1, 14, 15, 16] [0, 1] _
theorem graph_Graph_Path_K0_a : KEq 0 [0, 1, 14, 15, 16] [0, 1] graph_Graph_Path_R0 graph_Graph_Path_K0 := k_eq ctx 0 [0, 1, 14, 15, 16] [0, 1] _
noncomputable def graph_Graph_Path_R2 := intoE ctx 2 [0, 1, 27] [] graph_Graph_Path_B2
noncomputable def graph_Graph_Path_K2 := roundE ctx 2 [0, 1, 27] [] graph_Graph_Path_B2
theorem graph_Graph_Path_L2_eq : LEq ctx [0, 1, 27] graph_Graph_Path_L2 graph_Graph_Path_R2 := l_eq ctx 2 [0, 1, 27] [] _
theorem graph_Graph_Path_R2_eq : REq ctx graph_Graph_Path_B2 graph_Graph_Path_R2 graph_Graph_Path_K2 := r_eq ctx 2 [0, 1, 27] [] _
theorem graph_Graph_Path_K2_a : KEq 2 [0, 1, 27] [] graph_Graph_Path_R2 graph_Graph_Path_K2 := k_eq ctx 2 [0, 1, 27] [] _
noncomputable def route_Table_Whose_R0 := intoE ctx 0 [0, 1, 13, 14, 15] [] route_Table_Whose_B0
noncomputable def route_Table_Whose_K0 := roundE ctx 0 [0, 1, 13, 14, 15] [] route_Table_Whose_B0
theorem route_Table_Whose_L0_eq : LEq ctx [0, 1, 13, 14, 15] route_Table_Whose_L0 route_Table_Whose_R0 := l_eq ctx 0 [0, 1, 13, 14, 15] [] _
theorem route_Table_Whose_R0_eq : REq ctx route_Table_Whose_B0 route_Table_Whose_R0 route_Table_Whose_K0 := r_eq ctx 0 [0, 1, 13, 14, 15] [] _
theorem route_Table_Whose_K0_a : KEq 0 [0, 1, 13, 14, 15] [] route_Table_Whose_R0 route_Table_Whose_K0 := k_eq ctx 0 [0, 1, 13, 14, 15] [] _
noncomputable def slices_IndexFunc_End_R0 := intoE ctx 0 [0, 1, 7, 8] [] slices_IndexFunc_End_B0
noncomputable def slices_IndexFunc_End_K0 := roundE ctx 0 [0, 1, 7, 8] [] slices_IndexFunc_End_B0
theorem slices_IndexFunc_End_L0_eq : LEq ctx [0, 1, 7, 8] slices_IndexFunc_End_L0 slices_IndexFunc_End_R0 := l_eq ctx 0 [0, 1, 7, 8] [] _
theorem slices_IndexFunc_End_R0_eq : REq ctx slices_IndexFunc_End_B0 slices_IndexFunc_End_R0 slices_IndexFunc_End_K0 := r_eq ctx 0 [0, 1, 7, 8] [] _
theorem slices_IndexFunc_End_K0_a : KEq 0 [0, 1, 7, 8] [] slices_IndexFunc_End_R0 slices_IndexFunc_End_K0 := k_eq ctx 0 [0, 1, 7, 8] [] _
noncomputable def slices_Compact_int_R2 := intoE ctx 2 [0, 3, 4, 5] [0, 3] slices_Compact_int_B2
noncomputable def slices_Compact_int_K2 := roundE ctx 2 [0, 3, 4, 5] [0, 3] slices_Compact_int_B2
theorem slices_Compact_int_L2_eq : LEq ctx [0, 3, 4, 5] slices_Compact_int_L2 slices_Compact_int_R2 := l_eq ctx 2 [0, 3, 4, 5] [0, 3] _
theorem slices_Compact_int_R2_eq : REq ctx slices_Compact_int_B2 slices_Compact_int_R2 slices_Compact_int_K2 := r_eq ctx 2 [0, 3, 4, 5] [0, 3] _
theorem slices_Compact_int_K2_a : KEq 2 [0, 3, 4, 5] [0, 3] slices_Compact_int_R2 slices_Compact_int_K2 := k_eq ctx 2 [0, 3, 4, 5] [0, 3] _
noncomputable def slices_Compact_int_R0 := intoE ctx 0 [0, 3] [0] slices_Compact_int_B0
noncomputable def slices_Compact_int_K0 := roundE ctx 0 [0, 3] [0] slices_Compact_int_B0
theorem slices_Compact_int_L0_eq : LEq ctx [0, 3] slices_Compact_int_L0 slices_Compact_int_R0 := l_eq ctx 0 [0, 3] [0] _
theorem slices_Compact_int_R0_eq : REq ctx slices_Compact_int_B0 slices_Compact_int_R0 slices_Compact_int_K0 := r_eq ctx 0 [0, 3] [0] _
theorem slices_Compact_int_K0_a : KEq 0 [0, 3] [0] slices_Compact_int_R0 slices_Compact_int_K0 := k_eq ctx 0 [0, 3] [0] _
noncomputable def graph_Graph_way_R0 := intoE ctx 0 [0, 4, 8, 13, 14, 15] [8] graph_Graph_way_B0
noncomputable def graph_Graph_way_K0 := roundE ctx 0 [0, 4, 8, 13, 14, 15] [8] graph_Graph_way_B0
theorem graph_Graph_way_L0_eq : LEq ctx [0, 4, 8, 13, 14, 15] graph_Graph_way_L0 graph_Graph_way_R0 := l_eq ctx 0 [0, 4, 8, 13, 14, 15] [8] _
theorem graph_Graph_way_R0_eq : REq ctx graph_Graph_way_B0 graph_Graph_way_R0 graph_Graph_way_K0 := r_eq ctx 0 [0, 4, 8, 13, 14, 15] [8] _
theorem graph_Graph_way_K0_a : KEq 0 [0, 4, 8, 13, 14, 15] [8] graph_Graph_way_R0 graph_Graph_way_K0 := k_eq ctx 0 [0, 4, 8, 13, 14, 15] [8] _
noncomputable def slices_DeleteFunc_End_R0 := intoE ctx 0 [0, 1, 5, 6] [0, 5] slices_DeleteFunc_End_B0
noncomputable def slices_DeleteFunc_End_K0 := roundE ctx 0 [0, 1, 5, 6] [0, 5] slices_DeleteFunc_End_B0
theorem slices_DeleteFunc_End_L0_eq : LEq ctx [0, 1, 5, 6] slices_DeleteFunc_End_L0 slices_DeleteFunc_End_R0 := l_eq ctx 0 [0, 1, 5, 6] [0, 5] _
theorem slices_DeleteFunc_End_R0_eq : REq ctx slices_DeleteFunc_End_B0 slices_DeleteFunc_End_R0 slices_DeleteFunc_End_K0 := r_eq ctx 0 [0, 1, 5, 6] [0, 5] _
theorem slices_DeleteFunc_End_K0_a : KEq 0 [0, 1, 5, 6] [0, 5] slices_DeleteFunc_End_R0 slices_DeleteFunc_End_K0 := k_eq ctx 0 [0, 1, 5, 6] [0, 5] _
noncomputable def slices_Concat_End_R0 := intoE ctx 0 [0, 3, 9, 10, 11] [0, 3] slices_Concat_End_B0
noncomputable def slices_Concat_End_K0 := roundE ctx 0 [0, 3, 9, 10, 11] [0, 3] slices_Concat_End_B0
theorem slices_Concat_End_L0_eq : LEq ctx [0, 3, 9, 10, 11] slices_Concat_End_L0 slices_Concat_End_R0 := l_eq ctx 0 [0, 3, 9, 10, 11] [0, 3] _
theorem slices_Concat_End_R0_eq : REq ctx slices_Concat_End_B0 slices_Concat_End_R0 slices_Concat_End_K0 := r_eq ctx 0 [0, 3, 9, 10, 11] [0, 3] _
theorem slices_Concat_End_K0_a : KEq 0 [0, 3, 9, 10, 11] [0, 3] slices_Concat_End_R0 slices_Concat_End_K0 := k_eq ctx 0 [0, 3, 9, 10, 11] [0, 3] _
noncomputable def slices_Concat_End_R2 := intoE ctx 2 [6, 25, 26, 27] [6] slices_Concat_End_B2
noncomputable def slices_Concat_End_K2 := roundE ctx 2 [6, 25, 26, 27] [6] slices_Concat_End_B2
theorem slices_Concat_End_L2_eq : LEq ctx [6, 25, 26, 27] slices_Concat_End_L2 slices_Concat_End_R2 := l_eq ctx 2 [6, 25, 26, 27] [6] _
theorem slices_Concat_End_R2_eq : REq ctx slices_Concat_End_B2 slices_Concat_End_R2 slices_Concat_End_K2 := r_eq ctx 2 [6, 25, 26, 27] [6] _
theorem slices_Concat_End_K2_a : KEq 2 [6, 25, 26, 27] [6] slices_Concat_End_R2 slices_Concat_End_K2 := k_eq ctx 2 [6, 25, 26, 27] [6] _
noncomputable def graph_Graph_at_R0 := intoE ctx 0 [1, 11, 12, 13] [] graph_Graph_at_B0
noncomputable def graph_Graph_at_K0 := roundE ctx 0 [1, 11, 12, 13] [] graph_Graph_at_B0
theorem graph_Graph_at_L0_eq : LEq ctx [1, 11, 12, 13] graph_Graph_at_L0 graph_Graph_at_R0 := l_eq ctx 0 [1, 11, 12, 13] [] _
theorem graph_Graph_at_R0_eq : REq ctx graph_Graph_at_B0 graph_Graph_at_R0 graph_Graph_at_K0 := r_eq ctx 0 [1, 11, 12, 13] [] _
theorem graph_Graph_at_K0_a : KEq 0 [1, 11, 12, 13] [] graph_Graph_at_R0 graph_Graph_at_K0 := k_eq ctx 0 [1, 11, 12, 13] [] _
end Go.Proofs.YtkpechngfcaiiaaGreatDoor.Zt
