/- Go functions, as the interpreter runs them: written by a program of this claim's own, proved to be what the compiler makes of them. No condition. -/
import Derived.Test.YtfblegjbmhgepaaZcT0
import Derived.Test.YtfblegjbmhgepaaZcKt
import Derived.Test.YtfblegjbmhgepaaZcSet
set_option linter.all false
section
namespace Go.Proofs.Ytfblegjbmhgepaa.Zt
open Go Go.Zc
set_option maxRecDepth 100000

/-- All of them. -/
def tab : List (Nat × FInfo) := [(14, l20_nobody_I), (19, judge_Safe_I), (32, world_New_I), (37, world_World_Under_I), (33, world_World_Add_I), (40, world_World_All_I), (46, world_World_Inside_I), (81, world_World_Inside_1_I), (70, world_World_get_I), (72, world_World_under_I), (66, world_World_full_I), (68, world_World_room_I), (69, world_World_way_I), (57, slices_ContainsFunc_int_I), (84, slices_IndexFunc_Int_I), (74, maps_Keys_vehicle_I), (43, train_Fits_I), (75, train_unlike_I), (78, train_Fits_1_I), (25, r04_Small_I), (26, r05_Full_I), (47, r04_Make_I), (48, r05_Walk_I), (22, r01_Has_I), (36, r01_Ints_I), (39, r01_Rise_I), (41, graph_New_I), (67, graph_Graph_Len_I), (59, slices_Contains_int_I), (49, r05_Len_I), (79, r05_Around_I), (90, graph_Graph_section_I), (76, graph_Graph_Around_I), (77, slices_IndexFunc_End_I), (85, slices_Index_int_I), (101, r05_node_I), (102, r05_Point_I), (103, r05_one_I), (104, r05_Ends_I), (94, graph_Graph_node_I), (95, graph_Graph_Point_I), (96, slices_DeleteFunc_End_I), (97, graph_Graph_Ends_I), (98, graph_Graph_Around_1_I), (99, slices_Concat_End_I), (100, graph_Graph_at_I), (112, slices_IndexFunc_Point_I), (113, graph_Graph_Point_1_I), (114, slices_Grow_End_I), (7, l20_JudgeApart_I), (28, judge_Apart_I), (29, r16_Apart_I), (62, slices_Values_int_I), (63, slices_Concat_int_I), (89, slices_Grow_int_I), (64, slices_Compact_int_I), (65, slices_Clone_int_I)]
/-- What has a contract of its own. -/
def prims : List (Nat × (List CV → List Blk → Option (CV × List Blk))) := Zk.prims
def ctx : Ctx := ⟨Zc.look tab, Zc.look prims⟩
theorem l20_nobody_ok : compF Try.prog (quietOf ctx) l20_nobody_A (.fz false) Try.f14 = some l20_nobody_I := by kernel_rfl
theorem judge_Safe_ok : compF Try.prog (quietOf ctx) judge_Safe_A .ref Try.f19 = some judge_Safe_I := by kernel_rfl
theorem world_New_ok : compF Try.prog (quietOf ctx) world_New_A .ref Try.f32 = some world_New_I := by kernel_rfl
theorem world_World_Under_ok : compF Try.prog (quietOf ctx) world_World_Under_A .ref Try.f37 = some world_World_Under_I := by kernel_rfl
theorem world_World_Add_ok : compF Try.prog (quietOf ctx) world_World_Add_A .ref Try.f33 = some world_World_Add_I := by kernel_rfl
theorem world_World_All_ok : compF Try.prog (quietOf ctx) world_World_All_A .ref Try.f40 = some world_World_All_I := by kernel_rfl
theorem world_World_Inside_ok : compF Try.prog (quietOf ctx) world_World_Inside_A .ref Try.f46 = some world_World_Inside_I := by kernel_rfl
theorem world_World_Inside_1_ok : compF Try.prog (quietOf ctx) world_World_Inside_1_A .ref Try.f81 = some world_World_Inside_1_I := by kernel_rfl
theorem world_World_get_ok : compF Try.prog (quietOf ctx) world_World_get_A .ref Try.f70 = some world_World_get_I := by kernel_rfl
theorem world_World_under_ok : compF Try.prog (quietOf ctx) world_World_under_A .ref Try.f72 = some world_World_under_I := by kernel_rfl
theorem world_World_full_ok : compF Try.prog (quietOf ctx) world_World_full_A .ref Try.f66 = some world_World_full_I := by kernel_rfl
theorem world_World_room_ok : compF Try.prog (quietOf ctx) world_World_room_A .ref Try.f68 = some world_World_room_I := by kernel_rfl
theorem world_World_way_ok : compF Try.prog (quietOf ctx) world_World_way_A .ref Try.f69 = some world_World_way_I := by kernel_rfl
theorem slices_ContainsFunc_int_ok : compF Try.prog (quietOf ctx) slices_ContainsFunc_int_A .ref Try.f57 = some slices_ContainsFunc_int_I := by kernel_rfl
theorem slices_IndexFunc_Int_ok : compF Try.prog (quietOf ctx) slices_IndexFunc_Int_A .ref Try.f84 = some slices_IndexFunc_Int_I := by kernel_rfl
theorem maps_Keys_vehicle_ok : compF Try.prog (quietOf ctx) maps_Keys_vehicle_A .ref Try.f74 = some maps_Keys_vehicle_I := by kernel_rfl
theorem train_Fits_ok : compF Try.prog (quietOf ctx) train_Fits_A (.fz false) Try.f43 = some train_Fits_I := by kernel_rfl
theorem train_unlike_ok : compF Try.prog (quietOf ctx) train_unlike_A (.fz false) Try.f75 = some train_unlike_I := by kernel_rfl
theorem train_Fits_1_ok : compF Try.prog (quietOf ctx) train_Fits_1_A (.fz false) Try.f78 = some train_Fits_1_I := by kernel_rfl
theorem r04_Small_ok : compF Try.prog (quietOf ctx) r04_Small_A (.fz false) Try.f25 = some r04_Small_I := by kernel_rfl
theorem r05_Full_ok : compF Try.prog (quietOf ctx) r05_Full_A (.fz false) Try.f26 = some r05_Full_I := by kernel_rfl
theorem r04_Make_ok : compF Try.prog (quietOf ctx) r04_Make_A (.fz true) Try.f47 = some r04_Make_I := by kernel_rfl
theorem r05_Walk_ok : compF Try.prog (quietOf ctx) r05_Walk_A (.fz false) Try.f48 = some r05_Walk_I := by kernel_rfl
theorem r01_Has_ok : compF Try.prog (quietOf ctx) r01_Has_A (.fz false) Try.f22 = some r01_Has_I := by kernel_rfl
theorem r01_Ints_ok : compF Try.prog (quietOf ctx) r01_Ints_A (.fz false) Try.f36 = some r01_Ints_I := by kernel_rfl
theorem r01_Rise_ok : compF Try.prog (quietOf ctx) r01_Rise_A (.fz false) Try.f39 = some r01_Rise_I := by kernel_rfl
theorem graph_New_ok : compF Try.prog (quietOf ctx) graph_New_A (.fz false) Try.f41 = some graph_New_I := by kernel_rfl
theorem graph_Graph_Len_ok : compF Try.prog (quietOf ctx) graph_Graph_Len_A (.fz false) Try.f67 = some graph_Graph_Len_I := by kernel_rfl
theorem slices_Contains_int_ok : compF Try.prog (quietOf ctx) slices_Contains_int_A (.fz false) Try.f59 = some slices_Contains_int_I := by kernel_rfl
theorem r05_Len_ok : compF Try.prog (quietOf ctx) r05_Len_A (.fz false) Try.f49 = some r05_Len_I := by kernel_rfl
theorem r05_Around_ok : compF Try.prog (quietOf ctx) r05_Around_A (.fz false) Try.f79 = some r05_Around_I := by kernel_rfl
theorem graph_Graph_section_ok : compF Try.prog (quietOf ctx) graph_Graph_section_A (.fz false) Try.f90 = some graph_Graph_section_I := by kernel_rfl
theorem graph_Graph_Around_ok : compF Try.prog (quietOf ctx) graph_Graph_Around_A (.fz false) Try.f76 = some graph_Graph_Around_I := by kernel_rfl
theorem slices_IndexFunc_End_ok : compF Try.prog (quietOf ctx) slices_IndexFunc_End_A (.fz false) Try.f77 = some slices_IndexFunc_End_I := by kernel_rfl
theorem slices_Index_int_ok : compF Try.prog (quietOf ctx) slices_Index_int_A (.fz false) Try.f85 = some slices_Index_int_I := by kernel_rfl
theorem r05_node_ok : compF Try.prog (quietOf ctx) r05_node_A (.fz false) Try.f101 = some r05_node_I := by kernel_rfl
theorem r05_Point_ok : compF Try.prog (quietOf ctx) r05_Point_A (.fz false) Try.f102 = some r05_Point_I := by kernel_rfl
theorem r05_one_ok : compF Try.prog (quietOf ctx) r05_one_A (.fz false) Try.f103 = some r05_one_I := by kernel_rfl
theorem r05_Ends_ok : compF Try.prog (quietOf ctx) r05_Ends_A (.fz false) Try.f104 = some r05_Ends_I := by kernel_rfl
theorem graph_Graph_node_ok : compF Try.prog (quietOf ctx) graph_Graph_node_A (.fz false) Try.f94 = some graph_Graph_node_I := by kernel_rfl
theorem graph_Graph_Point_ok : compF Try.prog (quietOf ctx) graph_Graph_Point_A (.fz false) Try.f95 = some graph_Graph_Point_I := by kernel_rfl
theorem slices_DeleteFunc_End_ok : compF Try.prog (quietOf ctx) slices_DeleteFunc_End_A .ref Try.f96 = some slices_DeleteFunc_End_I := by kernel_rfl
theorem graph_Graph_Ends_ok : compF Try.prog (quietOf ctx) graph_Graph_Ends_A .own Try.f97 = some graph_Graph_Ends_I := by kernel_rfl
theorem graph_Graph_Around_1_ok : compF Try.prog (quietOf ctx) graph_Graph_Around_1_A (.fz false) Try.f98 = some graph_Graph_Around_1_I := by kernel_rfl
theorem slices_Concat_End_ok : compF Try.prog (quietOf ctx) slices_Concat_End_A (.fz false) Try.f99 = some slices_Concat_End_I := by kernel_rfl
theorem graph_Graph_at_ok : compF Try.prog (quietOf ctx) graph_Graph_at_A (.fz false) Try.f100 = some graph_Graph_at_I := by kernel_rfl
theorem slices_IndexFunc_Point_ok : compF Try.prog (quietOf ctx) slices_IndexFunc_Point_A (.fz false) Try.f112 = some slices_IndexFunc_Point_I := by kernel_rfl
theorem graph_Graph_Point_1_ok : compF Try.prog (quietOf ctx) graph_Graph_Point_1_A (.fz false) Try.f113 = some graph_Graph_Point_1_I := by kernel_rfl
theorem slices_Grow_End_ok : compF Try.prog (quietOf ctx) slices_Grow_End_A .ref Try.f114 = some slices_Grow_End_I := by kernel_rfl
theorem l20_JudgeApart_ok : compF Try.prog (quietOf ctx) l20_JudgeApart_A (.fz false) Try.f7 = some l20_JudgeApart_I := by kernel_rfl
theorem judge_Apart_ok : compF Try.prog (quietOf ctx) judge_Apart_A (.fz false) Try.f28 = some judge_Apart_I := by kernel_rfl
theorem r16_Apart_ok : compF Try.prog (quietOf ctx) r16_Apart_A (.fz false) Try.f29 = some r16_Apart_I := by kernel_rfl
theorem slices_Values_int_ok : compF Try.prog (quietOf ctx) slices_Values_int_A .ref Try.f62 = some slices_Values_int_I := by kernel_rfl
theorem slices_Concat_int_ok : compF Try.prog (quietOf ctx) slices_Concat_int_A .ref Try.f63 = some slices_Concat_int_I := by kernel_rfl
theorem slices_Grow_int_ok : compF Try.prog (quietOf ctx) slices_Grow_int_A .ref Try.f89 = some slices_Grow_int_I := by kernel_rfl
theorem slices_Compact_int_ok : compF Try.prog (quietOf ctx) slices_Compact_int_A .ref Try.f64 = some slices_Compact_int_I := by kernel_rfl
theorem slices_Clone_int_ok : compF Try.prog (quietOf ctx) slices_Clone_int_A .ref Try.f65 = some slices_Clone_int_I := by kernel_rfl
theorem ctx_ok : CtxOk Try.prog ctx :=
  ctxOk_prims (by kernel_rfl) (
    .cons ⟨_, _, Try.func14, l20_nobody_ok⟩ (
    .cons ⟨_, _, Try.func19, judge_Safe_ok⟩ (
    .cons ⟨_, _, Try.func32, world_New_ok⟩ (
    .cons ⟨_, _, Try.func37, world_World_Under_ok⟩ (
    .cons ⟨_, _, Try.func33, world_World_Add_ok⟩ (
    .cons ⟨_, _, Try.func40, world_World_All_ok⟩ (
    .cons ⟨_, _, Try.func46, world_World_Inside_ok⟩ (
    .cons ⟨_, _, Try.func81, world_World_Inside_1_ok⟩ (
    .cons ⟨_, _, Try.func70, world_World_get_ok⟩ (
    .cons ⟨_, _, Try.func72, world_World_under_ok⟩ (
    .cons ⟨_, _, Try.func66, world_World_full_ok⟩ (
    .cons ⟨_, _, Try.func68, world_World_room_ok⟩ (
    .cons ⟨_, _, Try.func69, world_World_way_ok⟩ (
    .cons ⟨_, _, Try.func57, slices_ContainsFunc_int_ok⟩ (
    .cons ⟨_, _, Try.func84, slices_IndexFunc_Int_ok⟩ (
    .cons ⟨_, _, Try.func74, maps_Keys_vehicle_ok⟩ (
    .cons ⟨_, _, Try.func43, train_Fits_ok⟩ (
    .cons ⟨_, _, Try.func75, train_unlike_ok⟩ (
    .cons ⟨_, _, Try.func78, train_Fits_1_ok⟩ (
    .cons ⟨_, _, Try.func25, r04_Small_ok⟩ (
    .cons ⟨_, _, Try.func26, r05_Full_ok⟩ (
    .cons ⟨_, _, Try.func47, r04_Make_ok⟩ (
    .cons ⟨_, _, Try.func48, r05_Walk_ok⟩ (
    .cons ⟨_, _, Try.func22, r01_Has_ok⟩ (
    .cons ⟨_, _, Try.func36, r01_Ints_ok⟩ (
    .cons ⟨_, _, Try.func39, r01_Rise_ok⟩ (
    .cons ⟨_, _, Try.func41, graph_New_ok⟩ (
    .cons ⟨_, _, Try.func67, graph_Graph_Len_ok⟩ (
    .cons ⟨_, _, Try.func59, slices_Contains_int_ok⟩ (
    .cons ⟨_, _, Try.func49, r05_Len_ok⟩ (
    .cons ⟨_, _, Try.func79, r05_Around_ok⟩ (
    .cons ⟨_, _, Try.func90, graph_Graph_section_ok⟩ (
    .cons ⟨_, _, Try.func76, graph_Graph_Around_ok⟩ (
    .cons ⟨_, _, Try.func77, slices_IndexFunc_End_ok⟩ (
    .cons ⟨_, _, Try.func85, slices_Index_int_ok⟩ (
    .cons ⟨_, _, Try.func101, r05_node_ok⟩ (
    .cons ⟨_, _, Try.func102, r05_Point_ok⟩ (
    .cons ⟨_, _, Try.func103, r05_one_ok⟩ (
    .cons ⟨_, _, Try.func104, r05_Ends_ok⟩ (
    .cons ⟨_, _, Try.func94, graph_Graph_node_ok⟩ (
    .cons ⟨_, _, Try.func95, graph_Graph_Point_ok⟩ (
    .cons ⟨_, _, Try.func96, slices_DeleteFunc_End_ok⟩ (
    .cons ⟨_, _, Try.func97, graph_Graph_Ends_ok⟩ (
    .cons ⟨_, _, Try.func98, graph_Graph_Around_1_ok⟩ (
    .cons ⟨_, _, Try.func99, slices_Concat_End_ok⟩ (
    .cons ⟨_, _, Try.func100, graph_Graph_at_ok⟩ (
    .cons ⟨_, _, Try.func112, slices_IndexFunc_Point_ok⟩ (
    .cons ⟨_, _, Try.func113, graph_Graph_Point_1_ok⟩ (
    .cons ⟨_, _, Try.func114, slices_Grow_End_ok⟩ (
    .cons ⟨_, _, Try.func7, l20_JudgeApart_ok⟩ (
    .cons ⟨_, _, Try.func28, judge_Apart_ok⟩ (
    .cons ⟨_, _, Try.func29, r16_Apart_ok⟩ (
    .cons ⟨_, _, Try.func62, slices_Values_int_ok⟩ (
    .cons ⟨_, _, Try.func63, slices_Concat_int_ok⟩ (
    .cons ⟨_, _, Try.func89, slices_Grow_int_ok⟩ (
    .cons ⟨_, _, Try.func64, slices_Compact_int_ok⟩ (
    .cons ⟨_, _, Try.func65, slices_Clone_int_ok⟩ (
    .nil)))))))))))))))))))))))))))))))))))))))))))))))))))))))))) Zk.prims_ok
noncomputable def l20_nobody_F := fzE ctx false 0 l20_nobody_C [.tmp 0]
theorem l20_nobody_F_eq : FzEq ctx false 0 l20_nobody_C [.tmp 0] l20_nobody_F := fz_eq _ _ _ _ _
theorem l20_nobody_call : FzCall ctx 14 l20_nobody_F := fz_called rfl (show ctx.info 14 = some l20_nobody_I by kernel_rfl)
noncomputable def judge_Safe_F := refE ctx 2 judge_Safe_C [.tmp 4]
theorem judge_Safe_F_eq : RefEq ctx 2 judge_Safe_C [.tmp 4] judge_Safe_F := ref_eq _ _ _ _
theorem judge_Safe_call : RefCall ctx 19 judge_Safe_F := ref_called rfl (show ctx.info 19 = some judge_Safe_I by kernel_rfl)
noncomputable def world_New_F := refE ctx 1 world_New_C [.tmp 2]
theorem world_New_F_eq : RefEq ctx 1 world_New_C [.tmp 2] world_New_F := ref_eq _ _ _ _
theorem world_New_call : RefCall ctx 32 world_New_F := ref_called rfl (show ctx.info 32 = some world_New_I by kernel_rfl)
noncomputable def world_World_Under_F := refE ctx 2 world_World_Under_C [.tmp 4]
theorem world_World_Under_F_eq : RefEq ctx 2 world_World_Under_C [.tmp 4] world_World_Under_F := ref_eq _ _ _ _
theorem world_World_Under_call : RefCall ctx 37 world_World_Under_F := ref_called rfl (show ctx.info 37 = some world_World_Under_I by kernel_rfl)
noncomputable def world_World_Add_F := refE ctx 6 world_World_Add_C [.tmp 12]
theorem world_World_Add_F_eq : RefEq ctx 6 world_World_Add_C [.tmp 12] world_World_Add_F := ref_eq _ _ _ _
theorem world_World_Add_call : RefCall ctx 33 world_World_Add_F := ref_called rfl (show ctx.info 33 = some world_World_Add_I by kernel_rfl)
noncomputable def world_World_All_F := refE ctx 1 world_World_All_C [.tmp 2]
theorem world_World_All_F_eq : RefEq ctx 1 world_World_All_C [.tmp 2] world_World_All_F := ref_eq _ _ _ _
theorem world_World_All_call : RefCall ctx 40 world_World_All_F := ref_called rfl (show ctx.info 40 = some world_World_All_I by kernel_rfl)
noncomputable def world_World_Inside_F := refE ctx 2 world_World_Inside_C [.tmp 4]
theorem world_World_Inside_F_eq : RefEq ctx 2 world_World_Inside_C [.tmp 4] world_World_Inside_F := ref_eq _ _ _ _
theorem world_World_Inside_call : RefCall ctx 46 world_World_Inside_F := ref_called rfl (show ctx.info 46 = some world_World_Inside_I by kernel_rfl)
noncomputable def world_World_Inside_1_F := refE ctx 3 world_World_Inside_1_C [.tmp 4]
theorem world_World_Inside_1_F_eq : RefEq ctx 3 world_World_Inside_1_C [.tmp 4] world_World_Inside_1_F := ref_eq _ _ _ _
theorem world_World_Inside_1_call : RefCall ctx 81 world_World_Inside_1_F := ref_called rfl (show ctx.info 81 = some world_World_Inside_1_I by kernel_rfl)
noncomputable def world_World_get_F := refE ctx 2 world_World_get_C [.tmp 4]
theorem world_World_get_F_eq : RefEq ctx 2 world_World_get_C [.tmp 4] world_World_get_F := ref_eq _ _ _ _
theorem world_World_get_call : RefCall ctx 70 world_World_get_F := ref_called rfl (show ctx.info 70 = some world_World_get_I by kernel_rfl)
noncomputable def world_World_under_F := refE ctx 2 world_World_under_C [.tmp 4]
theorem world_World_under_F_eq : RefEq ctx 2 world_World_under_C [.tmp 4] world_World_under_F := ref_eq _ _ _ _
theorem world_World_under_call : RefCall ctx 72 world_World_under_F := ref_called rfl (show ctx.info 72 = some world_World_under_I by kernel_rfl)
noncomputable def world_World_full_F := refE ctx 2 world_World_full_C [.tmp 4]
theorem world_World_full_F_eq : RefEq ctx 2 world_World_full_C [.tmp 4] world_World_full_F := ref_eq _ _ _ _
theorem world_World_full_call : RefCall ctx 66 world_World_full_F := ref_called rfl (show ctx.info 66 = some world_World_full_I by kernel_rfl)
noncomputable def world_World_room_F := refE ctx 3 world_World_room_C [.tmp 6]
theorem world_World_room_F_eq : RefEq ctx 3 world_World_room_C [.tmp 6] world_World_room_F := ref_eq _ _ _ _
theorem world_World_room_call : RefCall ctx 68 world_World_room_F := ref_called rfl (show ctx.info 68 = some world_World_room_I by kernel_rfl)
noncomputable def world_World_way_F := refE ctx 3 world_World_way_C [.tmp 6]
theorem world_World_way_F_eq : RefEq ctx 3 world_World_way_C [.tmp 6] world_World_way_F := ref_eq _ _ _ _
theorem world_World_way_call : RefCall ctx 69 world_World_way_F := ref_called rfl (show ctx.info 69 = some world_World_way_I by kernel_rfl)
noncomputable def slices_ContainsFunc_int_F := refE ctx 2 slices_ContainsFunc_int_C [.tmp 4]
theorem slices_ContainsFunc_int_F_eq : RefEq ctx 2 slices_ContainsFunc_int_C [.tmp 4] slices_ContainsFunc_int_F := ref_eq _ _ _ _
theorem slices_ContainsFunc_int_call : RefCall ctx 57 slices_ContainsFunc_int_F := ref_called rfl (show ctx.info 57 = some slices_ContainsFunc_int_I by kernel_rfl)
noncomputable def slices_IndexFunc_Int_F := refE ctx 2 slices_IndexFunc_Int_C [.tmp 4]
theorem slices_IndexFunc_Int_F_eq : RefEq ctx 2 slices_IndexFunc_Int_C [.tmp 4] slices_IndexFunc_Int_F := ref_eq _ _ _ _
theorem slices_IndexFunc_Int_call : RefCall ctx 84 slices_IndexFunc_Int_F := ref_called rfl (show ctx.info 84 = some slices_IndexFunc_Int_I by kernel_rfl)
noncomputable def maps_Keys_vehicle_F := refE ctx 1 maps_Keys_vehicle_C [.tmp 2]
theorem maps_Keys_vehicle_F_eq : RefEq ctx 1 maps_Keys_vehicle_C [.tmp 2] maps_Keys_vehicle_F := ref_eq _ _ _ _
theorem maps_Keys_vehicle_call : RefCall ctx 74 maps_Keys_vehicle_F := ref_called rfl (show ctx.info 74 = some maps_Keys_vehicle_I by kernel_rfl)
noncomputable def train_Fits_F := fzE ctx false 2 train_Fits_C [.tmp 4]
theorem train_Fits_F_eq : FzEq ctx false 2 train_Fits_C [.tmp 4] train_Fits_F := fz_eq _ _ _ _ _
theorem train_Fits_call : FzCall ctx 43 train_Fits_F := fz_called rfl (show ctx.info 43 = some train_Fits_I by kernel_rfl)
noncomputable def train_unlike_F := fzE ctx false 2 train_unlike_C [.tmp 4]
theorem train_unlike_F_eq : FzEq ctx false 2 train_unlike_C [.tmp 4] train_unlike_F := fz_eq _ _ _ _ _
theorem train_unlike_call : FzCall ctx 75 train_unlike_F := fz_called rfl (show ctx.info 75 = some train_unlike_I by kernel_rfl)
noncomputable def train_Fits_1_F := fzE ctx false 2 train_Fits_1_C [.tmp 3]
theorem train_Fits_1_F_eq : FzEq ctx false 2 train_Fits_1_C [.tmp 3] train_Fits_1_F := fz_eq _ _ _ _ _
theorem train_Fits_1_call : FzCall ctx 78 train_Fits_1_F := fz_called rfl (show ctx.info 78 = some train_Fits_1_I by kernel_rfl)
noncomputable def r04_Small_F := fzE ctx false 1 r04_Small_C [.tmp 2]
theorem r04_Small_F_eq : FzEq ctx false 1 r04_Small_C [.tmp 2] r04_Small_F := fz_eq _ _ _ _ _
theorem r04_Small_call : FzCall ctx 25 r04_Small_F := fz_called rfl (show ctx.info 25 = some r04_Small_I by kernel_rfl)
noncomputable def r05_Full_F := fzE ctx false 1 r05_Full_C [.cell 2 true 10]
theorem r05_Full_F_eq : FzEq ctx false 1 r05_Full_C [.cell 2 true 10] r05_Full_F := fz_eq _ _ _ _ _
theorem r05_Full_call : FzCall ctx 26 r05_Full_F := fz_called rfl (show ctx.info 26 = some r05_Full_I by kernel_rfl)
noncomputable def r04_Make_F := fzE ctx true 1 r04_Make_C [.cell 2 true 10]
theorem r04_Make_F_eq : FzEq ctx true 1 r04_Make_C [.cell 2 true 10] r04_Make_F := fz_eq _ _ _ _ _
theorem r04_Make_call : FzCall ctx 47 r04_Make_F := fz_called rfl (show ctx.info 47 = some r04_Make_I by kernel_rfl)
noncomputable def r05_Walk_F := fzE ctx false 5 r05_Walk_C [.tmp 10]
theorem r05_Walk_F_eq : FzEq ctx false 5 r05_Walk_C [.tmp 10] r05_Walk_F := fz_eq _ _ _ _ _
theorem r05_Walk_call : FzCall ctx 48 r05_Walk_F := fz_called rfl (show ctx.info 48 = some r05_Walk_I by kernel_rfl)
noncomputable def r01_Has_F := fzE ctx false 2 r01_Has_C [.tmp 4]
theorem r01_Has_F_eq : FzEq ctx false 2 r01_Has_C [.tmp 4] r01_Has_F := fz_eq _ _ _ _ _
theorem r01_Has_call : FzCall ctx 22 r01_Has_F := fz_called rfl (show ctx.info 22 = some r01_Has_I by kernel_rfl)
noncomputable def r01_Ints_F := fzE ctx false 2 r01_Ints_C [.tmp 4]
theorem r01_Ints_F_eq : FzEq ctx false 2 r01_Ints_C [.tmp 4] r01_Ints_F := fz_eq _ _ _ _ _
theorem r01_Ints_call : FzCall ctx 36 r01_Ints_F := fz_called rfl (show ctx.info 36 = some r01_Ints_I by kernel_rfl)
noncomputable def r01_Rise_F := fzE ctx false 1 r01_Rise_C [.tmp 2]
theorem r01_Rise_F_eq : FzEq ctx false 1 r01_Rise_C [.tmp 2] r01_Rise_F := fz_eq _ _ _ _ _
theorem r01_Rise_call : FzCall ctx 39 r01_Rise_F := fz_called rfl (show ctx.info 39 = some r01_Rise_I by kernel_rfl)
noncomputable def graph_New_F := fzE ctx false 1 graph_New_C [.tmp 2]
theorem graph_New_F_eq : FzEq ctx false 1 graph_New_C [.tmp 2] graph_New_F := fz_eq _ _ _ _ _
theorem graph_New_call : FzCall ctx 41 graph_New_F := fz_called rfl (show ctx.info 41 = some graph_New_I by kernel_rfl)
noncomputable def graph_Graph_Len_F := fzE ctx false 2 graph_Graph_Len_C [.tmp 4]
theorem graph_Graph_Len_F_eq : FzEq ctx false 2 graph_Graph_Len_C [.tmp 4] graph_Graph_Len_F := fz_eq _ _ _ _ _
theorem graph_Graph_Len_call : FzCall ctx 67 graph_Graph_Len_F := fz_called rfl (show ctx.info 67 = some graph_Graph_Len_I by kernel_rfl)
noncomputable def slices_Contains_int_F := fzE ctx false 2 slices_Contains_int_C [.tmp 4]
theorem slices_Contains_int_F_eq : FzEq ctx false 2 slices_Contains_int_C [.tmp 4] slices_Contains_int_F := fz_eq _ _ _ _ _
theorem slices_Contains_int_call : FzCall ctx 59 slices_Contains_int_F := fz_called rfl (show ctx.info 59 = some slices_Contains_int_I by kernel_rfl)
noncomputable def r05_Len_F := fzE ctx false 2 r05_Len_C [.tmp 4]
theorem r05_Len_F_eq : FzEq ctx false 2 r05_Len_C [.tmp 4] r05_Len_F := fz_eq _ _ _ _ _
theorem r05_Len_call : FzCall ctx 49 r05_Len_F := fz_called rfl (show ctx.info 49 = some r05_Len_I by kernel_rfl)
noncomputable def r05_Around_F := fzE ctx false 2 r05_Around_C [.tmp 4]
theorem r05_Around_F_eq : FzEq ctx false 2 r05_Around_C [.tmp 4] r05_Around_F := fz_eq _ _ _ _ _
theorem r05_Around_call : FzCall ctx 79 r05_Around_F := fz_called rfl (show ctx.info 79 = some r05_Around_I by kernel_rfl)
noncomputable def graph_Graph_section_F := fzE ctx false 2 graph_Graph_section_C [.cell 4 true 3, .tmp 5]
theorem graph_Graph_section_F_eq : FzEq ctx false 2 graph_Graph_section_C [.cell 4 true 3, .tmp 5] graph_Graph_section_F := fz_eq _ _ _ _ _
theorem graph_Graph_section_call : FzCall ctx 90 graph_Graph_section_F := fz_called rfl (show ctx.info 90 = some graph_Graph_section_I by kernel_rfl)
noncomputable def graph_Graph_Around_F := fzE ctx false 2 graph_Graph_Around_C [.tmp 4]
theorem graph_Graph_Around_F_eq : FzEq ctx false 2 graph_Graph_Around_C [.tmp 4] graph_Graph_Around_F := fz_eq _ _ _ _ _
theorem graph_Graph_Around_call : FzCall ctx 76 graph_Graph_Around_F := fz_called rfl (show ctx.info 76 = some graph_Graph_Around_I by kernel_rfl)
noncomputable def slices_IndexFunc_End_F := fzE ctx false 2 slices_IndexFunc_End_C [.tmp 4]
theorem slices_IndexFunc_End_F_eq : FzEq ctx false 2 slices_IndexFunc_End_C [.tmp 4] slices_IndexFunc_End_F := fz_eq _ _ _ _ _
theorem slices_IndexFunc_End_call : FzCall ctx 77 slices_IndexFunc_End_F := fz_called rfl (show ctx.info 77 = some slices_IndexFunc_End_I by kernel_rfl)
noncomputable def slices_Index_int_F := fzE ctx false 2 slices_Index_int_C [.tmp 4]
theorem slices_Index_int_F_eq : FzEq ctx false 2 slices_Index_int_C [.tmp 4] slices_Index_int_F := fz_eq _ _ _ _ _
theorem slices_Index_int_call : FzCall ctx 85 slices_Index_int_F := fz_called rfl (show ctx.info 85 = some slices_Index_int_I by kernel_rfl)
noncomputable def r05_node_F := fzE ctx false 2 r05_node_C [.tmp 4, .tmp 5]
theorem r05_node_F_eq : FzEq ctx false 2 r05_node_C [.tmp 4, .tmp 5] r05_node_F := fz_eq _ _ _ _ _
theorem r05_node_call : FzCall ctx 101 r05_node_F := fz_called rfl (show ctx.info 101 = some r05_node_I by kernel_rfl)
noncomputable def r05_Point_F := fzE ctx false 2 r05_Point_C [.tmp 4]
theorem r05_Point_F_eq : FzEq ctx false 2 r05_Point_C [.tmp 4] r05_Point_F := fz_eq _ _ _ _ _
theorem r05_Point_call : FzCall ctx 102 r05_Point_F := fz_called rfl (show ctx.info 102 = some r05_Point_I by kernel_rfl)
noncomputable def r05_one_F := fzE ctx false 3 r05_one_C [.tmp 6]
theorem r05_one_F_eq : FzEq ctx false 3 r05_one_C [.tmp 6] r05_one_F := fz_eq _ _ _ _ _
theorem r05_one_call : FzCall ctx 103 r05_one_F := fz_called rfl (show ctx.info 103 = some r05_one_I by kernel_rfl)
noncomputable def r05_Ends_F := fzE ctx false 2 r05_Ends_C [.tmp 4]
theorem r05_Ends_F_eq : FzEq ctx false 2 r05_Ends_C [.tmp 4] r05_Ends_F := fz_eq _ _ _ _ _
theorem r05_Ends_call : FzCall ctx 104 r05_Ends_F := fz_called rfl (show ctx.info 104 = some r05_Ends_I by kernel_rfl)
noncomputable def graph_Graph_node_F := fzE ctx false 2 graph_Graph_node_C [.tmp 4, .tmp 5]
theorem graph_Graph_node_F_eq : FzEq ctx false 2 graph_Graph_node_C [.tmp 4, .tmp 5] graph_Graph_node_F := fz_eq _ _ _ _ _
theorem graph_Graph_node_call : FzCall ctx 94 graph_Graph_node_F := fz_called rfl (show ctx.info 94 = some graph_Graph_node_I by kernel_rfl)
noncomputable def graph_Graph_Point_F := fzE ctx false 2 graph_Graph_Point_C [.tmp 4]
theorem graph_Graph_Point_F_eq : FzEq ctx false 2 graph_Graph_Point_C [.tmp 4] graph_Graph_Point_F := fz_eq _ _ _ _ _
theorem graph_Graph_Point_call : FzCall ctx 95 graph_Graph_Point_F := fz_called rfl (show ctx.info 95 = some graph_Graph_Point_I by kernel_rfl)
noncomputable def slices_DeleteFunc_End_F := refE ctx 2 slices_DeleteFunc_End_C [.tmp 4]
theorem slices_DeleteFunc_End_F_eq : RefEq ctx 2 slices_DeleteFunc_End_C [.tmp 4] slices_DeleteFunc_End_F := ref_eq _ _ _ _
theorem slices_DeleteFunc_End_call : RefCall ctx 96 slices_DeleteFunc_End_F := ref_called rfl (show ctx.info 96 = some slices_DeleteFunc_End_I by kernel_rfl)
noncomputable def graph_Graph_Ends_F := oE ctx 2 graph_Graph_Ends_C [.tmp 4]
theorem graph_Graph_Ends_F_eq : OwnEq ctx 2 graph_Graph_Ends_C [.tmp 4] graph_Graph_Ends_F := own_eq _ _ _ _
theorem graph_Graph_Ends_call : FzCall ctx 97 graph_Graph_Ends_F := own_called rfl (show ctx.info 97 = some graph_Graph_Ends_I by kernel_rfl)
noncomputable def graph_Graph_Around_1_F := fzE ctx false 2 graph_Graph_Around_1_C [.tmp 3]
theorem graph_Graph_Around_1_F_eq : FzEq ctx false 2 graph_Graph_Around_1_C [.tmp 3] graph_Graph_Around_1_F := fz_eq _ _ _ _ _
theorem graph_Graph_Around_1_call : FzCall ctx 98 graph_Graph_Around_1_F := fz_called rfl (show ctx.info 98 = some graph_Graph_Around_1_I by kernel_rfl)
noncomputable def slices_Concat_End_F := fzE ctx false 1 slices_Concat_End_C [.tmp 2]
theorem slices_Concat_End_F_eq : FzEq ctx false 1 slices_Concat_End_C [.tmp 2] slices_Concat_End_F := fz_eq _ _ _ _ _
theorem slices_Concat_End_call : FzCall ctx 99 slices_Concat_End_F := fz_called rfl (show ctx.info 99 = some slices_Concat_End_I by kernel_rfl)
noncomputable def graph_Graph_at_F := fzE ctx false 3 graph_Graph_at_C [.tmp 6]
theorem graph_Graph_at_F_eq : FzEq ctx false 3 graph_Graph_at_C [.tmp 6] graph_Graph_at_F := fz_eq _ _ _ _ _
theorem graph_Graph_at_call : FzCall ctx 100 graph_Graph_at_F := fz_called rfl (show ctx.info 100 = some graph_Graph_at_I by kernel_rfl)
noncomputable def slices_IndexFunc_Point_F := fzE ctx false 2 slices_IndexFunc_Point_C [.tmp 4]
theorem slices_IndexFunc_Point_F_eq : FzEq ctx false 2 slices_IndexFunc_Point_C [.tmp 4] slices_IndexFunc_Point_F := fz_eq _ _ _ _ _
theorem slices_IndexFunc_Point_call : FzCall ctx 112 slices_IndexFunc_Point_F := fz_called rfl (show ctx.info 112 = some slices_IndexFunc_Point_I by kernel_rfl)
noncomputable def graph_Graph_Point_1_F := fzE ctx false 2 graph_Graph_Point_1_C [.tmp 3]
theorem graph_Graph_Point_1_F_eq : FzEq ctx false 2 graph_Graph_Point_1_C [.tmp 3] graph_Graph_Point_1_F := fz_eq _ _ _ _ _
theorem graph_Graph_Point_1_call : FzCall ctx 113 graph_Graph_Point_1_F := fz_called rfl (show ctx.info 113 = some graph_Graph_Point_1_I by kernel_rfl)
noncomputable def slices_Grow_End_F := refE ctx 2 slices_Grow_End_C [.tmp 4]
theorem slices_Grow_End_F_eq : RefEq ctx 2 slices_Grow_End_C [.tmp 4] slices_Grow_End_F := ref_eq _ _ _ _
theorem slices_Grow_End_call : RefCall ctx 114 slices_Grow_End_F := ref_called rfl (show ctx.info 114 = some slices_Grow_End_I by kernel_rfl)
noncomputable def l20_JudgeApart_F := fzE ctx false 1 l20_JudgeApart_C [.tmp 2]
theorem l20_JudgeApart_F_eq : FzEq ctx false 1 l20_JudgeApart_C [.tmp 2] l20_JudgeApart_F := fz_eq _ _ _ _ _
theorem l20_JudgeApart_call : FzCall ctx 7 l20_JudgeApart_F := fz_called rfl (show ctx.info 7 = some l20_JudgeApart_I by kernel_rfl)
noncomputable def judge_Apart_F := fzE ctx false 1 judge_Apart_C [.tmp 2]
theorem judge_Apart_F_eq : FzEq ctx false 1 judge_Apart_C [.tmp 2] judge_Apart_F := fz_eq _ _ _ _ _
theorem judge_Apart_call : FzCall ctx 28 judge_Apart_F := fz_called rfl (show ctx.info 28 = some judge_Apart_I by kernel_rfl)
noncomputable def r16_Apart_F := fzE ctx false 1 r16_Apart_C [.tmp 2]
theorem r16_Apart_F_eq : FzEq ctx false 1 r16_Apart_C [.tmp 2] r16_Apart_F := fz_eq _ _ _ _ _
theorem r16_Apart_call : FzCall ctx 29 r16_Apart_F := fz_called rfl (show ctx.info 29 = some r16_Apart_I by kernel_rfl)
noncomputable def slices_Values_int_F := refE ctx 1 slices_Values_int_C [.tmp 2]
theorem slices_Values_int_F_eq : RefEq ctx 1 slices_Values_int_C [.tmp 2] slices_Values_int_F := ref_eq _ _ _ _
theorem slices_Values_int_call : RefCall ctx 62 slices_Values_int_F := ref_called rfl (show ctx.info 62 = some slices_Values_int_I by kernel_rfl)
noncomputable def slices_Concat_int_F := refE ctx 1 slices_Concat_int_C [.tmp 2]
theorem slices_Concat_int_F_eq : RefEq ctx 1 slices_Concat_int_C [.tmp 2] slices_Concat_int_F := ref_eq _ _ _ _
theorem slices_Concat_int_call : RefCall ctx 63 slices_Concat_int_F := ref_called rfl (show ctx.info 63 = some slices_Concat_int_I by kernel_rfl)
noncomputable def slices_Grow_int_F := refE ctx 2 slices_Grow_int_C [.tmp 4]
theorem slices_Grow_int_F_eq : RefEq ctx 2 slices_Grow_int_C [.tmp 4] slices_Grow_int_F := ref_eq _ _ _ _
theorem slices_Grow_int_call : RefCall ctx 89 slices_Grow_int_F := ref_called rfl (show ctx.info 89 = some slices_Grow_int_I by kernel_rfl)
noncomputable def slices_Compact_int_F := refE ctx 1 slices_Compact_int_C [.tmp 2]
theorem slices_Compact_int_F_eq : RefEq ctx 1 slices_Compact_int_C [.tmp 2] slices_Compact_int_F := ref_eq _ _ _ _
theorem slices_Compact_int_call : RefCall ctx 64 slices_Compact_int_F := ref_called rfl (show ctx.info 64 = some slices_Compact_int_I by kernel_rfl)
noncomputable def slices_Clone_int_F := refE ctx 1 slices_Clone_int_C [.tmp 2]
theorem slices_Clone_int_F_eq : RefEq ctx 1 slices_Clone_int_C [.tmp 2] slices_Clone_int_F := ref_eq _ _ _ _
theorem slices_Clone_int_call : RefCall ctx 65 slices_Clone_int_F := ref_called rfl (show ctx.info 65 = some slices_Clone_int_I by kernel_rfl)
noncomputable def judge_Safe_R0 := intoE ctx 0 [0, 7, 8, 9] [] judge_Safe_B0
noncomputable def judge_Safe_K0 := roundE ctx 0 [0, 7, 8, 9] [] judge_Safe_B0
theorem judge_Safe_L0_eq : LEq ctx [0, 7, 8, 9] judge_Safe_L0 judge_Safe_R0 := l_eq ctx 0 [0, 7, 8, 9] [] _
theorem judge_Safe_R0_eq : REq ctx judge_Safe_B0 judge_Safe_R0 judge_Safe_K0 := r_eq ctx 0 [0, 7, 8, 9] [] _
theorem judge_Safe_K0_a : KEq 0 [0, 7, 8, 9] [] judge_Safe_R0 judge_Safe_K0 := k_eq ctx 0 [0, 7, 8, 9] [] _
noncomputable def world_World_Under_R0 := intoE ctx 0 [6, 21, 22, 23] [6] world_World_Under_B0
noncomputable def world_World_Under_K0 := roundE ctx 0 [6, 21, 22, 23] [6] world_World_Under_B0
theorem world_World_Under_L0_eq : LEq ctx [6, 21, 22, 23] world_World_Under_L0 world_World_Under_R0 := l_eq ctx 0 [6, 21, 22, 23] [6] _
theorem world_World_Under_R0_eq : REq ctx world_World_Under_B0 world_World_Under_R0 world_World_Under_K0 := r_eq ctx 0 [6, 21, 22, 23] [6] _
theorem world_World_Under_K0_a : KEq 0 [6, 21, 22, 23] [6] world_World_Under_R0 world_World_Under_K0 := k_eq ctx 0 [6, 21, 22, 23] [6] _
noncomputable def world_World_under_R0 := intoE ctx 0 [0, 1, 5, 6] [5] world_World_under_B0
noncomputable def world_World_under_K0 := roundE ctx 0 [0, 1, 5, 6] [5] world_World_under_B0
theorem world_World_under_L0_eq : LEq ctx [0, 1, 5, 6] world_World_under_L0 world_World_under_R0 := l_eq ctx 0 [0, 1, 5, 6] [5] _
theorem world_World_under_R0_eq : REq ctx world_World_under_B0 world_World_under_R0 world_World_under_K0 := r_eq ctx 0 [0, 1, 5, 6] [5] _
theorem world_World_under_K0_a : KEq 0 [0, 1, 5, 6] [5] world_World_under_R0 world_World_under_K0 := k_eq ctx 0 [0, 1, 5, 6] [5] _
noncomputable def world_World_room_R0 := intoE ctx 0 [0, 7, 12, 13, 14] [7] world_World_room_B0
noncomputable def world_World_room_K0 := roundE ctx 0 [0, 7, 12, 13, 14] [7] world_World_room_B0
theorem world_World_room_L0_eq : LEq ctx [0, 7, 12, 13, 14] world_World_room_L0 world_World_room_R0 := l_eq ctx 0 [0, 7, 12, 13, 14] [7] _
theorem world_World_room_R0_eq : REq ctx world_World_room_B0 world_World_room_R0 world_World_room_K0 := r_eq ctx 0 [0, 7, 12, 13, 14] [7] _
theorem world_World_room_K0_a : KEq 0 [0, 7, 12, 13, 14] [7] world_World_room_R0 world_World_room_K0 := k_eq ctx 0 [0, 7, 12, 13, 14] [7] _
noncomputable def world_World_way_R2 := intoE ctx 2 [0, 7, 9, 20, 21, 22, 47, 48, 49] [0, 7, 20, 21, 22] world_World_way_B2
noncomputable def world_World_way_K2 := roundE ctx 2 [0, 7, 9, 20, 21, 22, 47, 48, 49] [0, 7, 20, 21, 22] world_World_way_B2
theorem world_World_way_L2_eq : LEq ctx [0, 7, 9, 20, 21, 22, 47, 48, 49] world_World_way_L2 world_World_way_R2 := l_eq ctx 2 [0, 7, 9, 20, 21, 22, 47, 48, 49] [0, 7, 20, 21, 22] _
theorem world_World_way_R2_eq : REq ctx world_World_way_B2 world_World_way_R2 world_World_way_K2 := r_eq ctx 2 [0, 7, 9, 20, 21, 22, 47, 48, 49] [0, 7, 20, 21, 22] _
theorem world_World_way_K2_a : KEq 2 [0, 7, 9, 20, 21, 22, 47, 48, 49] [0, 7, 20, 21, 22] world_World_way_R2 world_World_way_K2 := k_eq ctx 2 [0, 7, 9, 20, 21, 22, 47, 48, 49] [0, 7, 20, 21, 22] _
noncomputable def world_World_way_R0 := intoE ctx 0 [0, 7, 20, 21, 22] [7] world_World_way_B0
noncomputable def world_World_way_K0 := roundE ctx 0 [0, 7, 20, 21, 22] [7] world_World_way_B0
theorem world_World_way_L0_eq : LEq ctx [0, 7, 20, 21, 22] world_World_way_L0 world_World_way_R0 := l_eq ctx 0 [0, 7, 20, 21, 22] [7] _
theorem world_World_way_R0_eq : REq ctx world_World_way_B0 world_World_way_R0 world_World_way_K0 := r_eq ctx 0 [0, 7, 20, 21, 22] [7] _
theorem world_World_way_K0_a : KEq 0 [0, 7, 20, 21, 22] [7] world_World_way_R0 world_World_way_K0 := k_eq ctx 0 [0, 7, 20, 21, 22] [7] _
noncomputable def slices_IndexFunc_Int_R0 := intoE ctx 0 [0, 1, 7, 8] [] slices_IndexFunc_Int_B0
noncomputable def slices_IndexFunc_Int_K0 := roundE ctx 0 [0, 1, 7, 8] [] slices_IndexFunc_Int_B0
theorem slices_IndexFunc_Int_L0_eq : LEq ctx [0, 1, 7, 8] slices_IndexFunc_Int_L0 slices_IndexFunc_Int_R0 := l_eq ctx 0 [0, 1, 7, 8] [] _
theorem slices_IndexFunc_Int_R0_eq : REq ctx slices_IndexFunc_Int_B0 slices_IndexFunc_Int_R0 slices_IndexFunc_Int_K0 := r_eq ctx 0 [0, 1, 7, 8] [] _
theorem slices_IndexFunc_Int_K0_a : KEq 0 [0, 1, 7, 8] [] slices_IndexFunc_Int_R0 slices_IndexFunc_Int_K0 := k_eq ctx 0 [0, 1, 7, 8] [] _
noncomputable def train_Fits_R0 := intoE ctx 0 [0, 6, 60, 61, 62] [] train_Fits_B0
noncomputable def train_Fits_K0 := roundE ctx 0 [0, 6, 60, 61, 62] [] train_Fits_B0
theorem train_Fits_L0_eq : LEq ctx [0, 6, 60, 61, 62] train_Fits_L0 train_Fits_R0 := l_eq ctx 0 [0, 6, 60, 61, 62] [] _
theorem train_Fits_R0_eq : REq ctx train_Fits_B0 train_Fits_R0 train_Fits_K0 := r_eq ctx 0 [0, 6, 60, 61, 62] [] _
theorem train_Fits_K0_a : KEq 0 [0, 6, 60, 61, 62] [] train_Fits_R0 train_Fits_K0 := k_eq ctx 0 [0, 6, 60, 61, 62] [] _
noncomputable def train_unlike_R0 := intoE ctx 0 [0, 1, 7, 8, 9] [] train_unlike_B0
noncomputable def train_unlike_K0 := roundE ctx 0 [0, 1, 7, 8, 9] [] train_unlike_B0
theorem train_unlike_L0_eq : LEq ctx [0, 1, 7, 8, 9] train_unlike_L0 train_unlike_R0 := l_eq ctx 0 [0, 1, 7, 8, 9] [] _
theorem train_unlike_R0_eq : REq ctx train_unlike_B0 train_unlike_R0 train_unlike_K0 := r_eq ctx 0 [0, 1, 7, 8, 9] [] _
theorem train_unlike_K0_a : KEq 0 [0, 1, 7, 8, 9] [] train_unlike_R0 train_unlike_K0 := k_eq ctx 0 [0, 1, 7, 8, 9] [] _
noncomputable def r04_Small_R0 := intoE ctx 0 [1, 3] [1] r04_Small_B0
noncomputable def r04_Small_K0 := roundE ctx 0 [1, 3] [1] r04_Small_B0
theorem r04_Small_L0_eq : LEq ctx [1, 3] r04_Small_L0 r04_Small_R0 := l_eq ctx 0 [1, 3] [1] _
theorem r04_Small_R0_eq : REq ctx r04_Small_B0 r04_Small_R0 r04_Small_K0 := r_eq ctx 0 [1, 3] [1] _
theorem r04_Small_K0_a : KEq 0 [1, 3] [1] r04_Small_R0 r04_Small_K0 := k_eq ctx 0 [1, 3] [1] _
noncomputable def r05_Full_R0 := intoE ctx 0 [1, 2, 3, 4] [2, 3] r05_Full_B0
noncomputable def r05_Full_K0 := roundE ctx 0 [1, 2, 3, 4] [2, 3] r05_Full_B0
theorem r05_Full_L0_eq : LEq ctx [1, 2, 3, 4] r05_Full_L0 r05_Full_R0 := l_eq ctx 0 [1, 2, 3, 4] [2, 3] _
theorem r05_Full_R0_eq : REq ctx r05_Full_B0 r05_Full_R0 r05_Full_K0 := r_eq ctx 0 [1, 2, 3, 4] [2, 3] _
theorem r05_Full_K0_a : KEq 0 [1, 2, 3, 4] [2, 3] r05_Full_R0 r05_Full_K0 := k_eq ctx 0 [1, 2, 3, 4] [2, 3] _
noncomputable def r04_Make_R1 := intoE ctx 1 [1, 2, 3, 6, 7, 8, 9] [1, 2, 3, 6, 7, 8] r04_Make_B1
noncomputable def r04_Make_K1 := roundE ctx 1 [1, 2, 3, 6, 7, 8, 9] [1, 2, 3, 6, 7, 8] r04_Make_B1
theorem r04_Make_L1_eq : LEq ctx [1, 2, 3, 6, 7, 8, 9] r04_Make_L1 r04_Make_R1 := l_eq ctx 1 [1, 2, 3, 6, 7, 8, 9] [1, 2, 3, 6, 7, 8] _
theorem r04_Make_R1_eq : REq ctx r04_Make_B1 r04_Make_R1 r04_Make_K1 := r_eq ctx 1 [1, 2, 3, 6, 7, 8, 9] [1, 2, 3, 6, 7, 8] _
theorem r04_Make_K1_a : KEq 1 [1, 2, 3, 6, 7, 8, 9] [1, 2, 3, 6, 7, 8] r04_Make_R1 r04_Make_K1 := k_eq ctx 1 [1, 2, 3, 6, 7, 8, 9] [1, 2, 3, 6, 7, 8] _
noncomputable def r04_Make_R3 := intoE ctx 3 [1, 2, 3, 6, 7, 8, 10] [1, 2, 3, 6, 7] r04_Make_B3
noncomputable def r04_Make_K3 := roundE ctx 3 [1, 2, 3, 6, 7, 8, 10] [1, 2, 3, 6, 7] r04_Make_B3
theorem r04_Make_L3_eq : LEq ctx [1, 2, 3, 6, 7, 8, 10] r04_Make_L3 r04_Make_R3 := l_eq ctx 3 [1, 2, 3, 6, 7, 8, 10] [1, 2, 3, 6, 7] _
theorem r04_Make_R3_eq : REq ctx r04_Make_B3 r04_Make_R3 r04_Make_K3 := r_eq ctx 3 [1, 2, 3, 6, 7, 8, 10] [1, 2, 3, 6, 7] _
theorem r04_Make_K3_a : KEq 3 [1, 2, 3, 6, 7, 8, 10] [1, 2, 3, 6, 7] r04_Make_R3 r04_Make_K3 := k_eq ctx 3 [1, 2, 3, 6, 7, 8, 10] [1, 2, 3, 6, 7] _
noncomputable def r04_Make_R5 := intoE ctx 5 [1, 2, 3, 6, 7, 11] [1, 2, 3, 6, 7] r04_Make_B5
noncomputable def r04_Make_K5 := roundE ctx 5 [1, 2, 3, 6, 7, 11] [1, 2, 3, 6, 7] r04_Make_B5
theorem r04_Make_L5_eq : LEq ctx [1, 2, 3, 6, 7, 11] r04_Make_L5 r04_Make_R5 := l_eq ctx 5 [1, 2, 3, 6, 7, 11] [1, 2, 3, 6, 7] _
theorem r04_Make_R5_eq : REq ctx r04_Make_B5 r04_Make_R5 r04_Make_K5 := r_eq ctx 5 [1, 2, 3, 6, 7, 11] [1, 2, 3, 6, 7] _
theorem r04_Make_K5_a : KEq 5 [1, 2, 3, 6, 7, 11] [1, 2, 3, 6, 7] r04_Make_R5 r04_Make_K5 := k_eq ctx 5 [1, 2, 3, 6, 7, 11] [1, 2, 3, 6, 7] _
noncomputable def r04_Make_R7 := intoE ctx 7 [1, 2, 3, 6, 7, 12] [1, 2, 3, 6] r04_Make_B7
noncomputable def r04_Make_K7 := roundE ctx 7 [1, 2, 3, 6, 7, 12] [1, 2, 3, 6] r04_Make_B7
theorem r04_Make_L7_eq : LEq ctx [1, 2, 3, 6, 7, 12] r04_Make_L7 r04_Make_R7 := l_eq ctx 7 [1, 2, 3, 6, 7, 12] [1, 2, 3, 6] _
theorem r04_Make_R7_eq : REq ctx r04_Make_B7 r04_Make_R7 r04_Make_K7 := r_eq ctx 7 [1, 2, 3, 6, 7, 12] [1, 2, 3, 6] _
theorem r04_Make_K7_a : KEq 7 [1, 2, 3, 6, 7, 12] [1, 2, 3, 6] r04_Make_R7 r04_Make_K7 := k_eq ctx 7 [1, 2, 3, 6, 7, 12] [1, 2, 3, 6] _
noncomputable def r05_Walk_R0 := intoE ctx 0 [3, 4, 5, 11, 12, 13] [11] r05_Walk_B0
noncomputable def r05_Walk_K0 := roundE ctx 0 [3, 4, 5, 11, 12, 13] [11] r05_Walk_B0
theorem r05_Walk_L0_eq : LEq ctx [3, 4, 5, 11, 12, 13] r05_Walk_L0 r05_Walk_R0 := l_eq ctx 0 [3, 4, 5, 11, 12, 13] [11] _
theorem r05_Walk_R0_eq : REq ctx r05_Walk_B0 r05_Walk_R0 r05_Walk_K0 := r_eq ctx 0 [3, 4, 5, 11, 12, 13] [11] _
theorem r05_Walk_K0_a : KEq 0 [3, 4, 5, 11, 12, 13] [11] r05_Walk_R0 r05_Walk_K0 := k_eq ctx 0 [3, 4, 5, 11, 12, 13] [11] _
noncomputable def r01_Has_R0 := intoE ctx 0 [0, 1, 5] [] r01_Has_B0
noncomputable def r01_Has_K0 := roundE ctx 0 [0, 1, 5] [] r01_Has_B0
theorem r01_Has_L0_eq : LEq ctx [0, 1, 5] r01_Has_L0 r01_Has_R0 := l_eq ctx 0 [0, 1, 5] [] _
theorem r01_Has_R0_eq : REq ctx r01_Has_B0 r01_Has_R0 r01_Has_K0 := r_eq ctx 0 [0, 1, 5] [] _
theorem r01_Has_K0_a : KEq 0 [0, 1, 5] [] r01_Has_R0 r01_Has_K0 := k_eq ctx 0 [0, 1, 5] [] _
noncomputable def r01_Ints_R0 := intoE ctx 0 [0, 1, 5] [] r01_Ints_B0
noncomputable def r01_Ints_K0 := roundE ctx 0 [0, 1, 5] [] r01_Ints_B0
theorem r01_Ints_L0_eq : LEq ctx [0, 1, 5] r01_Ints_L0 r01_Ints_R0 := l_eq ctx 0 [0, 1, 5] [] _
theorem r01_Ints_R0_eq : REq ctx r01_Ints_B0 r01_Ints_R0 r01_Ints_K0 := r_eq ctx 0 [0, 1, 5] [] _
theorem r01_Ints_K0_a : KEq 0 [0, 1, 5] [] r01_Ints_R0 r01_Ints_K0 := k_eq ctx 0 [0, 1, 5] [] _
noncomputable def r01_Rise_R2 := intoE ctx 2 [0, 3, 4, 5] [0, 3, 4] r01_Rise_B2
noncomputable def r01_Rise_K2 := roundE ctx 2 [0, 3, 4, 5] [0, 3, 4] r01_Rise_B2
theorem r01_Rise_L2_eq : LEq ctx [0, 3, 4, 5] r01_Rise_L2 r01_Rise_R2 := l_eq ctx 2 [0, 3, 4, 5] [0, 3, 4] _
theorem r01_Rise_R2_eq : REq ctx r01_Rise_B2 r01_Rise_R2 r01_Rise_K2 := r_eq ctx 2 [0, 3, 4, 5] [0, 3, 4] _
theorem r01_Rise_K2_a : KEq 2 [0, 3, 4, 5] [0, 3, 4] r01_Rise_R2 r01_Rise_K2 := k_eq ctx 2 [0, 3, 4, 5] [0, 3, 4] _
noncomputable def r01_Rise_R0 := intoE ctx 0 [0, 3] [] r01_Rise_B0
noncomputable def r01_Rise_K0 := roundE ctx 0 [0, 3] [] r01_Rise_B0
theorem r01_Rise_L0_eq : LEq ctx [0, 3] r01_Rise_L0 r01_Rise_R0 := l_eq ctx 0 [0, 3] [] _
theorem r01_Rise_R0_eq : REq ctx r01_Rise_B0 r01_Rise_R0 r01_Rise_K0 := r_eq ctx 0 [0, 3] [] _
theorem r01_Rise_K0_a : KEq 0 [0, 3] [] r01_Rise_R0 r01_Rise_K0 := k_eq ctx 0 [0, 3] [] _
noncomputable def r05_Around_R0 := intoE ctx 0 [3, 8, 10, 11] [8] r05_Around_B0
noncomputable def r05_Around_K0 := roundE ctx 0 [3, 8, 10, 11] [8] r05_Around_B0
theorem r05_Around_L0_eq : LEq ctx [3, 8, 10, 11] r05_Around_L0 r05_Around_R0 := l_eq ctx 0 [3, 8, 10, 11] [8] _
theorem r05_Around_R0_eq : REq ctx r05_Around_B0 r05_Around_R0 r05_Around_K0 := r_eq ctx 0 [3, 8, 10, 11] [8] _
theorem r05_Around_K0_a : KEq 0 [3, 8, 10, 11] [8] r05_Around_R0 r05_Around_K0 := k_eq ctx 0 [3, 8, 10, 11] [8] _
noncomputable def slices_IndexFunc_End_R0 := intoE ctx 0 [0, 1, 7, 8] [] slices_IndexFunc_End_B0
noncomputable def slices_IndexFunc_End_K0 := roundE ctx 0 [0, 1, 7, 8] [] slices_IndexFunc_End_B0
theorem slices_IndexFunc_End_L0_eq : LEq ctx [0, 1, 7, 8] slices_IndexFunc_End_L0 slices_IndexFunc_End_R0 := l_eq ctx 0 [0, 1, 7, 8] [] _
theorem slices_IndexFunc_End_R0_eq : REq ctx slices_IndexFunc_End_B0 slices_IndexFunc_End_R0 slices_IndexFunc_End_K0 := r_eq ctx 0 [0, 1, 7, 8] [] _
theorem slices_IndexFunc_End_K0_a : KEq 0 [0, 1, 7, 8] [] slices_IndexFunc_End_R0 slices_IndexFunc_End_K0 := k_eq ctx 0 [0, 1, 7, 8] [] _
noncomputable def slices_Index_int_R0 := intoE ctx 0 [0, 1, 7, 8] [] slices_Index_int_B0
noncomputable def slices_Index_int_K0 := roundE ctx 0 [0, 1, 7, 8] [] slices_Index_int_B0
theorem slices_Index_int_L0_eq : LEq ctx [0, 1, 7, 8] slices_Index_int_L0 slices_Index_int_R0 := l_eq ctx 0 [0, 1, 7, 8] [] _
theorem slices_Index_int_R0_eq : REq ctx slices_Index_int_B0 slices_Index_int_R0 slices_Index_int_K0 := r_eq ctx 0 [0, 1, 7, 8] [] _
theorem slices_Index_int_K0_a : KEq 0 [0, 1, 7, 8] [] slices_Index_int_R0 slices_Index_int_K0 := k_eq ctx 0 [0, 1, 7, 8] [] _
noncomputable def r05_Point_R0 := intoE ctx 0 [1, 2, 5] [] r05_Point_B0
noncomputable def r05_Point_K0 := roundE ctx 0 [1, 2, 5] [] r05_Point_B0
theorem r05_Point_L0_eq : LEq ctx [1, 2, 5] r05_Point_L0 r05_Point_R0 := l_eq ctx 0 [1, 2, 5] [] _
theorem r05_Point_R0_eq : REq ctx r05_Point_B0 r05_Point_R0 r05_Point_K0 := r_eq ctx 0 [1, 2, 5] [] _
theorem r05_Point_K0_a : KEq 0 [1, 2, 5] [] r05_Point_R0 r05_Point_K0 := k_eq ctx 0 [1, 2, 5] [] _
noncomputable def r05_one_R0 := intoE ctx 0 [1, 7, 8] [] r05_one_B0
noncomputable def r05_one_K0 := roundE ctx 0 [1, 7, 8] [] r05_one_B0
theorem r05_one_L0_eq : LEq ctx [1, 7, 8] r05_one_L0 r05_one_R0 := l_eq ctx 0 [1, 7, 8] [] _
theorem r05_one_R0_eq : REq ctx r05_one_B0 r05_one_R0 r05_one_K0 := r_eq ctx 0 [1, 7, 8] [] _
theorem r05_one_K0_a : KEq 0 [1, 7, 8] [] r05_one_R0 r05_one_K0 := k_eq ctx 0 [1, 7, 8] [] _
noncomputable def r05_Ends_R0 := intoE ctx 0 [1, 2, 5, 6] [5] r05_Ends_B0
noncomputable def r05_Ends_K0 := roundE ctx 0 [1, 2, 5, 6] [5] r05_Ends_B0
theorem r05_Ends_L0_eq : LEq ctx [1, 2, 5, 6] r05_Ends_L0 r05_Ends_R0 := l_eq ctx 0 [1, 2, 5, 6] [5] _
theorem r05_Ends_R0_eq : REq ctx r05_Ends_B0 r05_Ends_R0 r05_Ends_K0 := r_eq ctx 0 [1, 2, 5, 6] [5] _
theorem r05_Ends_K0_a : KEq 0 [1, 2, 5, 6] [5] r05_Ends_R0 r05_Ends_K0 := k_eq ctx 0 [1, 2, 5, 6] [5] _
noncomputable def slices_DeleteFunc_End_R0 := intoE ctx 0 [0, 1, 5, 6] [0, 5] slices_DeleteFunc_End_B0
noncomputable def slices_DeleteFunc_End_K0 := roundE ctx 0 [0, 1, 5, 6] [0, 5] slices_DeleteFunc_End_B0
theorem slices_DeleteFunc_End_L0_eq : LEq ctx [0, 1, 5, 6] slices_DeleteFunc_End_L0 slices_DeleteFunc_End_R0 := l_eq ctx 0 [0, 1, 5, 6] [0, 5] _
theorem slices_DeleteFunc_End_R0_eq : REq ctx slices_DeleteFunc_End_B0 slices_DeleteFunc_End_R0 slices_DeleteFunc_End_K0 := r_eq ctx 0 [0, 1, 5, 6] [0, 5] _
theorem slices_DeleteFunc_End_K0_a : KEq 0 [0, 1, 5, 6] [0, 5] slices_DeleteFunc_End_R0 slices_DeleteFunc_End_K0 := k_eq ctx 0 [0, 1, 5, 6] [0, 5] _
noncomputable def graph_Graph_Ends_R2 := intoE ctx 2 [0, 1, 5, 6, 26, 27] [0, 1, 5, 6] graph_Graph_Ends_B2
noncomputable def graph_Graph_Ends_K2 := roundE ctx 2 [0, 1, 5, 6, 26, 27] [0, 1, 5, 6] graph_Graph_Ends_B2
theorem graph_Graph_Ends_L2_eq : LEq ctx [0, 1, 5, 6, 26, 27] graph_Graph_Ends_L2 graph_Graph_Ends_R2 := l_eq ctx 2 [0, 1, 5, 6, 26, 27] [0, 1, 5, 6] _
theorem graph_Graph_Ends_R2_eq : REq ctx graph_Graph_Ends_B2 graph_Graph_Ends_R2 graph_Graph_Ends_K2 := r_eq ctx 2 [0, 1, 5, 6, 26, 27] [0, 1, 5, 6] _
theorem graph_Graph_Ends_K2_a : KEq 2 [0, 1, 5, 6, 26, 27] [0, 1, 5, 6] graph_Graph_Ends_R2 graph_Graph_Ends_K2 := k_eq ctx 2 [0, 1, 5, 6, 26, 27] [0, 1, 5, 6] _
noncomputable def graph_Graph_Ends_R0 := intoE ctx 0 [0, 1, 5, 6] [] graph_Graph_Ends_B0
noncomputable def graph_Graph_Ends_K0 := roundE ctx 0 [0, 1, 5, 6] [] graph_Graph_Ends_B0
theorem graph_Graph_Ends_L0_eq : LEq ctx [0, 1, 5, 6] graph_Graph_Ends_L0 graph_Graph_Ends_R0 := l_eq ctx 0 [0, 1, 5, 6] [] _
theorem graph_Graph_Ends_R0_eq : REq ctx graph_Graph_Ends_B0 graph_Graph_Ends_R0 graph_Graph_Ends_K0 := r_eq ctx 0 [0, 1, 5, 6] [] _
theorem graph_Graph_Ends_K0_a : KEq 0 [0, 1, 5, 6] [] graph_Graph_Ends_R0 graph_Graph_Ends_K0 := k_eq ctx 0 [0, 1, 5, 6] [] _
noncomputable def slices_Concat_End_R0 := intoE ctx 0 [0, 3, 9, 10, 11] [0, 3] slices_Concat_End_B0
noncomputable def slices_Concat_End_K0 := roundE ctx 0 [0, 3, 9, 10, 11] [0, 3] slices_Concat_End_B0
theorem slices_Concat_End_L0_eq : LEq ctx [0, 3, 9, 10, 11] slices_Concat_End_L0 slices_Concat_End_R0 := l_eq ctx 0 [0, 3, 9, 10, 11] [0, 3] _
theorem slices_Concat_End_R0_eq : REq ctx slices_Concat_End_B0 slices_Concat_End_R0 slices_Concat_End_K0 := r_eq ctx 0 [0, 3, 9, 10, 11] [0, 3] _
theorem slices_Concat_End_K0_a : KEq 0 [0, 3, 9, 10, 11] [0, 3] slices_Concat_End_R0 slices_Concat_End_K0 := k_eq ctx 0 [0, 3, 9, 10, 11] [0, 3] _
noncomputable def slices_Concat_End_R2 := intoE ctx 2 [6, 25, 26, 27] [6] slices_Concat_End_B2
noncomputable def slices_Concat_End_K2 := roundE ctx 2 [6, 25, 26, 27] [6] slices_Concat_End_B2
theorem slices_Concat_End_L2_eq : LEq ctx [6, 25, 26, 27] slices_Concat_End_L2 slices_Concat_End_R2 := l_eq ctx 2 [6, 25, 26, 27] [6] _
theorem slices_Concat_End_R2_eq : REq ctx slices_Concat_End_B2 slices_Concat_End_R2 slices_Concat_End_K2 := r_eq ctx 2 [6, 25, 26, 27] [6] _
theorem slices_Concat_End_K2_a : KEq 2 [6, 25, 26, 27] [6] slices_Concat_End_R2 slices_Concat_End_K2 := k_eq ctx 2 [6, 25, 26, 27] [6] _
noncomputable def graph_Graph_at_R0 := intoE ctx 0 [1, 11, 12, 13] [] graph_Graph_at_B0
noncomputable def graph_Graph_at_K0 := roundE ctx 0 [1, 11, 12, 13] [] graph_Graph_at_B0
theorem graph_Graph_at_L0_eq : LEq ctx [1, 11, 12, 13] graph_Graph_at_L0 graph_Graph_at_R0 := l_eq ctx 0 [1, 11, 12, 13] [] _
theorem graph_Graph_at_R0_eq : REq ctx graph_Graph_at_B0 graph_Graph_at_R0 graph_Graph_at_K0 := r_eq ctx 0 [1, 11, 12, 13] [] _
theorem graph_Graph_at_K0_a : KEq 0 [1, 11, 12, 13] [] graph_Graph_at_R0 graph_Graph_at_K0 := k_eq ctx 0 [1, 11, 12, 13] [] _
noncomputable def slices_IndexFunc_Point_R0 := intoE ctx 0 [0, 1, 7, 8] [] slices_IndexFunc_Point_B0
noncomputable def slices_IndexFunc_Point_K0 := roundE ctx 0 [0, 1, 7, 8] [] slices_IndexFunc_Point_B0
theorem slices_IndexFunc_Point_L0_eq : LEq ctx [0, 1, 7, 8] slices_IndexFunc_Point_L0 slices_IndexFunc_Point_R0 := l_eq ctx 0 [0, 1, 7, 8] [] _
theorem slices_IndexFunc_Point_R0_eq : REq ctx slices_IndexFunc_Point_B0 slices_IndexFunc_Point_R0 slices_IndexFunc_Point_K0 := r_eq ctx 0 [0, 1, 7, 8] [] _
theorem slices_IndexFunc_Point_K0_a : KEq 0 [0, 1, 7, 8] [] slices_IndexFunc_Point_R0 slices_IndexFunc_Point_K0 := k_eq ctx 0 [0, 1, 7, 8] [] _
noncomputable def l20_JudgeApart_R2 := intoE ctx 2 [0, 3, 4, 5, 6] [0, 3, 4, 5] l20_JudgeApart_B2
noncomputable def l20_JudgeApart_K2 := roundE ctx 2 [0, 3, 4, 5, 6] [0, 3, 4, 5] l20_JudgeApart_B2
theorem l20_JudgeApart_L2_eq : LEq ctx [0, 3, 4, 5, 6] l20_JudgeApart_L2 l20_JudgeApart_R2 := l_eq ctx 2 [0, 3, 4, 5, 6] [0, 3, 4, 5] _
theorem l20_JudgeApart_R2_eq : REq ctx l20_JudgeApart_B2 l20_JudgeApart_R2 l20_JudgeApart_K2 := r_eq ctx 2 [0, 3, 4, 5, 6] [0, 3, 4, 5] _
theorem l20_JudgeApart_K2_a : KEq 2 [0, 3, 4, 5, 6] [0, 3, 4, 5] l20_JudgeApart_R2 l20_JudgeApart_K2 := k_eq ctx 2 [0, 3, 4, 5, 6] [0, 3, 4, 5] _
noncomputable def l20_JudgeApart_R0 := intoE ctx 0 [0, 3, 4] [3] l20_JudgeApart_B0
noncomputable def l20_JudgeApart_K0 := roundE ctx 0 [0, 3, 4] [3] l20_JudgeApart_B0
theorem l20_JudgeApart_L0_eq : LEq ctx [0, 3, 4] l20_JudgeApart_L0 l20_JudgeApart_R0 := l_eq ctx 0 [0, 3, 4] [3] _
theorem l20_JudgeApart_R0_eq : REq ctx l20_JudgeApart_B0 l20_JudgeApart_R0 l20_JudgeApart_K0 := r_eq ctx 0 [0, 3, 4] [3] _
theorem l20_JudgeApart_K0_a : KEq 0 [0, 3, 4] [3] l20_JudgeApart_R0 l20_JudgeApart_K0 := k_eq ctx 0 [0, 3, 4] [3] _
noncomputable def r16_Apart_R0 := intoE ctx 0 [0, 3, 4] [3] r16_Apart_B0
noncomputable def r16_Apart_K0 := roundE ctx 0 [0, 3, 4] [3] r16_Apart_B0
theorem r16_Apart_L0_eq : LEq ctx [0, 3, 4] r16_Apart_L0 r16_Apart_R0 := l_eq ctx 0 [0, 3, 4] [3] _
theorem r16_Apart_R0_eq : REq ctx r16_Apart_B0 r16_Apart_R0 r16_Apart_K0 := r_eq ctx 0 [0, 3, 4] [3] _
theorem r16_Apart_K0_a : KEq 0 [0, 3, 4] [3] r16_Apart_R0 r16_Apart_K0 := k_eq ctx 0 [0, 3, 4] [3] _
noncomputable def slices_Concat_int_R0 := intoE ctx 0 [0, 3, 9, 10, 11] [0, 3] slices_Concat_int_B0
noncomputable def slices_Concat_int_K0 := roundE ctx 0 [0, 3, 9, 10, 11] [0, 3] slices_Concat_int_B0
theorem slices_Concat_int_L0_eq : LEq ctx [0, 3, 9, 10, 11] slices_Concat_int_L0 slices_Concat_int_R0 := l_eq ctx 0 [0, 3, 9, 10, 11] [0, 3] _
theorem slices_Concat_int_R0_eq : REq ctx slices_Concat_int_B0 slices_Concat_int_R0 slices_Concat_int_K0 := r_eq ctx 0 [0, 3, 9, 10, 11] [0, 3] _
theorem slices_Concat_int_K0_a : KEq 0 [0, 3, 9, 10, 11] [0, 3] slices_Concat_int_R0 slices_Concat_int_K0 := k_eq ctx 0 [0, 3, 9, 10, 11] [0, 3] _
noncomputable def slices_Concat_int_R2 := intoE ctx 2 [6, 25, 26, 27] [6] slices_Concat_int_B2
noncomputable def slices_Concat_int_K2 := roundE ctx 2 [6, 25, 26, 27] [6] slices_Concat_int_B2
theorem slices_Concat_int_L2_eq : LEq ctx [6, 25, 26, 27] slices_Concat_int_L2 slices_Concat_int_R2 := l_eq ctx 2 [6, 25, 26, 27] [6] _
theorem slices_Concat_int_R2_eq : REq ctx slices_Concat_int_B2 slices_Concat_int_R2 slices_Concat_int_K2 := r_eq ctx 2 [6, 25, 26, 27] [6] _
theorem slices_Concat_int_K2_a : KEq 2 [6, 25, 26, 27] [6] slices_Concat_int_R2 slices_Concat_int_K2 := k_eq ctx 2 [6, 25, 26, 27] [6] _
noncomputable def slices_Compact_int_R2 := intoE ctx 2 [0, 3, 4, 5] [0, 3] slices_Compact_int_B2
noncomputable def slices_Compact_int_K2 := roundE ctx 2 [0, 3, 4, 5] [0, 3] slices_Compact_int_B2
theorem slices_Compact_int_L2_eq : LEq ctx [0, 3, 4, 5] slices_Compact_int_L2 slices_Compact_int_R2 := l_eq ctx 2 [0, 3, 4, 5] [0, 3] _
theorem slices_Compact_int_R2_eq : REq ctx slices_Compact_int_B2 slices_Compact_int_R2 slices_Compact_int_K2 := r_eq ctx 2 [0, 3, 4, 5] [0, 3] _
theorem slices_Compact_int_K2_a : KEq 2 [0, 3, 4, 5] [0, 3] slices_Compact_int_R2 slices_Compact_int_K2 := k_eq ctx 2 [0, 3, 4, 5] [0, 3] _
noncomputable def slices_Compact_int_R0 := intoE ctx 0 [0, 3] [0] slices_Compact_int_B0
noncomputable def slices_Compact_int_K0 := roundE ctx 0 [0, 3] [0] slices_Compact_int_B0
theorem slices_Compact_int_L0_eq : LEq ctx [0, 3] slices_Compact_int_L0 slices_Compact_int_R0 := l_eq ctx 0 [0, 3] [0] _
theorem slices_Compact_int_R0_eq : REq ctx slices_Compact_int_B0 slices_Compact_int_R0 slices_Compact_int_K0 := r_eq ctx 0 [0, 3] [0] _
theorem slices_Compact_int_K0_a : KEq 0 [0, 3] [0] slices_Compact_int_R0 slices_Compact_int_K0 := k_eq ctx 0 [0, 3] [0] _
end Go.Proofs.Ytfblegjbmhgepaa.Zt
end
section
namespace Go.Proofs.Ytfblegjbmhgepaa.Zt
open Go Go.Zc
set_option maxRecDepth 10000

theorem ints_loop : ∀ (sa sb pa pb : List Int), pa.length = pb.length → sa.length = sb.length → (pa ++ sa).length ≤ small →
    r01_Ints_R0 ([(0, sl fI (pa ++ sa)), (1, sl fI (pb ++ sb)), (5, .int .i64 pa.length)], ⟨[], []⟩) = if sa = sb then some (.norm, [], ⟨[], []⟩) else some (.ret, [(4, .bool false)], ⟨[], []⟩)
  | [], [], pa, pb, hp, hs, hm => by
    rw [r01_Ints_R0_eq]
    simp only [r01_Ints_B0, r01_Ints_K0_a, zy, simprocAttr]
  | x :: sa, y :: sb, pa, pb, hp, hs, hm => by
    rw [r01_Ints_R0_eq]
    have h1 : ((pa.length : Int) < (pa ++ x :: sa).length) := by simp; omega
    have h2 := iaddr_midI .i64 pb sb y
    rw [← hp] at h2
    have hw := wrapN (n := pa.length) (by simp at hm; omega)
    have ih := ints_loop sa sb (pa ++ [x]) (pb ++ [y]) (by simpa using hp) (by simpa using hs) (by simpa using hm)
    simp only [List.append_assoc, List.cons_append, List.nil_append, List.length_append, List.length_cons, List.length_nil] at ih
    simp only [r01_Ints_B0, r01_Ints_K0_a, h1, iaddr_midI, h2, hw, zy, simprocAttr, ih]
    by_cases he : x = y <;> simp [he]

theorem ints_F (a b : List Int) (hm : a.length ≤ small) (st : Bool) (H : Heap) : r01_Ints_F st H [sl fI a, sl fI b] = some (.bool (decide (a = b)), H) := by
  rw [r01_Ints_F_eq]
  by_cases hl : a.length = b.length
  · have := ints_loop a b [] [] rfl hl hm
    simp only [List.nil_append, List.length_nil, Int.natCast_zero] at this
    simp only [r01_Ints_C, r01_Ints_L0_eq, this, hl, zy, simprocAttr]
    by_cases he : a = b <;> simp only [he, zy, simprocAttr]
  · have hl' : ¬ ((a.length : Int) = b.length) := by omega
    have he : a ≠ b := fun h => hl (by rw [h])
    simp only [r01_Ints_C, hl', he, zy, simprocAttr]

theorem has_loop (n : Int) : ∀ (s p : List Int), (p ++ s).length ≤ small →
    r01_Has_R0 ([(0, sl fI (p ++ s)), (1, .int .i64 n), (5, .int .i64 p.length)], ⟨[], []⟩) = if n ∈ s then some (.ret, [(4, .bool true)], ⟨[], []⟩) else some (.norm, [], ⟨[], []⟩)
  | [], p, hm => by
    rw [r01_Has_R0_eq]
    simp only [r01_Has_B0, r01_Has_K0_a, List.not_mem_nil, zy, simprocAttr]
  | x :: s, p, hm => by
    rw [r01_Has_R0_eq]
    have h1 : ((p.length : Int) < (p ++ x :: s).length) := by simp; omega
    have hw := wrapN (n := p.length) (by simp at hm; omega)
    have ih := has_loop n s (p ++ [x]) (by simpa using hm)
    simp only [List.append_assoc, List.cons_append, List.nil_append, List.length_append, List.length_cons, List.length_nil] at ih
    simp only [r01_Has_B0, r01_Has_K0_a, h1, iaddr_midI, hw, zy, simprocAttr, ih]
    by_cases he : x = n
    · simp [he]
    · have : n ≠ x := fun h => he h.symm
      simp [he, this]

theorem has_F (a : List Int) (n : Int) (hm : a.length ≤ small) (st : Bool) (H : Heap) : r01_Has_F st H [sl fI a, .int .i64 n] = some (.bool (decide (n ∈ a)), H) := by
  rw [r01_Has_F_eq]
  have := has_loop n a [] hm
  simp only [List.nil_append, List.length_nil, Int.natCast_zero] at this
  simp only [r01_Has_C, r01_Has_L0_eq, this, zy, simprocAttr]
  by_cases he : n ∈ a <;> simp only [he, zy, simprocAttr]
end Go.Proofs.Ytfblegjbmhgepaa.Zt
end
section
namespace Go.Proofs.Ytfblegjbmhgepaa.Zt
open Go Go.Zc
set_option maxRecDepth 10000

theorem node_F (l : Lay) (x : Ed) (st : Bool) (H : Heap) : r05_node_F st H [.agg (layC l), .agg (fE x)] = some (.tup [.int .i64 ((nodeOf l x).getD 0), .bool (nodeOf l x).isSome], H) := by
  rw [r05_node_F_eq]
  obtain ⟨s, e⟩ := x
  by_cases h1 : s < 0
  · have hn : nodeOf l ⟨s, e⟩ = none := by simp only [nodeOf, if_neg (show ¬ 0 ≤ s by omega), Option.bind_none]
    simp only [r05_node_C, fE, h1, hn, Option.getD_none, zy, simprocAttr]
  · obtain ⟨n, rfl⟩ := Int.eq_ofNat_of_zero_le (show 0 ≤ s by omega)
    by_cases h2 : l.secs.length ≤ n
    · have hn : nodeOf l ⟨n, e⟩ = none := by simp [nodeOf, List.getElem?_eq_none h2]
      have h2' : ((l.secs.length : Int) ≤ n) := by omega
      simp only [r05_node_C, fE, h1, h2', hn, Option.getD_none, zy, simprocAttr]
    · have h2' : ¬ ((l.secs.length : Int) ≤ n) := by omega
      have hlt : n < l.secs.length := by omega
      by_cases h3 : e = 0
      · subst h3
        have hn : nodeOf l ⟨n, 0⟩ = some l.secs[n].a := by simp [nodeOf, List.getElem?_eq_getElem hlt]
        simp only [r05_node_C, fE, h1, h2', hn, Option.getD_some, Option.isSome_some, iaddr_atS hlt, zy, simprocAttr]
      · by_cases h4 : e = 1
        · subst h4
          have hn : nodeOf l ⟨n, 1⟩ = some l.secs[n].b := by simp [nodeOf, List.getElem?_eq_getElem hlt]
          simp only [r05_node_C, fE, h1, h2', hn, Option.getD_some, Option.isSome_some, iaddr_atS hlt, zy, simprocAttr]
        · have hn : nodeOf l ⟨n, e⟩ = none := by simp [nodeOf, List.getElem?_eq_getElem hlt, h3, h4]
          by_cases h5 : e < 0
          · simp only [r05_node_C, fE, h1, h2', h5, hn, Option.getD_none, zy, simprocAttr]
          · have h6 : 1 < e := by omega
            simp only [r05_node_C, fE, h1, h2', h5, h6, hn, Option.getD_none, zy, simprocAttr]

theorem ends_loop (l : Lay) (hl : l.ok) (at' : Int) : ∀ (s p : List Sec) (acc : List Ed) (v : CV) (bl : List Blk), p ++ s = l.secs → acc.length ≤ 2 * p.length → Own fE 2 bl v acc →
    ∃ v' bl', r05_Ends_R0 ([(1, .int .i64 at'), (2, .op (.loc 2) 0), (5, v), (6, .int .i64 p.length)], ⟨[(2, layC l)], bl⟩) = some (.norm, [(5, v')], ⟨[], bl'⟩) ∧ Own fE 2 bl' v' (acc ++ endsFrom at' p.length s)
  | [], p, acc, v, bl, hp, ha, hO => by
    refine ⟨v, bl, ?_, by simpa [endsFrom] using hO⟩
    rw [r05_Ends_R0_eq]
    have h1 : ¬ ((p.length : Int) < l.secs.length) := by rw [← hp]; simp
    simp only [r05_Ends_B0, r05_Ends_K0_a, h1, hO.chkV, zy, simprocAttr]
  | x :: s, p, acc, v, bl, hp, ha, hO => by
    have hs := hl.secs
    have hpl : p.length + 1 + s.length = l.secs.length := by rw [← hp]; simp; omega
    have h1 : ((p.length : Int) < l.secs.length) := by omega
    have hw := wrapN (n := p.length) (by omega)
    have hi : iaddrC 3 (sl fS l.secs) (.int .i64 p.length) = some (.vp (.int .i64 x.len :: .int .i64 x.a :: .int .i64 x.b :: s.flatMap fS)) := by rw [← hp]; exact iaddr_midS _ p s x
    unfold small at hs
    have key : ∃ v' bl', r05_Ends_R0 ([(1, .int .i64 at'), (2, .op (.loc 2) 0), (5, v), (6, .int .i64 p.length)], ⟨[(2, layC l)], bl⟩) =
        r05_Ends_R0 ([(1, .int .i64 at'), (2, .op (.loc 2) 0), (5, v'), (6, .int .i64 (p ++ [x]).length)], ⟨[(2, layC l)], bl'⟩) ∧ Own fE 2 bl' v' (acc ++ ((if x.a = at' then [⟨p.length, 0⟩] else []) ++ (if x.b = at' then [⟨p.length, 1⟩] else []))) := by
      rw [r05_Ends_R0_eq]
      by_cases hA : x.a = at'
      · obtain ⟨v1, bl1, e1, o1, _⟩ := hO.app1 flatE (bytes := 16) (zero := [.int .i64 0, .int .i64 0]) (by decide) rfl rfl ⟨p.length, 0⟩ (by omega)
        by_cases hB : x.b = at'
        · obtain ⟨v2, bl2, e2, o2, _⟩ := o1.app1 flatE (bytes := 16) (zero := [.int .i64 0, .int .i64 0]) (by decide) rfl rfl ⟨p.length, 1⟩ (by simp; omega)
          refine ⟨v2, bl2, ?_, by simpa [hA, hB] using o2⟩
          simp only [fE] at e1 e2
          simp only [r05_Ends_B0, r05_Ends_K0_a, h1, hi, hA, hB, e1, e2, hw, o2.chkV, hO.chkV, o1.chkV, List.append_assoc, List.cons_append, List.nil_append, List.length_append, List.length_cons, List.length_nil, zy, simprocAttr]
        · refine ⟨v1, bl1, ?_, by simpa [hA, hB] using o1⟩
          simp only [fE] at e1
          simp only [r05_Ends_B0, r05_Ends_K0_a, h1, hi, hA, hB, e1, hw, hO.chkV, o1.chkV, List.append_assoc, List.cons_append, List.nil_append, List.length_append, List.length_cons, List.length_nil, zy, simprocAttr]
      · by_cases hB : x.b = at'
        · obtain ⟨v2, bl2, e2, o2, _⟩ := hO.app1 flatE (bytes := 16) (zero := [.int .i64 0, .int .i64 0]) (by decide) rfl rfl ⟨p.length, 1⟩ (by omega)
          refine ⟨v2, bl2, ?_, by simpa [hA, hB] using o2⟩
          simp only [fE] at e2
          simp only [r05_Ends_B0, r05_Ends_K0_a, h1, hi, hA, hB, e2, hw, o2.chkV, hO.chkV, List.append_assoc, List.cons_append, List.nil_append, List.length_append, List.length_cons, List.length_nil, zy, simprocAttr]
        · refine ⟨v, bl, ?_, by simpa [hA, hB] using hO⟩
          simp only [r05_Ends_B0, r05_Ends_K0_a, h1, hi, hA, hB, hw, hO.chkV, List.append_assoc, List.cons_append, List.nil_append, List.length_append, List.length_cons, List.length_nil, zy, simprocAttr]
    obtain ⟨v1, bl1, e1, o1⟩ := key
    obtain ⟨v2, bl2, e2, o2⟩ := ends_loop l hl at' s (p ++ [x]) _ v1 bl1 (by simpa using hp) (by simp only [List.length_append, List.length_cons, List.length_nil]; split <;> split <;> simp <;> omega) o1
    refine ⟨v2, bl2, e1.trans e2, ?_⟩
    simpa [endsFrom] using o2

theorem snap_E (H : Heap) (st kn : Bool) (n : Nat) : ∀ x : Ed, ∀ c ∈ fE x, snapN H st kn (n + 1) c = some c := by
  intro x c hc
  simp only [fE, List.mem_cons, List.not_mem_nil, or_false] at hc
  rcases hc with rfl | rfl <;> rfl
theorem snap_I (H : Heap) (st kn : Bool) (n : Nat) : ∀ x : Int, ∀ c ∈ fI x, snapN H st kn (n + 1) c = some c := by
  intro x c hc
  simp only [fI, List.mem_cons, List.not_mem_nil, or_false] at hc
  subst hc
  rfl

theorem ends_F (l : Lay) (hl : l.ok) (at' : Int) (st : Bool) (H : Heap) : r05_Ends_F st H [.agg (layC l), .int .i64 at'] = some (sl fE (ends l at'), H) := by
  rw [r05_Ends_F_eq]
  obtain ⟨v, bl, e, o⟩ := ends_loop l hl at' l.secs [] [] .nils [] rfl (by simp) (Own.nil _ _ _)
  simp only [List.nil_append, List.length_nil, Int.natCast_zero] at e o
  simp only [r05_Ends_C, r05_Ends_L0_eq, e, o.snapV flatE _ _ _ (snap_E _ _ _ 6), ends, zy, simprocAttr]

theorem point_loop (l : Lay) (hl : l.ok) (at' : Int) : ∀ (s p : List Pt), p ++ s = l.pts →
    r05_Point_R0 ([(1, .int .i64 at'), (2, .op (.loc 2) 0), (5, .int .i64 p.length)], ⟨[(2, layC l)], []⟩) =
      match s.findIdx? (fun q => q.node == at') with
      | some i => some (.ret, [(4, .int .i64 ((p.length + i : Nat) : Int))], ⟨[(2, layC l)], []⟩)
      | none => some (.norm, [], ⟨[], []⟩)
  | [], p, hp => by
    have h1 : ¬ ((p.length : Int) < l.pts.length) := by rw [← hp]; simp
    rw [r05_Point_R0_eq]
    simp only [r05_Point_B0, r05_Point_K0_a, h1, List.findIdx?_nil, zy, simprocAttr]
  | x :: s, p, hp => by
    have hs := hl.pts
    have hpl : p.length + 1 + s.length = l.pts.length := by rw [← hp]; simp; omega
    have h1 : ((p.length : Int) < l.pts.length) := by omega
    have hw := wrapN (n := p.length) (by omega)
    have hi : iaddrC 4 (sl fP l.pts) (.int .i64 p.length) = some (.vp (.int .i64 x.node :: .int .i64 x.stem :: .int .i64 x.left :: .int .i64 x.right :: s.flatMap fP)) := by rw [← hp]; exact iaddr_midP _ p s x
    have ih := point_loop l hl at' s (p ++ [x]) (by simpa using hp)
    rw [r05_Point_R0_eq]
    simp only [List.append_assoc, List.cons_append, List.nil_append, List.length_append, List.length_cons, List.length_nil] at ih
    simp only [r05_Point_B0, r05_Point_K0_a, h1, hi, hw, zy, simprocAttr, ih]
    by_cases hA : x.node = at'
    · simp [hA, List.findIdx?_cons]
    · simp only [hA, if_false, List.findIdx?_cons, beq_iff_eq]
      cases hf : s.findIdx? (fun q => q.node == at') with
      | none => simp
      | some i => simp; omega

theorem point_F (l : Lay) (hl : l.ok) (at' : Int) (st : Bool) (H : Heap) : r05_Point_F st H [.agg (layC l), .int .i64 at'] = some (.int .i64 (match ptOf l at' with | some i => (i : Int) | none => -1), H) := by
  rw [r05_Point_F_eq]
  have e := point_loop l hl at' l.pts [] rfl
  simp only [List.nil_append, List.length_nil, Int.natCast_zero] at e
  simp only [r05_Point_C, r05_Point_L0_eq, e, ptOf, zy, simprocAttr]
  cases hf : l.pts.findIdx? (fun q => q.node == at') <;> simp only [zy, simprocAttr]
end Go.Proofs.Ytfblegjbmhgepaa.Zt
end
section
namespace Go.Proofs.Ytfblegjbmhgepaa.Zt
open Go Go.Zc
set_option maxRecDepth 10000

theorem one_loop (sec : Int) : ∀ (s p : List Ed), (p ++ s).length ≤ 2 * small →
    r05_one_R0 ([(1, .int .i64 sec), (7, sl fE (p ++ s)), (8, .int .i64 p.length)], ⟨[], []⟩) =
      match s.find? (fun x => x.s == sec) with
      | some x => some (.ret, [(6, sl fE [x])], ⟨[], []⟩)
      | none => some (.norm, [], ⟨[], []⟩)
  | [], p, hm => by
    rw [r05_one_R0_eq]
    simp only [r05_one_B0, r05_one_K0_a, List.find?_nil, zy, simprocAttr]
  | x :: s, p, hm => by
    rw [r05_one_R0_eq]
    have h1 : ((p.length : Int) < (p ++ x :: s).length) := by simp; omega
    have hw := wrapN (n := p.length) (by simp at hm; omega)
    have ih := one_loop sec s (p ++ [x]) (by simpa using hm)
    have hs := slc_sl flatE (p ++ x :: s) p.length (p.length + 1) (by omega) (by simp) .i64 .i64
    have ht : ((p ++ x :: s).take (p.length + 1)).drop p.length = [x] := by simp [List.take_append]
    rw [ht] at hs
    simp only [List.append_assoc, List.cons_append, List.nil_append, List.length_append, List.length_cons, List.length_nil] at ih
    simp only [r05_one_B0, r05_one_K0_a, h1, iaddr_midE, hw, hs, zy, simprocAttr, ih]
    by_cases he : x.s = sec
    · simp [he]
    · simp [he]

theorem one_F (l : Lay) (hl : l.ok) (sec at' : Int) (H : Heap) : r05_one_F false H [.agg (layC l), .int .i64 sec, .int .i64 at'] = some (sl fE (oneOf l sec at'), H) := by
  rw [r05_one_F_eq]
  have e := one_loop sec (ends l at') [] (ends_len hl at')
  simp only [List.nil_append, List.length_nil, Int.natCast_zero] at e
  simp only [r05_one_C, r05_one_L0_eq, r05_Ends_call, ends_F l hl, e, oneOf, zy, simprocAttr]
  cases hf : (ends l at').find? (fun x => x.s == sec) <;> simp only [sl_nil fE, zy, simprocAttr]

theorem around_loop (x : Ed) : ∀ (s p acc : List Ed) (v : CV) (bl : List Blk), (p ++ s).length ≤ 2 * small → acc.length ≤ p.length → Own fE 2 bl v acc →
    ∃ v' bl', r05_Around_R0 ([(3, .op (.loc 3) 0), (8, v), (10, sl fE (p ++ s)), (11, .int .i64 p.length)], ⟨[(3, fE x)], bl⟩) = some (.norm, [(8, v')], ⟨[], bl'⟩) ∧ Own fE 2 bl' v' (acc ++ s.filter fun y => y ≠ x)
  | [], p, acc, v, bl, hm, ha, hO => by
    refine ⟨v, bl, ?_, by simpa using hO⟩
    rw [r05_Around_R0_eq]
    simp only [r05_Around_B0, r05_Around_K0_a, fE, hO.chkV, zy, simprocAttr]
  | y :: s, p, acc, v, bl, hm, ha, hO => by
    have hm' := hm
    unfold small at hm'
    simp only [List.length_append, List.length_cons] at hm'
    have h1 : ((p.length : Int) < (p ++ y :: s).length) := by simp; omega
    have hw := wrapN (n := p.length) (by simp at hm; omega)
    have hq := eqE y x
    simp only [fE] at hq
    rw [r05_Around_R0_eq]
    by_cases he : y = x
    · subst he
      obtain ⟨v', bl', e, o⟩ := around_loop y s (p ++ [y]) acc v bl (by simpa using hm) (by simp; omega) hO
      simp only [List.append_assoc, List.cons_append, List.nil_append, List.length_append, List.length_cons, List.length_nil] at e
      refine ⟨v', bl', ?_, by simpa using o⟩
      simp only [fE] at e ⊢
      simp only [r05_Around_B0, r05_Around_K0_a, h1, iaddr_midE, hw, hO.chkV, hq, e, zy, simprocAttr]
    · obtain ⟨v1, bl1, e1, o1, _⟩ := hO.app1 flatE (bytes := 16) (zero := [.int .i64 0, .int .i64 0]) (by decide) rfl rfl y (by omega)
      obtain ⟨v', bl', e, o⟩ := around_loop x s (p ++ [y]) _ v1 bl1 (by simpa using hm) (by simp; omega) o1
      simp only [List.append_assoc, List.cons_append, List.nil_append, List.length_append, List.length_cons, List.length_nil] at e
      refine ⟨v', bl', ?_, by simpa [he] using o⟩
      simp only [fE] at e e1 ⊢
      simp only [r05_Around_B0, r05_Around_K0_a, h1, iaddr_midE, hw, hO.chkV, hq, he, e1, o1.chkV, zy, simprocAttr]
      exact e

theorem ptOf_some {l : Lay} {n : Int} {i : Nat} (h : ptOf l n = some i) : ∃ hi : i < l.pts.length, l.pts.find? (fun p => p.node == n) = some l.pts[i] := by
  unfold ptOf at h
  have h1 := List.findIdx?_eq_some_iff_getElem.1 h
  obtain ⟨hi, h2, h3⟩ := h1
  refine ⟨hi, ?_⟩
  rw [List.find?_eq_some_iff_getElem]
  exact ⟨h2, i, hi, rfl, fun j hj => by simpa using h3 j hj⟩
theorem ptOf_none {l : Lay} {n : Int} (h : ptOf l n = none) : l.pts.find? (fun p => p.node == n) = none := by
  unfold ptOf at h
  rw [List.find?_eq_none]
  intro x hx
  have := List.findIdx?_eq_none_iff.1 h x hx
  simpa using this

theorem around_F (l : Lay) (hl : l.ok) (x : Ed) (H : Heap) : r05_Around_F false H [.agg (layC l), .agg (fE x)] = some (sl fE (around l x), H) := by
  rw [r05_Around_F_eq]
  have hnF := node_F l x
  simp only [fE] at hnF
  cases hn : nodeOf l x with
  | none =>
    simp only [hn, Option.getD_none] at hnF
    simp only [r05_Around_C, fE, r05_node_call, hnF, around, hn, sl_nil fE, zy, simprocAttr]
  | some n =>
    simp only [hn, Option.getD_some] at hnF
    have hpF := point_F l hl n
    cases hp : ptOf l n with
    | some i =>
      obtain ⟨hi, hf⟩ := ptOf_some hp
      simp only [hp] at hpF
      have h0 : ¬ ((i : Int) < 0) := by omega
      have h0' : (0 : Int) ≤ i := by omega
      by_cases h1 : x.s = l.pts[i].stem
      · obtain ⟨v1, bl1, e1, o1, _⟩ := (Own.nil fE 2 []).appSl flatE (bytes := 16) (zero := [.int .i64 0, .int .i64 0]) (by decide) rfl rfl (oneOf l l.pts[i].left n) (by have := oneOf_len l l.pts[i].left n; simp; omega)
        obtain ⟨v2, bl2, e2, o2, _⟩ := o1.appSl flatE (bytes := 16) (zero := [.int .i64 0, .int .i64 0]) (by decide) rfl rfl (oneOf l l.pts[i].right n) (by have := oneOf_len l l.pts[i].left n; have := oneOf_len l l.pts[i].right n; simp; omega)
        simp only [r05_Around_C, fE, r05_node_call, hnF, r05_Point_call, hpF, h0, h0', iaddr_atP hi, eq_true h1, r05_one_call, one_F l hl, e1, e2, o2.snapV flatE _ _ _ (snap_E _ _ _ 6), around, hn, hf, zy, simprocAttr]
      · by_cases h2 : x.s = l.pts[i].left
        · simp only [r05_Around_C, fE, r05_node_call, hnF, r05_Point_call, hpF, h0, h0', iaddr_atP hi, eq_false h1, eq_true h2, r05_one_call, one_F l hl, around, hn, hf, zy, simprocAttr]
        · by_cases h3 : x.s = l.pts[i].right
          · simp only [r05_Around_C, fE, r05_node_call, hnF, r05_Point_call, hpF, h0, h0', iaddr_atP hi, eq_false h1, eq_false h2, eq_true h3, r05_one_call, one_F l hl, around, hn, hf, zy, simprocAttr]
          · simp only [r05_Around_C, fE, r05_node_call, hnF, r05_Point_call, hpF, h0, h0', iaddr_atP hi, h1, h2, h3, sl_nil fE, around, hn, hf, zy, simprocAttr]
    | none =>
      have hf := ptOf_none hp
      simp only [hp] at hpF
      obtain ⟨v, bl, e, o⟩ := around_loop x (ends l n) [] [] .nils [] (ends_len hl n) (by simp) (Own.nil _ _ _)
      simp only [List.nil_append, List.length_nil, Int.natCast_zero, fE] at e o
      have ho := o.len
      by_cases h1 : ((ends l n).filter fun y => y ≠ x).length = 1
      · have h1' : (((ends l n).filter fun y => y ≠ x).length : Int) = 1 := by omega
        simp only [r05_Around_C, r05_Around_L0_eq, fE, r05_node_call, hnF, r05_Point_call, hpF, r05_Ends_call, ends_F l hl, e, ho, eq_true h1, eq_true h1', o.snapV flatE _ _ _ (snap_E _ _ _ 6), around, hn, hf, zy, simprocAttr]
      · have h1' : ¬ (((ends l n).filter fun y => y ≠ x).length : Int) = 1 := by omega
        simp only [r05_Around_C, r05_Around_L0_eq, fE, r05_node_call, hnF, r05_Point_call, hpF, r05_Ends_call, ends_F l hl, e, ho, h1, h1', sl_nil fE, around, hn, hf, zy, simprocAttr]
end Go.Proofs.Ytfblegjbmhgepaa.Zt
end
section
namespace Go.Proofs.Ytfblegjbmhgepaa.Zt
open Go Go.Zc
set_option maxRecDepth 10000

theorem len_F (l : Lay) (s : Int) (st : Bool) (H : Heap) : r05_Len_F st H [.agg (layC l), .int .i64 s] = some (.int .i64 (lenAt l s), H) := by
  rw [r05_Len_F_eq]
  by_cases h1 : s < 0
  · have hn : lenAt l s = 0 := by simp only [lenAt, if_neg (show ¬ 0 ≤ s by omega), Option.map_none, Option.getD_none]
    simp only [r05_Len_C, h1, hn, zy, simprocAttr]
  · obtain ⟨n, rfl⟩ := Int.eq_ofNat_of_zero_le (show 0 ≤ s by omega)
    by_cases h2 : l.secs.length ≤ n
    · have hn : lenAt l n = 0 := by simp [lenAt, List.getElem?_eq_none h2]
      have h2' : ((l.secs.length : Int) ≤ n) := by omega
      simp only [r05_Len_C, h1, h2', hn, zy, simprocAttr]
    · have h2' : ¬ ((l.secs.length : Int) ≤ n) := by omega
      have hlt : n < l.secs.length := by omega
      have hn : lenAt l n = l.secs[n].len := by simp [lenAt, List.getElem?_eq_getElem hlt]
      simp only [r05_Len_C, h1, h2', hn, iaddr_atS hlt, zy, simprocAttr]

theorem small_loop (d : Draft) (hd : d.ok) : ∀ (s p : List (List Int)), p ++ s = d.routes →
    r04_Small_R0 ([(1, .op (.loc 1) 0), (3, .int .i64 p.length)], ⟨[(1, draftC d)], []⟩) = if (s.all fun r => decide (r.length ≤ 10)) = true then some (.norm, [(1, .op (.loc 1) 0)], ⟨[(1, draftC d)], []⟩) else some (.ret, [(2, .bool false)], ⟨[(1, draftC d)], []⟩)
  | [], p, hp => by
    have h1 : ¬ ((p.length : Int) < d.routes.length) := by rw [← hp]; simp
    rw [r04_Small_R0_eq]
    simp only [r04_Small_B0, r04_Small_K0_a, h1, zy, simprocAttr]
  | x :: s, p, hp => by
    have hpl : p.length + 1 + s.length = d.routes.length := by rw [← hp]; simp; omega
    have h1 : ((p.length : Int) < d.routes.length) := by omega
    have hw := wrapM (n := p.length) (by have := hd.routes; unfold maxLen at this; omega)
    have hi : iaddrC 1 (sl fUL d.routes) (.int .i64 p.length) = some (.vp (sl fU x :: s.flatMap fUL)) := by rw [← hp]; exact iaddr_midUL _ p s x
    have ih := small_loop d hd s (p ++ [x]) (by simpa using hp)
    rw [r04_Small_R0_eq]
    simp only [List.append_assoc, List.cons_append, List.nil_append, List.length_append, List.length_cons, List.length_nil] at ih
    by_cases hx : x.length ≤ 10
    · have hx' : ¬ (10 : Int) < x.length := by omega
      simp only [r04_Small_B0, r04_Small_K0_a, h1, hi, hw, hx', ih, zy, simprocAttr]
      simp [hx]
    · have hx' : (10 : Int) < x.length := by omega
      simp only [r04_Small_B0, r04_Small_K0_a, h1, hi, hw, hx', ih, zy, simprocAttr]
      simp [hx]

theorem small_F (d : Draft) (hd : d.ok) (st : Bool) (H : Heap) : r04_Small_F st H [.agg (draftC d)] = some (.bool d.small, H) := by
  rw [r04_Small_F_eq]
  have e := small_loop d hd d.routes [] rfl
  simp only [List.nil_append, List.length_nil, Int.natCast_zero] at e
  by_cases h : (d.routes.all fun r => decide (r.length ≤ 10)) = true
  · simp only [h, zy, simprocAttr] at e
    have h' : (((d.routes.length : Nat) : Int) ≤ 20) = (d.routes.length ≤ 20) := by simp; omega
    simp only [r04_Small_C, r04_Small_L0_eq, e, Draft.small, h, h', zy, simprocAttr]
  · simp only [h, zy, simprocAttr] at e
    simp only [r04_Small_C, r04_Small_L0_eq, e, Draft.small, Bool.eq_false_iff.2 h, zy, simprocAttr]

theorem snapI_own {bl : List Blk} {v : CV} {l : List Int} (h : Own fI 1 bl v l) (bx : List (Nat × List CV)) (st : Bool) : snapV ⟨bx, bl⟩ st false (snapN ⟨bx, bl⟩ st false 7) v = some (sl fI l) := h.snapV flatI bx _ _ (snap_I _ _ _ 6)
theorem snapE_own {bl : List Blk} {v : CV} {l : List Ed} (h : Own fE 2 bl v l) (bx : List (Nat × List CV)) (st : Bool) : snapV ⟨bx, bl⟩ st false (snapN ⟨bx, bl⟩ st false 7) v = some (sl fE l) := h.snapV flatE bx _ _ (snap_E _ _ _ 6)

/-- The number of a turn, as it is reckoned. -/
theorem turn_lt (turns : List Int) (i n : Nat) (h : 0 < n) : turn turns i n < n := by
  unfold turn
  split
  · exact Nat.mod_lt _ h
  · exact h

set_option maxHeartbeats 1000000 in
theorem walk_loop (l : Lay) (hl : l.ok) (turns : List Int) (ht : ∀ t ∈ turns, 0 ≤ t ∧ t ≤ 255) (most : Nat) (hm : most ≤ Zc.small) : ∀ (n i : Nat) (out : List Int) (x : Ed) (v : CV) (bl : List Blk), most - out.length = n → 0 < out.length → i < out.length → Own fI 1 bl v out →
    ∃ v' bl', (r05_Walk_R0 ([(3, sl fU turns), (4, .int .i64 most), (5, .op (.loc 5) 0), (11, v), (12, .op (.loc 12) 0), (13, .int .i64 i)], ⟨[(5, layC l), (12, fE x)], bl⟩) = some (.norm, [(11, v')], ⟨[], bl'⟩) ∨
      ∃ bx', r05_Walk_R0 ([(3, sl fU turns), (4, .int .i64 most), (5, .op (.loc 5) 0), (11, v), (12, .op (.loc 12) 0), (13, .int .i64 i)], ⟨[(5, layC l), (12, fE x)], bl⟩) = some (.ret, [(10, v')], ⟨bx', bl'⟩)) ∧
      Own fI 1 bl' v' (walkFrom l turns n i out x) := by
  intro n
  induction n with
  | zero =>
    intro i out x v bl hn h0 hi hO
    refine ⟨v, bl, .inl ?_, hO⟩
    have h1 : ¬ ((out.length : Int) < most) := by omega
    rw [r05_Walk_R0_eq]
    simp only [r05_Walk_B0, r05_Walk_K0_a, fE, hO.len, h1, hO.chkV, zy, simprocAttr]
  | succ n ih =>
    intro i out x v bl hn h0 hi hO
    have h1 : ((out.length : Int) < most) := by omega
    have hw := wrapN (n := i) (by omega)
    have haF := fun H => around_F l hl x H
    simp only [fE] at haF
    by_cases ha : (around l x).length = 0
    · have hat : (around l x)[turn turns i (around l x).length]? = none := List.getElem?_eq_none (by omega)
      have ha' : ((around l x).length : Int) = 0 := by omega
      refine ⟨v, bl, .inr ?_, by simpa only [walkFrom, hat] using hO⟩
      rw [r05_Walk_R0_eq]
      simp only [r05_Walk_B0, r05_Walk_K0_a, fE, hO.len, h1, r05_Around_call, haF, ha', zy, simprocAttr]
      exact ⟨_, rfl⟩
    · have ha' : ¬ ((around l x).length : Int) = 0 := by omega
      have htl := turn_lt turns i (around l x).length (by omega)
      obtain ⟨y, hy⟩ : ∃ y, (around l x)[turn turns i (around l x).length] = y := ⟨_, rfl⟩
      have hat : (around l x)[turn turns i (around l x).length]? = some y := by rw [List.getElem?_eq_getElem htl, hy]
      have hia := iaddr_atE (k := .i64) htl
      rw [hy] at hia
      have hhas := fun st H => has_F out y.s (by omega) st H
      have hsn := fun bx st => snapI_own hO bx st
      by_cases hmem : y.s ∈ out
      · refine ⟨v, bl, .inr ?_, by simpa only [walkFrom, hat, if_pos hmem] using hO⟩
        rw [r05_Walk_R0_eq]
        by_cases hk : i < turns.length
        · have hk' : ((i : Int) < turns.length) := by omega
          obtain ⟨t0, t1⟩ := ht turns[i] (List.getElem_mem hk)
          have hw2 : IntKind.i64.wrap turns[i] = turns[i] := wrap64 (by omega) (by omega)
          have hmod : (turns[i]).tmod ((around l x).length : Int) = (turn turns i (around l x).length : Nat) := by
            obtain ⟨m, hm⟩ := Int.eq_ofNat_of_zero_le t0
            simp only [turn, List.getElem?_eq_getElem hk, hm, Int.ofNat_tmod, Int.toNat_natCast]
          simp only [r05_Walk_B0, r05_Walk_K0_a, fE, hO.len, h1, r05_Around_call, haF, ha', hk', iaddr_atU hk, hw2, hmod, hia, r01_Has_call, hhas, hsn, hmem, zy, simprocAttr]
          exact ⟨_, rfl⟩
        · have hk' : ¬ ((i : Int) < turns.length) := by omega
          have hz : turn turns i (around l x).length = 0 := by simp [turn, List.getElem?_eq_none (by omega : turns.length ≤ i)]
          simp only [hz, Int.natCast_zero] at hia
          simp only [r05_Walk_B0, r05_Walk_K0_a, fE, hO.len, h1, r05_Around_call, haF, ha', hk', hia, r01_Has_call, hhas, hsn, hmem, zy, simprocAttr]
          exact ⟨_, rfl⟩
      · obtain ⟨v1, bl1, e1, o1, _⟩ := hO.app1 flatI (bytes := 8) (zero := [.int .i64 0]) (by decide) rfl rfl y.s (by unfold Zc.small at hm; omega)
        simp only [fI] at e1
        obtain ⟨v', bl', e, o⟩ := ih (i + 1) (out ++ [y.s]) ⟨y.s, 1 - y.e⟩ v1 bl1 (by simp; omega) (by simp) (by simp; omega) o1
        have hy' := around_in (List.mem_of_getElem? hat)
        have hw3 : IntKind.i64.wrap (1 - y.e) = 1 - y.e := wrap64 (by omega) (by omega)
        refine ⟨v', bl', ?_, by simpa only [walkFrom, hat, if_neg hmem] using o⟩
        have key : r05_Walk_R0 ([(3, sl fU turns), (4, .int .i64 most), (5, .op (.loc 5) 0), (11, v), (12, .op (.loc 12) 0), (13, .int .i64 i)], ⟨[(5, layC l), (12, fE x)], bl⟩) =
            r05_Walk_R0 ([(3, sl fU turns), (4, .int .i64 most), (5, .op (.loc 5) 0), (11, v1), (12, .op (.loc 12) 0), (13, .int .i64 (i + 1 : Nat))], ⟨[(5, layC l), (12, fE ⟨y.s, 1 - y.e⟩)], bl1⟩) := by
          rw [r05_Walk_R0_eq]
          by_cases hk : i < turns.length
          · have hk' : ((i : Int) < turns.length) := by omega
            obtain ⟨t0, t1⟩ := ht turns[i] (List.getElem_mem hk)
            have hw2 : IntKind.i64.wrap turns[i] = turns[i] := wrap64 (by omega) (by omega)
            have hmod : (turns[i]).tmod ((around l x).length : Int) = (turn turns i (around l x).length : Nat) := by
              obtain ⟨m, hm⟩ := Int.eq_ofNat_of_zero_le t0
              simp only [turn, List.getElem?_eq_getElem hk, hm, Int.ofNat_tmod, Int.toNat_natCast]
            simp only [r05_Walk_B0, r05_Walk_K0_a, fE, hO.len, hO.chkV, o1.chkV, h1, r05_Around_call, haF, ha', hk', iaddr_atU hk, hw, hw2, hw3, hmod, hia, r01_Has_call, hhas, hsn, hmem, e1, zy, simprocAttr]
          · have hk' : ¬ ((i : Int) < turns.length) := by omega
            have hz : turn turns i (around l x).length = 0 := by simp [turn, List.getElem?_eq_none (by omega : turns.length ≤ i)]
            simp only [hz, Int.natCast_zero] at hia
            simp only [r05_Walk_B0, r05_Walk_K0_a, fE, hO.len, hO.chkV, o1.chkV, h1, r05_Around_call, haF, ha', hk', hw, hw3, hia, r01_Has_call, hhas, hsn, hmem, e1, zy, simprocAttr]
        rw [key]
        exact e

theorem walk_F (l : Lay) (hl : l.ok) (s e : Int) (turns : List Int) (ht : ∀ t ∈ turns, 0 ≤ t ∧ t ≤ 255) (most : Nat) (hm : most ≤ Zc.small) (H : Heap) (st : Bool) :
    r05_Walk_F st H [.agg (layC l), .int .i64 s, .int .i64 e, sl fU turns, .int .i64 most] = some (sl fI (walk l s e turns most), H) := by
  rw [r05_Walk_F_eq]
  obtain ⟨v, bl, h, o⟩ := walk_loop l hl turns ht most hm (most - 1) 0 [s] ⟨s, e⟩ (.os 1 (.blk 0) 0 1) [.cells [.int .i64 s]] rfl (by simp) (by simp) (.inr ⟨0, rfl, rfl⟩)
  have hw : walk l s e turns most = walkFrom l turns (most - 1) 0 [s] ⟨s, e⟩ := by
    unfold walk
    congr 1
    omega
  rw [hw]
  simp only [fE, Int.natCast_zero] at h
  rcases h with h | ⟨bx', h⟩
  · simp only [r05_Walk_C, r05_Walk_L0_eq, h, snapI_own o, zy, simprocAttr]
  · simp only [r05_Walk_C, r05_Walk_L0_eq, h, snapI_own o, zy, simprocAttr]
end Go.Proofs.Ytfblegjbmhgepaa.Zt
end
section
namespace Go.Proofs.Ytfblegjbmhgepaa.Zt
open Go Go.Zc
set_option maxRecDepth 10000

def rowFrom (u : Int) : Nat → Nat → List (Nat × Nat)
  | _, 0 => []
  | i, k + 1 => (fl (u * i), 0) :: rowFrom u (i + 1) k
def pairsFrom : Nat → Nat → List Ed
  | _, 0 => []
  | i, k + 1 => ⟨i, (i + 1 : Nat)⟩ :: pairsFrom (i + 1) k
abbrev zeroL : List CV := [.nils, .nils, .nils, .nils, .nils, .int .i64 0, .int .i64 0, .int .i64 0, .int .i64 0, .int .i64 0]
abbrev box6 (nv sv pv tv : CV) : List CV := [nv, sv, pv, tv, .nils, .int .i64 0, .int .i64 0, .int .i64 0, .int .i64 0, .int .i64 0]

theorem row_loop (d : Draft) (u : Int) (hu : 0 ≤ u ∧ u ≤ 200) (n : Nat) (hn : n ≤ 8) : ∀ (k i : Nat) (acc : List (Nat × Nat)) (nv : CV) (bl : List Blk), i + k = n + 1 → acc.length = i → Own fZ 1 bl nv acc →
    ∃ nv' bl', r04_Make_R1 ([(1, .op (.loc 1) 0), (2, .op (.loc 2) 0), (3, .int .i64 u), (6, .op (.loc 6) 0), (7, .nils), (8, .int .i64 n), (9, .int .i64 i)], ⟨[(1, draftC d), (2, zeroL), (6, box6 nv .nils .nils .nils)], bl⟩) =
      some (.norm, [(1, .op (.loc 1) 0), (2, .op (.loc 2) 0), (3, .int .i64 u), (6, .op (.loc 6) 0), (7, .nils), (8, .int .i64 n)], ⟨[(1, draftC d), (2, zeroL), (6, box6 nv' .nils .nils .nils)], bl'⟩) ∧ Own fZ 1 bl' nv' (acc ++ rowFrom u i k) := by
  intro k
  induction k with
  | zero =>
    intro i acc nv bl hi ha hO
    refine ⟨nv, bl, ?_, by simpa [rowFrom] using hO⟩
    have h1 : ¬ ((i : Int) ≤ n) := by omega
    rw [r04_Make_R1_eq]
    simp only [r04_Make_B1, r04_Make_K1_a, h1, hO.locv, zy, simprocAttr]
  | succ k ih =>
    intro i acc nv bl hi ha hO
    have h1 : ((i : Int) ≤ n) := by omega
    have hw := wrapN (n := i) (by unfold Zc.small; omega)
    have hw2 : IntKind.i64.wrap (u * i) = u * i := by
      have h2 : 0 ≤ u * (i : Int) := Int.mul_nonneg hu.1 (by omega)
      have h3 : u * (i : Int) ≤ 200 * 9 := Int.mul_le_mul hu.2 (by omega) (by omega) (by omega)
      exact wrap64 (by omega) (by omega)
    obtain ⟨v1, bl1, e1, o1, _⟩ := hO.app1 flatZ (bytes := 16) (zero := [.cplx .f64 0 0]) (by decide) rfl rfl (fl (u * i), 0) (by omega)
    simp only [fZ, fl] at e1
    obtain ⟨nv', bl', e, o⟩ := ih (i + 1) _ v1 bl1 (by omega) (by simp [ha]) o1
    refine ⟨nv', bl', ?_, by simpa [rowFrom] using o⟩
    rw [r04_Make_R1_eq]
    simp only [r04_Make_B1, r04_Make_K1_a, h1, hw, hw2, e1, hO.locv, o1.locv, o1.one, o1.cells, e, zy, simprocAttr]

theorem pairs_loop (d : Draft) (u : Int) (n : Nat) (hn : n ≤ 8) (nodes : List (Nat × Nat)) (nv : CV) : ∀ (k i : Nat) (acc : List Ed) (v : CV) (bl : List Blk), i + k = n → acc.length = i → Own fE 2 bl v acc → Own fZ 1 bl nv nodes → Dj v nv →
    ∃ v' bl', r04_Make_R3 ([(1, .op (.loc 1) 0), (2, .op (.loc 2) 0), (3, .int .i64 u), (6, .op (.loc 6) 0), (7, v), (8, .int .i64 n), (10, .int .i64 i)], ⟨[(1, draftC d), (2, zeroL), (6, box6 nv .nils .nils .nils)], bl⟩) =
      some (.norm, [(1, .op (.loc 1) 0), (2, .op (.loc 2) 0), (3, .int .i64 u), (6, .op (.loc 6) 0), (7, v')], ⟨[(1, draftC d), (2, zeroL), (6, box6 nv .nils .nils .nils)], bl'⟩) ∧ Own fE 2 bl' v' (acc ++ pairsFrom i k) ∧ Own fZ 1 bl' nv nodes ∧ Dj v' nv := by
  intro k
  induction k with
  | zero =>
    intro i acc v bl hi ha hO hN hd
    refine ⟨v, bl, ?_, by simpa [pairsFrom] using hO, hN, hd⟩
    have h1 : ¬ ((i : Int) < n) := by omega
    rw [r04_Make_R3_eq]
    simp only [r04_Make_B3, r04_Make_K3_a, h1, hO.chkV, hN.locv, zy, simprocAttr]
  | succ k ih =>
    intro i acc v bl hi ha hO hN hd
    have h1 : ((i : Int) < n) := by omega
    have hw := wrapN (n := i) (by unfold Zc.small; omega)
    obtain ⟨v1, bl1, e1, o1, _, hf, hb⟩ := hO.app1 flatE (bytes := 16) (zero := [.int .i64 0, .int .i64 0]) (by decide) rfl rfl ⟨i, (i + 1 : Nat)⟩ (by omega)
    simp only [fE] at e1
    obtain ⟨v', bl', e, o, o', d'⟩ := ih (i + 1) _ v1 bl1 (by omega) (by simp [ha]) o1 (hN.fr hf hd) (hd.grow hb fun _ h => hN.lt h)
    refine ⟨v', bl', ?_, by simpa [pairsFrom] using o, o', d'⟩
    rw [r04_Make_R3_eq]
    simp only [r04_Make_B3, r04_Make_K3_a, h1, hw, e1, hO.chkV, o1.chkV, hN.locv, e, zy, simprocAttr]

theorem secs_loop (d : Draft) (u : Int) (hu : 0 ≤ u ∧ u ≤ 200) (ends : List Ed) (he : ends.length ≤ 8) (nodes : List (Nat × Nat)) (nv ev tv : CV) (pts : List Pt) (ht : tv.locv = false) : ∀ (s p : List Ed) (acc : List Sec) (v : CV) (bl : List Blk), p ++ s = ends → acc.length = p.length →
    Own fS 3 bl v acc → Own fE 2 bl ev ends → OwnF fZ 1 bl nv nodes → Dj v ev → Dj v nv →
    ∃ v' bl', r04_Make_R5 ([(1, .op (.loc 1) 0), (2, .op (.loc 2) 0), (3, .int .i64 u), (6, .op (.loc 6) 0), (7, ev), (11, .int .i64 p.length)], ⟨[(1, draftC d), (2, zeroL), (6, box6 nv v .nils tv)], bl⟩) =
      some (.norm, [(1, .op (.loc 1) 0), (2, .op (.loc 2) 0), (3, .int .i64 u), (6, .op (.loc 6) 0), (7, ev)], ⟨[(1, draftC d), (2, zeroL), (6, box6 nv v' .nils tv)], bl'⟩) ∧ Own fS 3 bl' v' (acc ++ mkSecs u p.length s) ∧ Own fE 2 bl' ev ends ∧ OwnF fZ 1 bl' nv nodes ∧ Dj v' ev ∧ Dj v' nv
  | [], p, acc, v, bl, hp, ha, hO, hE, hN, d1, d2 => by
    refine ⟨v, bl, ?_, by simpa [mkSecs] using hO, hE, hN, d1, d2⟩
    have h1 : ¬ ((p.length : Int) < ends.length) := by rw [← hp]; simp
    rw [r04_Make_R5_eq]
    simp only [r04_Make_B5, r04_Make_K5_a, h1, hE.len, hE.chkV, hO.locv, hN.locv, ht, zy, simprocAttr]
  | x :: s, p, acc, v, bl, hp, ha, hO, hE, hN, d1, d2 => by
    have hpl : p.length + 1 + s.length = ends.length := by rw [← hp]; simp; omega
    have h1 : ((p.length : Int) < ends.length) := by omega
    have hw := wrapN (n := p.length) (by unfold Zc.small; omega)
    have hw2 : IntKind.i64.wrap (2 * u) = 2 * u := wrap64 (by omega) (by omega)
    have h3 : ((p.length : Int)).tmod 3 = (p.length % 3 : Nat) := by rw [Int.tmod_eq_emod_of_nonneg (by omega)]; omega
    have hw3 : IntKind.i64.wrap (2 * u + (p.length % 3 : Nat)) = 2 * u + (p.length % 3 : Nat) := wrap64 (by omega) (by omega)
    obtain ⟨m, hi, hm, hv⟩ := hE.iaddr flatE (k := .i64) (i := p.length) (by omega)
    have hg : ∀ bx, Heap.get ⟨bx, bl⟩ (.blk m) = some (ends.flatMap fE) := fun bx => get_blk bx bl m _ hm
    have hdr : (ends.flatMap fE).drop (p.length * 2) = .int .i64 x.s :: .int .i64 x.e :: s.flatMap fE := by rw [← hp]; exact drop_mid flatE p s x
    have hdr1 : (ends.flatMap fE).drop (p.length * 2 + 1) = .int .i64 x.e :: s.flatMap fE := by rw [← List.drop_drop, hdr]; rfl
    obtain ⟨v1, bl1, e1, o1, _, hf, hb⟩ := hO.app1 flatS (bytes := 24) (zero := [.int .i64 0, .int .i64 0, .int .i64 0]) (by decide) rfl rfl ⟨2 * u + (p.length % 3 : Nat), x.s, x.e⟩ (by omega)
    simp only [fS] at e1
    obtain ⟨v', bl', e, o, o2, o3, d3, d4⟩ := secs_loop d u hu ends he nodes nv ev tv pts ht s (p ++ [x]) _ v1 bl1 (by simpa using hp) (by simp [ha]) o1 (hE.fr hf d1) (hN.fr hf d2) (d1.grow hb fun _ h => hE.lt h) (d2.grow hb fun _ h => hN.lt h)
    simp only [List.append_assoc, List.cons_append, List.nil_append, List.length_append, List.length_cons, List.length_nil] at e
    refine ⟨v', bl', ?_, by simpa [mkSecs] using o, o2, o3, d3, d4⟩
    rw [r04_Make_R5_eq]
    simp only [r04_Make_B5, r04_Make_K5_a, h1, hE.len, hw, hw2, h3, hw3, hi, hg, hdr, hdr1, e1, hE.chkV, hO.locv, o1.locv, o1.one, o1.cells, hN.locv, ht, e, zy, simprocAttr]
end Go.Proofs.Ytfblegjbmhgepaa.Zt
end
section
namespace Go.Proofs.Ytfblegjbmhgepaa.Zt
open Go Go.Zc
set_option maxRecDepth 10000

theorem addLast_app (x : Int) : ∀ (ps : List (List Int)) (p : List Int), addLast x (ps ++ [p]) = ps ++ [p ++ [x]]
  | [], _ => rfl
  | [q], p => rfl
  | q :: r :: ps, p => by
    have := addLast_app x (r :: ps) p
    simp only [List.cons_append] at this ⊢
    simp only [addLast, this]

theorem djL_grow {ids ids' : List Nat} {bl : List Blk} {w : CV} (h : DjL ids w) (hg : ∀ k ∈ ids', k ∈ ids ∨ bl.length ≤ k) (hl : ∀ k, blkOf w = some k → k < bl.length) : DjL ids' w := by
  intro k hk hm
  rcases hg k hm with h1 | h1
  · exact h k hk h1
  · have := hl k hk; omega

theorem parts_loop (d : Draft) (hd : d.ok) (u : Int) (n : Nat) (hn : n ≤ 8) (nodes : List (Nat × Nat)) (secs : List Sec) (nv sv ev tv : CV) (ht : tv.locv = false) (he : lenC ev = some (.int .i64 n)) (he2 : ∀ l, chkV l ev = true) :
    ∀ (k i : Nat) (acc : List (List Int)) (v : CV) (ids : List Nat) (bl : List Blk), i + k = n → acc.length ≤ i → (∀ p ∈ acc, p.length ≤ i) → (0 < i → acc ≠ []) → OwnL bl v ids acc → Own fS 3 bl sv secs → OwnF fZ 1 bl nv nodes → DjL ids sv → DjL ids nv →
    ∃ v' ids' bl', r04_Make_R7 ([(1, .op (.loc 1) 0), (2, .op (.loc 2) 0), (3, .int .i64 u), (6, .op (.loc 6) 0), (7, ev), (12, .int .i64 i)], ⟨[(1, draftC d), (2, zeroL), (6, box6 nv sv v tv)], bl⟩) =
      some (.norm, [(1, .op (.loc 1) 0), (2, .op (.loc 2) 0), (3, .int .i64 u), (6, .op (.loc 6) 0)], ⟨[(1, draftC d), (2, zeroL), (6, box6 nv sv v' tv)], bl'⟩) ∧ OwnL bl' v' ids' (mkParts d.join i k acc) ∧ Own fS 3 bl' sv secs ∧ OwnF fZ 1 bl' nv nodes := by
  intro k
  induction k with
  | zero =>
    intro i acc v ids bl hi ha hp hne hO hS hN d1 d2
    refine ⟨v, ids, bl, ?_, hO, hS, hN⟩
    have h1 : ¬ ((i : Int) < n) := by omega
    rw [r04_Make_R7_eq]
    simp only [r04_Make_B7, r04_Make_K7_a, h1, he, he2, hO.locv, hS.locv, hN.locv, ht, zy, simprocAttr]
  | succ k ih =>
    intro i acc v ids bl hi ha hp hne hO hS hN d1 d2
    have h1 : ((i : Int) < n) := by omega
    have hw := wrapN (n := i) (by unfold Zc.small; omega)
    have hm8 : ((i : Int)).tmod 8 = (i % 8 : Nat) := by rw [Int.tmod_eq_emod_of_nonneg (by omega)]; omega
    have hmin : min (i % 8) 8 = i % 8 := by omega
    have hq0 : 0 ≤ d.join / 2 ^ (i % 8) := Int.ediv_nonneg hd.join.1 (Int.le_of_lt (Int.pow_pos (by decide)))
    have hshr : binC .shr .ifc (.int .u8 d.join) (.int .i64 ((i % 8 : Nat) : Int)) = some (.int .u8 (d.join / 2 ^ (i % 8))) := by
      rw [bin_shr _ _ _ _ _ (by omega)]
      simp only [Int.toNat_natCast, show IntKind.u8.bits = 8 from rfl, hmin]
      rw [Int.fdiv_eq_ediv_of_nonneg _ (Int.le_of_lt (Int.pow_pos (by decide)))]
    have hm2 : (d.join / 2 ^ (i % 8)).tmod 2 = d.join / 2 ^ (i % 8) % 2 := Int.tmod_eq_emod_of_nonneg hq0
    have new : joinAt d.join i = false → ((i : Int) > 0 → ¬ (d.join / 2 ^ (i % 8) % 2 = 1)) → ∃ v' ids' bl', r04_Make_R7 ([(1, .op (.loc 1) 0), (2, .op (.loc 2) 0), (3, .int .i64 u), (6, .op (.loc 6) 0), (7, ev), (12, .int .i64 i)], ⟨[(1, draftC d), (2, zeroL), (6, box6 nv sv v tv)], bl⟩) =
        some (.norm, [(1, .op (.loc 1) 0), (2, .op (.loc 2) 0), (3, .int .i64 u), (6, .op (.loc 6) 0)], ⟨[(1, draftC d), (2, zeroL), (6, box6 nv sv v' tv)], bl'⟩) ∧ OwnL bl' v' ids' (mkParts d.join i (k + 1) acc) ∧ Own fS 3 bl' sv secs ∧ OwnF fZ 1 bl' nv nodes := by
      intro hj hj'
      obtain ⟨v1, bl1, ids1, e1, o1, f1, g1⟩ := hO.appNew i (by omega)
      obtain ⟨v', ids', bl', e, o, o2, o3⟩ := ih (i + 1) (acc ++ [[(i : Int)]]) v1 ids1 bl1 (by omega) (by simp; omega) (by
        intro p hp'
        rcases List.mem_append.1 hp' with h | h
        · have := hp p h; omega
        · simp only [List.mem_singleton] at h; subst h; simp) (by simp) o1 (hS.frL f1 d1) (hN.frL f1 d2) (djL_grow d1 g1 fun _ h => hS.lt h) (djL_grow d2 g1 fun _ h => hN.lt h)
      refine ⟨v', ids', bl', ?_, by simpa only [mkParts, hj, Bool.false_eq_true, if_false] using o, o2, o3⟩
      rw [r04_Make_R7_eq]
      by_cases h0 : (0 : Int) < i
      · have hj' := hj' h0
        simp only [r04_Make_B7, r04_Make_K7_a, h1, he, he2, h0, hm8, hshr, hm2, hj', hw, e1, hO.locv, o1.locv, o1.one, o1.cells, hS.locv, hN.locv, ht, e, zy, simprocAttr]
      · simp only [r04_Make_B7, r04_Make_K7_a, h1, he, he2, h0, hw, e1, hO.locv, o1.locv, o1.one, o1.cells, hS.locv, hN.locv, ht, e, zy, simprocAttr]
    by_cases h0 : 0 < i
    · by_cases hb : d.join / 2 ^ (i % 8) % 2 = 1
      · have h0' : (0 : Int) < i := by omega
        have hj : joinAt d.join i = true := by simp [joinAt, h0, hb]
        obtain ⟨ps, p, rfl⟩ : ∃ ps p, acc = ps ++ [p] := ⟨acc.dropLast, acc.getLast (hne h0), (List.dropLast_concat_getLast (hne h0)).symm⟩
        have hpl := hp p (by simp)
        obtain ⟨m, kk, w, bl0, bl1, ids1, hia, ⟨cs, hg, hh⟩, e1, hwl, hwo, ⟨cs1, hg1, hst⟩, o1, f1, g1⟩ := hO.appLast (i : Int) (by omega)
        have hsub : IntKind.i64.wrap (((ps ++ [p]).length : Int) - 1) = (ps.length : Int) := by 
          simp only [List.length_append, List.length_cons, List.length_nil] at ha ⊢
          rw [wrap64 (by omega) (by omega)]; omega
        obtain ⟨v', ids', bl', e, o, o2, o3⟩ := ih (i + 1) (ps ++ [p ++ [(i : Int)]]) v ids1 bl1 (by omega) (by simp at ha ⊢; omega) (by
          intro q hq
          rcases List.mem_append.1 hq with h | h
          · have := hp q (by simp [h]); omega
          · simp only [List.mem_singleton] at h; subst h; simp; omega) (by simp) o1 (hS.frL f1 d1) (hN.frL f1 d2) (djL_grow d1 g1 fun _ h => hS.lt h) (djL_grow d2 g1 fun _ h => hN.lt h)
        refine ⟨v', ids', bl', ?_, by simpa only [mkParts, hj, if_true, addLast_app] using o, o2, o3⟩
        rw [r04_Make_R7_eq]
        simp only [r04_Make_B7, r04_Make_K7_a, h1, he, he2, h0', hm8, hshr, hm2, hb, hw, hO.len, hsub, hia, hg, hh, e1, hg1, hst, hwl, hwo, hO.locv, hS.locv, hN.locv, ht, e, zy, simprocAttr]
      · exact new (by simp [joinAt, hb]) (fun _ => hb)
    · exact new (by simp [joinAt, h0]) (fun h => absurd h (by omega))
end Go.Proofs.Ytfblegjbmhgepaa.Zt
end
section
namespace Go.Proofs.Ytfblegjbmhgepaa.Zt
open Go Go.Zc
set_option maxRecDepth 10000

theorem snap_Z (H : Heap) (st kn : Bool) (n : Nat) : ∀ x : Nat × Nat, ∀ c ∈ fZ x, snapN H st kn (n + 1) c = some c := by
  intro x c hc
  simp only [fZ, List.mem_cons, List.not_mem_nil, or_false] at hc
  subst hc
  rfl
theorem snap_S (H : Heap) (st kn : Bool) (n : Nat) : ∀ x : Sec, ∀ c ∈ fS x, snapN H st kn (n + 1) c = some c := by
  intro x c hc
  simp only [fS, List.mem_cons, List.not_mem_nil, or_false] at hc
  rcases hc with rfl | rfl | rfl <;> rfl

theorem rowFrom_eq (u : Int) : ∀ (k i : Nat), rowFrom u i k = (List.range' i k).map fun (j : Nat) => fl2 (u * (j : Int), 0)
  | 0, _ => rfl
  | k + 1, i => by simp only [rowFrom, rowFrom_eq u k (i + 1), List.range'_succ, List.map_cons, fl2, fl_zero]
theorem pairsFrom_eq : ∀ (k i : Nat), pairsFrom i k = (List.range' i k).map fun (j : Nat) => (⟨(j : Int), ((j + 1 : Nat) : Int)⟩ : Ed)
  | 0, _ => rfl
  | k + 1, i => by simp only [pairsFrom, pairsFrom_eq k (i + 1), List.range'_succ, List.map_cons]

theorem mkSecs_length (u : Int) : ∀ (i : Nat) (l : List Ed), (mkSecs u i l).length = l.length
  | _, [] => rfl
  | i, x :: l => by simp [mkSecs, mkSecs_length u (i + 1) l]
theorem addLast_ne {x : Int} : ∀ {l : List (List Int)}, l ≠ [] → addLast x l ≠ []
  | [], h => h
  | [_], _ => by simp [addLast]
  | _ :: _ :: _, _ => by simp [addLast]
theorem mkParts_ne (j : Int) : ∀ (n i : Nat) (acc : List (List Int)), (0 < n ∨ acc ≠ []) → (0 < i → acc ≠ []) → mkParts j i n acc ≠ []
  | 0, _, acc, h, _ => by simpa [mkParts] using h
  | n + 1, i, acc, h, h' => by
    simp only [mkParts]
    have : (if joinAt j i then addLast i acc else acc ++ [[(i : Int)]]) ≠ [] := by
      split
      · rename_i hj
        exact addLast_ne (h' (by simp [joinAt] at hj; exact hj.1))
      · simp
    exact mkParts_ne j n (i + 1) _ (.inr this) (fun _ => this)
theorem mkEnds_len (form : Int) : 3 ≤ (mkEnds form).length ∧ (mkEnds form).length ≤ 8 := by
  unfold mkEnds
  split
  · simp only [List.length_map, List.length_range, mkN]; omega
  · split
    · simp
    · split <;> simp

/-- What is made, cell by cell: the points may be none. -/
def makeC (d : Draft) : List CV := [sl fZ (make d).nodes, sl fS (make d).secs, sl fL (make d).parts, nz fP (make d).pts, .nils, .int .i64 (make d).speed, .int .i64 (make d).mute, .int .i64 (make d).wait, .int .i64 (make d).cancel, .int .i64 (make d).stay]

/-- What is reckoned of a draft's numbers. -/
structure Nums (d : Draft) : Prop where
  len : d.len.tmod 20 = d.len % 20
  w1 : IntKind.i64.wrap (d.len % 20) = d.len % 20
  w2 : IntKind.i64.wrap (1 + d.len % 20) = 1 + d.len % 20
  w3 : IntKind.i64.wrap (10 * (1 + d.len % 20)) = unitOf d.len
  w4 : IntKind.i64.wrap (2 * unitOf d.len) = 2 * unitOf d.len
  form : d.form.tmod 4 = d.form % 4
  f1 : IntKind.u8.wrap (d.form.tdiv 4) = d.form / 4
  f2 : (d.form / 4).tmod 6 = d.form / 4 % 6
  f3 : IntKind.i64.wrap (d.form / 4 % 6) = d.form / 4 % 6
  f4 : IntKind.i64.wrap (3 + d.form / 4 % 6) = (mkN d.form : Int)
  s1 : IntKind.i64.wrap d.speed = d.speed
  s2 : d.speed.tmod (2 * unitOf d.len) = d.speed % (2 * unitOf d.len)
  s3 : IntKind.i64.wrap (1 + d.speed % (2 * unitOf d.len)) = 1 + d.speed % (2 * unitOf d.len)
  s4 : ¬ 2 * unitOf d.len = 0
  m1 : d.mute.tmod 1000 = d.mute % 1000
  m2 : IntKind.i64.wrap (d.mute % 1000) = d.mute % 1000
  m3 : IntKind.i64.wrap (1 + d.mute % 1000) = 1 + d.mute % 1000
  a1 : d.wait.tmod 1000 = d.wait % 1000
  a2 : IntKind.i64.wrap (d.wait % 1000) = d.wait % 1000
  a3 : IntKind.i64.wrap (1 + d.wait % 1000) = 1 + d.wait % 1000
  c1 : IntKind.i64.wrap d.cancel = d.cancel
  c2 : IntKind.i64.wrap (1 + d.cancel) = 1 + d.cancel
  t1 : d.stay.tmod 4 = d.stay % 4
  t2 : IntKind.i64.wrap (d.stay % 4) = d.stay % 4

theorem nums (d : Draft) (h : d.ok) : Nums d := by
  have h1 := h.form; have h2 := h.len; have h3 := h.speed; have h4 := h.mute; have h5 := h.wait; have h6 := h.cancel; have h7 := h.stay
  have hu : unitOf d.len = 10 * (1 + d.len % 20) := rfl
  have hu1 : 10 ≤ unitOf d.len := by rw [hu]; omega
  have hu2 : unitOf d.len ≤ 200 := by rw [hu]; omega
  have hs : 0 ≤ d.speed % (2 * unitOf d.len) ∧ d.speed % (2 * unitOf d.len) < 2 * unitOf d.len := ⟨Int.emod_nonneg _ (by omega), Int.emod_lt_of_pos _ (by omega)⟩
  refine ⟨Int.tmod_eq_emod_of_nonneg h2.1, wrap64 (by omega) (by omega), wrap64 (by omega) (by omega), ?_, wrap64 (by omega) (by omega), Int.tmod_eq_emod_of_nonneg h1.1, ?_, Int.tmod_eq_emod_of_nonneg (by omega), wrap64 (by omega) (by omega), ?_,
    wrap64 (by omega) (by omega), Int.tmod_eq_emod_of_nonneg h3.1, wrap64 (by omega) (by omega), by omega, Int.tmod_eq_emod_of_nonneg h4.1, wrap64 (by omega) (by omega), wrap64 (by omega) (by omega), Int.tmod_eq_emod_of_nonneg h5.1, wrap64 (by omega) (by omega), wrap64 (by omega) (by omega),
    wrap64 (by omega) (by omega), wrap64 (by omega) (by omega), Int.tmod_eq_emod_of_nonneg h7.1, wrap64 (by omega) (by omega)⟩
  · rw [wrap64 (by omega) (by omega)]; rfl
  · rw [Int.tdiv_eq_ediv_of_nonneg h1.1, IntKind.wrap_u8]; omega
  · rw [wrap64 (by omega) (by omega)]; unfold mkN; omega

set_option maxHeartbeats 2000000 in
theorem make_F0 (d : Draft) (hd : d.ok) (hf : d.form % 4 = 0) (H : Heap) : r04_Make_F false H [.agg (draftC d)] = some (.agg (makeC d), H) := by
  have nm := nums d hd
  have hu : 0 ≤ unitOf d.len ∧ unitOf d.len ≤ 200 := by have := hd.len; unfold unitOf; omega
  have hn : mkN d.form ≤ 8 := by unfold mkN; omega
  have hn3 : 3 ≤ mkN d.form := by unfold mkN; omega
  obtain ⟨nv, bl1, e1, o1⟩ := row_loop d (unitOf d.len) hu (mkN d.form) hn (mkN d.form + 1) 0 [] .nils [] (by omega) rfl (Own.nil _ _ _)
  obtain ⟨ev, bl2, e2, o2, o3, d1⟩ := pairs_loop d (unitOf d.len) (mkN d.form) hn _ nv (mkN d.form) 0 [] .nils bl1 (by omega) rfl (Own.nil _ _ _) o1 (Dj.nils _)
  have hE : ([] : List Ed) ++ pairsFrom 0 (mkN d.form) = mkEnds d.form := by
    simp only [List.nil_append, mkEnds, if_pos hf, pairsFrom_eq, List.range_eq_range']
  have hN : ([] : List (Nat × Nat)) ++ rowFrom (unitOf d.len) 0 (mkN d.form + 1) = (make d).nodes := by
    simp only [List.nil_append, make, mkXY, if_pos hf, rowFrom_eq, List.range_eq_range', List.map_map]
    rfl
  rw [hE] at o2
  rw [hN] at o3
  have hel := mkEnds_len d.form
  obtain ⟨sv, bl3, e3, o4, o5, o6, d2, d3⟩ := secs_loop d (unitOf d.len) hu (mkEnds d.form) hel.2 _ nv ev .nils [] rfl (mkEnds d.form) [] [] .nils bl2 rfl rfl (Own.nil _ _ _) o2 (.inr o3) (Dj.nils _) (Dj.nils _)
  obtain ⟨pv, ids, bl4, e4, o7, o8, o9⟩ := parts_loop d hd (unitOf d.len) (mkEnds d.form).length hel.2 _ _ nv sv ev .nils rfl o5.len o5.chkV (mkEnds d.form).length 0 [] .nils [] bl3 (by omega) (by simp) (by simp) (by omega) (.inl ⟨rfl, rfl, rfl⟩) o4 o6 (by intro k _ h; simp at h) (by intro k _ h; simp at h)
  simp only [List.nil_append, List.length_nil, Int.natCast_zero] at e1 e2 e3 e4 o7 o8
  have hN0 : (make d).nodes ≠ [] := by simp [make, mkXY, hf]
  have hS0 : mkSecs (unitOf d.len) 0 (mkEnds d.form) ≠ [] := by
    intro h
    have := mkSecs_length (unitOf d.len) 0 (mkEnds d.form)
    rw [h] at this; simp at this; omega
  have hP0 := mkParts_ne d.join (mkEnds d.form).length 0 [] (.inl (by omega)) (by omega)
  have s1 : ∀ bx, snapV ⟨bx, bl4⟩ false true (snapN ⟨bx, bl4⟩ false true 7) nv = some (sl fZ (make d).nodes) := fun bx => by
    rcases o9 with rfl | o9
    · rfl
    · exact o9.snapK flatZ hN0 bx _ _ _ (snap_Z _ _ _ 6)
  have s2 : ∀ bx, snapV ⟨bx, bl4⟩ false true (snapN ⟨bx, bl4⟩ false true 7) sv = some (sl fS (make d).secs) := fun bx => o8.snapK flatS hS0 bx _ _ _ (snap_S _ _ _ 6)
  have s3 : ∀ bx, snapV ⟨bx, bl4⟩ false true (snapN ⟨bx, bl4⟩ false true 7) pv = some (sl fL (make d).parts) := fun bx => o7.snapK hP0 bx _ _ 5
  have hpt : nz fP (make d).pts = .nils := by simp only [make, mkPts, if_pos hf, nz]
  obtain ⟨q1, q2, q3, q4, q5, q6, q7, q8, q9, q10, q11, q12, q13, q14, q15, q16, q17, q18, q19, q20, q21, q22, q23, q24⟩ := nm
  rw [r04_Make_F_eq]
  simp only [r04_Make_C, r04_Make_L1_eq, r04_Make_L3_eq, r04_Make_L5_eq, r04_Make_L7_eq, q1, q2, q3, q4, q5, q6, q7, q8, q9, q10, q11, q12, q13, q14, q15, q16, q17, q18, q19, q20, q21, q22, q23, q24, hf, e1, e2, e3, e4, o1.locv, o2.chkV, o2.locv, o3.locv, o5.chkV, o8.locv, o8.one, o8.und, o9.locv, o9.one, o9.und, o7.locv, o7.one, o7.und, s1, s2, s3, makeC, hpt, zy, simprocAttr]
  simp only [make]

theorem floats (d : Draft) (hd : d.ok) :
    (binC .mul .ifc (.cplx .f64 4611686018427387904 0) (.cplx .f64 (FloatKind.nearest .f64 (unitOf d.len)) 0) = some (.cplx .f64 (FloatKind.nearest .f64 (2 * unitOf d.len)) 0)) ∧
    (binC .mul .ifc (.cplx .f64 4613937818241073152 0) (.cplx .f64 (FloatKind.nearest .f64 (unitOf d.len)) 0) = some (.cplx .f64 (FloatKind.nearest .f64 (3 * unitOf d.len)) 0)) ∧
    (binC .mul .ifc (.cplx .f64 4616189618054758400 0) (.cplx .f64 (FloatKind.nearest .f64 (unitOf d.len)) 0) = some (.cplx .f64 (FloatKind.nearest .f64 (4 * unitOf d.len)) 0)) ∧
    (binC .mul .ifc (.cplx .f64 4617315517961601024 0) (.cplx .f64 (FloatKind.nearest .f64 (unitOf d.len)) 0) = some (.cplx .f64 (FloatKind.nearest .f64 (5 * unitOf d.len)) 0)) ∧
    (binC .mul .ifc (.cplx .f64 4618441417868443648 0) (.cplx .f64 (FloatKind.nearest .f64 (unitOf d.len)) 0) = some (.cplx .f64 (FloatKind.nearest .f64 (6 * unitOf d.len)) 0)) ∧
    (binC .add .ifc (.cplx .f64 (FloatKind.nearest .f64 (2 * unitOf d.len)) 0) (.cplx .f64 0 (FloatKind.nearest .f64 (unitOf d.len))) = some (.cplx .f64 (FloatKind.nearest .f64 (2 * unitOf d.len)) (FloatKind.nearest .f64 (unitOf d.len)))) ∧
    (binC .sub .ifc (.cplx .f64 (FloatKind.nearest .f64 (2 * unitOf d.len)) 0) (.cplx .f64 0 (FloatKind.nearest .f64 (unitOf d.len))) = some (.cplx .f64 (FloatKind.nearest .f64 (2 * unitOf d.len)) (FloatKind.nearest .f64 (-unitOf d.len)))) ∧
    (binC .add .ifc (.cplx .f64 (FloatKind.nearest .f64 (3 * unitOf d.len)) 0) (.cplx .f64 0 (FloatKind.nearest .f64 (unitOf d.len))) = some (.cplx .f64 (FloatKind.nearest .f64 (3 * unitOf d.len)) (FloatKind.nearest .f64 (unitOf d.len)))) ∧
    (binC .sub .ifc (.cplx .f64 (FloatKind.nearest .f64 (3 * unitOf d.len)) 0) (.cplx .f64 0 (FloatKind.nearest .f64 (unitOf d.len))) = some (.cplx .f64 (FloatKind.nearest .f64 (3 * unitOf d.len)) (FloatKind.nearest .f64 (-unitOf d.len)))) ∧
    (binC .add .ifc (.cplx .f64 (FloatKind.nearest .f64 (4 * unitOf d.len)) 0) (.cplx .f64 0 (FloatKind.nearest .f64 (unitOf d.len))) = some (.cplx .f64 (FloatKind.nearest .f64 (4 * unitOf d.len)) (FloatKind.nearest .f64 (unitOf d.len)))) ∧
    (binC .sub .ifc (.cplx .f64 (FloatKind.nearest .f64 (4 * unitOf d.len)) 0) (.cplx .f64 0 (FloatKind.nearest .f64 (unitOf d.len))) = some (.cplx .f64 (FloatKind.nearest .f64 (4 * unitOf d.len)) (FloatKind.nearest .f64 (-unitOf d.len)))) ∧
    (binC .quo .ifc (.cplx .f64 0 (FloatKind.nearest .f64 (unitOf d.len))) (.cplx .f64 4611686018427387904 0) = some (.cplx .f64 0 (FloatKind.nearest .f64 (unitOf d.len / 2)))) ∧
    ((binC .add .ifc (.cplx .f64 (FloatKind.nearest .f64 (3 * unitOf d.len)) 0) (.cplx .f64 0 (FloatKind.nearest .f64 (unitOf d.len / 2))) = some (.cplx .f64 (FloatKind.nearest .f64 (3 * unitOf d.len)) (FloatKind.nearest .f64 (unitOf d.len / 2)))) ∧
      binC .sub .ifc (.cplx .f64 (FloatKind.nearest .f64 (3 * unitOf d.len)) 0) (.cplx .f64 0 (FloatKind.nearest .f64 (unitOf d.len / 2))) = some (.cplx .f64 (FloatKind.nearest .f64 (3 * unitOf d.len)) (FloatKind.nearest .f64 (-(unitOf d.len / 2))))) := by
  have h1 := hd.len
  obtain ⟨k, hk⟩ := Int.eq_ofNat_of_zero_le (show 0 ≤ d.len % 20 by omega)
  have h := List.all_eq_true.1 okUs k (List.mem_range.2 (by omega))
  have hu : unitOf d.len = 10 * (1 + (k : Int)) := by unfold unitOf; rw [hk]
  rw [← hu] at h
  simp only [okU, okMul, okAdd, fl, Bool.and_eq_true] at h
  obtain ⟨⟨⟨⟨⟨⟨⟨⟨⟨a1, a2⟩, a3⟩, a4⟩, a5⟩, a6, a7⟩, a8, a9⟩, a10, a11⟩, a12, a13⟩, a14⟩ := h
  exact ⟨isC_eq a1, isC_eq a2, isC_eq a3, isC_eq a4, isC_eq a5, isC_eq a6, isC_eq a7, isC_eq a8, isC_eq a9, isC_eq a10, isC_eq a11, isC_eq a14, isC_eq a12, isC_eq a13⟩

set_option maxHeartbeats 2000000 in
theorem make_F1 (d : Draft) (hd : d.ok) (hf : d.form % 4 = 1) (H : Heap) : r04_Make_F false H [.agg (draftC d)] = some (.agg (makeC d), H) := by
  have nm := nums d hd
  have hu : 0 ≤ unitOf d.len ∧ unitOf d.len ≤ 200 := by have := hd.len; unfold unitOf; omega
  have g0 : ¬ d.form % 4 = 0 := by omega
  obtain ⟨p2, p3, p4, p5, p6, p7, p8, p9, p10, p11, p12, p13, p14⟩ := floats d hd
  have hN : CV.vs [.cplx .f64 0 0, .cplx .f64 (FloatKind.nearest .f64 (unitOf d.len)) 0, .cplx .f64 (FloatKind.nearest .f64 (2 * unitOf d.len)) (FloatKind.nearest .f64 (unitOf d.len)), .cplx .f64 (FloatKind.nearest .f64 (2 * unitOf d.len)) (FloatKind.nearest .f64 (-unitOf d.len))] 4 = sl fZ (make d).nodes := by
    simp only [make, mkXY, g0, hf, if_true, if_false, List.map_cons, List.map_nil, fl2, fl_zero]
    rfl
  have hP : CV.vs [.int .i64 1, .int .i64 0, .int .i64 1, .int .i64 2] 1 = sl fP (make d).pts := by
    simp only [make, mkPts, g0, hf, if_true, if_false]
    rfl
  have hE : Own fE 2 [.cells [.int .i64 0, .int .i64 1, .int .i64 1, .int .i64 2, .int .i64 3, .int .i64 1]] (.os 2 (.blk 0) 0 3) (mkEnds d.form) := by
    simp only [mkEnds, g0, hf, if_true, if_false]
    exact .inr ⟨0, rfl, rfl⟩
  have hel := mkEnds_len d.form
  obtain ⟨sv, bl3, e3, o4, o5, o6, d2, d3⟩ := secs_loop d (unitOf d.len) hu (mkEnds d.form) hel.2 (make d).nodes (sl fZ (make d).nodes) (.os 2 (.blk 0) 0 3) (sl fP (make d).pts) [] rfl (mkEnds d.form) [] [] .nils _ rfl rfl (Own.nil _ _ _) hE (.inl rfl) (Dj.nils _) (Dj.nils _)
  obtain ⟨pv, ids, bl4, e4, o7, o8, o9⟩ := parts_loop d hd (unitOf d.len) (mkEnds d.form).length hel.2 _ _ (sl fZ (make d).nodes) sv (.os 2 (.blk 0) 0 3) (sl fP (make d).pts) rfl o5.len o5.chkV (mkEnds d.form).length 0 [] .nils [] bl3 (by omega) (by simp) (by simp) (by omega) (.inl ⟨rfl, rfl, rfl⟩) o4 o6 (by intro k _ h; simp at h) (by intro k _ h; simp at h)
  simp only [List.nil_append, List.length_nil, Int.natCast_zero] at e3 e4 o7 o8
  have hS0 : mkSecs (unitOf d.len) 0 (mkEnds d.form) ≠ [] := by
    intro h
    have := mkSecs_length (unitOf d.len) 0 (mkEnds d.form)
    rw [h] at this; simp at this; omega
  have hP0 := mkParts_ne d.join (mkEnds d.form).length 0 [] (.inl (by omega)) (by omega)
  have s2 : ∀ bx, snapV ⟨bx, bl4⟩ false true (snapN ⟨bx, bl4⟩ false true 7) sv = some (sl fS (make d).secs) := fun bx => o8.snapK flatS hS0 bx _ _ _ (snap_S _ _ _ 6)
  have s3 : ∀ bx, snapV ⟨bx, bl4⟩ false true (snapN ⟨bx, bl4⟩ false true 7) pv = some (sl fL (make d).parts) := fun bx => o7.snapK hP0 bx _ _ 5
  have hpt : nz fP (make d).pts = sl fP (make d).pts := by simp only [make, mkPts, g0, hf, if_true, if_false, nz]; rfl
  obtain ⟨q1, q2, q3, q4, q5, q6, q7, q8, q9, q10, q11, q12, q13, q14, q15, q16, q17, q18, q19, q20, q21, q22, q23, q24⟩ := nm
  rw [r04_Make_F_eq]
  simp only [r04_Make_C, r04_Make_L5_eq, r04_Make_L7_eq, q1, q2, q3, q4, q5, q6, q10, q11, q12, q13, q14, q15, q16, q17, q18, q19, q20, q21, q22, q23, q24, g0, hf, p2, p3, p4, p5, p6, p7, p8, p9, p10, p11, p12, p13, p14, hN, hP, e3, e4, o5.chkV, o5.locv, o8.locv, o8.one, o8.und, o7.locv, o7.one, o7.und, s2, s3, makeC, hpt, one_cplx, und_cplx, cells_cplx, zy, simprocAttr]
  simp only [make]

set_option maxHeartbeats 2000000 in
theorem make_F2 (d : Draft) (hd : d.ok) (hf : d.form % 4 = 2) (H : Heap) : r04_Make_F false H [.agg (draftC d)] = some (.agg (makeC d), H) := by
  have nm := nums d hd
  have hu : 0 ≤ unitOf d.len ∧ unitOf d.len ≤ 200 := by have := hd.len; unfold unitOf; omega
  have g0 : ¬ d.form % 4 = 0 := by omega
  have g1 : ¬ d.form % 4 = 1 := by omega
  obtain ⟨p2, p3, p4, p5, p6, p7, p8, p9, p10, p11, p12, p13, p14⟩ := floats d hd
  have hN : CV.vs [.cplx .f64 0 0, .cplx .f64 (FloatKind.nearest .f64 (unitOf d.len)) 0, .cplx .f64 (FloatKind.nearest .f64 (2 * unitOf d.len)) 0, .cplx .f64 (FloatKind.nearest .f64 (3 * unitOf d.len)) (FloatKind.nearest .f64 (unitOf d.len / 2)), .cplx .f64 (FloatKind.nearest .f64 (3 * unitOf d.len)) (FloatKind.nearest .f64 (-(unitOf d.len / 2))), .cplx .f64 (FloatKind.nearest .f64 (4 * unitOf d.len)) 0, .cplx .f64 (FloatKind.nearest .f64 (5 * unitOf d.len)) 0, .cplx .f64 (FloatKind.nearest .f64 (6 * unitOf d.len)) 0] 8 = sl fZ (make d).nodes := by
    simp only [make, mkXY, g0, g1, hf, if_true, if_false, List.map_cons, List.map_nil, fl2, fl_zero]
    rfl
  have hP : CV.vs [.int .i64 2, .int .i64 1, .int .i64 2, .int .i64 3, .int .i64 5, .int .i64 6, .int .i64 4, .int .i64 5] 2 = sl fP (make d).pts := by
    simp only [make, mkPts, g0, g1, hf, if_true, if_false]
    rfl
  have hE : Own fE 2 [.cells [.int .i64 0, .int .i64 1, .int .i64 1, .int .i64 2, .int .i64 2, .int .i64 3, .int .i64 2, .int .i64 4, .int .i64 5, .int .i64 3, .int .i64 4, .int .i64 5, .int .i64 5, .int .i64 6, .int .i64 6, .int .i64 7]] (.os 2 (.blk 0) 0 8) (mkEnds d.form) := by
    simp only [mkEnds, g0, g1, hf, if_true, if_false]
    exact .inr ⟨0, rfl, rfl⟩
  have hel := mkEnds_len d.form
  obtain ⟨sv, bl3, e3, o4, o5, o6, d2, d3⟩ := secs_loop d (unitOf d.len) hu (mkEnds d.form) hel.2 (make d).nodes (sl fZ (make d).nodes) (.os 2 (.blk 0) 0 8) (sl fP (make d).pts) [] rfl (mkEnds d.form) [] [] .nils _ rfl rfl (Own.nil _ _ _) hE (.inl rfl) (Dj.nils _) (Dj.nils _)
  obtain ⟨pv, ids, bl4, e4, o7, o8, o9⟩ := parts_loop d hd (unitOf d.len) (mkEnds d.form).length hel.2 _ _ (sl fZ (make d).nodes) sv (.os 2 (.blk 0) 0 8) (sl fP (make d).pts) rfl o5.len o5.chkV (mkEnds d.form).length 0 [] .nils [] bl3 (by omega) (by simp) (by simp) (by omega) (.inl ⟨rfl, rfl, rfl⟩) o4 o6 (by intro k _ h; simp at h) (by intro k _ h; simp at h)
  simp only [List.nil_append, List.length_nil, Int.natCast_zero] at e3 e4 o7 o8
  have hS0 : mkSecs (unitOf d.len) 0 (mkEnds d.form) ≠ [] := by
    intro h
    have := mkSecs_length (unitOf d.len) 0 (mkEnds d.form)
    rw [h] at this; simp at this; omega
  have hP0 := mkParts_ne d.join (mkEnds d.form).length 0 [] (.inl (by omega)) (by omega)
  have s2 : ∀ bx, snapV ⟨bx, bl4⟩ false true (snapN ⟨bx, bl4⟩ false true 7) sv = some (sl fS (make d).secs) := fun bx => o8.snapK flatS hS0 bx _ _ _ (snap_S _ _ _ 6)
  have s3 : ∀ bx, snapV ⟨bx, bl4⟩ false true (snapN ⟨bx, bl4⟩ false true 7) pv = some (sl fL (make d).parts) := fun bx => o7.snapK hP0 bx _ _ 5
  have hpt : nz fP (make d).pts = sl fP (make d).pts := by simp only [make, mkPts, g0, g1, hf, if_true, if_false, nz]; rfl
  obtain ⟨q1, q2, q3, q4, q5, q6, q7, q8, q9, q10, q11, q12, q13, q14, q15, q16, q17, q18, q19, q20, q21, q22, q23, q24⟩ := nm
  rw [r04_Make_F_eq]
  simp only [r04_Make_C, r04_Make_L5_eq, r04_Make_L7_eq, q1, q2, q3, q4, q5, q6, q10, q11, q12, q13, q14, q15, q16, q17, q18, q19, q20, q21, q22, q23, q24, g0, g1, hf, p2, p3, p4, p5, p6, p7, p8, p9, p10, p11, p12, p13, p14, hN, hP, e3, e4, o5.chkV, o5.locv, o8.locv, o8.one, o8.und, o7.locv, o7.one, o7.und, s2, s3, makeC, hpt, one_cplx, und_cplx, cells_cplx, zy, simprocAttr]
  simp only [make]

set_option maxHeartbeats 2000000 in
theorem make_F3 (d : Draft) (hd : d.ok) (hf : d.form % 4 = 3) (H : Heap) : r04_Make_F false H [.agg (draftC d)] = some (.agg (makeC d), H) := by
  have nm := nums d hd
  have hu : 0 ≤ unitOf d.len ∧ unitOf d.len ≤ 200 := by have := hd.len; unfold unitOf; omega
  have g0 : ¬ d.form % 4 = 0 := by omega
  have g1 : ¬ d.form % 4 = 1 := by omega
  have g2 : ¬ d.form % 4 = 2 := by omega
  obtain ⟨p2, p3, p4, p5, p6, p7, p8, p9, p10, p11, p12, p13, p14⟩ := floats d hd
  have hN : CV.vs [.cplx .f64 0 0, .cplx .f64 (FloatKind.nearest .f64 (unitOf d.len)) 0, .cplx .f64 (FloatKind.nearest .f64 (2 * unitOf d.len)) 0, .cplx .f64 (FloatKind.nearest .f64 (3 * unitOf d.len)) (FloatKind.nearest .f64 (unitOf d.len)), .cplx .f64 (FloatKind.nearest .f64 (3 * unitOf d.len)) (FloatKind.nearest .f64 (-unitOf d.len)), .cplx .f64 (FloatKind.nearest .f64 (4 * unitOf d.len)) (FloatKind.nearest .f64 (unitOf d.len)), .cplx .f64 (FloatKind.nearest .f64 (4 * unitOf d.len)) (FloatKind.nearest .f64 (-unitOf d.len))] 7 = sl fZ (make d).nodes := by
    simp only [make, mkXY, g0, g1, g2, hf, if_true, if_false, List.map_cons, List.map_nil, fl2, fl_zero]
    rfl
  have hP : CV.vs [.int .i64 2, .int .i64 1, .int .i64 3, .int .i64 2] 1 = sl fP (make d).pts := by
    simp only [make, mkPts, g0, g1, g2, hf, if_true, if_false]
    rfl
  have hE : Own fE 2 [.cells [.int .i64 0, .int .i64 1, .int .i64 2, .int .i64 1, .int .i64 2, .int .i64 3, .int .i64 2, .int .i64 4, .int .i64 3, .int .i64 5, .int .i64 4, .int .i64 6]] (.os 2 (.blk 0) 0 6) (mkEnds d.form) := by
    simp only [mkEnds, g0, g1, g2, hf, if_true, if_false]
    exact .inr ⟨0, rfl, rfl⟩
  have hel := mkEnds_len d.form
  obtain ⟨sv, bl3, e3, o4, o5, o6, d2, d3⟩ := secs_loop d (unitOf d.len) hu (mkEnds d.form) hel.2 (make d).nodes (sl fZ (make d).nodes) (.os 2 (.blk 0) 0 6) (sl fP (make d).pts) [] rfl (mkEnds d.form) [] [] .nils _ rfl rfl (Own.nil _ _ _) hE (.inl rfl) (Dj.nils _) (Dj.nils _)
  obtain ⟨pv, ids, bl4, e4, o7, o8, o9⟩ := parts_loop d hd (unitOf d.len) (mkEnds d.form).length hel.2 _ _ (sl fZ (make d).nodes) sv (.os 2 (.blk 0) 0 6) (sl fP (make d).pts) rfl o5.len o5.chkV (mkEnds d.form).length 0 [] .nils [] bl3 (by omega) (by simp) (by simp) (by omega) (.inl ⟨rfl, rfl, rfl⟩) o4 o6 (by intro k _ h; simp at h) (by intro k _ h; simp at h)
  simp only [List.nil_append, List.length_nil, Int.natCast_zero] at e3 e4 o7 o8
  have hS0 : mkSecs (unitOf d.len) 0 (mkEnds d.form) ≠ [] := by
    intro h
    have := mkSecs_length (unitOf d.len) 0 (mkEnds d.form)
    rw [h] at this; simp at this; omega
  have hP0 := mkParts_ne d.join (mkEnds d.form).length 0 [] (.inl (by omega)) (by omega)
  have s2 : ∀ bx, snapV ⟨bx, bl4⟩ false true (snapN ⟨bx, bl4⟩ false true 7) sv = some (sl fS (make d).secs) := fun bx => o8.snapK flatS hS0 bx _ _ _ (snap_S _ _ _ 6)
  have s3 : ∀ bx, snapV ⟨bx, bl4⟩ false true (snapN ⟨bx, bl4⟩ false true 7) pv = some (sl fL (make d).parts) := fun bx => o7.snapK hP0 bx _ _ 5
  have hpt : nz fP (make d).pts = sl fP (make d).pts := by simp only [make, mkPts, g0, g1, g2, hf, if_true, if_false, nz]; rfl
  obtain ⟨q1, q2, q3, q4, q5, q6, q7, q8, q9, q10, q11, q12, q13, q14, q15, q16, q17, q18, q19, q20, q21, q22, q23, q24⟩ := nm
  rw [r04_Make_F_eq]
  simp only [r04_Make_C, r04_Make_L5_eq, r04_Make_L7_eq, q1, q2, q3, q4, q5, q6, q10, q11, q12, q13, q14, q15, q16, q17, q18, q19, q20, q21, q22, q23, q24, g0, g1, g2, hf, p2, p3, p4, p5, p6, p7, p8, p9, p10, p11, p12, p13, p14, hN, hP, e3, e4, o5.chkV, o5.locv, o8.locv, o8.one, o8.und, o7.locv, o7.one, o7.und, s2, s3, makeC, hpt, one_cplx, und_cplx, cells_cplx, zy, simprocAttr]
  simp only [make]


theorem make_F (d : Draft) (hd : d.ok) (H : Heap) : r04_Make_F false H [.agg (draftC d)] = some (.agg (makeC d), H) := by
  have : d.form % 4 = 0 ∨ d.form % 4 = 1 ∨ d.form % 4 = 2 ∨ d.form % 4 = 3 := by omega
  rcases this with h | h | h | h
  · exact make_F0 d hd h H
  · exact make_F1 d hd h H
  · exact make_F2 d hd h H
  · exact make_F3 d hd h H
end Go.Proofs.Ytfblegjbmhgepaa.Zt
end
section
namespace Go.Proofs.Ytfblegjbmhgepaa.Zt
open Go Go.Zc
set_option maxRecDepth 10000

theorem mkSecs_ok (u : Int) : ∀ (i : Nat) (l : List Ed), (mkSecs u i l).length = l.length := mkSecs_length u
theorem addLast_len (x : Int) : ∀ (l : List (List Int)), (addLast x l).length = l.length
  | [] => rfl
  | [_] => rfl
  | a :: b :: l => by simp only [addLast, List.length_cons, addLast_len x (b :: l)]
theorem addLast_mem (x : Int) : ∀ (l : List (List Int)) (n : Nat), (∀ p ∈ l, p.length ≤ n) → ∀ p ∈ addLast x l, p.length ≤ n + 1
  | [], _, _, p, hp => by simp [addLast] at hp
  | [q], n, h, p, hp => by
    have := h q (by simp)
    simp only [addLast, List.mem_singleton] at hp; subst hp; simp; omega
  | a :: b :: l, n, h, p, hp => by
    simp only [addLast, List.mem_cons] at hp
    rcases hp with rfl | hp
    · have := h p (by simp); omega
    · exact addLast_mem x (b :: l) n (fun q hq => h q (by simp [List.mem_cons.1 hq])) p hp
theorem mkParts_ok (j : Int) : ∀ (n i : Nat) (acc : List (List Int)), acc.length ≤ i → (∀ p ∈ acc, p.length ≤ i + 1) → (mkParts j i n acc).length ≤ i + n ∧ ∀ p ∈ mkParts j i n acc, p.length ≤ i + n + 1
  | 0, _, _, h, h' => ⟨by simpa [mkParts] using h, by simpa [mkParts] using h'⟩
  | n + 1, i, acc, h, h' => by
    simp only [mkParts]
    have := mkParts_ok j n (i + 1) (if joinAt j i then addLast i acc else acc ++ [[(i : Int)]]) (by split <;> simp [addLast_len] <;> omega) (by
      split
      · exact addLast_mem i acc (i + 1) h'
      · intro p hp
        rcases List.mem_append.1 hp with hp | hp
        · have := h' p hp; omega
        · simp only [List.mem_singleton] at hp; subst hp; simp)
    rw [show i + (n + 1) = i + 1 + n by omega]
    exact this
theorem mkXY_len (form u : Int) : (mkXY form u).length ≤ 9 := by
  unfold mkXY
  split
  · simp [mkN]; omega
  · split
    · simp
    · split <;> simp
theorem mkPts_len (form : Int) : (mkPts form).length ≤ 2 := by
  unfold mkPts
  split
  · simp
  · split
    · simp
    · split <;> simp
theorem make_ok (d : Draft) (r : List (List Int)) (h1 : r.length ≤ 16) (h2 : ∀ p ∈ r, p.length ≤ 7) : ({ make d with routes := r } : Lay).ok := by
  have ha := mkEnds_len d.form
  have hb := mkSecs_length (unitOf d.len) 0 (mkEnds d.form)
  have hc := mkParts_ok d.join (mkEnds d.form).length 0 [] (by simp) (by simp)
  have hd := mkXY_len d.form (unitOf d.len)
  have he := mkPts_len d.form
  refine ⟨?_, ?_, ?_, ?_, ?_, fun p hp => ?_, fun p hp => ?_⟩
  · simp only [make, List.length_map]; unfold Zc.small; omega
  · simp only [make]; unfold Zc.small; omega
  · simp only [make]; unfold Zc.small; omega
  · simp only [make]; unfold Zc.small; omega
  · simp only; unfold Zc.small; omega
  · have := hc.2 p hp; unfold Zc.small; omega
  · have := h2 p hp; unfold Zc.small; omega
theorem full_ok (d : Draft) : (full d).ok := by
  have := fullFrom_ok (make d) d.routes [] (by simp) (by simp)
  exact make_ok d _ this.1 this.2

theorem snap_L (H : Heap) (kn : Bool) (n : Nat) : ∀ x : List Int, ∀ c ∈ fL x, snapN H false kn (n + 1) c = some c := by
  intro x c hc
  simp only [fL, List.mem_cons, List.not_mem_nil, or_false] at hc
  subst hc
  rfl

set_option maxHeartbeats 1000000 in
theorem full_loop (d : Draft) (hd : d.ok) : ∀ (s p : List (List Int)) (acc : List (List Int)) (v : CV) (bl : List Blk), p ++ s = d.routes → acc.length ≤ 16 → (∀ q ∈ acc, q.length ≤ 7) → Own fL 1 bl v acc →
    ∃ v' bl', r05_Full_R0 ([(1, .op (.loc 1) 0), (2, .op (.loc 2) 0), (3, .op (.loc 3) 0), (4, .int .i64 p.length)], ⟨[(1, draftC d), (2, zeroL), (3, [sl fZ (make d).nodes, sl fS (make d).secs, sl fL (make d).parts, nz fP (make d).pts, v, .int .i64 (make d).speed, .int .i64 (make d).mute, .int .i64 (make d).wait, .int .i64 (make d).cancel, .int .i64 (make d).stay])], bl⟩) =
      some (.norm, [(2, .op (.loc 2) 0), (3, .op (.loc 3) 0)], ⟨[(2, zeroL), (3, [sl fZ (make d).nodes, sl fS (make d).secs, sl fL (make d).parts, nz fP (make d).pts, v', .int .i64 (make d).speed, .int .i64 (make d).mute, .int .i64 (make d).wait, .int .i64 (make d).cancel, .int .i64 (make d).stay])], bl'⟩) ∧ Own fL 1 bl' v' (fullFrom (make d) s acc)
  | [], p, acc, v, bl, hp, ha, hq, hO => by
    refine ⟨v, bl, ?_, hO⟩
    have h1 : ¬ ((p.length : Int) < d.routes.length) := by rw [← hp]; simp
    rw [r05_Full_R0_eq]
    simp only [r05_Full_B0, r05_Full_K0_a, h1, hO.locv, locv_nz, zy, simprocAttr]
  | x :: s, p, acc, v, bl, hp, ha, hq, hO => by
    have hpl : p.length + 1 + s.length = d.routes.length := by rw [← hp]; simp; omega
    have h1 : ((p.length : Int) < d.routes.length) := by omega
    have hrl := hd.routes
    unfold maxLen at hrl
    have hw := wrapM (n := p.length) (by omega)
    have hx := hd.route x (by rw [← hp]; simp)
    have hi : iaddrC 1 (sl fUL d.routes) (.int .i64 p.length) = some (.vp (sl fU x :: s.flatMap fUL)) := by rw [← hp]; exact iaddr_midUL _ p s x
    by_cases h16 : 16 ≤ acc.length
    · refine ⟨v, bl, ?_, by simpa only [fullFrom, if_pos h16] using hO⟩
      have h16' : ¬ ((acc.length : Int) < 16) := by omega
      rw [r05_Full_R0_eq]
      simp only [r05_Full_B0, r05_Full_K0_a, h1, h16', hO.len, hO.locv, locv_nz, zy, simprocAttr]
    · have h16' : ((acc.length : Int) < 16) := by omega
      by_cases h2 : x.length < 2
      · have h2' : ((x.length : Int) < 2) := by omega
        obtain ⟨v', bl', e, o⟩ := full_loop d hd s (p ++ [x]) acc v bl (by simpa using hp) ha hq hO
        simp only [List.append_assoc, List.cons_append, List.nil_append, List.length_append, List.length_cons, List.length_nil] at e
        refine ⟨v', bl', ?_, by simpa only [fullFrom, if_neg h16, if_neg (show ¬ (2 ≤ x.length ∧ 2 ≤ (wayOf (make d) x).length) by omega)] using o⟩
        rw [r05_Full_R0_eq]
        simp only [r05_Full_B0, r05_Full_K0_a, h1, h16', hi, h2', hw, hO.len, hO.locv, locv_nz, e, zy, simprocAttr]
      · have h2' : ¬ ((x.length : Int) < 2) := by omega
        obtain ⟨x0, x1, t, rfl⟩ : ∃ x0 x1 t, x = x0 :: x1 :: t := by
          match x, h2 with
          | x0 :: x1 :: t, _ => exact ⟨x0, x1, t, rfl⟩
          | [_], h => simp at h
          | [], h => simp at h
        have b0 := hx.2 x0 (by simp)
        have b1 := hx.2 x1 (by simp)
        have hel := mkEnds_len d.form
        have hsl : (make d).secs.length = (mkEnds d.form).length := mkSecs_length _ _ _
        have hi0 := iaddr_midU .i64 [] (x1 :: t) x0
        have hi1 := iaddr_midU .i64 [x0] t x1
        simp only [List.nil_append, List.length_nil, List.cons_append, List.length_cons, Int.natCast_zero, Nat.zero_add, Int.natCast_one] at hi0 hi1
        have hsc := slc_lo flatU (x0 :: x1 :: t) 2 (by simp) .i64
        simp only [Int.cast_ofNat_Int, List.drop_succ_cons, List.drop_zero] at hsc
        have k0 : IntKind.i64.wrap x0 = x0 := wrap64 (by omega) (by omega)
        have k1 : x0.tmod ((make d).secs.length : Int) = x0 % ((make d).secs.length : Int) := Int.tmod_eq_emod_of_nonneg b0.1
        have k2 : IntKind.u8.wrap (x0.tdiv 128) = x0 / 128 := by rw [Int.tdiv_eq_ediv_of_nonneg b0.1, IntKind.wrap_u8]; omega
        have k3 : IntKind.i64.wrap (x0 / 128) = x0 / 128 := wrap64 (by omega) (by omega)
        have k4 : x1.tmod 5 = x1 % 5 := Int.tmod_eq_emod_of_nonneg b1.1
        have k5 : IntKind.i64.wrap (x1 % 5) = x1 % 5 := wrap64 (by omega) (by omega)
        have k6 : IntKind.i64.wrap (2 + x1 % 5) = ((2 + x1 % 5).toNat : Nat) := by rw [wrap64 (by omega) (by omega)]; omega
        have k7 : ¬ ((make d).secs.length : Int) = 0 := by omega
        have hwF := fun H st => walk_F { make d with routes := acc } (make_ok d acc ha hq) (x0 % (make d).secs.length) (x0 / 128) t (fun q hq' => hx.2 q (by simp [hq'])) (2 + x1 % 5).toNat (by unfold Zc.small; omega) H st
        have hwy : walk { make d with routes := acc } (x0 % (make d).secs.length) (x0 / 128) t ((2 + x1 % 5).toNat : Nat) = wayOf (make d) (x0 :: x1 :: t) := by rw [walk_routes]; rfl
        rw [hwy] at hwF
        have hsn := fun bx => hO.snapV flatL bx false _ (snap_L ⟨bx, bl⟩ false 6)
        by_cases h3 : 2 ≤ (wayOf (make d) (x0 :: x1 :: t)).length
        · have h3' : (2 : Int) ≤ (wayOf (make d) (x0 :: x1 :: t)).length := by omega
          obtain ⟨v1, bl1, e1, o1, _⟩ := hO.app1 flatL (bytes := 24) (zero := [.nils]) (by decide) rfl rfl (wayOf (make d) (x0 :: x1 :: t)) (by omega)
          simp only [fL] at e1
          have hwl := walk_len (make d) (x0 % (make d).secs.length) (x0 / 128) t (2 + x1 % 5).toNat
          obtain ⟨v', bl', e, o⟩ := full_loop d hd s (p ++ [x0 :: x1 :: t]) (acc ++ [wayOf (make d) (x0 :: x1 :: t)]) v1 bl1 (by simpa using hp) (by simp; omega) (by
            intro q hq'
            rcases List.mem_append.1 hq' with h | h
            · exact hq q h
            · simp only [List.mem_singleton] at h; subst h
              have : wayOf (make d) (x0 :: x1 :: t) = walk (make d) (x0 % (make d).secs.length) (x0 / 128) t ((2 + x1 % 5).toNat : Nat) := rfl
              rw [this]; omega) o1
          simp only [List.append_assoc, List.cons_append, List.nil_append, List.length_append, List.length_cons, List.length_nil] at e
          refine ⟨v', bl', ?_, by simpa only [fullFrom, if_neg h16, if_pos (show (2 ≤ (x0 :: x1 :: t).length ∧ 2 ≤ (wayOf (make d) (x0 :: x1 :: t)).length) from ⟨by simp, h3⟩)] using o⟩
          rw [r05_Full_R0_eq]
          simp only [List.length_cons] at h2'
          simp only [r05_Full_B0, r05_Full_K0_a, h1, h16', hi, h2', hw, hi0, hi1, hsc, k0, k1, k2, k3, k4, k5, k6, k7, hsn, snapV_nz, r05_Walk_call, hwF, h3', e1, hO.len, hO.locv, o1.locv, o1.one, o1.cells, locv_nz, e, zy, simprocAttr]
        · have h3' : ¬ (2 : Int) ≤ (wayOf (make d) (x0 :: x1 :: t)).length := by omega
          obtain ⟨v', bl', e, o⟩ := full_loop d hd s (p ++ [x0 :: x1 :: t]) acc v bl (by simpa using hp) ha hq hO
          simp only [List.append_assoc, List.cons_append, List.nil_append, List.length_append, List.length_cons, List.length_nil] at e
          refine ⟨v', bl', ?_, by simpa only [fullFrom, if_neg h16, if_neg (show ¬ (2 ≤ (x0 :: x1 :: t).length ∧ 2 ≤ (wayOf (make d) (x0 :: x1 :: t)).length) from fun h => h3 h.2)] using o⟩
          rw [r05_Full_R0_eq]
          simp only [List.length_cons] at h2'
          simp only [r05_Full_B0, r05_Full_K0_a, h1, h16', hi, h2', hw, hi0, hi1, hsc, k0, k1, k2, k3, k4, k5, k6, k7, hsn, snapV_nz, r05_Walk_call, hwF, h3', hO.len, hO.locv, locv_nz, e, zy, simprocAttr]

theorem full_F (d : Draft) (hd : d.ok) (H : Heap) : r05_Full_F false H [.agg (draftC d)] = some (.agg (layC (full d)), H) := by
  obtain ⟨v, bl, e, o⟩ := full_loop d hd d.routes [] [] .nils [] rfl (by simp) (by simp) (Own.nil _ _ _)
  simp only [List.nil_append, List.length_nil, Int.natCast_zero] at e
  have hsn := fun bx => o.snapV flatL bx false _ (snap_L ⟨bx, bl⟩ false 6)
  rw [r05_Full_F_eq]
  simp only [r05_Full_C, r05_Full_L0_eq, r04_Make_call, make_F d hd, makeC, e, hsn, snapV_nz, locv_nz, one_nz, und_nz, o.locv, o.one, o.und, zy, simprocAttr]
  rfl
end Go.Proofs.Ytfblegjbmhgepaa.Zt
end
section
namespace Go.Proofs.Ytfblegjbmhgepaa.Zt
open Go Go.Zc
set_option maxRecDepth 10000

theorem gsection_F (l : Lay) (n : Int) (st : Bool) (H : Heap) : graph_Graph_section_F st H [.vp (layC l), .int .i64 n] = some (.tup [.agg (secC (secAt l n)), .bool (secAt l n).isSome], H) := by
  rw [graph_Graph_section_F_eq]
  have hz : binC .eql .ptr (.vp (layC l)) .nilp = some (.bool false) := rfl
  by_cases h1 : n < 0
  · have hn : secAt l n = none := by simp only [secAt, if_neg (show ¬ 0 ≤ n by omega)]
    simp only [graph_Graph_section_C, hz, h1, hn, secC, zy, simprocAttr]
  · obtain ⟨n, rfl⟩ := Int.eq_ofNat_of_zero_le (show 0 ≤ n by omega)
    by_cases h2 : l.secs.length ≤ n
    · have hn : secAt l n = none := by simp [secAt, List.getElem?_eq_none h2]
      have h2' : ((l.secs.length : Int) ≤ n) := by omega
      simp only [graph_Graph_section_C, hz, h1, h2', hn, secC, zy, simprocAttr]
    · have h2' : ¬ ((l.secs.length : Int) ≤ n) := by omega
      have hlt : n < l.secs.length := by omega
      have hn : secAt l n = some l.secs[n] := by simp [secAt, List.getElem?_eq_getElem hlt]
      simp only [graph_Graph_section_C, hz, h1, h2', hn, secC, fS, iaddr_atS hlt, zy, simprocAttr]

theorem nodeOf_sec (l : Lay) (x : Ed) : nodeOf l x = (secAt l x.s).bind fun s => if x.e = 0 then some s.a else if x.e = 1 then some s.b else none := rfl

theorem gnode_F (l : Lay) (x : Ed) (st : Bool) (H : Heap) : graph_Graph_node_F st H [.vp (layC l), .agg (fE x)] = some (.tup [.int .i64 ((nodeOf l x).getD 0), .bool (nodeOf l x).isSome], H) := by
  rw [graph_Graph_node_F_eq, nodeOf_sec]
  have hs := gsection_F l x.s
  cases h : secAt l x.s with
  | none =>
    simp only [h, secC] at hs
    simp only [graph_Graph_node_C, fE, graph_Graph_section_call, hs, Option.bind_none, Option.getD_none, zy, simprocAttr]
  | some s =>
    simp only [h, secC, fS] at hs
    by_cases h0 : x.e = 0
    · simp only [graph_Graph_node_C, fE, graph_Graph_section_call, hs, Option.bind_some, eq_true h0, Option.getD_some, zy, simprocAttr]
    · by_cases h1 : x.e = 1
      · simp only [graph_Graph_node_C, fE, graph_Graph_section_call, hs, Option.bind_some, eq_false h0, eq_true h1, Option.getD_some, zy, simprocAttr]
      · simp only [graph_Graph_node_C, fE, graph_Graph_section_call, hs, Option.bind_some, eq_false h0, eq_false h1, Option.getD_none, zy, simprocAttr]

theorem glen_F (l : Lay) (n : Int) (st : Bool) (H : Heap) : graph_Graph_Len_F st H [.vp (layC l), .int .i64 n] = some (.int .i64 (lenAt l n), H) := by
  rw [graph_Graph_Len_F_eq]
  have hs := gsection_F l n
  have hl : lenAt l n = ((secAt l n).map Sec.len).getD 0 := rfl
  rw [hl]
  cases h : secAt l n with
  | none =>
    simp only [h, secC] at hs
    simp only [graph_Graph_Len_C, graph_Graph_section_call, hs, Option.map_none, Option.getD_none, zy, simprocAttr]
  | some s =>
    simp only [h, secC, fS] at hs
    simp only [graph_Graph_Len_C, graph_Graph_section_call, hs, Option.map_some, Option.getD_some, zy, simprocAttr]

theorem gends_in (a b at' : Int) (l : Lay) (i : Nat) (acc : List Ed) (v : CV) (bl : List Blk) (hm : acc.length ≤ 2 * Zc.small) (hO : Own fE 2 bl v acc) :
    ∃ v' bl', graph_Graph_Ends_R2 ([(0, .vp (layC l)), (1, .int .i64 at'), (5, v), (6, .int .i64 i), (26, .agg [.int .i64 a, .int .i64 b]), (27, .int .i64 0)], ⟨[], bl⟩) = some (.norm, [(0, .vp (layC l)), (1, .int .i64 at'), (5, v'), (6, .int .i64 i)], ⟨[], bl'⟩) ∧
      Own fE 2 bl' v' (acc ++ ((if a = at' then [⟨i, 0⟩] else []) ++ (if b = at' then [⟨i, 1⟩] else []))) := by
  unfold Zc.small at hm
  have x0 : idxAC 2 false 1 (.agg [.int .i64 a, .int .i64 b]) (.int .i64 0) = some (.int .i64 a) := rfl
  have x1 : idxAC 2 false 1 (.agg [.int .i64 a, .int .i64 b]) (.int .i64 1) = some (.int .i64 b) := rfl
  have s2 : ∀ (v : CV) (bl : List Blk) (acc : List Ed), Own fE 2 bl v acc → graph_Graph_Ends_R2 ([(0, .vp (layC l)), (1, .int .i64 at'), (5, v), (6, .int .i64 i), (26, .agg [.int .i64 a, .int .i64 b]), (27, .int .i64 2)], ⟨[], bl⟩) = some (.norm, [(0, .vp (layC l)), (1, .int .i64 at'), (5, v), (6, .int .i64 i)], ⟨[], bl⟩) := by
    intro v bl acc hO
    rw [graph_Graph_Ends_R2_eq]
    simp only [graph_Graph_Ends_B2, graph_Graph_Ends_K2_a, hO.chkV, zy, simprocAttr]
  have s1 : ∀ (v : CV) (bl : List Blk) (acc : List Ed), acc.length ≤ 2 * 1000000000 + 1 → Own fE 2 bl v acc → ∃ v' bl', graph_Graph_Ends_R2 ([(0, .vp (layC l)), (1, .int .i64 at'), (5, v), (6, .int .i64 i), (26, .agg [.int .i64 a, .int .i64 b]), (27, .int .i64 1)], ⟨[], bl⟩) = some (.norm, [(0, .vp (layC l)), (1, .int .i64 at'), (5, v'), (6, .int .i64 i)], ⟨[], bl'⟩) ∧ Own fE 2 bl' v' (acc ++ if b = at' then [⟨i, 1⟩] else []) := by
    intro v bl acc hm hO
    by_cases hb : b = at'
    · obtain ⟨v1, bl1, e1, o1, _⟩ := hO.app1 flatE (bytes := 16) (zero := [.int .i64 0, .int .i64 0]) (by decide) rfl rfl ⟨i, 1⟩ (by omega)
      simp only [fE] at e1
      refine ⟨v1, bl1, ?_, by simpa [hb] using o1⟩
      have := s2 v1 bl1 _ o1
      rw [graph_Graph_Ends_R2_eq]
      simp only [graph_Graph_Ends_B2, graph_Graph_Ends_K2_a, x1, eq_true hb, e1, this, hO.chkV, o1.chkV, zy, simprocAttr]
    · refine ⟨v, bl, ?_, by simpa [hb] using hO⟩
      have := s2 v bl _ hO
      rw [graph_Graph_Ends_R2_eq]
      simp only [graph_Graph_Ends_B2, graph_Graph_Ends_K2_a, x1, eq_false hb, this, hO.chkV, zy, simprocAttr]
  by_cases ha : a = at'
  · obtain ⟨v1, bl1, e1, o1, _⟩ := hO.app1 flatE (bytes := 16) (zero := [.int .i64 0, .int .i64 0]) (by decide) rfl rfl ⟨i, 0⟩ (by omega)
    obtain ⟨v2, bl2, e2, o2⟩ := s1 v1 bl1 _ (by simp; omega) o1
    simp only [fE] at e1
    refine ⟨v2, bl2, ?_, by simpa [ha] using o2⟩
    rw [graph_Graph_Ends_R2_eq]
    simp only [graph_Graph_Ends_B2, graph_Graph_Ends_K2_a, x0, eq_true ha, e1, e2, hO.chkV, o1.chkV, zy, simprocAttr]
  · obtain ⟨v2, bl2, e2, o2⟩ := s1 v bl _ (by omega) hO
    refine ⟨v2, bl2, ?_, by simpa [ha] using o2⟩
    rw [graph_Graph_Ends_R2_eq]
    simp only [graph_Graph_Ends_B2, graph_Graph_Ends_K2_a, x0, eq_false ha, e2, hO.chkV, zy, simprocAttr]

theorem gends_loop (l : Lay) (hl : l.ok) (at' : Int) : ∀ (s p : List Sec) (acc : List Ed) (v : CV) (bl : List Blk), p ++ s = l.secs → acc.length ≤ 2 * p.length → Own fE 2 bl v acc →
    ∃ v' bl' bx, graph_Graph_Ends_R0 ([(0, .vp (layC l)), (1, .int .i64 at'), (5, v), (6, .int .i64 p.length)], ⟨[], bl⟩) = some (.ret, [(4, v')], ⟨bx, bl'⟩) ∧ Own fE 2 bl' v' (acc ++ endsFrom at' p.length s)
  | [], p, acc, v, bl, hp, ha, hO => by
    have hs := gsection_F l p.length
    have hn : secAt l p.length = none := by simp [secAt, ← hp]
    simp only [hn, secC] at hs
    have : ∃ bx, graph_Graph_Ends_R0 ([(0, .vp (layC l)), (1, .int .i64 at'), (5, v), (6, .int .i64 p.length)], ⟨[], bl⟩) = some (.ret, [(4, v)], ⟨bx, bl⟩) := by
      rw [graph_Graph_Ends_R0_eq]
      simp only [graph_Graph_Ends_B0, graph_Graph_Ends_K0_a, graph_Graph_section_call, hs, zy, simprocAttr]
      exact ⟨_, rfl⟩
    obtain ⟨bx, h⟩ := this
    exact ⟨v, bl, bx, h, by simpa [endsFrom] using hO⟩
  | x :: s, p, acc, v, bl, hp, ha, hO => by
    have hsm := hl.secs
    have hpl : p.length + 1 + s.length = l.secs.length := by rw [← hp]; simp; omega
    have hw := wrapN (n := p.length) (by omega)
    have hs := gsection_F l p.length
    have hn : secAt l p.length = some x := by simp [secAt, ← hp]
    simp only [hn, secC, fS] at hs
    obtain ⟨v1, bl1, e1, o1⟩ := gends_in x.a x.b at' l p.length acc v bl (by omega) hO
    obtain ⟨v2, bl2, bx, e2, o2⟩ := gends_loop l hl at' s (p ++ [x]) _ v1 bl1 (by simpa using hp) (by simp only [List.length_append, List.length_cons, List.length_nil]; split <;> split <;> simp <;> omega) o1
    simp only [List.append_assoc, List.cons_append, List.nil_append, List.length_append, List.length_cons, List.length_nil] at e2
    refine ⟨v2, bl2, bx, ?_, by simpa [endsFrom] using o2⟩
    rw [graph_Graph_Ends_R0_eq]
    simp only [graph_Graph_Ends_B0, graph_Graph_Ends_K0_a, graph_Graph_Ends_L2_eq, graph_Graph_section_call, hs, e1, hw, hO.chkV, o1.chkV, e2, zy, simprocAttr]

theorem snapE1 (st : Bool) (H : Heap) (x : Ed) : ∀ c ∈ fE x, snap H st false c = some c := snap_E H st false 7 x

/-- The ends at a node, in memory of the caller's. -/
theorem gends_F (l : Lay) (hl : l.ok) (at' : Int) (st : Bool) (bx : List (Nat × List CV)) (bl : List Blk) :
    ∃ v bl', graph_Graph_Ends_F st ⟨bx, bl⟩ [.vp (layC l), .int .i64 at'] = some (v, ⟨bx, bl'⟩) ∧ Own fE 2 bl' v (ends l at') ∧ (∀ (k : Nat) (b : Blk), bl[k]? = some b → bl'[k]? = some b) ∧ (∀ k, blkOf v = some k → bl.length ≤ k) := by
  obtain ⟨v1, bl1, bx1, e1, o1⟩ := gends_loop l hl at' l.secs [] [] .nils [] rfl (by simp) (Own.nil _ _ _)
  simp only [List.nil_append, List.length_nil, Int.natCast_zero] at e1 o1
  obtain ⟨v2, bl2, e2, o2, h3, h4⟩ := o1.handed flatE st bx1 bx bl (fun H x => snapE1 st H x)
  refine ⟨v2, bl2, ?_, o2, h3, h4⟩
  rw [graph_Graph_Ends_F_eq]
  simp only [graph_Graph_Ends_C, graph_Graph_Ends_L0_eq, e1, e2, zy, simprocAttr]
end Go.Proofs.Ytfblegjbmhgepaa.Zt
end
