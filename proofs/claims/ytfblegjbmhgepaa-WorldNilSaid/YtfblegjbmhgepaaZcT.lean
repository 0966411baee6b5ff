/- Go functions, as the interpreter runs them: written by a program of this claim's own, proved to be what the compiler makes of them. No condition. -/
import Derived.Test.YtfblegjbmhgepaaZcT0
import Derived.Test.YtfblegjbmhgepaaZcKt
import Derived.Test.YtfblegjbmhgepaaZcSet
set_option linter.all false
section
namespace Go.Proofs.Ytfblegjbmhgepaa.Zt
open Go Go.Zc
set_option maxRecDepth 100000

/-- All of them. -/
def tab : List (Nat × FInfo) := [(32, world_New_I), (37, world_World_Under_I), (33, world_World_Add_I), (40, world_World_All_I), (46, world_World_Inside_I), (81, world_World_Inside_1_I), (45, world_World_In_I), (80, world_World_In_1_I), (70, world_World_get_I), (72, world_World_under_I), (66, world_World_full_I), (68, world_World_room_I), (69, world_World_way_I), (57, slices_ContainsFunc_int_I), (84, slices_IndexFunc_Int_I), (74, maps_Keys_vehicle_I), (43, train_Fits_I), (75, train_unlike_I), (78, train_Fits_1_I), (47, r04_Make_I), (36, r01_Ints_I), (41, graph_New_I), (67, graph_Graph_Len_I), (59, slices_Contains_int_I), (90, graph_Graph_section_I), (76, graph_Graph_Around_I), (77, slices_IndexFunc_End_I), (85, slices_Index_int_I), (94, graph_Graph_node_I), (95, graph_Graph_Point_I), (96, slices_DeleteFunc_End_I), (97, graph_Graph_Ends_I), (98, graph_Graph_Around_1_I), (99, slices_Concat_End_I), (100, graph_Graph_at_I), (112, slices_IndexFunc_Point_I), (113, graph_Graph_Point_1_I), (114, slices_Grow_End_I), (91, graph_Graph_Next_I), (109, graph_Graph_Next_1_I), (108, graph_stands_I), (71, world_World_enter_I), (34, world_World_Go_I), (38, world_World_Split_I), (35, world_World_Report_I), (42, world_World_Detect_I), (30, l18_enters_I), (13, l18_WorldNil_I)]
/-- What has a contract of its own. -/
def prims : List (Nat × (List CV → List Blk → Option (CV × List Blk))) := Zk.prims
def ctx : Ctx := ⟨Zc.look tab, Zc.look prims⟩
theorem world_New_ok : compF Try.prog (quietOf ctx) world_New_A .ref Try.f32 = some world_New_I := by kernel_rfl
theorem world_World_Under_ok : compF Try.prog (quietOf ctx) world_World_Under_A .ref Try.f37 = some world_World_Under_I := by kernel_rfl
theorem world_World_Add_ok : compF Try.prog (quietOf ctx) world_World_Add_A .ref Try.f33 = some world_World_Add_I := by kernel_rfl
theorem world_World_All_ok : compF Try.prog (quietOf ctx) world_World_All_A .ref Try.f40 = some world_World_All_I := by kernel_rfl
theorem world_World_Inside_ok : compF Try.prog (quietOf ctx) world_World_Inside_A .ref Try.f46 = some world_World_Inside_I := by kernel_rfl
theorem world_World_Inside_1_ok : compF Try.prog (quietOf ctx) world_World_Inside_1_A .ref Try.f81 = some world_World_Inside_1_I := by kernel_rfl
theorem world_World_In_ok : compF Try.prog (quietOf ctx) world_World_In_A .ref Try.f45 = some world_World_In_I := by kernel_rfl
theorem world_World_In_1_ok : compF Try.prog (quietOf ctx) world_World_In_1_A .ref Try.f80 = some world_World_In_1_I := by kernel_rfl
theorem world_World_get_ok : compF Try.prog (quietOf ctx) world_World_get_A .ref Try.f70 = some world_World_get_I := by kernel_rfl
theorem world_World_under_ok : compF Try.prog (quietOf ctx) world_World_under_A .ref Try.f72 = some world_World_under_I := by kernel_rfl
theorem world_World_full_ok : compF Try.prog (quietOf ctx) world_World_full_A .ref Try.f66 = some world_World_full_I := by kernel_rfl
theorem world_World_room_ok : compF Try.prog (quietOf ctx) world_World_room_A .ref Try.f68 = some world_World_room_I := by kernel_rfl
theorem world_World_way_ok : compF Try.prog (quietOf ctx) world_World_way_A .ref Try.f69 = some world_World_way_I := by kernel_rfl
theorem slices_ContainsFunc_int_ok : compF Try.prog (quietOf ctx) slices_ContainsFunc_int_A .ref Try.f57 = some slices_ContainsFunc_int_I := by kernel_rfl
theorem slices_IndexFunc_Int_ok : compF Try.prog (quietOf ctx) slices_IndexFunc_Int_A .ref Try.f84 = some slices_IndexFunc_Int_I := by kernel_rfl
theorem maps_Keys_vehicle_ok : compF Try.prog (quietOf ctx) maps_Keys_vehicle_A .ref Try.f74 = some maps_Keys_vehicle_I := by kernel_rfl
theorem train_Fits_ok : compF Try.prog (quietOf ctx) train_Fits_A (.fz false) Try.f43 = some train_Fits_I := by kernel_rfl
theorem train_unlike_ok : compF Try.prog (quietOf ctx) train_unlike_A (.fz false) Try.f75 = some train_unlike_I := by kernel_rfl
theorem train_Fits_1_ok : compF Try.prog (quietOf ctx) train_Fits_1_A (.fz false) Try.f78 = some train_Fits_1_I := by kernel_rfl
theorem r04_Make_ok : compF Try.prog (quietOf ctx) r04_Make_A (.fz true) Try.f47 = some r04_Make_I := by kernel_rfl
theorem r01_Ints_ok : compF Try.prog (quietOf ctx) r01_Ints_A (.fz false) Try.f36 = some r01_Ints_I := by kernel_rfl
theorem graph_New_ok : compF Try.prog (quietOf ctx) graph_New_A (.fz false) Try.f41 = some graph_New_I := by kernel_rfl
theorem graph_Graph_Len_ok : compF Try.prog (quietOf ctx) graph_Graph_Len_A (.fz false) Try.f67 = some graph_Graph_Len_I := by kernel_rfl
theorem slices_Contains_int_ok : compF Try.prog (quietOf ctx) slices_Contains_int_A (.fz false) Try.f59 = some slices_Contains_int_I := by kernel_rfl
theorem graph_Graph_section_ok : compF Try.prog (quietOf ctx) graph_Graph_section_A (.fz false) Try.f90 = some graph_Graph_section_I := by kernel_rfl
theorem graph_Graph_Around_ok : compF Try.prog (quietOf ctx) graph_Graph_Around_A (.fz false) Try.f76 = some graph_Graph_Around_I := by kernel_rfl
theorem slices_IndexFunc_End_ok : compF Try.prog (quietOf ctx) slices_IndexFunc_End_A (.fz false) Try.f77 = some slices_IndexFunc_End_I := by kernel_rfl
theorem slices_Index_int_ok : compF Try.prog (quietOf ctx) slices_Index_int_A (.fz false) Try.f85 = some slices_Index_int_I := by kernel_rfl
theorem graph_Graph_node_ok : compF Try.prog (quietOf ctx) graph_Graph_node_A (.fz false) Try.f94 = some graph_Graph_node_I := by kernel_rfl
theorem graph_Graph_Point_ok : compF Try.prog (quietOf ctx) graph_Graph_Point_A (.fz false) Try.f95 = some graph_Graph_Point_I := by kernel_rfl
theorem slices_DeleteFunc_End_ok : compF Try.prog (quietOf ctx) slices_DeleteFunc_End_A .ref Try.f96 = some slices_DeleteFunc_End_I := by kernel_rfl
theorem graph_Graph_Ends_ok : compF Try.prog (quietOf ctx) graph_Graph_Ends_A .own Try.f97 = some graph_Graph_Ends_I := by kernel_rfl
theorem graph_Graph_Around_1_ok : compF Try.prog (quietOf ctx) graph_Graph_Around_1_A (.fz false) Try.f98 = some graph_Graph_Around_1_I := by kernel_rfl
theorem slices_Concat_End_ok : compF Try.prog (quietOf ctx) slices_Concat_End_A (.fz false) Try.f99 = some slices_Concat_End_I := by kernel_rfl
theorem graph_Graph_at_ok : compF Try.prog (quietOf ctx) graph_Graph_at_A (.fz false) Try.f100 = some graph_Graph_at_I := by kernel_rfl
theorem slices_IndexFunc_Point_ok : compF Try.prog (quietOf ctx) slices_IndexFunc_Point_A (.fz false) Try.f112 = some slices_IndexFunc_Point_I := by kernel_rfl
theorem graph_Graph_Point_1_ok : compF Try.prog (quietOf ctx) graph_Graph_Point_1_A (.fz false) Try.f113 = some graph_Graph_Point_1_I := by kernel_rfl
theorem slices_Grow_End_ok : compF Try.prog (quietOf ctx) slices_Grow_End_A .ref Try.f114 = some slices_Grow_End_I := by kernel_rfl
theorem graph_Graph_Next_ok : compF Try.prog (quietOf ctx) graph_Graph_Next_A (.fz false) Try.f91 = some graph_Graph_Next_I := by kernel_rfl
theorem graph_Graph_Next_1_ok : compF Try.prog (quietOf ctx) graph_Graph_Next_1_A (.fz false) Try.f109 = some graph_Graph_Next_1_I := by kernel_rfl
theorem graph_stands_ok : compF Try.prog (quietOf ctx) graph_stands_A (.fz false) Try.f108 = some graph_stands_I := by kernel_rfl
theorem world_World_enter_ok : compF Try.prog (quietOf ctx) world_World_enter_A .ref Try.f71 = some world_World_enter_I := by kernel_rfl
theorem world_World_Go_ok : compF Try.prog (quietOf ctx) world_World_Go_A .ref Try.f34 = some world_World_Go_I := by kernel_rfl
theorem world_World_Split_ok : compF Try.prog (quietOf ctx) world_World_Split_A .ref Try.f38 = some world_World_Split_I := by kernel_rfl
theorem world_World_Report_ok : compF Try.prog (quietOf ctx) world_World_Report_A .ref Try.f35 = some world_World_Report_I := by kernel_rfl
theorem world_World_Detect_ok : compF Try.prog (quietOf ctx) world_World_Detect_A .ref Try.f42 = some world_World_Detect_I := by kernel_rfl
theorem l18_enters_ok : compF Try.prog (quietOf ctx) l18_enters_A (.fz false) Try.f30 = some l18_enters_I := by kernel_rfl
theorem l18_WorldNil_ok : compF Try.prog (quietOf ctx) l18_WorldNil_A (.fz false) Try.f13 = some l18_WorldNil_I := by kernel_rfl
theorem ctx_ok : CtxOk Try.prog ctx :=
  ctxOk_prims (by kernel_rfl) (
    .cons ⟨_, _, Try.func32, world_New_ok⟩ (
    .cons ⟨_, _, Try.func37, world_World_Under_ok⟩ (
    .cons ⟨_, _, Try.func33, world_World_Add_ok⟩ (
    .cons ⟨_, _, Try.func40, world_World_All_ok⟩ (
    .cons ⟨_, _, Try.func46, world_World_Inside_ok⟩ (
    .cons ⟨_, _, Try.func81, world_World_Inside_1_ok⟩ (
    .cons ⟨_, _, Try.func45, world_World_In_ok⟩ (
    .cons ⟨_, _, Try.func80, world_World_In_1_ok⟩ (
    .cons ⟨_, _, Try.func70, world_World_get_ok⟩ (
    .cons ⟨_, _, Try.func72, world_World_under_ok⟩ (
    .cons ⟨_, _, Try.func66, world_World_full_ok⟩ (
    .cons ⟨_, _, Try.func68, world_World_room_ok⟩ (
    .cons ⟨_, _, Try.func69, world_World_way_ok⟩ (
    .cons ⟨_, _, Try.func57, slices_ContainsFunc_int_ok⟩ (
    .cons ⟨_, _, Try.func84, slices_IndexFunc_Int_ok⟩ (
    .cons ⟨_, _, Try.func74, maps_Keys_vehicle_ok⟩ (
    .cons ⟨_, _, Try.func43, train_Fits_ok⟩ (
    .cons ⟨_, _, Try.func75, train_unlike_ok⟩ (
    .cons ⟨_, _, Try.func78, train_Fits_1_ok⟩ (
    .cons ⟨_, _, Try.func47, r04_Make_ok⟩ (
    .cons ⟨_, _, Try.func36, r01_Ints_ok⟩ (
    .cons ⟨_, _, Try.func41, graph_New_ok⟩ (
    .cons ⟨_, _, Try.func67, graph_Graph_Len_ok⟩ (
    .cons ⟨_, _, Try.func59, slices_Contains_int_ok⟩ (
    .cons ⟨_, _, Try.func90, graph_Graph_section_ok⟩ (
    .cons ⟨_, _, Try.func76, graph_Graph_Around_ok⟩ (
    .cons ⟨_, _, Try.func77, slices_IndexFunc_End_ok⟩ (
    .cons ⟨_, _, Try.func85, slices_Index_int_ok⟩ (
    .cons ⟨_, _, Try.func94, graph_Graph_node_ok⟩ (
    .cons ⟨_, _, Try.func95, graph_Graph_Point_ok⟩ (
    .cons ⟨_, _, Try.func96, slices_DeleteFunc_End_ok⟩ (
    .cons ⟨_, _, Try.func97, graph_Graph_Ends_ok⟩ (
    .cons ⟨_, _, Try.func98, graph_Graph_Around_1_ok⟩ (
    .cons ⟨_, _, Try.func99, slices_Concat_End_ok⟩ (
    .cons ⟨_, _, Try.func100, graph_Graph_at_ok⟩ (
    .cons ⟨_, _, Try.func112, slices_IndexFunc_Point_ok⟩ (
    .cons ⟨_, _, Try.func113, graph_Graph_Point_1_ok⟩ (
    .cons ⟨_, _, Try.func114, slices_Grow_End_ok⟩ (
    .cons ⟨_, _, Try.func91, graph_Graph_Next_ok⟩ (
    .cons ⟨_, _, Try.func109, graph_Graph_Next_1_ok⟩ (
    .cons ⟨_, _, Try.func108, graph_stands_ok⟩ (
    .cons ⟨_, _, Try.func71, world_World_enter_ok⟩ (
    .cons ⟨_, _, Try.func34, world_World_Go_ok⟩ (
    .cons ⟨_, _, Try.func38, world_World_Split_ok⟩ (
    .cons ⟨_, _, Try.func35, world_World_Report_ok⟩ (
    .cons ⟨_, _, Try.func42, world_World_Detect_ok⟩ (
    .cons ⟨_, _, Try.func30, l18_enters_ok⟩ (
    .cons ⟨_, _, Try.func13, l18_WorldNil_ok⟩ (
    .nil))))))))))))))))))))))))))))))))))))))))))))))))) Zk.prims_ok
noncomputable def world_New_F := refE ctx 1 world_New_C [.tmp 2]
theorem world_New_F_eq : RefEq ctx 1 world_New_C [.tmp 2] world_New_F := ref_eq _ _ _ _
theorem world_New_call : RefCall ctx 32 world_New_F := ref_called rfl (show ctx.info 32 = some world_New_I by kernel_rfl)
noncomputable def world_World_Under_F := refE ctx 2 world_World_Under_C [.tmp 4]
theorem world_World_Under_F_eq : RefEq ctx 2 world_World_Under_C [.tmp 4] world_World_Under_F := ref_eq _ _ _ _
theorem world_World_Under_call : RefCall ctx 37 world_World_Under_F := ref_called rfl (show ctx.info 37 = some world_World_Under_I by kernel_rfl)
noncomputable def world_World_Add_F := refE ctx 6 world_World_Add_C [.tmp 12]
theorem world_World_Add_F_eq : RefEq ctx 6 world_World_Add_C [.tmp 12] world_World_Add_F := ref_eq _ _ _ _
theorem world_World_Add_call : RefCall ctx 33 world_World_Add_F := ref_called rfl (show ctx.info 33 = some world_World_Add_I by kernel_rfl)
noncomputable def world_World_All_F := refE ctx 1 world_World_All_C [.tmp 2]
theorem world_World_All_F_eq : RefEq ctx 1 world_World_All_C [.tmp 2] world_World_All_F := ref_eq _ _ _ _
theorem world_World_All_call : RefCall ctx 40 world_World_All_F := ref_called rfl (show ctx.info 40 = some world_World_All_I by kernel_rfl)
noncomputable def world_World_Inside_F := refE ctx 2 world_World_Inside_C [.tmp 4]
theorem world_World_Inside_F_eq : RefEq ctx 2 world_World_Inside_C [.tmp 4] world_World_Inside_F := ref_eq _ _ _ _
theorem world_World_Inside_call : RefCall ctx 46 world_World_Inside_F := ref_called rfl (show ctx.info 46 = some world_World_Inside_I by kernel_rfl)
noncomputable def world_World_Inside_1_F := refE ctx 3 world_World_Inside_1_C [.tmp 4]
theorem world_World_Inside_1_F_eq : RefEq ctx 3 world_World_Inside_1_C [.tmp 4] world_World_Inside_1_F := ref_eq _ _ _ _
theorem world_World_Inside_1_call : RefCall ctx 81 world_World_Inside_1_F := ref_called rfl (show ctx.info 81 = some world_World_Inside_1_I by kernel_rfl)
noncomputable def world_World_In_F := refE ctx 3 world_World_In_C [.tmp 6]
theorem world_World_In_F_eq : RefEq ctx 3 world_World_In_C [.tmp 6] world_World_In_F := ref_eq _ _ _ _
theorem world_World_In_call : RefCall ctx 45 world_World_In_F := ref_called rfl (show ctx.info 45 = some world_World_In_I by kernel_rfl)
noncomputable def world_World_In_1_F := refE ctx 3 world_World_In_1_C [.tmp 4]
theorem world_World_In_1_F_eq : RefEq ctx 3 world_World_In_1_C [.tmp 4] world_World_In_1_F := ref_eq _ _ _ _
theorem world_World_In_1_call : RefCall ctx 80 world_World_In_1_F := ref_called rfl (show ctx.info 80 = some world_World_In_1_I by kernel_rfl)
noncomputable def world_World_get_F := refE ctx 2 world_World_get_C [.tmp 4]
theorem world_World_get_F_eq : RefEq ctx 2 world_World_get_C [.tmp 4] world_World_get_F := ref_eq _ _ _ _
theorem world_World_get_call : RefCall ctx 70 world_World_get_F := ref_called rfl (show ctx.info 70 = some world_World_get_I by kernel_rfl)
noncomputable def world_World_under_F := refE ctx 2 world_World_under_C [.tmp 4]
theorem world_World_under_F_eq : RefEq ctx 2 world_World_under_C [.tmp 4] world_World_under_F := ref_eq _ _ _ _
theorem world_World_under_call : RefCall ctx 72 world_World_under_F := ref_called rfl (show ctx.info 72 = some world_World_under_I by kernel_rfl)
noncomputable def world_World_full_F := refE ctx 2 world_World_full_C [.tmp 4]
theorem world_World_full_F_eq : RefEq ctx 2 world_World_full_C [.tmp 4] world_World_full_F := ref_eq _ _ _ _
theorem world_World_full_call : RefCall ctx 66 world_World_full_F := ref_called rfl (show ctx.info 66 = some world_World_full_I by kernel_rfl)
noncomputable def world_World_room_F := refE ctx 3 world_World_room_C [.tmp 6]
theorem world_World_room_F_eq : RefEq ctx 3 world_World_room_C [.tmp 6] world_World_room_F := ref_eq _ _ _ _
theorem world_World_room_call : RefCall ctx 68 world_World_room_F := ref_called rfl (show ctx.info 68 = some world_World_room_I by kernel_rfl)
noncomputable def world_World_way_F := refE ctx 3 world_World_way_C [.tmp 6]
theorem world_World_way_F_eq : RefEq ctx 3 world_World_way_C [.tmp 6] world_World_way_F := ref_eq _ _ _ _
theorem world_World_way_call : RefCall ctx 69 world_World_way_F := ref_called rfl (show ctx.info 69 = some world_World_way_I by kernel_rfl)
noncomputable def slices_ContainsFunc_int_F := refE ctx 2 slices_ContainsFunc_int_C [.tmp 4]
theorem slices_ContainsFunc_int_F_eq : RefEq ctx 2 slices_ContainsFunc_int_C [.tmp 4] slices_ContainsFunc_int_F := ref_eq _ _ _ _
theorem slices_ContainsFunc_int_call : RefCall ctx 57 slices_ContainsFunc_int_F := ref_called rfl (show ctx.info 57 = some slices_ContainsFunc_int_I by kernel_rfl)
noncomputable def slices_IndexFunc_Int_F := refE ctx 2 slices_IndexFunc_Int_C [.tmp 4]
theorem slices_IndexFunc_Int_F_eq : RefEq ctx 2 slices_IndexFunc_Int_C [.tmp 4] slices_IndexFunc_Int_F := ref_eq _ _ _ _
theorem slices_IndexFunc_Int_call : RefCall ctx 84 slices_IndexFunc_Int_F := ref_called rfl (show ctx.info 84 = some slices_IndexFunc_Int_I by kernel_rfl)
noncomputable def maps_Keys_vehicle_F := refE ctx 1 maps_Keys_vehicle_C [.tmp 2]
theorem maps_Keys_vehicle_F_eq : RefEq ctx 1 maps_Keys_vehicle_C [.tmp 2] maps_Keys_vehicle_F := ref_eq _ _ _ _
theorem maps_Keys_vehicle_call : RefCall ctx 74 maps_Keys_vehicle_F := ref_called rfl (show ctx.info 74 = some maps_Keys_vehicle_I by kernel_rfl)
noncomputable def train_Fits_F := fzE ctx false 2 train_Fits_C [.tmp 4]
theorem train_Fits_F_eq : FzEq ctx false 2 train_Fits_C [.tmp 4] train_Fits_F := fz_eq _ _ _ _ _
theorem train_Fits_call : FzCall ctx 43 train_Fits_F := fz_called rfl (show ctx.info 43 = some train_Fits_I by kernel_rfl)
noncomputable def train_unlike_F := fzE ctx false 2 train_unlike_C [.tmp 4]
theorem train_unlike_F_eq : FzEq ctx false 2 train_unlike_C [.tmp 4] train_unlike_F := fz_eq _ _ _ _ _
theorem train_unlike_call : FzCall ctx 75 train_unlike_F := fz_called rfl (show ctx.info 75 = some train_unlike_I by kernel_rfl)
noncomputable def train_Fits_1_F := fzE ctx false 2 train_Fits_1_C [.tmp 3]
theorem train_Fits_1_F_eq : FzEq ctx false 2 train_Fits_1_C [.tmp 3] train_Fits_1_F := fz_eq _ _ _ _ _
theorem train_Fits_1_call : FzCall ctx 78 train_Fits_1_F := fz_called rfl (show ctx.info 78 = some train_Fits_1_I by kernel_rfl)
noncomputable def r04_Make_F := fzE ctx true 1 r04_Make_C [.cell 2 true 10]
theorem r04_Make_F_eq : FzEq ctx true 1 r04_Make_C [.cell 2 true 10] r04_Make_F := fz_eq _ _ _ _ _
theorem r04_Make_call : FzCall ctx 47 r04_Make_F := fz_called rfl (show ctx.info 47 = some r04_Make_I by kernel_rfl)
noncomputable def r01_Ints_F := fzE ctx false 2 r01_Ints_C [.tmp 4]
theorem r01_Ints_F_eq : FzEq ctx false 2 r01_Ints_C [.tmp 4] r01_Ints_F := fz_eq _ _ _ _ _
theorem r01_Ints_call : FzCall ctx 36 r01_Ints_F := fz_called rfl (show ctx.info 36 = some r01_Ints_I by kernel_rfl)
noncomputable def graph_New_F := fzE ctx false 1 graph_New_C [.tmp 2]
theorem graph_New_F_eq : FzEq ctx false 1 graph_New_C [.tmp 2] graph_New_F := fz_eq _ _ _ _ _
theorem graph_New_call : FzCall ctx 41 graph_New_F := fz_called rfl (show ctx.info 41 = some graph_New_I by kernel_rfl)
noncomputable def graph_Graph_Len_F := fzE ctx false 2 graph_Graph_Len_C [.tmp 4]
theorem graph_Graph_Len_F_eq : FzEq ctx false 2 graph_Graph_Len_C [.tmp 4] graph_Graph_Len_F := fz_eq _ _ _ _ _
theorem graph_Graph_Len_call : FzCall ctx 67 graph_Graph_Len_F := fz_called rfl (show ctx.info 67 = some graph_Graph_Len_I by kernel_rfl)
noncomputable def slices_Contains_int_F := fzE ctx false 2 slices_Contains_int_C [.tmp 4]
theorem slices_Contains_int_F_eq : FzEq ctx false 2 slices_Contains_int_C [.tmp 4] slices_Contains_int_F := fz_eq _ _ _ _ _
theorem slices_Contains_int_call : FzCall ctx 59 slices_Contains_int_F := fz_called rfl (show ctx.info 59 = some slices_Contains_int_I by kernel_rfl)
noncomputable def graph_Graph_section_F := fzE ctx false 2 graph_Graph_section_C [.cell 4 true 3, .tmp 5]
theorem graph_Graph_section_F_eq : FzEq ctx false 2 graph_Graph_section_C [.cell 4 true 3, .tmp 5] graph_Graph_section_F := fz_eq _ _ _ _ _
theorem graph_Graph_section_call : FzCall ctx 90 graph_Graph_section_F := fz_called rfl (show ctx.info 90 = some graph_Graph_section_I by kernel_rfl)
noncomputable def graph_Graph_Around_F := fzE ctx false 2 graph_Graph_Around_C [.tmp 4]
theorem graph_Graph_Around_F_eq : FzEq ctx false 2 graph_Graph_Around_C [.tmp 4] graph_Graph_Around_F := fz_eq _ _ _ _ _
theorem graph_Graph_Around_call : FzCall ctx 76 graph_Graph_Around_F := fz_called rfl (show ctx.info 76 = some graph_Graph_Around_I by kernel_rfl)
noncomputable def slices_IndexFunc_End_F := fzE ctx false 2 slices_IndexFunc_End_C [.tmp 4]
theorem slices_IndexFunc_End_F_eq : FzEq ctx false 2 slices_IndexFunc_End_C [.tmp 4] slices_IndexFunc_End_F := fz_eq _ _ _ _ _
theorem slices_IndexFunc_End_call : FzCall ctx 77 slices_IndexFunc_End_F := fz_called rfl (show ctx.info 77 = some slices_IndexFunc_End_I by kernel_rfl)
noncomputable def slices_Index_int_F := fzE ctx false 2 slices_Index_int_C [.tmp 4]
theorem slices_Index_int_F_eq : FzEq ctx false 2 slices_Index_int_C [.tmp 4] slices_Index_int_F := fz_eq _ _ _ _ _
theorem slices_Index_int_call : FzCall ctx 85 slices_Index_int_F := fz_called rfl (show ctx.info 85 = some slices_Index_int_I by kernel_rfl)
noncomputable def graph_Graph_node_F := fzE ctx false 2 graph_Graph_node_C [.tmp 4, .tmp 5]
theorem graph_Graph_node_F_eq : FzEq ctx false 2 graph_Graph_node_C [.tmp 4, .tmp 5] graph_Graph_node_F := fz_eq _ _ _ _ _
theorem graph_Graph_node_call : FzCall ctx 94 graph_Graph_node_F := fz_called rfl (show ctx.info 94 = some graph_Graph_node_I by kernel_rfl)
noncomputable def graph_Graph_Point_F := fzE ctx false 2 graph_Graph_Point_C [.tmp 4]
theorem graph_Graph_Point_F_eq : FzEq ctx false 2 graph_Graph_Point_C [.tmp 4] graph_Graph_Point_F := fz_eq _ _ _ _ _
theorem graph_Graph_Point_call : FzCall ctx 95 graph_Graph_Point_F := fz_called rfl (show ctx.info 95 = some graph_Graph_Point_I by kernel_rfl)
noncomputable def slices_DeleteFunc_End_F := refE ctx 2 slices_DeleteFunc_End_C [.tmp 4]
theorem slices_DeleteFunc_End_F_eq : RefEq ctx 2 slices_DeleteFunc_End_C [.tmp 4] slices_DeleteFunc_End_F := ref_eq _ _ _ _
theorem slices_DeleteFunc_End_call : RefCall ctx 96 slices_DeleteFunc_End_F := ref_called rfl (show ctx.info 96 = some slices_DeleteFunc_End_I by kernel_rfl)
noncomputable def graph_Graph_Ends_F := oE ctx 2 graph_Graph_Ends_C [.tmp 4]
theorem graph_Graph_Ends_F_eq : OwnEq ctx 2 graph_Graph_Ends_C [.tmp 4] graph_Graph_Ends_F := own_eq _ _ _ _
theorem graph_Graph_Ends_call : FzCall ctx 97 graph_Graph_Ends_F := own_called rfl (show ctx.info 97 = some graph_Graph_Ends_I by kernel_rfl)
noncomputable def graph_Graph_Around_1_F := fzE ctx false 2 graph_Graph_Around_1_C [.tmp 3]
theorem graph_Graph_Around_1_F_eq : FzEq ctx false 2 graph_Graph_Around_1_C [.tmp 3] graph_Graph_Around_1_F := fz_eq _ _ _ _ _
theorem graph_Graph_Around_1_call : FzCall ctx 98 graph_Graph_Around_1_F := fz_called rfl (show ctx.info 98 = some graph_Graph_Around_1_I by kernel_rfl)
noncomputable def slices_Concat_End_F := fzE ctx false 1 slices_Concat_End_C [.tmp 2]
theorem slices_Concat_End_F_eq : FzEq ctx false 1 slices_Concat_End_C [.tmp 2] slices_Concat_End_F := fz_eq _ _ _ _ _
theorem slices_Concat_End_call : FzCall ctx 99 slices_Concat_End_F := fz_called rfl (show ctx.info 99 = some slices_Concat_End_I by kernel_rfl)
noncomputable def graph_Graph_at_F := fzE ctx false 3 graph_Graph_at_C [.tmp 6]
theorem graph_Graph_at_F_eq : FzEq ctx false 3 graph_Graph_at_C [.tmp 6] graph_Graph_at_F := fz_eq _ _ _ _ _
theorem graph_Graph_at_call : FzCall ctx 100 graph_Graph_at_F := fz_called rfl (show ctx.info 100 = some graph_Graph_at_I by kernel_rfl)
noncomputable def slices_IndexFunc_Point_F := fzE ctx false 2 slices_IndexFunc_Point_C [.tmp 4]
theorem slices_IndexFunc_Point_F_eq : FzEq ctx false 2 slices_IndexFunc_Point_C [.tmp 4] slices_IndexFunc_Point_F := fz_eq _ _ _ _ _
theorem slices_IndexFunc_Point_call : FzCall ctx 112 slices_IndexFunc_Point_F := fz_called rfl (show ctx.info 112 = some slices_IndexFunc_Point_I by kernel_rfl)
noncomputable def graph_Graph_Point_1_F := fzE ctx false 2 graph_Graph_Point_1_C [.tmp 3]
theorem graph_Graph_Point_1_F_eq : FzEq ctx false 2 graph_Graph_Point_1_C [.tmp 3] graph_Graph_Point_1_F := fz_eq _ _ _ _ _
theorem graph_Graph_Point_1_call : FzCall ctx 113 graph_Graph_Point_1_F := fz_called rfl (show ctx.info 113 = some graph_Graph_Point_1_I by kernel_rfl)
noncomputable def slices_Grow_End_F := refE ctx 2 slices_Grow_End_C [.tmp 4]
theorem slices_Grow_End_F_eq : RefEq ctx 2 slices_Grow_End_C [.tmp 4] slices_Grow_End_F := ref_eq _ _ _ _
theorem slices_Grow_End_call : RefCall ctx 114 slices_Grow_End_F := ref_called rfl (show ctx.info 114 = some slices_Grow_End_I by kernel_rfl)
noncomputable def graph_Graph_Next_F := fzE ctx false 3 graph_Graph_Next_C [.cell 6 true 2, .tmp 7]
theorem graph_Graph_Next_F_eq : FzEq ctx false 3 graph_Graph_Next_C [.cell 6 true 2, .tmp 7] graph_Graph_Next_F := fz_eq _ _ _ _ _
theorem graph_Graph_Next_call : FzCall ctx 91 graph_Graph_Next_F := fz_called rfl (show ctx.info 91 = some graph_Graph_Next_I by kernel_rfl)
noncomputable def graph_Graph_Next_1_F := fzE ctx false 2 graph_Graph_Next_1_C [.tmp 3]
theorem graph_Graph_Next_1_F_eq : FzEq ctx false 2 graph_Graph_Next_1_C [.tmp 3] graph_Graph_Next_1_F := fz_eq _ _ _ _ _
theorem graph_Graph_Next_1_call : FzCall ctx 109 graph_Graph_Next_1_F := fz_called rfl (show ctx.info 109 = some graph_Graph_Next_1_I by kernel_rfl)
noncomputable def graph_stands_F := fzE ctx false 2 graph_stands_C [.tmp 4]
theorem graph_stands_F_eq : FzEq ctx false 2 graph_stands_C [.tmp 4] graph_stands_F := fz_eq _ _ _ _ _
theorem graph_stands_call : FzCall ctx 108 graph_stands_F := fz_called rfl (show ctx.info 108 = some graph_stands_I by kernel_rfl)
noncomputable def world_World_enter_F := refE ctx 4 world_World_enter_C [.tmp 8]
theorem world_World_enter_F_eq : RefEq ctx 4 world_World_enter_C [.tmp 8] world_World_enter_F := ref_eq _ _ _ _
theorem world_World_enter_call : RefCall ctx 71 world_World_enter_F := ref_called rfl (show ctx.info 71 = some world_World_enter_I by kernel_rfl)
noncomputable def world_World_Go_F := refE ctx 4 world_World_Go_C [.tmp 8, .tmp 9]
theorem world_World_Go_F_eq : RefEq ctx 4 world_World_Go_C [.tmp 8, .tmp 9] world_World_Go_F := ref_eq _ _ _ _
theorem world_World_Go_call : RefCall ctx 34 world_World_Go_F := ref_called rfl (show ctx.info 34 = some world_World_Go_I by kernel_rfl)
noncomputable def world_World_Split_F := refE ctx 4 world_World_Split_C [.tmp 8]
theorem world_World_Split_F_eq : RefEq ctx 4 world_World_Split_C [.tmp 8] world_World_Split_F := ref_eq _ _ _ _
theorem world_World_Split_call : RefCall ctx 38 world_World_Split_F := ref_called rfl (show ctx.info 38 = some world_World_Split_I by kernel_rfl)
noncomputable def world_World_Report_F := refE ctx 3 world_World_Report_C [.cell 6 true 7, .tmp 7]
theorem world_World_Report_F_eq : RefEq ctx 3 world_World_Report_C [.cell 6 true 7, .tmp 7] world_World_Report_F := ref_eq _ _ _ _
theorem world_World_Report_call : RefCall ctx 35 world_World_Report_F := ref_called rfl (show ctx.info 35 = some world_World_Report_I by kernel_rfl)
noncomputable def world_World_Detect_F := refE ctx 1 world_World_Detect_C [.tmp 2]
theorem world_World_Detect_F_eq : RefEq ctx 1 world_World_Detect_C [.tmp 2] world_World_Detect_F := ref_eq _ _ _ _
theorem world_World_Detect_call : RefCall ctx 42 world_World_Detect_F := ref_called rfl (show ctx.info 42 = some world_World_Detect_I by kernel_rfl)
noncomputable def l18_enters_F := fzE ctx false 0 l18_enters_C [.tmp 0]
theorem l18_enters_F_eq : FzEq ctx false 0 l18_enters_C [.tmp 0] l18_enters_F := fz_eq _ _ _ _ _
theorem l18_enters_call : FzCall ctx 30 l18_enters_F := fz_called rfl (show ctx.info 30 = some l18_enters_I by kernel_rfl)
noncomputable def l18_WorldNil_F := fzE ctx false 2 l18_WorldNil_C [.tmp 4]
theorem l18_WorldNil_F_eq : FzEq ctx false 2 l18_WorldNil_C [.tmp 4] l18_WorldNil_F := fz_eq _ _ _ _ _
theorem l18_WorldNil_call : FzCall ctx 13 l18_WorldNil_F := fz_called rfl (show ctx.info 13 = some l18_WorldNil_I by kernel_rfl)
noncomputable def world_World_Under_R0 := intoE ctx 0 [6, 21, 22, 23] [6] world_World_Under_B0
noncomputable def world_World_Under_K0 := roundE ctx 0 [6, 21, 22, 23] [6] world_World_Under_B0
theorem world_World_Under_L0_eq : LEq ctx [6, 21, 22, 23] world_World_Under_L0 world_World_Under_R0 := l_eq ctx 0 [6, 21, 22, 23] [6] _
theorem world_World_Under_R0_eq : REq ctx world_World_Under_B0 world_World_Under_R0 world_World_Under_K0 := r_eq ctx 0 [6, 21, 22, 23] [6] _
theorem world_World_Under_K0_a : KEq 0 [6, 21, 22, 23] [6] world_World_Under_R0 world_World_Under_K0 := k_eq ctx 0 [6, 21, 22, 23] [6] _
noncomputable def world_World_under_R0 := intoE ctx 0 [0, 1, 5, 6] [5] world_World_under_B0
noncomputable def world_World_under_K0 := roundE ctx 0 [0, 1, 5, 6] [5] world_World_under_B0
theorem world_World_under_L0_eq : LEq ctx [0, 1, 5, 6] world_World_under_L0 world_World_under_R0 := l_eq ctx 0 [0, 1, 5, 6] [5] _
theorem world_World_under_R0_eq : REq ctx world_World_under_B0 world_World_under_R0 world_World_under_K0 := r_eq ctx 0 [0, 1, 5, 6] [5] _
theorem world_World_under_K0_a : KEq 0 [0, 1, 5, 6] [5] world_World_under_R0 world_World_under_K0 := k_eq ctx 0 [0, 1, 5, 6] [5] _
noncomputable def world_World_room_R0 := intoE ctx 0 [0, 7, 12, 13, 14] [7] world_World_room_B0
noncomputable def world_World_room_K0 := roundE ctx 0 [0, 7, 12, 13, 14] [7] world_World_room_B0
theorem world_World_room_L0_eq : LEq ctx [0, 7, 12, 13, 14] world_World_room_L0 world_World_room_R0 := l_eq ctx 0 [0, 7, 12, 13, 14] [7] _
theorem world_World_room_R0_eq : REq ctx world_World_room_B0 world_World_room_R0 world_World_room_K0 := r_eq ctx 0 [0, 7, 12, 13, 14] [7] _
theorem world_World_room_K0_a : KEq 0 [0, 7, 12, 13, 14] [7] world_World_room_R0 world_World_room_K0 := k_eq ctx 0 [0, 7, 12, 13, 14] [7] _
noncomputable def world_World_way_R2 := intoE ctx 2 [0, 7, 9, 20, 21, 22, 47, 48, 49] [0, 7, 20, 21, 22] world_World_way_B2
noncomputable def world_World_way_K2 := roundE ctx 2 [0, 7, 9, 20, 21, 22, 47, 48, 49] [0, 7, 20, 21, 22] world_World_way_B2
theorem world_World_way_L2_eq : LEq ctx [0, 7, 9, 20, 21, 22, 47, 48, 49] world_World_way_L2 world_World_way_R2 := l_eq ctx 2 [0, 7, 9, 20, 21, 22, 47, 48, 49] [0, 7, 20, 21, 22] _
theorem world_World_way_R2_eq : REq ctx world_World_way_B2 world_World_way_R2 world_World_way_K2 := r_eq ctx 2 [0, 7, 9, 20, 21, 22, 47, 48, 49] [0, 7, 20, 21, 22] _
theorem world_World_way_K2_a : KEq 2 [0, 7, 9, 20, 21, 22, 47, 48, 49] [0, 7, 20, 21, 22] world_World_way_R2 world_World_way_K2 := k_eq ctx 2 [0, 7, 9, 20, 21, 22, 47, 48, 49] [0, 7, 20, 21, 22] _
noncomputable def world_World_way_R0 := intoE ctx 0 [0, 7, 20, 21, 22] [7] world_World_way_B0
noncomputable def world_World_way_K0 := roundE ctx 0 [0, 7, 20, 21, 22] [7] world_World_way_B0
theorem world_World_way_L0_eq : LEq ctx [0, 7, 20, 21, 22] world_World_way_L0 world_World_way_R0 := l_eq ctx 0 [0, 7, 20, 21, 22] [7] _
theorem world_World_way_R0_eq : REq ctx world_World_way_B0 world_World_way_R0 world_World_way_K0 := r_eq ctx 0 [0, 7, 20, 21, 22] [7] _
theorem world_World_way_K0_a : KEq 0 [0, 7, 20, 21, 22] [7] world_World_way_R0 world_World_way_K0 := k_eq ctx 0 [0, 7, 20, 21, 22] [7] _
noncomputable def slices_IndexFunc_Int_R0 := intoE ctx 0 [0, 1, 7, 8] [] slices_IndexFunc_Int_B0
noncomputable def slices_IndexFunc_Int_K0 := roundE ctx 0 [0, 1, 7, 8] [] slices_IndexFunc_Int_B0
theorem slices_IndexFunc_Int_L0_eq : LEq ctx [0, 1, 7, 8] slices_IndexFunc_Int_L0 slices_IndexFunc_Int_R0 := l_eq ctx 0 [0, 1, 7, 8] [] _
theorem slices_IndexFunc_Int_R0_eq : REq ctx slices_IndexFunc_Int_B0 slices_IndexFunc_Int_R0 slices_IndexFunc_Int_K0 := r_eq ctx 0 [0, 1, 7, 8] [] _
theorem slices_IndexFunc_Int_K0_a : KEq 0 [0, 1, 7, 8] [] slices_IndexFunc_Int_R0 slices_IndexFunc_Int_K0 := k_eq ctx 0 [0, 1, 7, 8] [] _
noncomputable def train_Fits_R0 := intoE ctx 0 [0, 6, 60, 61, 62] [] train_Fits_B0
noncomputable def train_Fits_K0 := roundE ctx 0 [0, 6, 60, 61, 62] [] train_Fits_B0
theorem train_Fits_L0_eq : LEq ctx [0, 6, 60, 61, 62] train_Fits_L0 train_Fits_R0 := l_eq ctx 0 [0, 6, 60, 61, 62] [] _
theorem train_Fits_R0_eq : REq ctx train_Fits_B0 train_Fits_R0 train_Fits_K0 := r_eq ctx 0 [0, 6, 60, 61, 62] [] _
theorem train_Fits_K0_a : KEq 0 [0, 6, 60, 61, 62] [] train_Fits_R0 train_Fits_K0 := k_eq ctx 0 [0, 6, 60, 61, 62] [] _
noncomputable def train_unlike_R0 := intoE ctx 0 [0, 1, 7, 8, 9] [] train_unlike_B0
noncomputable def train_unlike_K0 := roundE ctx 0 [0, 1, 7, 8, 9] [] train_unlike_B0
theorem train_unlike_L0_eq : LEq ctx [0, 1, 7, 8, 9] train_unlike_L0 train_unlike_R0 := l_eq ctx 0 [0, 1, 7, 8, 9] [] _
theorem train_unlike_R0_eq : REq ctx train_unlike_B0 train_unlike_R0 train_unlike_K0 := r_eq ctx 0 [0, 1, 7, 8, 9] [] _
theorem train_unlike_K0_a : KEq 0 [0, 1, 7, 8, 9] [] train_unlike_R0 train_unlike_K0 := k_eq ctx 0 [0, 1, 7, 8, 9] [] _
noncomputable def r04_Make_R1 := intoE ctx 1 [1, 2, 3, 6, 7, 8, 9] [1, 2, 3, 6, 7, 8] r04_Make_B1
noncomputable def r04_Make_K1 := roundE ctx 1 [1, 2, 3, 6, 7, 8, 9] [1, 2, 3, 6, 7, 8] r04_Make_B1
theorem r04_Make_L1_eq : LEq ctx [1, 2, 3, 6, 7, 8, 9] r04_Make_L1 r04_Make_R1 := l_eq ctx 1 [1, 2, 3, 6, 7, 8, 9] [1, 2, 3, 6, 7, 8] _
theorem r04_Make_R1_eq : REq ctx r04_Make_B1 r04_Make_R1 r04_Make_K1 := r_eq ctx 1 [1, 2, 3, 6, 7, 8, 9] [1, 2, 3, 6, 7, 8] _
theorem r04_Make_K1_a : KEq 1 [1, 2, 3, 6, 7, 8, 9] [1, 2, 3, 6, 7, 8] r04_Make_R1 r04_Make_K1 := k_eq ctx 1 [1, 2, 3, 6, 7, 8, 9] [1, 2, 3, 6, 7, 8] _
noncomputable def r04_Make_R3 := intoE ctx 3 [1, 2, 3, 6, 7, 8, 10] [1, 2, 3, 6, 7] r04_Make_B3
noncomputable def r04_Make_K3 := roundE ctx 3 [1, 2, 3, 6, 7, 8, 10] [1, 2, 3, 6, 7] r04_Make_B3
theorem r04_Make_L3_eq : LEq ctx [1, 2, 3, 6, 7, 8, 10] r04_Make_L3 r04_Make_R3 := l_eq ctx 3 [1, 2, 3, 6, 7, 8, 10] [1, 2, 3, 6, 7] _
theorem r04_Make_R3_eq : REq ctx r04_Make_B3 r04_Make_R3 r04_Make_K3 := r_eq ctx 3 [1, 2, 3, 6, 7, 8, 10] [1, 2, 3, 6, 7] _
theorem r04_Make_K3_a : KEq 3 [1, 2, 3, 6, 7, 8, 10] [1, 2, 3, 6, 7] r04_Make_R3 r04_Make_K3 := k_eq ctx 3 [1, 2, 3, 6, 7, 8, 10] [1, 2, 3, 6, 7] _
noncomputable def r04_Make_R5 := intoE ctx 5 [1, 2, 3, 6, 7, 11] [1, 2, 3, 6, 7] r04_Make_B5
noncomputable def r04_Make_K5 := roundE ctx 5 [1, 2, 3, 6, 7, 11] [1, 2, 3, 6, 7] r04_Make_B5
theorem r04_Make_L5_eq : LEq ctx [1, 2, 3, 6, 7, 11] r04_Make_L5 r04_Make_R5 := l_eq ctx 5 [1, 2, 3, 6, 7, 11] [1, 2, 3, 6, 7] _
theorem r04_Make_R5_eq : REq ctx r04_Make_B5 r04_Make_R5 r04_Make_K5 := r_eq ctx 5 [1, 2, 3, 6, 7, 11] [1, 2, 3, 6, 7] _
theorem r04_Make_K5_a : KEq 5 [1, 2, 3, 6, 7, 11] [1, 2, 3, 6, 7] r04_Make_R5 r04_Make_K5 := k_eq ctx 5 [1, 2, 3, 6, 7, 11] [1, 2, 3, 6, 7] _
noncomputable def r04_Make_R7 := intoE ctx 7 [1, 2, 3, 6, 7, 12] [1, 2, 3, 6] r04_Make_B7
noncomputable def r04_Make_K7 := roundE ctx 7 [1, 2, 3, 6, 7, 12] [1, 2, 3, 6] r04_Make_B7
theorem r04_Make_L7_eq : LEq ctx [1, 2, 3, 6, 7, 12] r04_Make_L7 r04_Make_R7 := l_eq ctx 7 [1, 2, 3, 6, 7, 12] [1, 2, 3, 6] _
theorem r04_Make_R7_eq : REq ctx r04_Make_B7 r04_Make_R7 r04_Make_K7 := r_eq ctx 7 [1, 2, 3, 6, 7, 12] [1, 2, 3, 6] _
theorem r04_Make_K7_a : KEq 7 [1, 2, 3, 6, 7, 12] [1, 2, 3, 6] r04_Make_R7 r04_Make_K7 := k_eq ctx 7 [1, 2, 3, 6, 7, 12] [1, 2, 3, 6] _
noncomputable def r01_Ints_R0 := intoE ctx 0 [0, 1, 5] [] r01_Ints_B0
noncomputable def r01_Ints_K0 := roundE ctx 0 [0, 1, 5] [] r01_Ints_B0
theorem r01_Ints_L0_eq : LEq ctx [0, 1, 5] r01_Ints_L0 r01_Ints_R0 := l_eq ctx 0 [0, 1, 5] [] _
theorem r01_Ints_R0_eq : REq ctx r01_Ints_B0 r01_Ints_R0 r01_Ints_K0 := r_eq ctx 0 [0, 1, 5] [] _
theorem r01_Ints_K0_a : KEq 0 [0, 1, 5] [] r01_Ints_R0 r01_Ints_K0 := k_eq ctx 0 [0, 1, 5] [] _
noncomputable def slices_IndexFunc_End_R0 := intoE ctx 0 [0, 1, 7, 8] [] slices_IndexFunc_End_B0
noncomputable def slices_IndexFunc_End_K0 := roundE ctx 0 [0, 1, 7, 8] [] slices_IndexFunc_End_B0
theorem slices_IndexFunc_End_L0_eq : LEq ctx [0, 1, 7, 8] slices_IndexFunc_End_L0 slices_IndexFunc_End_R0 := l_eq ctx 0 [0, 1, 7, 8] [] _
theorem slices_IndexFunc_End_R0_eq : REq ctx slices_IndexFunc_End_B0 slices_IndexFunc_End_R0 slices_IndexFunc_End_K0 := r_eq ctx 0 [0, 1, 7, 8] [] _
theorem slices_IndexFunc_End_K0_a : KEq 0 [0, 1, 7, 8] [] slices_IndexFunc_End_R0 slices_IndexFunc_End_K0 := k_eq ctx 0 [0, 1, 7, 8] [] _
noncomputable def slices_Index_int_R0 := intoE ctx 0 [0, 1, 7, 8] [] slices_Index_int_B0
noncomputable def slices_Index_int_K0 := roundE ctx 0 [0, 1, 7, 8] [] slices_Index_int_B0
theorem slices_Index_int_L0_eq : LEq ctx [0, 1, 7, 8] slices_Index_int_L0 slices_Index_int_R0 := l_eq ctx 0 [0, 1, 7, 8] [] _
theorem slices_Index_int_R0_eq : REq ctx slices_Index_int_B0 slices_Index_int_R0 slices_Index_int_K0 := r_eq ctx 0 [0, 1, 7, 8] [] _
theorem slices_Index_int_K0_a : KEq 0 [0, 1, 7, 8] [] slices_Index_int_R0 slices_Index_int_K0 := k_eq ctx 0 [0, 1, 7, 8] [] _
noncomputable def slices_DeleteFunc_End_R0 := intoE ctx 0 [0, 1, 5, 6] [0, 5] slices_DeleteFunc_End_B0
noncomputable def slices_DeleteFunc_End_K0 := roundE ctx 0 [0, 1, 5, 6] [0, 5] slices_DeleteFunc_End_B0
theorem slices_DeleteFunc_End_L0_eq : LEq ctx [0, 1, 5, 6] slices_DeleteFunc_End_L0 slices_DeleteFunc_End_R0 := l_eq ctx 0 [0, 1, 5, 6] [0, 5] _
theorem slices_DeleteFunc_End_R0_eq : REq ctx slices_DeleteFunc_End_B0 slices_DeleteFunc_End_R0 slices_DeleteFunc_End_K0 := r_eq ctx 0 [0, 1, 5, 6] [0, 5] _
theorem slices_DeleteFunc_End_K0_a : KEq 0 [0, 1, 5, 6] [0, 5] slices_DeleteFunc_End_R0 slices_DeleteFunc_End_K0 := k_eq ctx 0 [0, 1, 5, 6] [0, 5] _
noncomputable def graph_Graph_Ends_R2 := intoE ctx 2 [0, 1, 5, 6, 26, 27] [0, 1, 5, 6] graph_Graph_Ends_B2
noncomputable def graph_Graph_Ends_K2 := roundE ctx 2 [0, 1, 5, 6, 26, 27] [0, 1, 5, 6] graph_Graph_Ends_B2
theorem graph_Graph_Ends_L2_eq : LEq ctx [0, 1, 5, 6, 26, 27] graph_Graph_Ends_L2 graph_Graph_Ends_R2 := l_eq ctx 2 [0, 1, 5, 6, 26, 27] [0, 1, 5, 6] _
theorem graph_Graph_Ends_R2_eq : REq ctx graph_Graph_Ends_B2 graph_Graph_Ends_R2 graph_Graph_Ends_K2 := r_eq ctx 2 [0, 1, 5, 6, 26, 27] [0, 1, 5, 6] _
theorem graph_Graph_Ends_K2_a : KEq 2 [0, 1, 5, 6, 26, 27] [0, 1, 5, 6] graph_Graph_Ends_R2 graph_Graph_Ends_K2 := k_eq ctx 2 [0, 1, 5, 6, 26, 27] [0, 1, 5, 6] _
noncomputable def graph_Graph_Ends_R0 := intoE ctx 0 [0, 1, 5, 6] [] graph_Graph_Ends_B0
noncomputable def graph_Graph_Ends_K0 := roundE ctx 0 [0, 1, 5, 6] [] graph_Graph_Ends_B0
theorem graph_Graph_Ends_L0_eq : LEq ctx [0, 1, 5, 6] graph_Graph_Ends_L0 graph_Graph_Ends_R0 := l_eq ctx 0 [0, 1, 5, 6] [] _
theorem graph_Graph_Ends_R0_eq : REq ctx graph_Graph_Ends_B0 graph_Graph_Ends_R0 graph_Graph_Ends_K0 := r_eq ctx 0 [0, 1, 5, 6] [] _
theorem graph_Graph_Ends_K0_a : KEq 0 [0, 1, 5, 6] [] graph_Graph_Ends_R0 graph_Graph_Ends_K0 := k_eq ctx 0 [0, 1, 5, 6] [] _
noncomputable def slices_Concat_End_R0 := intoE ctx 0 [0, 3, 9, 10, 11] [0, 3] slices_Concat_End_B0
noncomputable def slices_Concat_End_K0 := roundE ctx 0 [0, 3, 9, 10, 11] [0, 3] slices_Concat_End_B0
theorem slices_Concat_End_L0_eq : LEq ctx [0, 3, 9, 10, 11] slices_Concat_End_L0 slices_Concat_End_R0 := l_eq ctx 0 [0, 3, 9, 10, 11] [0, 3] _
theorem slices_Concat_End_R0_eq : REq ctx slices_Concat_End_B0 slices_Concat_End_R0 slices_Concat_End_K0 := r_eq ctx 0 [0, 3, 9, 10, 11] [0, 3] _
theorem slices_Concat_End_K0_a : KEq 0 [0, 3, 9, 10, 11] [0, 3] slices_Concat_End_R0 slices_Concat_End_K0 := k_eq ctx 0 [0, 3, 9, 10, 11] [0, 3] _
noncomputable def slices_Concat_End_R2 := intoE ctx 2 [6, 25, 26, 27] [6] slices_Concat_End_B2
noncomputable def slices_Concat_End_K2 := roundE ctx 2 [6, 25, 26, 27] [6] slices_Concat_End_B2
theorem slices_Concat_End_L2_eq : LEq ctx [6, 25, 26, 27] slices_Concat_End_L2 slices_Concat_End_R2 := l_eq ctx 2 [6, 25, 26, 27] [6] _
theorem slices_Concat_End_R2_eq : REq ctx slices_Concat_End_B2 slices_Concat_End_R2 slices_Concat_End_K2 := r_eq ctx 2 [6, 25, 26, 27] [6] _
theorem slices_Concat_End_K2_a : KEq 2 [6, 25, 26, 27] [6] slices_Concat_End_R2 slices_Concat_End_K2 := k_eq ctx 2 [6, 25, 26, 27] [6] _
noncomputable def graph_Graph_at_R0 := intoE ctx 0 [1, 11, 12, 13] [] graph_Graph_at_B0
noncomputable def graph_Graph_at_K0 := roundE ctx 0 [1, 11, 12, 13] [] graph_Graph_at_B0
theorem graph_Graph_at_L0_eq : LEq ctx [1, 11, 12, 13] graph_Graph_at_L0 graph_Graph_at_R0 := l_eq ctx 0 [1, 11, 12, 13] [] _
theorem graph_Graph_at_R0_eq : REq ctx graph_Graph_at_B0 graph_Graph_at_R0 graph_Graph_at_K0 := r_eq ctx 0 [1, 11, 12, 13] [] _
theorem graph_Graph_at_K0_a : KEq 0 [1, 11, 12, 13] [] graph_Graph_at_R0 graph_Graph_at_K0 := k_eq ctx 0 [1, 11, 12, 13] [] _
noncomputable def slices_IndexFunc_Point_R0 := intoE ctx 0 [0, 1, 7, 8] [] slices_IndexFunc_Point_B0
noncomputable def slices_IndexFunc_Point_K0 := roundE ctx 0 [0, 1, 7, 8] [] slices_IndexFunc_Point_B0
theorem slices_IndexFunc_Point_L0_eq : LEq ctx [0, 1, 7, 8] slices_IndexFunc_Point_L0 slices_IndexFunc_Point_R0 := l_eq ctx 0 [0, 1, 7, 8] [] _
theorem slices_IndexFunc_Point_R0_eq : REq ctx slices_IndexFunc_Point_B0 slices_IndexFunc_Point_R0 slices_IndexFunc_Point_K0 := r_eq ctx 0 [0, 1, 7, 8] [] _
theorem slices_IndexFunc_Point_K0_a : KEq 0 [0, 1, 7, 8] [] slices_IndexFunc_Point_R0 slices_IndexFunc_Point_K0 := k_eq ctx 0 [0, 1, 7, 8] [] _
noncomputable def world_World_Go_R0 := intoE ctx 0 [0, 1, 3, 10, 11, 12] [0, 10, 11] world_World_Go_B0
noncomputable def world_World_Go_K0 := roundE ctx 0 [0, 1, 3, 10, 11, 12] [0, 10, 11] world_World_Go_B0
theorem world_World_Go_L0_eq : LEq ctx [0, 1, 3, 10, 11, 12] world_World_Go_L0 world_World_Go_R0 := l_eq ctx 0 [0, 1, 3, 10, 11, 12] [0, 10, 11] _
theorem world_World_Go_R0_eq : REq ctx world_World_Go_B0 world_World_Go_R0 world_World_Go_K0 := r_eq ctx 0 [0, 1, 3, 10, 11, 12] [0, 10, 11] _
theorem world_World_Go_K0_a : KEq 0 [0, 1, 3, 10, 11, 12] [0, 10, 11] world_World_Go_R0 world_World_Go_K0 := k_eq ctx 0 [0, 1, 3, 10, 11, 12] [0, 10, 11] _
noncomputable def world_World_Split_R1 := intoE ctx 1 [0, 2, 3, 9, 10, 11] [0, 2, 3, 9, 10, 11] world_World_Split_B1
noncomputable def world_World_Split_K1 := roundE ctx 1 [0, 2, 3, 9, 10, 11] [0, 2, 3, 9, 10, 11] world_World_Split_B1
theorem world_World_Split_L1_eq : LEq ctx [0, 2, 3, 9, 10, 11] world_World_Split_L1 world_World_Split_R1 := l_eq ctx 1 [0, 2, 3, 9, 10, 11] [0, 2, 3, 9, 10, 11] _
theorem world_World_Split_R1_eq : REq ctx world_World_Split_B1 world_World_Split_R1 world_World_Split_K1 := r_eq ctx 1 [0, 2, 3, 9, 10, 11] [0, 2, 3, 9, 10, 11] _
theorem world_World_Split_K1_a : KEq 1 [0, 2, 3, 9, 10, 11] [0, 2, 3, 9, 10, 11] world_World_Split_R1 world_World_Split_K1 := k_eq ctx 1 [0, 2, 3, 9, 10, 11] [0, 2, 3, 9, 10, 11] _
noncomputable def world_World_Detect_R0 := intoE ctx 0 [0, 3, 13, 14, 15] [3] world_World_Detect_B0
noncomputable def world_World_Detect_K0 := roundE ctx 0 [0, 3, 13, 14, 15] [3] world_World_Detect_B0
theorem world_World_Detect_L0_eq : LEq ctx [0, 3, 13, 14, 15] world_World_Detect_L0 world_World_Detect_R0 := l_eq ctx 0 [0, 3, 13, 14, 15] [3] _
theorem world_World_Detect_R0_eq : REq ctx world_World_Detect_B0 world_World_Detect_R0 world_World_Detect_K0 := r_eq ctx 0 [0, 3, 13, 14, 15] [3] _
theorem world_World_Detect_K0_a : KEq 0 [0, 3, 13, 14, 15] [3] world_World_Detect_R0 world_World_Detect_K0 := k_eq ctx 0 [0, 3, 13, 14, 15] [3] _
end Go.Proofs.Ytfblegjbmhgepaa.Zt
end
section
namespace Go.Proofs.Ytfblegjbmhgepaa.Zt
open Go Go.Zc
set_option maxRecDepth 100000

theorem enters_F (st : Bool) (H : Heap) : l18_enters_F st H [] = some (.bool true, H) := by cases st <;> exact fz_run 100 (by kernel_rfl)
theorem worldNil_F (id n : Int) (st : Bool) (H : Heap) : l18_WorldNil_F st H [.int .i64 id, .int .i64 n] = some (.bool true, H) := by cases st <;> exact fz_run 100 (by kernel_rfl)
end Go.Proofs.Ytfblegjbmhgepaa.Zt
end
