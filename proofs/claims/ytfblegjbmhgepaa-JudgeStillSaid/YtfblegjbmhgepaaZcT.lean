/- Go functions, as the interpreter runs them: written by a program of this claim's own, proved to be what the compiler makes of them. No condition. -/
import Derived.Test.YtfblegjbmhgepaaZcT0
import Derived.Test.YtfblegjbmhgepaaZcKt
set_option linter.all false
namespace Go.Proofs.Ytfblegjbmhgepaa.Zt
open Go Go.Zc
set_option maxRecDepth 100000

/-- All of them. -/
def tab : List (Nat × FInfo) := [(6, l20_JudgeStill_I), (14, l20_nobody_I), (19, judge_Safe_I), (27, judge_Still_I), (60, judge_has_I), (32, world_New_I), (37, world_World_Under_I), (33, world_World_Add_I), (40, world_World_All_I), (46, world_World_Inside_I), (81, world_World_Inside_1_I), (70, world_World_get_I), (72, world_World_under_I), (66, world_World_full_I), (68, world_World_room_I), (69, world_World_way_I), (57, slices_ContainsFunc_int_I), (84, slices_IndexFunc_Int_I), (74, maps_Keys_vehicle_I), (43, train_Fits_I), (75, train_unlike_I), (78, train_Fits_1_I), (25, r04_Small_I), (26, r05_Full_I), (47, r04_Make_I), (48, r05_Walk_I), (22, r01_Has_I), (36, r01_Ints_I), (41, graph_New_I), (67, graph_Graph_Len_I), (59, slices_Contains_int_I), (49, r05_Len_I), (79, r05_Around_I), (90, graph_Graph_section_I), (76, graph_Graph_Around_I), (77, slices_IndexFunc_End_I), (85, slices_Index_int_I), (101, r05_node_I), (102, r05_Point_I), (103, r05_one_I), (104, r05_Ends_I), (94, graph_Graph_node_I), (95, graph_Graph_Point_I), (96, slices_DeleteFunc_End_I), (97, graph_Graph_Ends_I), (98, graph_Graph_Around_1_I), (99, slices_Concat_End_I), (100, graph_Graph_at_I), (112, slices_IndexFunc_Point_I), (113, graph_Graph_Point_1_I), (114, slices_Grow_End_I)]
/-- What has a contract of its own. -/
def prims : List (Nat × (List CV → List Blk → Option (CV × List Blk))) := Zk.prims
def ctx : Ctx := ⟨Zc.look tab, Zc.look prims⟩
theorem l20_JudgeStill_ok : compF Try.prog (quietOf ctx) l20_JudgeStill_A (.fz false) Try.f6 = some l20_JudgeStill_I := by kernel_rfl
theorem l20_nobody_ok : compF Try.prog (quietOf ctx) l20_nobody_A (.fz false) Try.f14 = some l20_nobody_I := by kernel_rfl
theorem judge_Safe_ok : compF Try.prog (quietOf ctx) judge_Safe_A .ref Try.f19 = some judge_Safe_I := by kernel_rfl
theorem judge_Still_ok : compF Try.prog (quietOf ctx) judge_Still_A (.fz false) Try.f27 = some judge_Still_I := by kernel_rfl
theorem judge_has_ok : compF Try.prog (quietOf ctx) judge_has_A (.fz false) Try.f60 = some judge_has_I := by kernel_rfl
theorem world_New_ok : compF Try.prog (quietOf ctx) world_New_A .ref Try.f32 = some world_New_I := by kernel_rfl
theorem world_World_Under_ok : compF Try.prog (quietOf ctx) world_World_Under_A .ref Try.f37 = some world_World_Under_I := by kernel_rfl
theorem world_World_Add_ok : compF Try.prog (quietOf ctx) world_World_Add_A .ref Try.f33 = some world_World_Add_I := by kernel_rfl
theorem world_World_All_ok : compF Try.prog (quietOf ctx) world_World_All_A .ref Try.f40 = some world_World_All_I := by kernel_rfl
theorem world_World_Inside_ok : compF Try.prog (quietOf ctx) world_World_Inside_A .ref Try.f46 = some world_World_Inside_I := by kernel_rfl
theorem world_World_Inside_1_ok : compF Try.prog (quietOf ctx) world_World_Inside_1_A .ref Try.f81 = some world_World_Inside_1_I := by kernel_rfl
theorem world_World_get_ok : compF Try.prog (quietOf ctx) world_World_get_A .ref Try.f70 = some world_World_get_I := by kernel_rfl
theorem world_World_under_ok : compF Try.prog (quietOf ctx) world_World_under_A .ref Try.f72 = some world_World_under_I := by kernel_rfl
theorem world_World_full_ok : compF Try.prog (quietOf ctx) world_World_full_A .ref Try.f66 = some world_World_full_I := by kernel_rfl
theorem world_World_room_ok : compF Try.prog (quietOf ctx) world_World_room_A .ref Try.f68 = some world_World_room_I := by kernel_rfl
theorem world_World_way_ok : compF Try.prog (quietOf ctx) world_World_way_A .ref Try.f69 = some world_World_way_I := by kernel_rfl
theorem slices_ContainsFunc_int_ok : compF Try.prog (quietOf ctx) slices_ContainsFunc_int_A .ref Try.f57 = some slices_ContainsFunc_int_I := by kernel_rfl
theorem slices_IndexFunc_Int_ok : compF Try.prog (quietOf ctx) slices_IndexFunc_Int_A .ref Try.f84 = some slices_IndexFunc_Int_I := by kernel_rfl
theorem maps_Keys_vehicle_ok : compF Try.prog (quietOf ctx) maps_Keys_vehicle_A .ref Try.f74 = some maps_Keys_vehicle_I := by kernel_rfl
theorem train_Fits_ok : compF Try.prog (quietOf ctx) train_Fits_A (.fz false) Try.f43 = some train_Fits_I := by kernel_rfl
theorem train_unlike_ok : compF Try.prog (quietOf ctx) train_unlike_A (.fz false) Try.f75 = some train_unlike_I := by kernel_rfl
theorem train_Fits_1_ok : compF Try.prog (quietOf ctx) train_Fits_1_A (.fz false) Try.f78 = some train_Fits_1_I := by kernel_rfl
theorem r04_Small_ok : compF Try.prog (quietOf ctx) r04_Small_A (.fz false) Try.f25 = some r04_Small_I := by kernel_rfl
theorem r05_Full_ok : compF Try.prog (quietOf ctx) r05_Full_A (.fz false) Try.f26 = some r05_Full_I := by kernel_rfl
theorem r04_Make_ok : compF Try.prog (quietOf ctx) r04_Make_A (.fz true) Try.f47 = some r04_Make_I := by kernel_rfl
theorem r05_Walk_ok : compF Try.prog (quietOf ctx) r05_Walk_A (.fz false) Try.f48 = some r05_Walk_I := by kernel_rfl
theorem r01_Has_ok : compF Try.prog (quietOf ctx) r01_Has_A (.fz false) Try.f22 = some r01_Has_I := by kernel_rfl
theorem r01_Ints_ok : compF Try.prog (quietOf ctx) r01_Ints_A (.fz false) Try.f36 = some r01_Ints_I := by kernel_rfl
theorem graph_New_ok : compF Try.prog (quietOf ctx) graph_New_A (.fz false) Try.f41 = some graph_New_I := by kernel_rfl
theorem graph_Graph_Len_ok : compF Try.prog (quietOf ctx) graph_Graph_Len_A (.fz false) Try.f67 = some graph_Graph_Len_I := by kernel_rfl
theorem slices_Contains_int_ok : compF Try.prog (quietOf ctx) slices_Contains_int_A (.fz false) Try.f59 = some slices_Contains_int_I := by kernel_rfl
theorem r05_Len_ok : compF Try.prog (quietOf ctx) r05_Len_A (.fz false) Try.f49 = some r05_Len_I := by kernel_rfl
theorem r05_Around_ok : compF Try.prog (quietOf ctx) r05_Around_A (.fz false) Try.f79 = some r05_Around_I := by kernel_rfl
theorem graph_Graph_section_ok : compF Try.prog (quietOf ctx) graph_Graph_section_A (.fz false) Try.f90 = some graph_Graph_section_I := by kernel_rfl
theorem graph_Graph_Around_ok : compF Try.prog (quietOf ctx) graph_Graph_Around_A (.fz false) Try.f76 = some graph_Graph_Around_I := by kernel_rfl
theorem slices_IndexFunc_End_ok : compF Try.prog (quietOf ctx) slices_IndexFunc_End_A (.fz false) Try.f77 = some slices_IndexFunc_End_I := by kernel_rfl
theorem slices_Index_int_ok : compF Try.prog (quietOf ctx) slices_Index_int_A (.fz false) Try.f85 = some slices_Index_int_I := by kernel_rfl
theorem r05_node_ok : compF Try.prog (quietOf ctx) r05_node_A (.fz false) Try.f101 = some r05_node_I := by kernel_rfl
theorem r05_Point_ok : compF Try.prog (quietOf ctx) r05_Point_A (.fz false) Try.f102 = some r05_Point_I := by kernel_rfl
theorem r05_one_ok : compF Try.prog (quietOf ctx) r05_one_A (.fz false) Try.f103 = some r05_one_I := by kernel_rfl
theorem r05_Ends_ok : compF Try.prog (quietOf ctx) r05_Ends_A (.fz false) Try.f104 = some r05_Ends_I := by kernel_rfl
theorem graph_Graph_node_ok : compF Try.prog (quietOf ctx) graph_Graph_node_A (.fz false) Try.f94 = some graph_Graph_node_I := by kernel_rfl
theorem graph_Graph_Point_ok : compF Try.prog (quietOf ctx) graph_Graph_Point_A (.fz false) Try.f95 = some graph_Graph_Point_I := by kernel_rfl
theorem slices_DeleteFunc_End_ok : compF Try.prog (quietOf ctx) slices_DeleteFunc_End_A .ref Try.f96 = some slices_DeleteFunc_End_I := by kernel_rfl
theorem graph_Graph_Ends_ok : compF Try.prog (quietOf ctx) graph_Graph_Ends_A .own Try.f97 = some graph_Graph_Ends_I := by kernel_rfl
theorem graph_Graph_Around_1_ok : compF Try.prog (quietOf ctx) graph_Graph_Around_1_A (.fz false) Try.f98 = some graph_Graph_Around_1_I := by kernel_rfl
theorem slices_Concat_End_ok : compF Try.prog (quietOf ctx) slices_Concat_End_A (.fz false) Try.f99 = some slices_Concat_End_I := by kernel_rfl
theorem graph_Graph_at_ok : compF Try.prog (quietOf ctx) graph_Graph_at_A (.fz false) Try.f100 = some graph_Graph_at_I := by kernel_rfl
theorem slices_IndexFunc_Point_ok : compF Try.prog (quietOf ctx) slices_IndexFunc_Point_A (.fz false) Try.f112 = some slices_IndexFunc_Point_I := by kernel_rfl
theorem graph_Graph_Point_1_ok : compF Try.prog (quietOf ctx) graph_Graph_Point_1_A (.fz false) Try.f113 = some graph_Graph_Point_1_I := by kernel_rfl
theorem slices_Grow_End_ok : compF Try.prog (quietOf ctx) slices_Grow_End_A .ref Try.f114 = some slices_Grow_End_I := by kernel_rfl
theorem ctx_ok : CtxOk Try.prog ctx :=
  ctxOk_prims (by kernel_rfl) (
    .cons ⟨_, _, Try.func6, l20_JudgeStill_ok⟩ (
    .cons ⟨_, _, Try.func14, l20_nobody_ok⟩ (
    .cons ⟨_, _, Try.func19, judge_Safe_ok⟩ (
    .cons ⟨_, _, Try.func27, judge_Still_ok⟩ (
    .cons ⟨_, _, Try.func60, judge_has_ok⟩ (
    .cons ⟨_, _, Try.func32, world_New_ok⟩ (
    .cons ⟨_, _, Try.func37, world_World_Under_ok⟩ (
    .cons ⟨_, _, Try.func33, world_World_Add_ok⟩ (
    .cons ⟨_, _, Try.func40, world_World_All_ok⟩ (
    .cons ⟨_, _, Try.func46, world_World_Inside_ok⟩ (
    .cons ⟨_, _, Try.func81, world_World_Inside_1_ok⟩ (
    .cons ⟨_, _, Try.func70, world_World_get_ok⟩ (
    .cons ⟨_, _, Try.func72, world_World_under_ok⟩ (
    .cons ⟨_, _, Try.func66, world_World_full_ok⟩ (
    .cons ⟨_, _, Try.func68, world_World_room_ok⟩ (
    .cons ⟨_, _, Try.func69, world_World_way_ok⟩ (
    .cons ⟨_, _, Try.func57, slices_ContainsFunc_int_ok⟩ (
    .cons ⟨_, _, Try.func84, slices_IndexFunc_Int_ok⟩ (
    .cons ⟨_, _, Try.func74, maps_Keys_vehicle_ok⟩ (
    .cons ⟨_, _, Try.func43, train_Fits_ok⟩ (
    .cons ⟨_, _, Try.func75, train_unlike_ok⟩ (
    .cons ⟨_, _, Try.func78, train_Fits_1_ok⟩ (
    .cons ⟨_, _, Try.func25, r04_Small_ok⟩ (
    .cons ⟨_, _, Try.func26, r05_Full_ok⟩ (
    .cons ⟨_, _, Try.func47, r04_Make_ok⟩ (
    .cons ⟨_, _, Try.func48, r05_Walk_ok⟩ (
    .cons ⟨_, _, Try.func22, r01_Has_ok⟩ (
    .cons ⟨_, _, Try.func36, r01_Ints_ok⟩ (
    .cons ⟨_, _, Try.func41, graph_New_ok⟩ (
    .cons ⟨_, _, Try.func67, graph_Graph_Len_ok⟩ (
    .cons ⟨_, _, Try.func59, slices_Contains_int_ok⟩ (
    .cons ⟨_, _, Try.func49, r05_Len_ok⟩ (
    .cons ⟨_, _, Try.func79, r05_Around_ok⟩ (
    .cons ⟨_, _, Try.func90, graph_Graph_section_ok⟩ (
    .cons ⟨_, _, Try.func76, graph_Graph_Around_ok⟩ (
    .cons ⟨_, _, Try.func77, slices_IndexFunc_End_ok⟩ (
    .cons ⟨_, _, Try.func85, slices_Index_int_ok⟩ (
    .cons ⟨_, _, Try.func101, r05_node_ok⟩ (
    .cons ⟨_, _, Try.func102, r05_Point_ok⟩ (
    .cons ⟨_, _, Try.func103, r05_one_ok⟩ (
    .cons ⟨_, _, Try.func104, r05_Ends_ok⟩ (
    .cons ⟨_, _, Try.func94, graph_Graph_node_ok⟩ (
    .cons ⟨_, _, Try.func95, graph_Graph_Point_ok⟩ (
    .cons ⟨_, _, Try.func96, slices_DeleteFunc_End_ok⟩ (
    .cons ⟨_, _, Try.func97, graph_Graph_Ends_ok⟩ (
    .cons ⟨_, _, Try.func98, graph_Graph_Around_1_ok⟩ (
    .cons ⟨_, _, Try.func99, slices_Concat_End_ok⟩ (
    .cons ⟨_, _, Try.func100, graph_Graph_at_ok⟩ (
    .cons ⟨_, _, Try.func112, slices_IndexFunc_Point_ok⟩ (
    .cons ⟨_, _, Try.func113, graph_Graph_Point_1_ok⟩ (
    .cons ⟨_, _, Try.func114, slices_Grow_End_ok⟩ (
    .nil)))))))))))))))))))))))))))))))))))))))))))))))))))) Zk.prims_ok
noncomputable def l20_JudgeStill_F (st : Bool) (H : Heap) (xs : List CV) : Option (CV × Heap) := fzE ctx false 5 l20_JudgeStill_C [.tmp 10] st H xs
theorem l20_JudgeStill_F_eq (st : Bool) (H : Heap) (xs : List CV) : l20_JudgeStill_F st H xs = if xs.length = 5 then (eval ctx l20_JudgeStill_C (enterC 0 xs) ⟨[], []⟩).bind (fzOut [.tmp 10] st false H) else none := (rfl)
theorem l20_JudgeStill_call (cap args : List CV) (H : Heap) : call ctx (.fn (.func 6) [] cap) args H = (snapL H false false (args ++ cap)).bind (l20_JudgeStill_F (CV.refs (args ++ cap)) H) := fz_call rfl (show ctx.info 6 = some l20_JudgeStill_I by kernel_rfl) cap args H
noncomputable def l20_nobody_F (st : Bool) (H : Heap) (xs : List CV) : Option (CV × Heap) := fzE ctx false 0 l20_nobody_C [.tmp 0] st H xs
theorem l20_nobody_F_eq (st : Bool) (H : Heap) (xs : List CV) : l20_nobody_F st H xs = if xs.length = 0 then (eval ctx l20_nobody_C (enterC 0 xs) ⟨[], []⟩).bind (fzOut [.tmp 0] st false H) else none := (rfl)
theorem l20_nobody_call (cap args : List CV) (H : Heap) : call ctx (.fn (.func 14) [] cap) args H = (snapL H false false (args ++ cap)).bind (l20_nobody_F (CV.refs (args ++ cap)) H) := fz_call rfl (show ctx.info 14 = some l20_nobody_I by kernel_rfl) cap args H
noncomputable def judge_Safe_F (bx : List (Nat × List CV)) (bl : List Blk) (xs : List CV) : Option (CV × Heap) := if xs.length = 2 then (eval ctx judge_Safe_C (enterC 0 xs) ⟨[], bl⟩).bind (refOut [.tmp 4] bx) else none
theorem judge_Safe_F_eq (bx : List (Nat × List CV)) (bl : List Blk) (xs : List CV) : judge_Safe_F bx bl xs = if xs.length = 2 then (eval ctx judge_Safe_C (enterC 0 xs) ⟨[], bl⟩).bind (refOut [.tmp 4] bx) else none := (rfl)
theorem judge_Safe_call (cap args : List CV) (bx : List (Nat × List CV)) (bl : List Blk) : call ctx (.fn (.func 19) [] cap) args ⟨bx, bl⟩ = if CV.locs (args ++ cap) then none else judge_Safe_F bx bl (args ++ cap) := ref_call rfl (show ctx.info 19 = some judge_Safe_I by kernel_rfl) cap args bx bl
noncomputable def judge_Still_F (st : Bool) (H : Heap) (xs : List CV) : Option (CV × Heap) := fzE ctx false 5 judge_Still_C [.tmp 10] st H xs
theorem judge_Still_F_eq (st : Bool) (H : Heap) (xs : List CV) : judge_Still_F st H xs = if xs.length = 5 then (eval ctx judge_Still_C (enterC 0 xs) ⟨[], []⟩).bind (fzOut [.tmp 10] st false H) else none := (rfl)
theorem judge_Still_call (cap args : List CV) (H : Heap) : call ctx (.fn (.func 27) [] cap) args H = (snapL H false false (args ++ cap)).bind (judge_Still_F (CV.refs (args ++ cap)) H) := fz_call rfl (show ctx.info 27 = some judge_Still_I by kernel_rfl) cap args H
noncomputable def judge_has_F (st : Bool) (H : Heap) (xs : List CV) : Option (CV × Heap) := fzE ctx false 2 judge_has_C [.tmp 4] st H xs
theorem judge_has_F_eq (st : Bool) (H : Heap) (xs : List CV) : judge_has_F st H xs = if xs.length = 2 then (eval ctx judge_has_C (enterC 0 xs) ⟨[], []⟩).bind (fzOut [.tmp 4] st false H) else none := (rfl)
theorem judge_has_call (cap args : List CV) (H : Heap) : call ctx (.fn (.func 60) [] cap) args H = (snapL H false false (args ++ cap)).bind (judge_has_F (CV.refs (args ++ cap)) H) := fz_call rfl (show ctx.info 60 = some judge_has_I by kernel_rfl) cap args H
noncomputable def world_New_F (bx : List (Nat × List CV)) (bl : List Blk) (xs : List CV) : Option (CV × Heap) := if xs.length = 1 then (eval ctx world_New_C (enterC 0 xs) ⟨[], bl⟩).bind (refOut [.tmp 2] bx) else none
theorem world_New_F_eq (bx : List (Nat × List CV)) (bl : List Blk) (xs : List CV) : world_New_F bx bl xs = if xs.length = 1 then (eval ctx world_New_C (enterC 0 xs) ⟨[], bl⟩).bind (refOut [.tmp 2] bx) else none := (rfl)
theorem world_New_call (cap args : List CV) (bx : List (Nat × List CV)) (bl : List Blk) : call ctx (.fn (.func 32) [] cap) args ⟨bx, bl⟩ = if CV.locs (args ++ cap) then none else world_New_F bx bl (args ++ cap) := ref_call rfl (show ctx.info 32 = some world_New_I by kernel_rfl) cap args bx bl
noncomputable def world_World_Under_F (bx : List (Nat × List CV)) (bl : List Blk) (xs : List CV) : Option (CV × Heap) := if xs.length = 2 then (eval ctx world_World_Under_C (enterC 0 xs) ⟨[], bl⟩).bind (refOut [.tmp 4] bx) else none
theorem world_World_Under_F_eq (bx : List (Nat × List CV)) (bl : List Blk) (xs : List CV) : world_World_Under_F bx bl xs = if xs.length = 2 then (eval ctx world_World_Under_C (enterC 0 xs) ⟨[], bl⟩).bind (refOut [.tmp 4] bx) else none := (rfl)
theorem world_World_Under_call (cap args : List CV) (bx : List (Nat × List CV)) (bl : List Blk) : call ctx (.fn (.func 37) [] cap) args ⟨bx, bl⟩ = if CV.locs (args ++ cap) then none else world_World_Under_F bx bl (args ++ cap) := ref_call rfl (show ctx.info 37 = some world_World_Under_I by kernel_rfl) cap args bx bl
noncomputable def world_World_Add_F (bx : List (Nat × List CV)) (bl : List Blk) (xs : List CV) : Option (CV × Heap) := if xs.length = 6 then (eval ctx world_World_Add_C (enterC 0 xs) ⟨[], bl⟩).bind (refOut [.tmp 12] bx) else none
theorem world_World_Add_F_eq (bx : List (Nat × List CV)) (bl : List Blk) (xs : List CV) : world_World_Add_F bx bl xs = if xs.length = 6 then (eval ctx world_World_Add_C (enterC 0 xs) ⟨[], bl⟩).bind (refOut [.tmp 12] bx) else none := (rfl)
theorem world_World_Add_call (cap args : List CV) (bx : List (Nat × List CV)) (bl : List Blk) : call ctx (.fn (.func 33) [] cap) args ⟨bx, bl⟩ = if CV.locs (args ++ cap) then none else world_World_Add_F bx bl (args ++ cap) := ref_call rfl (show ctx.info 33 = some world_World_Add_I by kernel_rfl) cap args bx bl
noncomputable def world_World_All_F (bx : List (Nat × List CV)) (bl : List Blk) (xs : List CV) : Option (CV × Heap) := if xs.length = 1 then (eval ctx world_World_All_C (enterC 0 xs) ⟨[], bl⟩).bind (refOut [.tmp 2] bx) else none
theorem world_World_All_F_eq (bx : List (Nat × List CV)) (bl : List Blk) (xs : List CV) : world_World_All_F bx bl xs = if xs.length = 1 then (eval ctx world_World_All_C (enterC 0 xs) ⟨[], bl⟩).bind (refOut [.tmp 2] bx) else none := (rfl)
theorem world_World_All_call (cap args : List CV) (bx : List (Nat × List CV)) (bl : List Blk) : call ctx (.fn (.func 40) [] cap) args ⟨bx, bl⟩ = if CV.locs (args ++ cap) then none else world_World_All_F bx bl (args ++ cap) := ref_call rfl (show ctx.info 40 = some world_World_All_I by kernel_rfl) cap args bx bl
noncomputable def world_World_Inside_F (bx : List (Nat × List CV)) (bl : List Blk) (xs : List CV) : Option (CV × Heap) := if xs.length = 2 then (eval ctx world_World_Inside_C (enterC 0 xs) ⟨[], bl⟩).bind (refOut [.tmp 4] bx) else none
theorem world_World_Inside_F_eq (bx : List (Nat × List CV)) (bl : List Blk) (xs : List CV) : world_World_Inside_F bx bl xs = if xs.length = 2 then (eval ctx world_World_Inside_C (enterC 0 xs) ⟨[], bl⟩).bind (refOut [.tmp 4] bx) else none := (rfl)
theorem world_World_Inside_call (cap args : List CV) (bx : List (Nat × List CV)) (bl : List Blk) : call ctx (.fn (.func 46) [] cap) args ⟨bx, bl⟩ = if CV.locs (args ++ cap) then none else world_World_Inside_F bx bl (args ++ cap) := ref_call rfl (show ctx.info 46 = some world_World_Inside_I by kernel_rfl) cap args bx bl
noncomputable def world_World_Inside_1_F (bx : List (Nat × List CV)) (bl : List Blk) (xs : List CV) : Option (CV × Heap) := if xs.length = 3 then (eval ctx world_World_Inside_1_C (enterC 0 xs) ⟨[], bl⟩).bind (refOut [.tmp 4] bx) else none
theorem world_World_Inside_1_F_eq (bx : List (Nat × List CV)) (bl : List Blk) (xs : List CV) : world_World_Inside_1_F bx bl xs = if xs.length = 3 then (eval ctx world_World_Inside_1_C (enterC 0 xs) ⟨[], bl⟩).bind (refOut [.tmp 4] bx) else none := (rfl)
theorem world_World_Inside_1_call (cap args : List CV) (bx : List (Nat × List CV)) (bl : List Blk) : call ctx (.fn (.func 81) [] cap) args ⟨bx, bl⟩ = if CV.locs (args ++ cap) then none else world_World_Inside_1_F bx bl (args ++ cap) := ref_call rfl (show ctx.info 81 = some world_World_Inside_1_I by kernel_rfl) cap args bx bl
noncomputable def world_World_get_F (bx : List (Nat × List CV)) (bl : List Blk) (xs : List CV) : Option (CV × Heap) := if xs.length = 2 then (eval ctx world_World_get_C (enterC 0 xs) ⟨[], bl⟩).bind (refOut [.tmp 4] bx) else none
theorem world_World_get_F_eq (bx : List (Nat × List CV)) (bl : List Blk) (xs : List CV) : world_World_get_F bx bl xs = if xs.length = 2 then (eval ctx world_World_get_C (enterC 0 xs) ⟨[], bl⟩).bind (refOut [.tmp 4] bx) else none := (rfl)
theorem world_World_get_call (cap args : List CV) (bx : List (Nat × List CV)) (bl : List Blk) : call ctx (.fn (.func 70) [] cap) args ⟨bx, bl⟩ = if CV.locs (args ++ cap) then none else world_World_get_F bx bl (args ++ cap) := ref_call rfl (show ctx.info 70 = some world_World_get_I by kernel_rfl) cap args bx bl
noncomputable def world_World_under_F (bx : List (Nat × List CV)) (bl : List Blk) (xs : List CV) : Option (CV × Heap) := if xs.length = 2 then (eval ctx world_World_under_C (enterC 0 xs) ⟨[], bl⟩).bind (refOut [.tmp 4] bx) else none
theorem world_World_under_F_eq (bx : List (Nat × List CV)) (bl : List Blk) (xs : List CV) : world_World_under_F bx bl xs = if xs.length = 2 then (eval ctx world_World_under_C (enterC 0 xs) ⟨[], bl⟩).bind (refOut [.tmp 4] bx) else none := (rfl)
theorem world_World_under_call (cap args : List CV) (bx : List (Nat × List CV)) (bl : List Blk) : call ctx (.fn (.func 72) [] cap) args ⟨bx, bl⟩ = if CV.locs (args ++ cap) then none else world_World_under_F bx bl (args ++ cap) := ref_call rfl (show ctx.info 72 = some world_World_under_I by kernel_rfl) cap args bx bl
noncomputable def world_World_full_F (bx : List (Nat × List CV)) (bl : List Blk) (xs : List CV) : Option (CV × Heap) := if xs.length = 2 then (eval ctx world_World_full_C (enterC 0 xs) ⟨[], bl⟩).bind (refOut [.tmp 4] bx) else none
theorem world_World_full_F_eq (bx : List (Nat × List CV)) (bl : List Blk) (xs : List CV) : world_World_full_F bx bl xs = if xs.length = 2 then (eval ctx world_World_full_C (enterC 0 xs) ⟨[], bl⟩).bind (refOut [.tmp 4] bx) else none := (rfl)
theorem world_World_full_call (cap args : List CV) (bx : List (Nat × List CV)) (bl : List Blk) : call ctx (.fn (.func 66) [] cap) args ⟨bx, bl⟩ = if CV.locs (args ++ cap) then none else world_World_full_F bx bl (args ++ cap) := ref_call rfl (show ctx.info 66 = some world_World_full_I by kernel_rfl) cap args bx bl
noncomputable def world_World_room_F (bx : List (Nat × List CV)) (bl : List Blk) (xs : List CV) : Option (CV × Heap) := if xs.length = 3 then (eval ctx world_World_room_C (enterC 0 xs) ⟨[], bl⟩).bind (refOut [.tmp 6] bx) else none
theorem world_World_room_F_eq (bx : List (Nat × List CV)) (bl : List Blk) (xs : List CV) : world_World_room_F bx bl xs = if xs.length = 3 then (eval ctx world_World_room_C (enterC 0 xs) ⟨[], bl⟩).bind (refOut [.tmp 6] bx) else none := (rfl)
theorem world_World_room_call (cap args : List CV) (bx : List (Nat × List CV)) (bl : List Blk) : call ctx (.fn (.func 68) [] cap) args ⟨bx, bl⟩ = if CV.locs (args ++ cap) then none else world_World_room_F bx bl (args ++ cap) := ref_call rfl (show ctx.info 68 = some world_World_room_I by kernel_rfl) cap args bx bl
noncomputable def world_World_way_F (bx : List (Nat × List CV)) (bl : List Blk) (xs : List CV) : Option (CV × Heap) := if xs.length = 3 then (eval ctx world_World_way_C (enterC 0 xs) ⟨[], bl⟩).bind (refOut [.tmp 6] bx) else none
theorem world_World_way_F_eq (bx : List (Nat × List CV)) (bl : List Blk) (xs : List CV) : world_World_way_F bx bl xs = if xs.length = 3 then (eval ctx world_World_way_C (enterC 0 xs) ⟨[], bl⟩).bind (refOut [.tmp 6] bx) else none := (rfl)
theorem world_World_way_call (cap args : List CV) (bx : List (Nat × List CV)) (bl : List Blk) : call ctx (.fn (.func 69) [] cap) args ⟨bx, bl⟩ = if CV.locs (args ++ cap) then none else world_World_way_F bx bl (args ++ cap) := ref_call rfl (show ctx.info 69 = some world_World_way_I by kernel_rfl) cap args bx bl
noncomputable def slices_ContainsFunc_int_F (bx : List (Nat × List CV)) (bl : List Blk) (xs : List CV) : Option (CV × Heap) := if xs.length = 2 then (eval ctx slices_ContainsFunc_int_C (enterC 0 xs) ⟨[], bl⟩).bind (refOut [.tmp 4] bx) else none
theorem slices_ContainsFunc_int_F_eq (bx : List (Nat × List CV)) (bl : List Blk) (xs : List CV) : slices_ContainsFunc_int_F bx bl xs = if xs.length = 2 then (eval ctx slices_ContainsFunc_int_C (enterC 0 xs) ⟨[], bl⟩).bind (refOut [.tmp 4] bx) else none := (rfl)
theorem slices_ContainsFunc_int_call (cap args : List CV) (bx : List (Nat × List CV)) (bl : List Blk) : call ctx (.fn (.func 57) [] cap) args ⟨bx, bl⟩ = if CV.locs (args ++ cap) then none else slices_ContainsFunc_int_F bx bl (args ++ cap) := ref_call rfl (show ctx.info 57 = some slices_ContainsFunc_int_I by kernel_rfl) cap args bx bl
noncomputable def slices_IndexFunc_Int_F (bx : List (Nat × List CV)) (bl : List Blk) (xs : List CV) : Option (CV × Heap) := if xs.length = 2 then (eval ctx slices_IndexFunc_Int_C (enterC 0 xs) ⟨[], bl⟩).bind (refOut [.tmp 4] bx) else none
theorem slices_IndexFunc_Int_F_eq (bx : List (Nat × List CV)) (bl : List Blk) (xs : List CV) : slices_IndexFunc_Int_F bx bl xs = if xs.length = 2 then (eval ctx slices_IndexFunc_Int_C (enterC 0 xs) ⟨[], bl⟩).bind (refOut [.tmp 4] bx) else none := (rfl)
theorem slices_IndexFunc_Int_call (cap args : List CV) (bx : List (Nat × List CV)) (bl : List Blk) : call ctx (.fn (.func 84) [] cap) args ⟨bx, bl⟩ = if CV.locs (args ++ cap) then none else slices_IndexFunc_Int_F bx bl (args ++ cap) := ref_call rfl (show ctx.info 84 = some slices_IndexFunc_Int_I by kernel_rfl) cap args bx bl
noncomputable def maps_Keys_vehicle_F (bx : List (Nat × List CV)) (bl : List Blk) (xs : List CV) : Option (CV × Heap) := if xs.length = 1 then (eval ctx maps_Keys_vehicle_C (enterC 0 xs) ⟨[], bl⟩).bind (refOut [.tmp 2] bx) else none
theorem maps_Keys_vehicle_F_eq (bx : List (Nat × List CV)) (bl : List Blk) (xs : List CV) : maps_Keys_vehicle_F bx bl xs = if xs.length = 1 then (eval ctx maps_Keys_vehicle_C (enterC 0 xs) ⟨[], bl⟩).bind (refOut [.tmp 2] bx) else none := (rfl)
theorem maps_Keys_vehicle_call (cap args : List CV) (bx : List (Nat × List CV)) (bl : List Blk) : call ctx (.fn (.func 74) [] cap) args ⟨bx, bl⟩ = if CV.locs (args ++ cap) then none else maps_Keys_vehicle_F bx bl (args ++ cap) := ref_call rfl (show ctx.info 74 = some maps_Keys_vehicle_I by kernel_rfl) cap args bx bl
noncomputable def train_Fits_F (st : Bool) (H : Heap) (xs : List CV) : Option (CV × Heap) := fzE ctx false 2 train_Fits_C [.tmp 4] st H xs
theorem train_Fits_F_eq (st : Bool) (H : Heap) (xs : List CV) : train_Fits_F st H xs = if xs.length = 2 then (eval ctx train_Fits_C (enterC 0 xs) ⟨[], []⟩).bind (fzOut [.tmp 4] st false H) else none := (rfl)
theorem train_Fits_call (cap args : List CV) (H : Heap) : call ctx (.fn (.func 43) [] cap) args H = (snapL H false false (args ++ cap)).bind (train_Fits_F (CV.refs (args ++ cap)) H) := fz_call rfl (show ctx.info 43 = some train_Fits_I by kernel_rfl) cap args H
noncomputable def train_unlike_F (st : Bool) (H : Heap) (xs : List CV) : Option (CV × Heap) := fzE ctx false 2 train_unlike_C [.tmp 4] st H xs
theorem train_unlike_F_eq (st : Bool) (H : Heap) (xs : List CV) : train_unlike_F st H xs = if xs.length = 2 then (eval ctx train_unlike_C (enterC 0 xs) ⟨[], []⟩).bind (fzOut [.tmp 4] st false H) else none := (rfl)
theorem train_unlike_call (cap args : List CV) (H : Heap) : call ctx (.fn (.func 75) [] cap) args H = (snapL H false false (args ++ cap)).bind (train_unlike_F (CV.refs (args ++ cap)) H) := fz_call rfl (show ctx.info 75 = some train_unlike_I by kernel_rfl) cap args H
noncomputable def train_Fits_1_F (st : Bool) (H : Heap) (xs : List CV) : Option (CV × Heap) := fzE ctx false 2 train_Fits_1_C [.tmp 3] st H xs
theorem train_Fits_1_F_eq (st : Bool) (H : Heap) (xs : List CV) : train_Fits_1_F st H xs = if xs.length = 2 then (eval ctx train_Fits_1_C (enterC 0 xs) ⟨[], []⟩).bind (fzOut [.tmp 3] st false H) else none := (rfl)
theorem train_Fits_1_call (cap args : List CV) (H : Heap) : call ctx (.fn (.func 78) [] cap) args H = (snapL H false false (args ++ cap)).bind (train_Fits_1_F (CV.refs (args ++ cap)) H) := fz_call rfl (show ctx.info 78 = some train_Fits_1_I by kernel_rfl) cap args H
noncomputable def r04_Small_F (st : Bool) (H : Heap) (xs : List CV) : Option (CV × Heap) := fzE ctx false 1 r04_Small_C [.tmp 2] st H xs
theorem r04_Small_F_eq (st : Bool) (H : Heap) (xs : List CV) : r04_Small_F st H xs = if xs.length = 1 then (eval ctx r04_Small_C (enterC 0 xs) ⟨[], []⟩).bind (fzOut [.tmp 2] st false H) else none := (rfl)
theorem r04_Small_call (cap args : List CV) (H : Heap) : call ctx (.fn (.func 25) [] cap) args H = (snapL H false false (args ++ cap)).bind (r04_Small_F (CV.refs (args ++ cap)) H) := fz_call rfl (show ctx.info 25 = some r04_Small_I by kernel_rfl) cap args H
noncomputable def r05_Full_F (st : Bool) (H : Heap) (xs : List CV) : Option (CV × Heap) := fzE ctx false 1 r05_Full_C [.cell 2 true 10] st H xs
theorem r05_Full_F_eq (st : Bool) (H : Heap) (xs : List CV) : r05_Full_F st H xs = if xs.length = 1 then (eval ctx r05_Full_C (enterC 0 xs) ⟨[], []⟩).bind (fzOut [.cell 2 true 10] st false H) else none := (rfl)
theorem r05_Full_call (cap args : List CV) (H : Heap) : call ctx (.fn (.func 26) [] cap) args H = (snapL H false false (args ++ cap)).bind (r05_Full_F (CV.refs (args ++ cap)) H) := fz_call rfl (show ctx.info 26 = some r05_Full_I by kernel_rfl) cap args H
noncomputable def r04_Make_F (st : Bool) (H : Heap) (xs : List CV) : Option (CV × Heap) := fzE ctx true 1 r04_Make_C [.cell 2 true 10] st H xs
theorem r04_Make_F_eq (st : Bool) (H : Heap) (xs : List CV) : r04_Make_F st H xs = if xs.length = 1 then (eval ctx r04_Make_C (enterC 0 xs) ⟨[], []⟩).bind (fzOut [.cell 2 true 10] st true H) else none := (rfl)
theorem r04_Make_call (cap args : List CV) (H : Heap) : call ctx (.fn (.func 47) [] cap) args H = (snapL H false false (args ++ cap)).bind (r04_Make_F (CV.refs (args ++ cap)) H) := fz_call rfl (show ctx.info 47 = some r04_Make_I by kernel_rfl) cap args H
noncomputable def r05_Walk_F (st : Bool) (H : Heap) (xs : List CV) : Option (CV × Heap) := fzE ctx false 5 r05_Walk_C [.tmp 10] st H xs
theorem r05_Walk_F_eq (st : Bool) (H : Heap) (xs : List CV) : r05_Walk_F st H xs = if xs.length = 5 then (eval ctx r05_Walk_C (enterC 0 xs) ⟨[], []⟩).bind (fzOut [.tmp 10] st false H) else none := (rfl)
theorem r05_Walk_call (cap args : List CV) (H : Heap) : call ctx (.fn (.func 48) [] cap) args H = (snapL H false false (args ++ cap)).bind (r05_Walk_F (CV.refs (args ++ cap)) H) := fz_call rfl (show ctx.info 48 = some r05_Walk_I by kernel_rfl) cap args H
noncomputable def r01_Has_F (st : Bool) (H : Heap) (xs : List CV) : Option (CV × Heap) := fzE ctx false 2 r01_Has_C [.tmp 4] st H xs
theorem r01_Has_F_eq (st : Bool) (H : Heap) (xs : List CV) : r01_Has_F st H xs = if xs.length = 2 then (eval ctx r01_Has_C (enterC 0 xs) ⟨[], []⟩).bind (fzOut [.tmp 4] st false H) else none := (rfl)
theorem r01_Has_call (cap args : List CV) (H : Heap) : call ctx (.fn (.func 22) [] cap) args H = (snapL H false false (args ++ cap)).bind (r01_Has_F (CV.refs (args ++ cap)) H) := fz_call rfl (show ctx.info 22 = some r01_Has_I by kernel_rfl) cap args H
noncomputable def r01_Ints_F (st : Bool) (H : Heap) (xs : List CV) : Option (CV × Heap) := fzE ctx false 2 r01_Ints_C [.tmp 4] st H xs
theorem r01_Ints_F_eq (st : Bool) (H : Heap) (xs : List CV) : r01_Ints_F st H xs = if xs.length = 2 then (eval ctx r01_Ints_C (enterC 0 xs) ⟨[], []⟩).bind (fzOut [.tmp 4] st false H) else none := (rfl)
theorem r01_Ints_call (cap args : List CV) (H : Heap) : call ctx (.fn (.func 36) [] cap) args H = (snapL H false false (args ++ cap)).bind (r01_Ints_F (CV.refs (args ++ cap)) H) := fz_call rfl (show ctx.info 36 = some r01_Ints_I by kernel_rfl) cap args H
noncomputable def graph_New_F (st : Bool) (H : Heap) (xs : List CV) : Option (CV × Heap) := fzE ctx false 1 graph_New_C [.tmp 2] st H xs
theorem graph_New_F_eq (st : Bool) (H : Heap) (xs : List CV) : graph_New_F st H xs = if xs.length = 1 then (eval ctx graph_New_C (enterC 0 xs) ⟨[], []⟩).bind (fzOut [.tmp 2] st false H) else none := (rfl)
theorem graph_New_call (cap args : List CV) (H : Heap) : call ctx (.fn (.func 41) [] cap) args H = (snapL H false false (args ++ cap)).bind (graph_New_F (CV.refs (args ++ cap)) H) := fz_call rfl (show ctx.info 41 = some graph_New_I by kernel_rfl) cap args H
noncomputable def graph_Graph_Len_F (st : Bool) (H : Heap) (xs : List CV) : Option (CV × Heap) := fzE ctx false 2 graph_Graph_Len_C [.tmp 4] st H xs
theorem graph_Graph_Len_F_eq (st : Bool) (H : Heap) (xs : List CV) : graph_Graph_Len_F st H xs = if xs.length = 2 then (eval ctx graph_Graph_Len_C (enterC 0 xs) ⟨[], []⟩).bind (fzOut [.tmp 4] st false H) else none := (rfl)
theorem graph_Graph_Len_call (cap args : List CV) (H : Heap) : call ctx (.fn (.func 67) [] cap) args H = (snapL H false false (args ++ cap)).bind (graph_Graph_Len_F (CV.refs (args ++ cap)) H) := fz_call rfl (show ctx.info 67 = some graph_Graph_Len_I by kernel_rfl) cap args H
noncomputable def slices_Contains_int_F (st : Bool) (H : Heap) (xs : List CV) : Option (CV × Heap) := fzE ctx false 2 slices_Contains_int_C [.tmp 4] st H xs
theorem slices_Contains_int_F_eq (st : Bool) (H : Heap) (xs : List CV) : slices_Contains_int_F st H xs = if xs.length = 2 then (eval ctx slices_Contains_int_C (enterC 0 xs) ⟨[], []⟩).bind (fzOut [.tmp 4] st false H) else none := (rfl)
theorem slices_Contains_int_call (cap args : List CV) (H : Heap) : call ctx (.fn (.func 59) [] cap) args H = (snapL H false false (args ++ cap)).bind (slices_Contains_int_F (CV.refs (args ++ cap)) H) := fz_call rfl (show ctx.info 59 = some slices_Contains_int_I by kernel_rfl) cap args H
noncomputable def r05_Len_F (st : Bool) (H : Heap) (xs : List CV) : Option (CV × Heap) := fzE ctx false 2 r05_Len_C [.tmp 4] st H xs
theorem r05_Len_F_eq (st : Bool) (H : Heap) (xs : List CV) : r05_Len_F st H xs = if xs.length = 2 then (eval ctx r05_Len_C (enterC 0 xs) ⟨[], []⟩).bind (fzOut [.tmp 4] st false H) else none := (rfl)
theorem r05_Len_call (cap args : List CV) (H : Heap) : call ctx (.fn (.func 49) [] cap) args H = (snapL H false false (args ++ cap)).bind (r05_Len_F (CV.refs (args ++ cap)) H) := fz_call rfl (show ctx.info 49 = some r05_Len_I by kernel_rfl) cap args H
noncomputable def r05_Around_F (st : Bool) (H : Heap) (xs : List CV) : Option (CV × Heap) := fzE ctx false 2 r05_Around_C [.tmp 4] st H xs
theorem r05_Around_F_eq (st : Bool) (H : Heap) (xs : List CV) : r05_Around_F st H xs = if xs.length = 2 then (eval ctx r05_Around_C (enterC 0 xs) ⟨[], []⟩).bind (fzOut [.tmp 4] st false H) else none := (rfl)
theorem r05_Around_call (cap args : List CV) (H : Heap) : call ctx (.fn (.func 79) [] cap) args H = (snapL H false false (args ++ cap)).bind (r05_Around_F (CV.refs (args ++ cap)) H) := fz_call rfl (show ctx.info 79 = some r05_Around_I by kernel_rfl) cap args H
noncomputable def graph_Graph_section_F (st : Bool) (H : Heap) (xs : List CV) : Option (CV × Heap) := fzE ctx false 2 graph_Graph_section_C [.cell 4 true 3, .tmp 5] st H xs
theorem graph_Graph_section_F_eq (st : Bool) (H : Heap) (xs : List CV) : graph_Graph_section_F st H xs = if xs.length = 2 then (eval ctx graph_Graph_section_C (enterC 0 xs) ⟨[], []⟩).bind (fzOut [.cell 4 true 3, .tmp 5] st false H) else none := (rfl)
theorem graph_Graph_section_call (cap args : List CV) (H : Heap) : call ctx (.fn (.func 90) [] cap) args H = (snapL H false false (args ++ cap)).bind (graph_Graph_section_F (CV.refs (args ++ cap)) H) := fz_call rfl (show ctx.info 90 = some graph_Graph_section_I by kernel_rfl) cap args H
noncomputable def graph_Graph_Around_F (st : Bool) (H : Heap) (xs : List CV) : Option (CV × Heap) := fzE ctx false 2 graph_Graph_Around_C [.tmp 4] st H xs
theorem graph_Graph_Around_F_eq (st : Bool) (H : Heap) (xs : List CV) : graph_Graph_Around_F st H xs = if xs.length = 2 then (eval ctx graph_Graph_Around_C (enterC 0 xs) ⟨[], []⟩).bind (fzOut [.tmp 4] st false H) else none := (rfl)
theorem graph_Graph_Around_call (cap args : List CV) (H : Heap) : call ctx (.fn (.func 76) [] cap) args H = (snapL H false false (args ++ cap)).bind (graph_Graph_Around_F (CV.refs (args ++ cap)) H) := fz_call rfl (show ctx.info 76 = some graph_Graph_Around_I by kernel_rfl) cap args H
noncomputable def slices_IndexFunc_End_F (st : Bool) (H : Heap) (xs : List CV) : Option (CV × Heap) := fzE ctx false 2 slices_IndexFunc_End_C [.tmp 4] st H xs
theorem slices_IndexFunc_End_F_eq (st : Bool) (H : Heap) (xs : List CV) : slices_IndexFunc_End_F st H xs = if xs.length = 2 then (eval ctx slices_IndexFunc_End_C (enterC 0 xs) ⟨[], []⟩).bind (fzOut [.tmp 4] st false H) else none := (rfl)
theorem slices_IndexFunc_End_call (cap args : List CV) (H : Heap) : call ctx (.fn (.func 77) [] cap) args H = (snapL H false false (args ++ cap)).bind (slices_IndexFunc_End_F (CV.refs (args ++ cap)) H) := fz_call rfl (show ctx.info 77 = some slices_IndexFunc_End_I by kernel_rfl) cap args H
noncomputable def slices_Index_int_F (st : Bool) (H : Heap) (xs : List CV) : Option (CV × Heap) := fzE ctx false 2 slices_Index_int_C [.tmp 4] st H xs
theorem slices_Index_int_F_eq (st : Bool) (H : Heap) (xs : List CV) : slices_Index_int_F st H xs = if xs.length = 2 then (eval ctx slices_Index_int_C (enterC 0 xs) ⟨[], []⟩).bind (fzOut [.tmp 4] st false H) else none := (rfl)
theorem slices_Index_int_call (cap args : List CV) (H : Heap) : call ctx (.fn (.func 85) [] cap) args H = (snapL H false false (args ++ cap)).bind (slices_Index_int_F (CV.refs (args ++ cap)) H) := fz_call rfl (show ctx.info 85 = some slices_Index_int_I by kernel_rfl) cap args H
noncomputable def r05_node_F (st : Bool) (H : Heap) (xs : List CV) : Option (CV × Heap) := fzE ctx false 2 r05_node_C [.tmp 4, .tmp 5] st H xs
theorem r05_node_F_eq (st : Bool) (H : Heap) (xs : List CV) : r05_node_F st H xs = if xs.length = 2 then (eval ctx r05_node_C (enterC 0 xs) ⟨[], []⟩).bind (fzOut [.tmp 4, .tmp 5] st false H) else none := (rfl)
theorem r05_node_call (cap args : List CV) (H : Heap) : call ctx (.fn (.func 101) [] cap) args H = (snapL H false false (args ++ cap)).bind (r05_node_F (CV.refs (args ++ cap)) H) := fz_call rfl (show ctx.info 101 = some r05_node_I by kernel_rfl) cap args H
noncomputable def r05_Point_F (st : Bool) (H : Heap) (xs : List CV) : Option (CV × Heap) := fzE ctx false 2 r05_Point_C [.tmp 4] st H xs
theorem r05_Point_F_eq (st : Bool) (H : Heap) (xs : List CV) : r05_Point_F st H xs = if xs.length = 2 then (eval ctx r05_Point_C (enterC 0 xs) ⟨[], []⟩).bind (fzOut [.tmp 4] st false H) else none := (rfl)
theorem r05_Point_call (cap args : List CV) (H : Heap) : call ctx (.fn (.func 102) [] cap) args H = (snapL H false false (args ++ cap)).bind (r05_Point_F (CV.refs (args ++ cap)) H) := fz_call rfl (show ctx.info 102 = some r05_Point_I by kernel_rfl) cap args H
noncomputable def r05_one_F (st : Bool) (H : Heap) (xs : List CV) : Option (CV × Heap) := fzE ctx false 3 r05_one_C [.tmp 6] st H xs
theorem r05_one_F_eq (st : Bool) (H : Heap) (xs : List CV) : r05_one_F st H xs = if xs.length = 3 then (eval ctx r05_one_C (enterC 0 xs) ⟨[], []⟩).bind (fzOut [.tmp 6] st false H) else none := (rfl)
theorem r05_one_call (cap args : List CV) (H : Heap) : call ctx (.fn (.func 103) [] cap) args H = (snapL H false false (args ++ cap)).bind (r05_one_F (CV.refs (args ++ cap)) H) := fz_call rfl (show ctx.info 103 = some r05_one_I by kernel_rfl) cap args H
noncomputable def r05_Ends_F (st : Bool) (H : Heap) (xs : List CV) : Option (CV × Heap) := fzE ctx false 2 r05_Ends_C [.tmp 4] st H xs
theorem r05_Ends_F_eq (st : Bool) (H : Heap) (xs : List CV) : r05_Ends_F st H xs = if xs.length = 2 then (eval ctx r05_Ends_C (enterC 0 xs) ⟨[], []⟩).bind (fzOut [.tmp 4] st false H) else none := (rfl)
theorem r05_Ends_call (cap args : List CV) (H : Heap) : call ctx (.fn (.func 104) [] cap) args H = (snapL H false false (args ++ cap)).bind (r05_Ends_F (CV.refs (args ++ cap)) H) := fz_call rfl (show ctx.info 104 = some r05_Ends_I by kernel_rfl) cap args H
noncomputable def graph_Graph_node_F (st : Bool) (H : Heap) (xs : List CV) : Option (CV × Heap) := fzE ctx false 2 graph_Graph_node_C [.tmp 4, .tmp 5] st H xs
theorem graph_Graph_node_F_eq (st : Bool) (H : Heap) (xs : List CV) : graph_Graph_node_F st H xs = if xs.length = 2 then (eval ctx graph_Graph_node_C (enterC 0 xs) ⟨[], []⟩).bind (fzOut [.tmp 4, .tmp 5] st false H) else none := (rfl)
theorem graph_Graph_node_call (cap args : List CV) (H : Heap) : call ctx (.fn (.func 94) [] cap) args H = (snapL H false false (args ++ cap)).bind (graph_Graph_node_F (CV.refs (args ++ cap)) H) := fz_call rfl (show ctx.info 94 = some graph_Graph_node_I by kernel_rfl) cap args H
noncomputable def graph_Graph_Point_F (st : Bool) (H : Heap) (xs : List CV) : Option (CV × Heap) := fzE ctx false 2 graph_Graph_Point_C [.tmp 4] st H xs
theorem graph_Graph_Point_F_eq (st : Bool) (H : Heap) (xs : List CV) : graph_Graph_Point_F st H xs = if xs.length = 2 then (eval ctx graph_Graph_Point_C (enterC 0 xs) ⟨[], []⟩).bind (fzOut [.tmp 4] st false H) else none := (rfl)
theorem graph_Graph_Point_call (cap args : List CV) (H : Heap) : call ctx (.fn (.func 95) [] cap) args H = (snapL H false false (args ++ cap)).bind (graph_Graph_Point_F (CV.refs (args ++ cap)) H) := fz_call rfl (show ctx.info 95 = some graph_Graph_Point_I by kernel_rfl) cap args H
noncomputable def slices_DeleteFunc_End_F (bx : List (Nat × List CV)) (bl : List Blk) (xs : List CV) : Option (CV × Heap) := if xs.length = 2 then (eval ctx slices_DeleteFunc_End_C (enterC 0 xs) ⟨[], bl⟩).bind (refOut [.tmp 4] bx) else none
theorem slices_DeleteFunc_End_F_eq (bx : List (Nat × List CV)) (bl : List Blk) (xs : List CV) : slices_DeleteFunc_End_F bx bl xs = if xs.length = 2 then (eval ctx slices_DeleteFunc_End_C (enterC 0 xs) ⟨[], bl⟩).bind (refOut [.tmp 4] bx) else none := (rfl)
theorem slices_DeleteFunc_End_call (cap args : List CV) (bx : List (Nat × List CV)) (bl : List Blk) : call ctx (.fn (.func 96) [] cap) args ⟨bx, bl⟩ = if CV.locs (args ++ cap) then none else slices_DeleteFunc_End_F bx bl (args ++ cap) := ref_call rfl (show ctx.info 96 = some slices_DeleteFunc_End_I by kernel_rfl) cap args bx bl
noncomputable def graph_Graph_Ends_F (st : Bool) (H : Heap) (xs : List CV) : Option (CV × Heap) := oE ctx 2 graph_Graph_Ends_C [.tmp 4] st H xs
theorem graph_Graph_Ends_F_eq (st : Bool) (H : Heap) (xs : List CV) : graph_Graph_Ends_F st H xs = if xs.length = 2 then (eval ctx graph_Graph_Ends_C (enterC 0 xs) ⟨[], []⟩).bind (ownOut [.tmp 4] st H) else none := (rfl)
theorem graph_Graph_Ends_call (cap args : List CV) (H : Heap) : call ctx (.fn (.func 97) [] cap) args H = (snapL H false false (args ++ cap)).bind (graph_Graph_Ends_F (CV.refs (args ++ cap)) H) := own_call rfl (show ctx.info 97 = some graph_Graph_Ends_I by kernel_rfl) cap args H
noncomputable def graph_Graph_Around_1_F (st : Bool) (H : Heap) (xs : List CV) : Option (CV × Heap) := fzE ctx false 2 graph_Graph_Around_1_C [.tmp 3] st H xs
theorem graph_Graph_Around_1_F_eq (st : Bool) (H : Heap) (xs : List CV) : graph_Graph_Around_1_F st H xs = if xs.length = 2 then (eval ctx graph_Graph_Around_1_C (enterC 0 xs) ⟨[], []⟩).bind (fzOut [.tmp 3] st false H) else none := (rfl)
theorem graph_Graph_Around_1_call (cap args : List CV) (H : Heap) : call ctx (.fn (.func 98) [] cap) args H = (snapL H false false (args ++ cap)).bind (graph_Graph_Around_1_F (CV.refs (args ++ cap)) H) := fz_call rfl (show ctx.info 98 = some graph_Graph_Around_1_I by kernel_rfl) cap args H
noncomputable def slices_Concat_End_F (st : Bool) (H : Heap) (xs : List CV) : Option (CV × Heap) := fzE ctx false 1 slices_Concat_End_C [.tmp 2] st H xs
theorem slices_Concat_End_F_eq (st : Bool) (H : Heap) (xs : List CV) : slices_Concat_End_F st H xs = if xs.length = 1 then (eval ctx slices_Concat_End_C (enterC 0 xs) ⟨[], []⟩).bind (fzOut [.tmp 2] st false H) else none := (rfl)
theorem slices_Concat_End_call (cap args : List CV) (H : Heap) : call ctx (.fn (.func 99) [] cap) args H = (snapL H false false (args ++ cap)).bind (slices_Concat_End_F (CV.refs (args ++ cap)) H) := fz_call rfl (show ctx.info 99 = some slices_Concat_End_I by kernel_rfl) cap args H
noncomputable def graph_Graph_at_F (st : Bool) (H : Heap) (xs : List CV) : Option (CV × Heap) := fzE ctx false 3 graph_Graph_at_C [.tmp 6] st H xs
theorem graph_Graph_at_F_eq (st : Bool) (H : Heap) (xs : List CV) : graph_Graph_at_F st H xs = if xs.length = 3 then (eval ctx graph_Graph_at_C (enterC 0 xs) ⟨[], []⟩).bind (fzOut [.tmp 6] st false H) else none := (rfl)
theorem graph_Graph_at_call (cap args : List CV) (H : Heap) : call ctx (.fn (.func 100) [] cap) args H = (snapL H false false (args ++ cap)).bind (graph_Graph_at_F (CV.refs (args ++ cap)) H) := fz_call rfl (show ctx.info 100 = some graph_Graph_at_I by kernel_rfl) cap args H
noncomputable def slices_IndexFunc_Point_F (st : Bool) (H : Heap) (xs : List CV) : Option (CV × Heap) := fzE ctx false 2 slices_IndexFunc_Point_C [.tmp 4] st H xs
theorem slices_IndexFunc_Point_F_eq (st : Bool) (H : Heap) (xs : List CV) : slices_IndexFunc_Point_F st H xs = if xs.length = 2 then (eval ctx slices_IndexFunc_Point_C (enterC 0 xs) ⟨[], []⟩).bind (fzOut [.tmp 4] st false H) else none := (rfl)
theorem slices_IndexFunc_Point_call (cap args : List CV) (H : Heap) : call ctx (.fn (.func 112) [] cap) args H = (snapL H false false (args ++ cap)).bind (slices_IndexFunc_Point_F (CV.refs (args ++ cap)) H) := fz_call rfl (show ctx.info 112 = some slices_IndexFunc_Point_I by kernel_rfl) cap args H
noncomputable def graph_Graph_Point_1_F (st : Bool) (H : Heap) (xs : List CV) : Option (CV × Heap) := fzE ctx false 2 graph_Graph_Point_1_C [.tmp 3] st H xs
theorem graph_Graph_Point_1_F_eq (st : Bool) (H : Heap) (xs : List CV) : graph_Graph_Point_1_F st H xs = if xs.length = 2 then (eval ctx graph_Graph_Point_1_C (enterC 0 xs) ⟨[], []⟩).bind (fzOut [.tmp 3] st false H) else none := (rfl)
theorem graph_Graph_Point_1_call (cap args : List CV) (H : Heap) : call ctx (.fn (.func 113) [] cap) args H = (snapL H false false (args ++ cap)).bind (graph_Graph_Point_1_F (CV.refs (args ++ cap)) H) := fz_call rfl (show ctx.info 113 = some graph_Graph_Point_1_I by kernel_rfl) cap args H
noncomputable def slices_Grow_End_F (bx : List (Nat × List CV)) (bl : List Blk) (xs : List CV) : Option (CV × Heap) := if xs.length = 2 then (eval ctx slices_Grow_End_C (enterC 0 xs) ⟨[], bl⟩).bind (refOut [.tmp 4] bx) else none
theorem slices_Grow_End_F_eq (bx : List (Nat × List CV)) (bl : List Blk) (xs : List CV) : slices_Grow_End_F bx bl xs = if xs.length = 2 then (eval ctx slices_Grow_End_C (enterC 0 xs) ⟨[], bl⟩).bind (refOut [.tmp 4] bx) else none := (rfl)
theorem slices_Grow_End_call (cap args : List CV) (bx : List (Nat × List CV)) (bl : List Blk) : call ctx (.fn (.func 114) [] cap) args ⟨bx, bl⟩ = if CV.locs (args ++ cap) then none else slices_Grow_End_F bx bl (args ++ cap) := ref_call rfl (show ctx.info 114 = some slices_Grow_End_I by kernel_rfl) cap args bx bl
noncomputable def l20_JudgeStill_R0 (x : Env × Heap) : Out := intoE ctx 0 [1, 2, 3, 4, 11, 12, 13] [1, 2, 3, 4, 11, 12] l20_JudgeStill_B0 x
noncomputable def l20_JudgeStill_K0 (x : Ex × Env × Heap) : Out := roundE ctx 0 [1, 2, 3, 4, 11, 12, 13] [1, 2, 3, 4, 11, 12] l20_JudgeStill_B0 x
theorem l20_JudgeStill_L0_eq (env : Env) (H : Heap) : eval ctx l20_JudgeStill_L0 env H = (keepE [1, 2, 3, 4, 11, 12, 13] env H).bind l20_JudgeStill_R0 := eval_bloop' ctx env H 0 [1, 2, 3, 4, 11, 12, 13] [1, 2, 3, 4, 11, 12] l20_JudgeStill_B0
theorem l20_JudgeStill_R0_eq (env : Env) (H : Heap) : l20_JudgeStill_R0 (env, H) = (eval ctx l20_JudgeStill_B0 env H).bind l20_JudgeStill_K0 := (rfl)
theorem l20_JudgeStill_K0_norm (env : Env) (H : Heap) : l20_JudgeStill_K0 (.norm, env, H) = (keepE [1, 2, 3, 4, 11, 12, 13] env H).bind l20_JudgeStill_R0 := l20_JudgeStill_L0_eq env H
theorem l20_JudgeStill_K0_ret (env : Env) (H : Heap) : l20_JudgeStill_K0 (.ret, env, H) = some (.ret, env, H) := (rfl)
theorem l20_JudgeStill_K0_exit (k : Nat) (env : Env) (H : Heap) : l20_JudgeStill_K0 (.exit k, env, H) = if k = 0 then (keepE [1, 2, 3, 4, 11, 12] env H).map normE else some (.exit k, env, H) := (rfl)
noncomputable def judge_Safe_R0 (x : Env × Heap) : Out := intoE ctx 0 [0, 7, 8, 9] [] judge_Safe_B0 x
noncomputable def judge_Safe_K0 (x : Ex × Env × Heap) : Out := roundE ctx 0 [0, 7, 8, 9] [] judge_Safe_B0 x
theorem judge_Safe_L0_eq (env : Env) (H : Heap) : eval ctx judge_Safe_L0 env H = (keepE [0, 7, 8, 9] env H).bind judge_Safe_R0 := eval_bloop' ctx env H 0 [0, 7, 8, 9] [] judge_Safe_B0
theorem judge_Safe_R0_eq (env : Env) (H : Heap) : judge_Safe_R0 (env, H) = (eval ctx judge_Safe_B0 env H).bind judge_Safe_K0 := (rfl)
theorem judge_Safe_K0_norm (env : Env) (H : Heap) : judge_Safe_K0 (.norm, env, H) = (keepE [0, 7, 8, 9] env H).bind judge_Safe_R0 := judge_Safe_L0_eq env H
theorem judge_Safe_K0_ret (env : Env) (H : Heap) : judge_Safe_K0 (.ret, env, H) = some (.ret, env, H) := (rfl)
theorem judge_Safe_K0_exit (k : Nat) (env : Env) (H : Heap) : judge_Safe_K0 (.exit k, env, H) = if k = 0 then (keepE [] env H).map normE else some (.exit k, env, H) := (rfl)
noncomputable def judge_Still_R0 (x : Env × Heap) : Out := intoE ctx 0 [1, 2, 3, 4, 15, 16, 17] [] judge_Still_B0 x
noncomputable def judge_Still_K0 (x : Ex × Env × Heap) : Out := roundE ctx 0 [1, 2, 3, 4, 15, 16, 17] [] judge_Still_B0 x
theorem judge_Still_L0_eq (env : Env) (H : Heap) : eval ctx judge_Still_L0 env H = (keepE [1, 2, 3, 4, 15, 16, 17] env H).bind judge_Still_R0 := eval_bloop' ctx env H 0 [1, 2, 3, 4, 15, 16, 17] [] judge_Still_B0
theorem judge_Still_R0_eq (env : Env) (H : Heap) : judge_Still_R0 (env, H) = (eval ctx judge_Still_B0 env H).bind judge_Still_K0 := (rfl)
theorem judge_Still_K0_norm (env : Env) (H : Heap) : judge_Still_K0 (.norm, env, H) = (keepE [1, 2, 3, 4, 15, 16, 17] env H).bind judge_Still_R0 := judge_Still_L0_eq env H
theorem judge_Still_K0_ret (env : Env) (H : Heap) : judge_Still_K0 (.ret, env, H) = some (.ret, env, H) := (rfl)
theorem judge_Still_K0_exit (k : Nat) (env : Env) (H : Heap) : judge_Still_K0 (.exit k, env, H) = if k = 0 then (keepE [] env H).map normE else some (.exit k, env, H) := (rfl)
noncomputable def world_World_Under_R0 (x : Env × Heap) : Out := intoE ctx 0 [6, 21, 22, 23] [6] world_World_Under_B0 x
noncomputable def world_World_Under_K0 (x : Ex × Env × Heap) : Out := roundE ctx 0 [6, 21, 22, 23] [6] world_World_Under_B0 x
theorem world_World_Under_L0_eq (env : Env) (H : Heap) : eval ctx world_World_Under_L0 env H = (keepE [6, 21, 22, 23] env H).bind world_World_Under_R0 := eval_bloop' ctx env H 0 [6, 21, 22, 23] [6] world_World_Under_B0
theorem world_World_Under_R0_eq (env : Env) (H : Heap) : world_World_Under_R0 (env, H) = (eval ctx world_World_Under_B0 env H).bind world_World_Under_K0 := (rfl)
theorem world_World_Under_K0_norm (env : Env) (H : Heap) : world_World_Under_K0 (.norm, env, H) = (keepE [6, 21, 22, 23] env H).bind world_World_Under_R0 := world_World_Under_L0_eq env H
theorem world_World_Under_K0_ret (env : Env) (H : Heap) : world_World_Under_K0 (.ret, env, H) = some (.ret, env, H) := (rfl)
theorem world_World_Under_K0_exit (k : Nat) (env : Env) (H : Heap) : world_World_Under_K0 (.exit k, env, H) = if k = 0 then (keepE [6] env H).map normE else some (.exit k, env, H) := (rfl)
noncomputable def world_World_under_R0 (x : Env × Heap) : Out := intoE ctx 0 [0, 1, 5, 6] [5] world_World_under_B0 x
noncomputable def world_World_under_K0 (x : Ex × Env × Heap) : Out := roundE ctx 0 [0, 1, 5, 6] [5] world_World_under_B0 x
theorem world_World_under_L0_eq (env : Env) (H : Heap) : eval ctx world_World_under_L0 env H = (keepE [0, 1, 5, 6] env H).bind world_World_under_R0 := eval_bloop' ctx env H 0 [0, 1, 5, 6] [5] world_World_under_B0
theorem world_World_under_R0_eq (env : Env) (H : Heap) : world_World_under_R0 (env, H) = (eval ctx world_World_under_B0 env H).bind world_World_under_K0 := (rfl)
theorem world_World_under_K0_norm (env : Env) (H : Heap) : world_World_under_K0 (.norm, env, H) = (keepE [0, 1, 5, 6] env H).bind world_World_under_R0 := world_World_under_L0_eq env H
theorem world_World_under_K0_ret (env : Env) (H : Heap) : world_World_under_K0 (.ret, env, H) = some (.ret, env, H) := (rfl)
theorem world_World_under_K0_exit (k : Nat) (env : Env) (H : Heap) : world_World_under_K0 (.exit k, env, H) = if k = 0 then (keepE [5] env H).map normE else some (.exit k, env, H) := (rfl)
noncomputable def world_World_room_R0 (x : Env × Heap) : Out := intoE ctx 0 [0, 7, 12, 13, 14] [7] world_World_room_B0 x
noncomputable def world_World_room_K0 (x : Ex × Env × Heap) : Out := roundE ctx 0 [0, 7, 12, 13, 14] [7] world_World_room_B0 x
theorem world_World_room_L0_eq (env : Env) (H : Heap) : eval ctx world_World_room_L0 env H = (keepE [0, 7, 12, 13, 14] env H).bind world_World_room_R0 := eval_bloop' ctx env H 0 [0, 7, 12, 13, 14] [7] world_World_room_B0
theorem world_World_room_R0_eq (env : Env) (H : Heap) : world_World_room_R0 (env, H) = (eval ctx world_World_room_B0 env H).bind world_World_room_K0 := (rfl)
theorem world_World_room_K0_norm (env : Env) (H : Heap) : world_World_room_K0 (.norm, env, H) = (keepE [0, 7, 12, 13, 14] env H).bind world_World_room_R0 := world_World_room_L0_eq env H
theorem world_World_room_K0_ret (env : Env) (H : Heap) : world_World_room_K0 (.ret, env, H) = some (.ret, env, H) := (rfl)
theorem world_World_room_K0_exit (k : Nat) (env : Env) (H : Heap) : world_World_room_K0 (.exit k, env, H) = if k = 0 then (keepE [7] env H).map normE else some (.exit k, env, H) := (rfl)
noncomputable def world_World_way_R2 (x : Env × Heap) : Out := intoE ctx 2 [0, 7, 9, 20, 21, 22, 47, 48, 49] [0, 7, 20, 21, 22] world_World_way_B2 x
noncomputable def world_World_way_K2 (x : Ex × Env × Heap) : Out := roundE ctx 2 [0, 7, 9, 20, 21, 22, 47, 48, 49] [0, 7, 20, 21, 22] world_World_way_B2 x
theorem world_World_way_L2_eq (env : Env) (H : Heap) : eval ctx world_World_way_L2 env H = (keepE [0, 7, 9, 20, 21, 22, 47, 48, 49] env H).bind world_World_way_R2 := eval_bloop' ctx env H 2 [0, 7, 9, 20, 21, 22, 47, 48, 49] [0, 7, 20, 21, 22] world_World_way_B2
theorem world_World_way_R2_eq (env : Env) (H : Heap) : world_World_way_R2 (env, H) = (eval ctx world_World_way_B2 env H).bind world_World_way_K2 := (rfl)
theorem world_World_way_K2_norm (env : Env) (H : Heap) : world_World_way_K2 (.norm, env, H) = (keepE [0, 7, 9, 20, 21, 22, 47, 48, 49] env H).bind world_World_way_R2 := world_World_way_L2_eq env H
theorem world_World_way_K2_ret (env : Env) (H : Heap) : world_World_way_K2 (.ret, env, H) = some (.ret, env, H) := (rfl)
theorem world_World_way_K2_exit (k : Nat) (env : Env) (H : Heap) : world_World_way_K2 (.exit k, env, H) = if k = 2 then (keepE [0, 7, 20, 21, 22] env H).map normE else some (.exit k, env, H) := (rfl)
noncomputable def world_World_way_R0 (x : Env × Heap) : Out := intoE ctx 0 [0, 7, 20, 21, 22] [7] world_World_way_B0 x
noncomputable def world_World_way_K0 (x : Ex × Env × Heap) : Out := roundE ctx 0 [0, 7, 20, 21, 22] [7] world_World_way_B0 x
theorem world_World_way_L0_eq (env : Env) (H : Heap) : eval ctx world_World_way_L0 env H = (keepE [0, 7, 20, 21, 22] env H).bind world_World_way_R0 := eval_bloop' ctx env H 0 [0, 7, 20, 21, 22] [7] world_World_way_B0
theorem world_World_way_R0_eq (env : Env) (H : Heap) : world_World_way_R0 (env, H) = (eval ctx world_World_way_B0 env H).bind world_World_way_K0 := (rfl)
theorem world_World_way_K0_norm (env : Env) (H : Heap) : world_World_way_K0 (.norm, env, H) = (keepE [0, 7, 20, 21, 22] env H).bind world_World_way_R0 := world_World_way_L0_eq env H
theorem world_World_way_K0_ret (env : Env) (H : Heap) : world_World_way_K0 (.ret, env, H) = some (.ret, env, H) := (rfl)
theorem world_World_way_K0_exit (k : Nat) (env : Env) (H : Heap) : world_World_way_K0 (.exit k, env, H) = if k = 0 then (keepE [7] env H).map normE else some (.exit k, env, H) := (rfl)
noncomputable def slices_IndexFunc_Int_R0 (x : Env × Heap) : Out := intoE ctx 0 [0, 1, 7, 8] [] slices_IndexFunc_Int_B0 x
noncomputable def slices_IndexFunc_Int_K0 (x : Ex × Env × Heap) : Out := roundE ctx 0 [0, 1, 7, 8] [] slices_IndexFunc_Int_B0 x
theorem slices_IndexFunc_Int_L0_eq (env : Env) (H : Heap) : eval ctx slices_IndexFunc_Int_L0 env H = (keepE [0, 1, 7, 8] env H).bind slices_IndexFunc_Int_R0 := eval_bloop' ctx env H 0 [0, 1, 7, 8] [] slices_IndexFunc_Int_B0
theorem slices_IndexFunc_Int_R0_eq (env : Env) (H : Heap) : slices_IndexFunc_Int_R0 (env, H) = (eval ctx slices_IndexFunc_Int_B0 env H).bind slices_IndexFunc_Int_K0 := (rfl)
theorem slices_IndexFunc_Int_K0_norm (env : Env) (H : Heap) : slices_IndexFunc_Int_K0 (.norm, env, H) = (keepE [0, 1, 7, 8] env H).bind slices_IndexFunc_Int_R0 := slices_IndexFunc_Int_L0_eq env H
theorem slices_IndexFunc_Int_K0_ret (env : Env) (H : Heap) : slices_IndexFunc_Int_K0 (.ret, env, H) = some (.ret, env, H) := (rfl)
theorem slices_IndexFunc_Int_K0_exit (k : Nat) (env : Env) (H : Heap) : slices_IndexFunc_Int_K0 (.exit k, env, H) = if k = 0 then (keepE [] env H).map normE else some (.exit k, env, H) := (rfl)
noncomputable def train_Fits_R0 (x : Env × Heap) : Out := intoE ctx 0 [0, 6, 60, 61, 62] [] train_Fits_B0 x
noncomputable def train_Fits_K0 (x : Ex × Env × Heap) : Out := roundE ctx 0 [0, 6, 60, 61, 62] [] train_Fits_B0 x
theorem train_Fits_L0_eq (env : Env) (H : Heap) : eval ctx train_Fits_L0 env H = (keepE [0, 6, 60, 61, 62] env H).bind train_Fits_R0 := eval_bloop' ctx env H 0 [0, 6, 60, 61, 62] [] train_Fits_B0
theorem train_Fits_R0_eq (env : Env) (H : Heap) : train_Fits_R0 (env, H) = (eval ctx train_Fits_B0 env H).bind train_Fits_K0 := (rfl)
theorem train_Fits_K0_norm (env : Env) (H : Heap) : train_Fits_K0 (.norm, env, H) = (keepE [0, 6, 60, 61, 62] env H).bind train_Fits_R0 := train_Fits_L0_eq env H
theorem train_Fits_K0_ret (env : Env) (H : Heap) : train_Fits_K0 (.ret, env, H) = some (.ret, env, H) := (rfl)
theorem train_Fits_K0_exit (k : Nat) (env : Env) (H : Heap) : train_Fits_K0 (.exit k, env, H) = if k = 0 then (keepE [] env H).map normE else some (.exit k, env, H) := (rfl)
noncomputable def train_unlike_R0 (x : Env × Heap) : Out := intoE ctx 0 [0, 1, 7, 8, 9] [] train_unlike_B0 x
noncomputable def train_unlike_K0 (x : Ex × Env × Heap) : Out := roundE ctx 0 [0, 1, 7, 8, 9] [] train_unlike_B0 x
theorem train_unlike_L0_eq (env : Env) (H : Heap) : eval ctx train_unlike_L0 env H = (keepE [0, 1, 7, 8, 9] env H).bind train_unlike_R0 := eval_bloop' ctx env H 0 [0, 1, 7, 8, 9] [] train_unlike_B0
theorem train_unlike_R0_eq (env : Env) (H : Heap) : train_unlike_R0 (env, H) = (eval ctx train_unlike_B0 env H).bind train_unlike_K0 := (rfl)
theorem train_unlike_K0_norm (env : Env) (H : Heap) : train_unlike_K0 (.norm, env, H) = (keepE [0, 1, 7, 8, 9] env H).bind train_unlike_R0 := train_unlike_L0_eq env H
theorem train_unlike_K0_ret (env : Env) (H : Heap) : train_unlike_K0 (.ret, env, H) = some (.ret, env, H) := (rfl)
theorem train_unlike_K0_exit (k : Nat) (env : Env) (H : Heap) : train_unlike_K0 (.exit k, env, H) = if k = 0 then (keepE [] env H).map normE else some (.exit k, env, H) := (rfl)
noncomputable def r04_Small_R0 (x : Env × Heap) : Out := intoE ctx 0 [1, 3] [1] r04_Small_B0 x
noncomputable def r04_Small_K0 (x : Ex × Env × Heap) : Out := roundE ctx 0 [1, 3] [1] r04_Small_B0 x
theorem r04_Small_L0_eq (env : Env) (H : Heap) : eval ctx r04_Small_L0 env H = (keepE [1, 3] env H).bind r04_Small_R0 := eval_bloop' ctx env H 0 [1, 3] [1] r04_Small_B0
theorem r04_Small_R0_eq (env : Env) (H : Heap) : r04_Small_R0 (env, H) = (eval ctx r04_Small_B0 env H).bind r04_Small_K0 := (rfl)
theorem r04_Small_K0_norm (env : Env) (H : Heap) : r04_Small_K0 (.norm, env, H) = (keepE [1, 3] env H).bind r04_Small_R0 := r04_Small_L0_eq env H
theorem r04_Small_K0_ret (env : Env) (H : Heap) : r04_Small_K0 (.ret, env, H) = some (.ret, env, H) := (rfl)
theorem r04_Small_K0_exit (k : Nat) (env : Env) (H : Heap) : r04_Small_K0 (.exit k, env, H) = if k = 0 then (keepE [1] env H).map normE else some (.exit k, env, H) := (rfl)
noncomputable def r05_Full_R0 (x : Env × Heap) : Out := intoE ctx 0 [1, 2, 3, 4] [2, 3] r05_Full_B0 x
noncomputable def r05_Full_K0 (x : Ex × Env × Heap) : Out := roundE ctx 0 [1, 2, 3, 4] [2, 3] r05_Full_B0 x
theorem r05_Full_L0_eq (env : Env) (H : Heap) : eval ctx r05_Full_L0 env H = (keepE [1, 2, 3, 4] env H).bind r05_Full_R0 := eval_bloop' ctx env H 0 [1, 2, 3, 4] [2, 3] r05_Full_B0
theorem r05_Full_R0_eq (env : Env) (H : Heap) : r05_Full_R0 (env, H) = (eval ctx r05_Full_B0 env H).bind r05_Full_K0 := (rfl)
theorem r05_Full_K0_norm (env : Env) (H : Heap) : r05_Full_K0 (.norm, env, H) = (keepE [1, 2, 3, 4] env H).bind r05_Full_R0 := r05_Full_L0_eq env H
theorem r05_Full_K0_ret (env : Env) (H : Heap) : r05_Full_K0 (.ret, env, H) = some (.ret, env, H) := (rfl)
theorem r05_Full_K0_exit (k : Nat) (env : Env) (H : Heap) : r05_Full_K0 (.exit k, env, H) = if k = 0 then (keepE [2, 3] env H).map normE else some (.exit k, env, H) := (rfl)
noncomputable def r04_Make_R1 (x : Env × Heap) : Out := intoE ctx 1 [1, 2, 3, 6, 7, 8, 9] [1, 2, 3, 6, 7, 8] r04_Make_B1 x
noncomputable def r04_Make_K1 (x : Ex × Env × Heap) : Out := roundE ctx 1 [1, 2, 3, 6, 7, 8, 9] [1, 2, 3, 6, 7, 8] r04_Make_B1 x
theorem r04_Make_L1_eq (env : Env) (H : Heap) : eval ctx r04_Make_L1 env H = (keepE [1, 2, 3, 6, 7, 8, 9] env H).bind r04_Make_R1 := eval_bloop' ctx env H 1 [1, 2, 3, 6, 7, 8, 9] [1, 2, 3, 6, 7, 8] r04_Make_B1
theorem r04_Make_R1_eq (env : Env) (H : Heap) : r04_Make_R1 (env, H) = (eval ctx r04_Make_B1 env H).bind r04_Make_K1 := (rfl)
theorem r04_Make_K1_norm (env : Env) (H : Heap) : r04_Make_K1 (.norm, env, H) = (keepE [1, 2, 3, 6, 7, 8, 9] env H).bind r04_Make_R1 := r04_Make_L1_eq env H
theorem r04_Make_K1_ret (env : Env) (H : Heap) : r04_Make_K1 (.ret, env, H) = some (.ret, env, H) := (rfl)
theorem r04_Make_K1_exit (k : Nat) (env : Env) (H : Heap) : r04_Make_K1 (.exit k, env, H) = if k = 1 then (keepE [1, 2, 3, 6, 7, 8] env H).map normE else some (.exit k, env, H) := (rfl)
noncomputable def r04_Make_R3 (x : Env × Heap) : Out := intoE ctx 3 [1, 2, 3, 6, 7, 8, 10] [1, 2, 3, 6, 7] r04_Make_B3 x
noncomputable def r04_Make_K3 (x : Ex × Env × Heap) : Out := roundE ctx 3 [1, 2, 3, 6, 7, 8, 10] [1, 2, 3, 6, 7] r04_Make_B3 x
theorem r04_Make_L3_eq (env : Env) (H : Heap) : eval ctx r04_Make_L3 env H = (keepE [1, 2, 3, 6, 7, 8, 10] env H).bind r04_Make_R3 := eval_bloop' ctx env H 3 [1, 2, 3, 6, 7, 8, 10] [1, 2, 3, 6, 7] r04_Make_B3
theorem r04_Make_R3_eq (env : Env) (H : Heap) : r04_Make_R3 (env, H) = (eval ctx r04_Make_B3 env H).bind r04_Make_K3 := (rfl)
theorem r04_Make_K3_norm (env : Env) (H : Heap) : r04_Make_K3 (.norm, env, H) = (keepE [1, 2, 3, 6, 7, 8, 10] env H).bind r04_Make_R3 := r04_Make_L3_eq env H
theorem r04_Make_K3_ret (env : Env) (H : Heap) : r04_Make_K3 (.ret, env, H) = some (.ret, env, H) := (rfl)
theorem r04_Make_K3_exit (k : Nat) (env : Env) (H : Heap) : r04_Make_K3 (.exit k, env, H) = if k = 3 then (keepE [1, 2, 3, 6, 7] env H).map normE else some (.exit k, env, H) := (rfl)
noncomputable def r04_Make_R5 (x : Env × Heap) : Out := intoE ctx 5 [1, 2, 3, 6, 7, 11] [1, 2, 3, 6, 7] r04_Make_B5 x
noncomputable def r04_Make_K5 (x : Ex × Env × Heap) : Out := roundE ctx 5 [1, 2, 3, 6, 7, 11] [1, 2, 3, 6, 7] r04_Make_B5 x
theorem r04_Make_L5_eq (env : Env) (H : Heap) : eval ctx r04_Make_L5 env H = (keepE [1, 2, 3, 6, 7, 11] env H).bind r04_Make_R5 := eval_bloop' ctx env H 5 [1, 2, 3, 6, 7, 11] [1, 2, 3, 6, 7] r04_Make_B5
theorem r04_Make_R5_eq (env : Env) (H : Heap) : r04_Make_R5 (env, H) = (eval ctx r04_Make_B5 env H).bind r04_Make_K5 := (rfl)
theorem r04_Make_K5_norm (env : Env) (H : Heap) : r04_Make_K5 (.norm, env, H) = (keepE [1, 2, 3, 6, 7, 11] env H).bind r04_Make_R5 := r04_Make_L5_eq env H
theorem r04_Make_K5_ret (env : Env) (H : Heap) : r04_Make_K5 (.ret, env, H) = some (.ret, env, H) := (rfl)
theorem r04_Make_K5_exit (k : Nat) (env : Env) (H : Heap) : r04_Make_K5 (.exit k, env, H) = if k = 5 then (keepE [1, 2, 3, 6, 7] env H).map normE else some (.exit k, env, H) := (rfl)
noncomputable def r04_Make_R7 (x : Env × Heap) : Out := intoE ctx 7 [1, 2, 3, 6, 7, 12] [1, 2, 3, 6] r04_Make_B7 x
noncomputable def r04_Make_K7 (x : Ex × Env × Heap) : Out := roundE ctx 7 [1, 2, 3, 6, 7, 12] [1, 2, 3, 6] r04_Make_B7 x
theorem r04_Make_L7_eq (env : Env) (H : Heap) : eval ctx r04_Make_L7 env H = (keepE [1, 2, 3, 6, 7, 12] env H).bind r04_Make_R7 := eval_bloop' ctx env H 7 [1, 2, 3, 6, 7, 12] [1, 2, 3, 6] r04_Make_B7
theorem r04_Make_R7_eq (env : Env) (H : Heap) : r04_Make_R7 (env, H) = (eval ctx r04_Make_B7 env H).bind r04_Make_K7 := (rfl)
theorem r04_Make_K7_norm (env : Env) (H : Heap) : r04_Make_K7 (.norm, env, H) = (keepE [1, 2, 3, 6, 7, 12] env H).bind r04_Make_R7 := r04_Make_L7_eq env H
theorem r04_Make_K7_ret (env : Env) (H : Heap) : r04_Make_K7 (.ret, env, H) = some (.ret, env, H) := (rfl)
theorem r04_Make_K7_exit (k : Nat) (env : Env) (H : Heap) : r04_Make_K7 (.exit k, env, H) = if k = 7 then (keepE [1, 2, 3, 6] env H).map normE else some (.exit k, env, H) := (rfl)
noncomputable def r05_Walk_R0 (x : Env × Heap) : Out := intoE ctx 0 [3, 4, 5, 11, 12, 13] [11] r05_Walk_B0 x
noncomputable def r05_Walk_K0 (x : Ex × Env × Heap) : Out := roundE ctx 0 [3, 4, 5, 11, 12, 13] [11] r05_Walk_B0 x
theorem r05_Walk_L0_eq (env : Env) (H : Heap) : eval ctx r05_Walk_L0 env H = (keepE [3, 4, 5, 11, 12, 13] env H).bind r05_Walk_R0 := eval_bloop' ctx env H 0 [3, 4, 5, 11, 12, 13] [11] r05_Walk_B0
theorem r05_Walk_R0_eq (env : Env) (H : Heap) : r05_Walk_R0 (env, H) = (eval ctx r05_Walk_B0 env H).bind r05_Walk_K0 := (rfl)
theorem r05_Walk_K0_norm (env : Env) (H : Heap) : r05_Walk_K0 (.norm, env, H) = (keepE [3, 4, 5, 11, 12, 13] env H).bind r05_Walk_R0 := r05_Walk_L0_eq env H
theorem r05_Walk_K0_ret (env : Env) (H : Heap) : r05_Walk_K0 (.ret, env, H) = some (.ret, env, H) := (rfl)
theorem r05_Walk_K0_exit (k : Nat) (env : Env) (H : Heap) : r05_Walk_K0 (.exit k, env, H) = if k = 0 then (keepE [11] env H).map normE else some (.exit k, env, H) := (rfl)
noncomputable def r01_Has_R0 (x : Env × Heap) : Out := intoE ctx 0 [0, 1, 5] [] r01_Has_B0 x
noncomputable def r01_Has_K0 (x : Ex × Env × Heap) : Out := roundE ctx 0 [0, 1, 5] [] r01_Has_B0 x
theorem r01_Has_L0_eq (env : Env) (H : Heap) : eval ctx r01_Has_L0 env H = (keepE [0, 1, 5] env H).bind r01_Has_R0 := eval_bloop' ctx env H 0 [0, 1, 5] [] r01_Has_B0
theorem r01_Has_R0_eq (env : Env) (H : Heap) : r01_Has_R0 (env, H) = (eval ctx r01_Has_B0 env H).bind r01_Has_K0 := (rfl)
theorem r01_Has_K0_norm (env : Env) (H : Heap) : r01_Has_K0 (.norm, env, H) = (keepE [0, 1, 5] env H).bind r01_Has_R0 := r01_Has_L0_eq env H
theorem r01_Has_K0_ret (env : Env) (H : Heap) : r01_Has_K0 (.ret, env, H) = some (.ret, env, H) := (rfl)
theorem r01_Has_K0_exit (k : Nat) (env : Env) (H : Heap) : r01_Has_K0 (.exit k, env, H) = if k = 0 then (keepE [] env H).map normE else some (.exit k, env, H) := (rfl)
noncomputable def r01_Ints_R0 (x : Env × Heap) : Out := intoE ctx 0 [0, 1, 5] [] r01_Ints_B0 x
noncomputable def r01_Ints_K0 (x : Ex × Env × Heap) : Out := roundE ctx 0 [0, 1, 5] [] r01_Ints_B0 x
theorem r01_Ints_L0_eq (env : Env) (H : Heap) : eval ctx r01_Ints_L0 env H = (keepE [0, 1, 5] env H).bind r01_Ints_R0 := eval_bloop' ctx env H 0 [0, 1, 5] [] r01_Ints_B0
theorem r01_Ints_R0_eq (env : Env) (H : Heap) : r01_Ints_R0 (env, H) = (eval ctx r01_Ints_B0 env H).bind r01_Ints_K0 := (rfl)
theorem r01_Ints_K0_norm (env : Env) (H : Heap) : r01_Ints_K0 (.norm, env, H) = (keepE [0, 1, 5] env H).bind r01_Ints_R0 := r01_Ints_L0_eq env H
theorem r01_Ints_K0_ret (env : Env) (H : Heap) : r01_Ints_K0 (.ret, env, H) = some (.ret, env, H) := (rfl)
theorem r01_Ints_K0_exit (k : Nat) (env : Env) (H : Heap) : r01_Ints_K0 (.exit k, env, H) = if k = 0 then (keepE [] env H).map normE else some (.exit k, env, H) := (rfl)
noncomputable def r05_Around_R0 (x : Env × Heap) : Out := intoE ctx 0 [3, 8, 10, 11] [8] r05_Around_B0 x
noncomputable def r05_Around_K0 (x : Ex × Env × Heap) : Out := roundE ctx 0 [3, 8, 10, 11] [8] r05_Around_B0 x
theorem r05_Around_L0_eq (env : Env) (H : Heap) : eval ctx r05_Around_L0 env H = (keepE [3, 8, 10, 11] env H).bind r05_Around_R0 := eval_bloop' ctx env H 0 [3, 8, 10, 11] [8] r05_Around_B0
theorem r05_Around_R0_eq (env : Env) (H : Heap) : r05_Around_R0 (env, H) = (eval ctx r05_Around_B0 env H).bind r05_Around_K0 := (rfl)
theorem r05_Around_K0_norm (env : Env) (H : Heap) : r05_Around_K0 (.norm, env, H) = (keepE [3, 8, 10, 11] env H).bind r05_Around_R0 := r05_Around_L0_eq env H
theorem r05_Around_K0_ret (env : Env) (H : Heap) : r05_Around_K0 (.ret, env, H) = some (.ret, env, H) := (rfl)
theorem r05_Around_K0_exit (k : Nat) (env : Env) (H : Heap) : r05_Around_K0 (.exit k, env, H) = if k = 0 then (keepE [8] env H).map normE else some (.exit k, env, H) := (rfl)
noncomputable def slices_IndexFunc_End_R0 (x : Env × Heap) : Out := intoE ctx 0 [0, 1, 7, 8] [] slices_IndexFunc_End_B0 x
noncomputable def slices_IndexFunc_End_K0 (x : Ex × Env × Heap) : Out := roundE ctx 0 [0, 1, 7, 8] [] slices_IndexFunc_End_B0 x
theorem slices_IndexFunc_End_L0_eq (env : Env) (H : Heap) : eval ctx slices_IndexFunc_End_L0 env H = (keepE [0, 1, 7, 8] env H).bind slices_IndexFunc_End_R0 := eval_bloop' ctx env H 0 [0, 1, 7, 8] [] slices_IndexFunc_End_B0
theorem slices_IndexFunc_End_R0_eq (env : Env) (H : Heap) : slices_IndexFunc_End_R0 (env, H) = (eval ctx slices_IndexFunc_End_B0 env H).bind slices_IndexFunc_End_K0 := (rfl)
theorem slices_IndexFunc_End_K0_norm (env : Env) (H : Heap) : slices_IndexFunc_End_K0 (.norm, env, H) = (keepE [0, 1, 7, 8] env H).bind slices_IndexFunc_End_R0 := slices_IndexFunc_End_L0_eq env H
theorem slices_IndexFunc_End_K0_ret (env : Env) (H : Heap) : slices_IndexFunc_End_K0 (.ret, env, H) = some (.ret, env, H) := (rfl)
theorem slices_IndexFunc_End_K0_exit (k : Nat) (env : Env) (H : Heap) : slices_IndexFunc_End_K0 (.exit k, env, H) = if k = 0 then (keepE [] env H).map normE else some (.exit k, env, H) := (rfl)
noncomputable def slices_Index_int_R0 (x : Env × Heap) : Out := intoE ctx 0 [0, 1, 7, 8] [] slices_Index_int_B0 x
noncomputable def slices_Index_int_K0 (x : Ex × Env × Heap) : Out := roundE ctx 0 [0, 1, 7, 8] [] slices_Index_int_B0 x
theorem slices_Index_int_L0_eq (env : Env) (H : Heap) : eval ctx slices_Index_int_L0 env H = (keepE [0, 1, 7, 8] env H).bind slices_Index_int_R0 := eval_bloop' ctx env H 0 [0, 1, 7, 8] [] slices_Index_int_B0
theorem slices_Index_int_R0_eq (env : Env) (H : Heap) : slices_Index_int_R0 (env, H) = (eval ctx slices_Index_int_B0 env H).bind slices_Index_int_K0 := (rfl)
theorem slices_Index_int_K0_norm (env : Env) (H : Heap) : slices_Index_int_K0 (.norm, env, H) = (keepE [0, 1, 7, 8] env H).bind slices_Index_int_R0 := slices_Index_int_L0_eq env H
theorem slices_Index_int_K0_ret (env : Env) (H : Heap) : slices_Index_int_K0 (.ret, env, H) = some (.ret, env, H) := (rfl)
theorem slices_Index_int_K0_exit (k : Nat) (env : Env) (H : Heap) : slices_Index_int_K0 (.exit k, env, H) = if k = 0 then (keepE [] env H).map normE else some (.exit k, env, H) := (rfl)
noncomputable def r05_Point_R0 (x : Env × Heap) : Out := intoE ctx 0 [1, 2, 5] [] r05_Point_B0 x
noncomputable def r05_Point_K0 (x : Ex × Env × Heap) : Out := roundE ctx 0 [1, 2, 5] [] r05_Point_B0 x
theorem r05_Point_L0_eq (env : Env) (H : Heap) : eval ctx r05_Point_L0 env H = (keepE [1, 2, 5] env H).bind r05_Point_R0 := eval_bloop' ctx env H 0 [1, 2, 5] [] r05_Point_B0
theorem r05_Point_R0_eq (env : Env) (H : Heap) : r05_Point_R0 (env, H) = (eval ctx r05_Point_B0 env H).bind r05_Point_K0 := (rfl)
theorem r05_Point_K0_norm (env : Env) (H : Heap) : r05_Point_K0 (.norm, env, H) = (keepE [1, 2, 5] env H).bind r05_Point_R0 := r05_Point_L0_eq env H
theorem r05_Point_K0_ret (env : Env) (H : Heap) : r05_Point_K0 (.ret, env, H) = some (.ret, env, H) := (rfl)
theorem r05_Point_K0_exit (k : Nat) (env : Env) (H : Heap) : r05_Point_K0 (.exit k, env, H) = if k = 0 then (keepE [] env H).map normE else some (.exit k, env, H) := (rfl)
noncomputable def r05_one_R0 (x : Env × Heap) : Out := intoE ctx 0 [1, 7, 8] [] r05_one_B0 x
noncomputable def r05_one_K0 (x : Ex × Env × Heap) : Out := roundE ctx 0 [1, 7, 8] [] r05_one_B0 x
theorem r05_one_L0_eq (env : Env) (H : Heap) : eval ctx r05_one_L0 env H = (keepE [1, 7, 8] env H).bind r05_one_R0 := eval_bloop' ctx env H 0 [1, 7, 8] [] r05_one_B0
theorem r05_one_R0_eq (env : Env) (H : Heap) : r05_one_R0 (env, H) = (eval ctx r05_one_B0 env H).bind r05_one_K0 := (rfl)
theorem r05_one_K0_norm (env : Env) (H : Heap) : r05_one_K0 (.norm, env, H) = (keepE [1, 7, 8] env H).bind r05_one_R0 := r05_one_L0_eq env H
theorem r05_one_K0_ret (env : Env) (H : Heap) : r05_one_K0 (.ret, env, H) = some (.ret, env, H) := (rfl)
theorem r05_one_K0_exit (k : Nat) (env : Env) (H : Heap) : r05_one_K0 (.exit k, env, H) = if k = 0 then (keepE [] env H).map normE else some (.exit k, env, H) := (rfl)
noncomputable def r05_Ends_R0 (x : Env × Heap) : Out := intoE ctx 0 [1, 2, 5, 6] [5] r05_Ends_B0 x
noncomputable def r05_Ends_K0 (x : Ex × Env × Heap) : Out := roundE ctx 0 [1, 2, 5, 6] [5] r05_Ends_B0 x
theorem r05_Ends_L0_eq (env : Env) (H : Heap) : eval ctx r05_Ends_L0 env H = (keepE [1, 2, 5, 6] env H).bind r05_Ends_R0 := eval_bloop' ctx env H 0 [1, 2, 5, 6] [5] r05_Ends_B0
theorem r05_Ends_R0_eq (env : Env) (H : Heap) : r05_Ends_R0 (env, H) = (eval ctx r05_Ends_B0 env H).bind r05_Ends_K0 := (rfl)
theorem r05_Ends_K0_norm (env : Env) (H : Heap) : r05_Ends_K0 (.norm, env, H) = (keepE [1, 2, 5, 6] env H).bind r05_Ends_R0 := r05_Ends_L0_eq env H
theorem r05_Ends_K0_ret (env : Env) (H : Heap) : r05_Ends_K0 (.ret, env, H) = some (.ret, env, H) := (rfl)
theorem r05_Ends_K0_exit (k : Nat) (env : Env) (H : Heap) : r05_Ends_K0 (.exit k, env, H) = if k = 0 then (keepE [5] env H).map normE else some (.exit k, env, H) := (rfl)
noncomputable def slices_DeleteFunc_End_R0 (x : Env × Heap) : Out := intoE ctx 0 [0, 1, 5, 6] [0, 5] slices_DeleteFunc_End_B0 x
noncomputable def slices_DeleteFunc_End_K0 (x : Ex × Env × Heap) : Out := roundE ctx 0 [0, 1, 5, 6] [0, 5] slices_DeleteFunc_End_B0 x
theorem slices_DeleteFunc_End_L0_eq (env : Env) (H : Heap) : eval ctx slices_DeleteFunc_End_L0 env H = (keepE [0, 1, 5, 6] env H).bind slices_DeleteFunc_End_R0 := eval_bloop' ctx env H 0 [0, 1, 5, 6] [0, 5] slices_DeleteFunc_End_B0
theorem slices_DeleteFunc_End_R0_eq (env : Env) (H : Heap) : slices_DeleteFunc_End_R0 (env, H) = (eval ctx slices_DeleteFunc_End_B0 env H).bind slices_DeleteFunc_End_K0 := (rfl)
theorem slices_DeleteFunc_End_K0_norm (env : Env) (H : Heap) : slices_DeleteFunc_End_K0 (.norm, env, H) = (keepE [0, 1, 5, 6] env H).bind slices_DeleteFunc_End_R0 := slices_DeleteFunc_End_L0_eq env H
theorem slices_DeleteFunc_End_K0_ret (env : Env) (H : Heap) : slices_DeleteFunc_End_K0 (.ret, env, H) = some (.ret, env, H) := (rfl)
theorem slices_DeleteFunc_End_K0_exit (k : Nat) (env : Env) (H : Heap) : slices_DeleteFunc_End_K0 (.exit k, env, H) = if k = 0 then (keepE [0, 5] env H).map normE else some (.exit k, env, H) := (rfl)
noncomputable def graph_Graph_Ends_R2 (x : Env × Heap) : Out := intoE ctx 2 [0, 1, 5, 6, 26, 27] [0, 1, 5, 6] graph_Graph_Ends_B2 x
noncomputable def graph_Graph_Ends_K2 (x : Ex × Env × Heap) : Out := roundE ctx 2 [0, 1, 5, 6, 26, 27] [0, 1, 5, 6] graph_Graph_Ends_B2 x
theorem graph_Graph_Ends_L2_eq (env : Env) (H : Heap) : eval ctx graph_Graph_Ends_L2 env H = (keepE [0, 1, 5, 6, 26, 27] env H).bind graph_Graph_Ends_R2 := eval_bloop' ctx env H 2 [0, 1, 5, 6, 26, 27] [0, 1, 5, 6] graph_Graph_Ends_B2
theorem graph_Graph_Ends_R2_eq (env : Env) (H : Heap) : graph_Graph_Ends_R2 (env, H) = (eval ctx graph_Graph_Ends_B2 env H).bind graph_Graph_Ends_K2 := (rfl)
theorem graph_Graph_Ends_K2_norm (env : Env) (H : Heap) : graph_Graph_Ends_K2 (.norm, env, H) = (keepE [0, 1, 5, 6, 26, 27] env H).bind graph_Graph_Ends_R2 := graph_Graph_Ends_L2_eq env H
theorem graph_Graph_Ends_K2_ret (env : Env) (H : Heap) : graph_Graph_Ends_K2 (.ret, env, H) = some (.ret, env, H) := (rfl)
theorem graph_Graph_Ends_K2_exit (k : Nat) (env : Env) (H : Heap) : graph_Graph_Ends_K2 (.exit k, env, H) = if k = 2 then (keepE [0, 1, 5, 6] env H).map normE else some (.exit k, env, H) := (rfl)
noncomputable def graph_Graph_Ends_R0 (x : Env × Heap) : Out := intoE ctx 0 [0, 1, 5, 6] [] graph_Graph_Ends_B0 x
noncomputable def graph_Graph_Ends_K0 (x : Ex × Env × Heap) : Out := roundE ctx 0 [0, 1, 5, 6] [] graph_Graph_Ends_B0 x
theorem graph_Graph_Ends_L0_eq (env : Env) (H : Heap) : eval ctx graph_Graph_Ends_L0 env H = (keepE [0, 1, 5, 6] env H).bind graph_Graph_Ends_R0 := eval_bloop' ctx env H 0 [0, 1, 5, 6] [] graph_Graph_Ends_B0
theorem graph_Graph_Ends_R0_eq (env : Env) (H : Heap) : graph_Graph_Ends_R0 (env, H) = (eval ctx graph_Graph_Ends_B0 env H).bind graph_Graph_Ends_K0 := (rfl)
theorem graph_Graph_Ends_K0_norm (env : Env) (H : Heap) : graph_Graph_Ends_K0 (.norm, env, H) = (keepE [0, 1, 5, 6] env H).bind graph_Graph_Ends_R0 := graph_Graph_Ends_L0_eq env H
theorem graph_Graph_Ends_K0_ret (env : Env) (H : Heap) : graph_Graph_Ends_K0 (.ret, env, H) = some (.ret, env, H) := (rfl)
theorem graph_Graph_Ends_K0_exit (k : Nat) (env : Env) (H : Heap) : graph_Graph_Ends_K0 (.exit k, env, H) = if k = 0 then (keepE [] env H).map normE else some (.exit k, env, H) := (rfl)
noncomputable def slices_Concat_End_R0 (x : Env × Heap) : Out := intoE ctx 0 [0, 3, 9, 10, 11] [0, 3] slices_Concat_End_B0 x
noncomputable def slices_Concat_End_K0 (x : Ex × Env × Heap) : Out := roundE ctx 0 [0, 3, 9, 10, 11] [0, 3] slices_Concat_End_B0 x
theorem slices_Concat_End_L0_eq (env : Env) (H : Heap) : eval ctx slices_Concat_End_L0 env H = (keepE [0, 3, 9, 10, 11] env H).bind slices_Concat_End_R0 := eval_bloop' ctx env H 0 [0, 3, 9, 10, 11] [0, 3] slices_Concat_End_B0
theorem slices_Concat_End_R0_eq (env : Env) (H : Heap) : slices_Concat_End_R0 (env, H) = (eval ctx slices_Concat_End_B0 env H).bind slices_Concat_End_K0 := (rfl)
theorem slices_Concat_End_K0_norm (env : Env) (H : Heap) : slices_Concat_End_K0 (.norm, env, H) = (keepE [0, 3, 9, 10, 11] env H).bind slices_Concat_End_R0 := slices_Concat_End_L0_eq env H
theorem slices_Concat_End_K0_ret (env : Env) (H : Heap) : slices_Concat_End_K0 (.ret, env, H) = some (.ret, env, H) := (rfl)
theorem slices_Concat_End_K0_exit (k : Nat) (env : Env) (H : Heap) : slices_Concat_End_K0 (.exit k, env, H) = if k = 0 then (keepE [0, 3] env H).map normE else some (.exit k, env, H) := (rfl)
noncomputable def slices_Concat_End_R2 (x : Env × Heap) : Out := intoE ctx 2 [6, 25, 26, 27] [6] slices_Concat_End_B2 x
noncomputable def slices_Concat_End_K2 (x : Ex × Env × Heap) : Out := roundE ctx 2 [6, 25, 26, 27] [6] slices_Concat_End_B2 x
theorem slices_Concat_End_L2_eq (env : Env) (H : Heap) : eval ctx slices_Concat_End_L2 env H = (keepE [6, 25, 26, 27] env H).bind slices_Concat_End_R2 := eval_bloop' ctx env H 2 [6, 25, 26, 27] [6] slices_Concat_End_B2
theorem slices_Concat_End_R2_eq (env : Env) (H : Heap) : slices_Concat_End_R2 (env, H) = (eval ctx slices_Concat_End_B2 env H).bind slices_Concat_End_K2 := (rfl)
theorem slices_Concat_End_K2_norm (env : Env) (H : Heap) : slices_Concat_End_K2 (.norm, env, H) = (keepE [6, 25, 26, 27] env H).bind slices_Concat_End_R2 := slices_Concat_End_L2_eq env H
theorem slices_Concat_End_K2_ret (env : Env) (H : Heap) : slices_Concat_End_K2 (.ret, env, H) = some (.ret, env, H) := (rfl)
theorem slices_Concat_End_K2_exit (k : Nat) (env : Env) (H : Heap) : slices_Concat_End_K2 (.exit k, env, H) = if k = 2 then (keepE [6] env H).map normE else some (.exit k, env, H) := (rfl)
noncomputable def graph_Graph_at_R0 (x : Env × Heap) : Out := intoE ctx 0 [1, 11, 12, 13] [] graph_Graph_at_B0 x
noncomputable def graph_Graph_at_K0 (x : Ex × Env × Heap) : Out := roundE ctx 0 [1, 11, 12, 13] [] graph_Graph_at_B0 x
theorem graph_Graph_at_L0_eq (env : Env) (H : Heap) : eval ctx graph_Graph_at_L0 env H = (keepE [1, 11, 12, 13] env H).bind graph_Graph_at_R0 := eval_bloop' ctx env H 0 [1, 11, 12, 13] [] graph_Graph_at_B0
theorem graph_Graph_at_R0_eq (env : Env) (H : Heap) : graph_Graph_at_R0 (env, H) = (eval ctx graph_Graph_at_B0 env H).bind graph_Graph_at_K0 := (rfl)
theorem graph_Graph_at_K0_norm (env : Env) (H : Heap) : graph_Graph_at_K0 (.norm, env, H) = (keepE [1, 11, 12, 13] env H).bind graph_Graph_at_R0 := graph_Graph_at_L0_eq env H
theorem graph_Graph_at_K0_ret (env : Env) (H : Heap) : graph_Graph_at_K0 (.ret, env, H) = some (.ret, env, H) := (rfl)
theorem graph_Graph_at_K0_exit (k : Nat) (env : Env) (H : Heap) : graph_Graph_at_K0 (.exit k, env, H) = if k = 0 then (keepE [] env H).map normE else some (.exit k, env, H) := (rfl)
noncomputable def slices_IndexFunc_Point_R0 (x : Env × Heap) : Out := intoE ctx 0 [0, 1, 7, 8] [] slices_IndexFunc_Point_B0 x
noncomputable def slices_IndexFunc_Point_K0 (x : Ex × Env × Heap) : Out := roundE ctx 0 [0, 1, 7, 8] [] slices_IndexFunc_Point_B0 x
theorem slices_IndexFunc_Point_L0_eq (env : Env) (H : Heap) : eval ctx slices_IndexFunc_Point_L0 env H = (keepE [0, 1, 7, 8] env H).bind slices_IndexFunc_Point_R0 := eval_bloop' ctx env H 0 [0, 1, 7, 8] [] slices_IndexFunc_Point_B0
theorem slices_IndexFunc_Point_R0_eq (env : Env) (H : Heap) : slices_IndexFunc_Point_R0 (env, H) = (eval ctx slices_IndexFunc_Point_B0 env H).bind slices_IndexFunc_Point_K0 := (rfl)
theorem slices_IndexFunc_Point_K0_norm (env : Env) (H : Heap) : slices_IndexFunc_Point_K0 (.norm, env, H) = (keepE [0, 1, 7, 8] env H).bind slices_IndexFunc_Point_R0 := slices_IndexFunc_Point_L0_eq env H
theorem slices_IndexFunc_Point_K0_ret (env : Env) (H : Heap) : slices_IndexFunc_Point_K0 (.ret, env, H) = some (.ret, env, H) := (rfl)
theorem slices_IndexFunc_Point_K0_exit (k : Nat) (env : Env) (H : Heap) : slices_IndexFunc_Point_K0 (.exit k, env, H) = if k = 0 then (keepE [] env H).map normE else some (.exit k, env, H) := (rfl)
end Go.Proofs.Ytfblegjbmhgepaa.Zt
