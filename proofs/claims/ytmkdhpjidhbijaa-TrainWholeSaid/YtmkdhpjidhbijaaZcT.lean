/- Go functions, as the interpreter runs them: written by a program of this claim's own, proved to be what the compiler makes of them. No condition. -/
import Derived.Test.YtmkdhpjidhbijaaZcT0
set_option linter.all false
namespace Go.Proofs.Ytmkdhpjidhbijaa.Zt
open Go Go.Zc
set_option maxRecDepth 100000

/-- All of them. -/
def tab : List (Nat × FInfo) := [(3, l10_TrainFits_I), (4, l10_TrainStale_I), (5, l10_TrainWhole_I), (15, l10_behind_I), (16, r04_Small_I), (17, r05_Full_I), (18, graph_New_I), (19, l10_report_I), (20, train_Fits_I), (21, r10_Fits_I), (22, r10_Back_I), (23, train_New_I), (24, train_Register_Note_I), (25, train_Register_Open_I), (26, train_Register_Get_I), (27, r01_Ints_I), (28, r10_Join_I), (41, graph_Graph_Around_I), (42, r01_Has_I), (44, graph_Graph_Ends_I), (47, graph_Graph_Len_I), (48, r05_Walk_I), (53, graph_Graph_Point_I), (54, train_Join_I), (55, r04_Make_I), (56, r05_Len_I), (57, train_unlike_I), (58, slices_IndexFunc_End_I), (59, train_Fits_1_I), (60, r01_Rise_I), (61, r05_Around_I), (62, slices_Clone_int_I), (76, graph_Graph_node_I), (77, slices_DeleteFunc_End_I), (78, graph_Graph_Around_1_I), (80, graph_Graph_at_I), (83, graph_Graph_section_I), (84, slices_IndexFunc_int_I), (86, slices_Contains_int_I), (89, r05_Point_I), (91, r05_Ends_I), (98, slices_IndexFunc_Point_I), (99, graph_Graph_Point_1_I), (100, slices_Index_int_I), (101, r05_node_I), (102, r05_one_I), (79, slices_Concat_End_I), (106, slices_Grow_End_I)]
def ctx : Ctx := ⟨Zc.look tab, fun _ => none⟩
theorem l10_TrainFits_ok : compF Try.prog (quietOf ctx) l10_TrainFits_A (.fz false) Try.f3 = some l10_TrainFits_I := by kernel_rfl
theorem l10_TrainStale_ok : compF Try.prog (quietOf ctx) l10_TrainStale_A (.fz false) Try.f4 = some l10_TrainStale_I := by kernel_rfl
theorem l10_TrainWhole_ok : compF Try.prog (quietOf ctx) l10_TrainWhole_A (.fz false) Try.f5 = some l10_TrainWhole_I := by kernel_rfl
theorem l10_behind_ok : compF Try.prog (quietOf ctx) l10_behind_A (.fz false) Try.f15 = some l10_behind_I := by kernel_rfl
theorem r04_Small_ok : compF Try.prog (quietOf ctx) r04_Small_A (.fz false) Try.f16 = some r04_Small_I := by kernel_rfl
theorem r05_Full_ok : compF Try.prog (quietOf ctx) r05_Full_A (.fz false) Try.f17 = some r05_Full_I := by kernel_rfl
theorem graph_New_ok : compF Try.prog (quietOf ctx) graph_New_A (.fz false) Try.f18 = some graph_New_I := by kernel_rfl
theorem l10_report_ok : compF Try.prog (quietOf ctx) l10_report_A (.fz false) Try.f19 = some l10_report_I := by kernel_rfl
theorem train_Fits_ok : compF Try.prog (quietOf ctx) train_Fits_A (.fz false) Try.f20 = some train_Fits_I := by kernel_rfl
theorem r10_Fits_ok : compF Try.prog (quietOf ctx) r10_Fits_A (.fz false) Try.f21 = some r10_Fits_I := by kernel_rfl
theorem r10_Back_ok : compF Try.prog (quietOf ctx) r10_Back_A (.fz false) Try.f22 = some r10_Back_I := by kernel_rfl
theorem train_New_ok : compF Try.prog (quietOf ctx) train_New_A .ref Try.f23 = some train_New_I := by kernel_rfl
theorem train_Register_Note_ok : compF Try.prog (quietOf ctx) train_Register_Note_A .ref Try.f24 = some train_Register_Note_I := by kernel_rfl
theorem train_Register_Open_ok : compF Try.prog (quietOf ctx) train_Register_Open_A .ref Try.f25 = some train_Register_Open_I := by kernel_rfl
theorem train_Register_Get_ok : compF Try.prog (quietOf ctx) train_Register_Get_A .ref Try.f26 = some train_Register_Get_I := by kernel_rfl
theorem r01_Ints_ok : compF Try.prog (quietOf ctx) r01_Ints_A (.fz false) Try.f27 = some r01_Ints_I := by kernel_rfl
theorem r10_Join_ok : compF Try.prog (quietOf ctx) r10_Join_A (.fz false) Try.f28 = some r10_Join_I := by kernel_rfl
theorem graph_Graph_Around_ok : compF Try.prog (quietOf ctx) graph_Graph_Around_A (.fz false) Try.f41 = some graph_Graph_Around_I := by kernel_rfl
theorem r01_Has_ok : compF Try.prog (quietOf ctx) r01_Has_A (.fz false) Try.f42 = some r01_Has_I := by kernel_rfl
theorem graph_Graph_Ends_ok : compF Try.prog (quietOf ctx) graph_Graph_Ends_A .own Try.f44 = some graph_Graph_Ends_I := by kernel_rfl
theorem graph_Graph_Len_ok : compF Try.prog (quietOf ctx) graph_Graph_Len_A (.fz false) Try.f47 = some graph_Graph_Len_I := by kernel_rfl
theorem r05_Walk_ok : compF Try.prog (quietOf ctx) r05_Walk_A (.fz false) Try.f48 = some r05_Walk_I := by kernel_rfl
theorem graph_Graph_Point_ok : compF Try.prog (quietOf ctx) graph_Graph_Point_A (.fz false) Try.f53 = some graph_Graph_Point_I := by kernel_rfl
theorem train_Join_ok : compF Try.prog (quietOf ctx) train_Join_A (.fz false) Try.f54 = some train_Join_I := by kernel_rfl
theorem r04_Make_ok : compF Try.prog (quietOf ctx) r04_Make_A (.fz true) Try.f55 = some r04_Make_I := by kernel_rfl
theorem r05_Len_ok : compF Try.prog (quietOf ctx) r05_Len_A (.fz false) Try.f56 = some r05_Len_I := by kernel_rfl
theorem train_unlike_ok : compF Try.prog (quietOf ctx) train_unlike_A (.fz false) Try.f57 = some train_unlike_I := by kernel_rfl
theorem slices_IndexFunc_End_ok : compF Try.prog (quietOf ctx) slices_IndexFunc_End_A (.fz false) Try.f58 = some slices_IndexFunc_End_I := by kernel_rfl
theorem train_Fits_1_ok : compF Try.prog (quietOf ctx) train_Fits_1_A (.fz false) Try.f59 = some train_Fits_1_I := by kernel_rfl
theorem r01_Rise_ok : compF Try.prog (quietOf ctx) r01_Rise_A (.fz false) Try.f60 = some r01_Rise_I := by kernel_rfl
theorem r05_Around_ok : compF Try.prog (quietOf ctx) r05_Around_A (.fz false) Try.f61 = some r05_Around_I := by kernel_rfl
theorem slices_Clone_int_ok : compF Try.prog (quietOf ctx) slices_Clone_int_A .own Try.f62 = some slices_Clone_int_I := by kernel_rfl
theorem graph_Graph_node_ok : compF Try.prog (quietOf ctx) graph_Graph_node_A (.fz false) Try.f76 = some graph_Graph_node_I := by kernel_rfl
theorem slices_DeleteFunc_End_ok : compF Try.prog (quietOf ctx) slices_DeleteFunc_End_A .ref Try.f77 = some slices_DeleteFunc_End_I := by kernel_rfl
theorem graph_Graph_Around_1_ok : compF Try.prog (quietOf ctx) graph_Graph_Around_1_A (.fz false) Try.f78 = some graph_Graph_Around_1_I := by kernel_rfl
theorem graph_Graph_at_ok : compF Try.prog (quietOf ctx) graph_Graph_at_A (.fz false) Try.f80 = some graph_Graph_at_I := by kernel_rfl
theorem graph_Graph_section_ok : compF Try.prog (quietOf ctx) graph_Graph_section_A (.fz false) Try.f83 = some graph_Graph_section_I := by kernel_rfl
theorem slices_IndexFunc_int_ok : compF Try.prog (quietOf ctx) slices_IndexFunc_int_A (.fz false) Try.f84 = some slices_IndexFunc_int_I := by kernel_rfl
theorem slices_Contains_int_ok : compF Try.prog (quietOf ctx) slices_Contains_int_A (.fz false) Try.f86 = some slices_Contains_int_I := by kernel_rfl
theorem r05_Point_ok : compF Try.prog (quietOf ctx) r05_Point_A (.fz false) Try.f89 = some r05_Point_I := by kernel_rfl
theorem r05_Ends_ok : compF Try.prog (quietOf ctx) r05_Ends_A (.fz false) Try.f91 = some r05_Ends_I := by kernel_rfl
theorem slices_IndexFunc_Point_ok : compF Try.prog (quietOf ctx) slices_IndexFunc_Point_A (.fz false) Try.f98 = some slices_IndexFunc_Point_I := by kernel_rfl
theorem graph_Graph_Point_1_ok : compF Try.prog (quietOf ctx) graph_Graph_Point_1_A (.fz false) Try.f99 = some graph_Graph_Point_1_I := by kernel_rfl
theorem slices_Index_int_ok : compF Try.prog (quietOf ctx) slices_Index_int_A (.fz false) Try.f100 = some slices_Index_int_I := by kernel_rfl
theorem r05_node_ok : compF Try.prog (quietOf ctx) r05_node_A (.fz false) Try.f101 = some r05_node_I := by kernel_rfl
theorem r05_one_ok : compF Try.prog (quietOf ctx) r05_one_A (.fz false) Try.f102 = some r05_one_I := by kernel_rfl
theorem slices_Concat_End_ok : compF Try.prog (quietOf ctx) slices_Concat_End_A (.fz false) Try.f79 = some slices_Concat_End_I := by kernel_rfl
theorem slices_Grow_End_ok : compF Try.prog (quietOf ctx) slices_Grow_End_A .ref Try.f106 = some slices_Grow_End_I := by kernel_rfl
theorem ctx_ok : CtxOk Try.prog ctx :=
  ctxOk_of (by kernel_rfl) (
    .cons ⟨_, _, Try.func3, l10_TrainFits_ok⟩ (
    .cons ⟨_, _, Try.func4, l10_TrainStale_ok⟩ (
    .cons ⟨_, _, Try.func5, l10_TrainWhole_ok⟩ (
    .cons ⟨_, _, Try.func15, l10_behind_ok⟩ (
    .cons ⟨_, _, Try.func16, r04_Small_ok⟩ (
    .cons ⟨_, _, Try.func17, r05_Full_ok⟩ (
    .cons ⟨_, _, Try.func18, graph_New_ok⟩ (
    .cons ⟨_, _, Try.func19, l10_report_ok⟩ (
    .cons ⟨_, _, Try.func20, train_Fits_ok⟩ (
    .cons ⟨_, _, Try.func21, r10_Fits_ok⟩ (
    .cons ⟨_, _, Try.func22, r10_Back_ok⟩ (
    .cons ⟨_, _, Try.func23, train_New_ok⟩ (
    .cons ⟨_, _, Try.func24, train_Register_Note_ok⟩ (
    .cons ⟨_, _, Try.func25, train_Register_Open_ok⟩ (
    .cons ⟨_, _, Try.func26, train_Register_Get_ok⟩ (
    .cons ⟨_, _, Try.func27, r01_Ints_ok⟩ (
    .cons ⟨_, _, Try.func28, r10_Join_ok⟩ (
    .cons ⟨_, _, Try.func41, graph_Graph_Around_ok⟩ (
    .cons ⟨_, _, Try.func42, r01_Has_ok⟩ (
    .cons ⟨_, _, Try.func44, graph_Graph_Ends_ok⟩ (
    .cons ⟨_, _, Try.func47, graph_Graph_Len_ok⟩ (
    .cons ⟨_, _, Try.func48, r05_Walk_ok⟩ (
    .cons ⟨_, _, Try.func53, graph_Graph_Point_ok⟩ (
    .cons ⟨_, _, Try.func54, train_Join_ok⟩ (
    .cons ⟨_, _, Try.func55, r04_Make_ok⟩ (
    .cons ⟨_, _, Try.func56, r05_Len_ok⟩ (
    .cons ⟨_, _, Try.func57, train_unlike_ok⟩ (
    .cons ⟨_, _, Try.func58, slices_IndexFunc_End_ok⟩ (
    .cons ⟨_, _, Try.func59, train_Fits_1_ok⟩ (
    .cons ⟨_, _, Try.func60, r01_Rise_ok⟩ (
    .cons ⟨_, _, Try.func61, r05_Around_ok⟩ (
    .cons ⟨_, _, Try.func62, slices_Clone_int_ok⟩ (
    .cons ⟨_, _, Try.func76, graph_Graph_node_ok⟩ (
    .cons ⟨_, _, Try.func77, slices_DeleteFunc_End_ok⟩ (
    .cons ⟨_, _, Try.func78, graph_Graph_Around_1_ok⟩ (
    .cons ⟨_, _, Try.func80, graph_Graph_at_ok⟩ (
    .cons ⟨_, _, Try.func83, graph_Graph_section_ok⟩ (
    .cons ⟨_, _, Try.func84, slices_IndexFunc_int_ok⟩ (
    .cons ⟨_, _, Try.func86, slices_Contains_int_ok⟩ (
    .cons ⟨_, _, Try.func89, r05_Point_ok⟩ (
    .cons ⟨_, _, Try.func91, r05_Ends_ok⟩ (
    .cons ⟨_, _, Try.func98, slices_IndexFunc_Point_ok⟩ (
    .cons ⟨_, _, Try.func99, graph_Graph_Point_1_ok⟩ (
    .cons ⟨_, _, Try.func100, slices_Index_int_ok⟩ (
    .cons ⟨_, _, Try.func101, r05_node_ok⟩ (
    .cons ⟨_, _, Try.func102, r05_one_ok⟩ (
    .cons ⟨_, _, Try.func79, slices_Concat_End_ok⟩ (
    .cons ⟨_, _, Try.func106, slices_Grow_End_ok⟩ (
    .nil)))))))))))))))))))))))))))))))))))))))))))))))))
noncomputable def l10_TrainFits_F (st : Bool) (H : Heap) (xs : List CV) : Option (CV × Heap) := fzE ctx false 4 l10_TrainFits_C [.tmp 8] st H xs
theorem l10_TrainFits_F_eq (st : Bool) (H : Heap) (xs : List CV) : l10_TrainFits_F st H xs = if xs.length = 4 then (eval ctx l10_TrainFits_C (enterC 0 xs) ⟨[], []⟩).bind (fzOut [.tmp 8] st false H) else none := (rfl)
theorem l10_TrainFits_call (cap args : List CV) (H : Heap) : call ctx (.fn (.func 3) [] cap) args H = (snapL H false false (args ++ cap)).bind (l10_TrainFits_F (CV.refs (args ++ cap)) H) := fz_call rfl (show ctx.info 3 = some l10_TrainFits_I by kernel_rfl) cap args H
noncomputable def l10_TrainStale_F (st : Bool) (H : Heap) (xs : List CV) : Option (CV × Heap) := fzE ctx false 4 l10_TrainStale_C [.tmp 8] st H xs
theorem l10_TrainStale_F_eq (st : Bool) (H : Heap) (xs : List CV) : l10_TrainStale_F st H xs = if xs.length = 4 then (eval ctx l10_TrainStale_C (enterC 0 xs) ⟨[], []⟩).bind (fzOut [.tmp 8] st false H) else none := (rfl)
theorem l10_TrainStale_call (cap args : List CV) (H : Heap) : call ctx (.fn (.func 4) [] cap) args H = (snapL H false false (args ++ cap)).bind (l10_TrainStale_F (CV.refs (args ++ cap)) H) := fz_call rfl (show ctx.info 4 = some l10_TrainStale_I by kernel_rfl) cap args H
noncomputable def l10_TrainWhole_F (st : Bool) (H : Heap) (xs : List CV) : Option (CV × Heap) := fzE ctx false 3 l10_TrainWhole_C [.tmp 6] st H xs
theorem l10_TrainWhole_F_eq (st : Bool) (H : Heap) (xs : List CV) : l10_TrainWhole_F st H xs = if xs.length = 3 then (eval ctx l10_TrainWhole_C (enterC 0 xs) ⟨[], []⟩).bind (fzOut [.tmp 6] st false H) else none := (rfl)
theorem l10_TrainWhole_call (cap args : List CV) (H : Heap) : call ctx (.fn (.func 5) [] cap) args H = (snapL H false false (args ++ cap)).bind (l10_TrainWhole_F (CV.refs (args ++ cap)) H) := fz_call rfl (show ctx.info 5 = some l10_TrainWhole_I by kernel_rfl) cap args H
noncomputable def l10_behind_F (st : Bool) (H : Heap) (xs : List CV) : Option (CV × Heap) := fzE ctx false 0 l10_behind_C [.tmp 0] st H xs
theorem l10_behind_F_eq (st : Bool) (H : Heap) (xs : List CV) : l10_behind_F st H xs = if xs.length = 0 then (eval ctx l10_behind_C (enterC 0 xs) ⟨[], []⟩).bind (fzOut [.tmp 0] st false H) else none := (rfl)
theorem l10_behind_call (cap args : List CV) (H : Heap) : call ctx (.fn (.func 15) [] cap) args H = (snapL H false false (args ++ cap)).bind (l10_behind_F (CV.refs (args ++ cap)) H) := fz_call rfl (show ctx.info 15 = some l10_behind_I by kernel_rfl) cap args H
noncomputable def r04_Small_F (st : Bool) (H : Heap) (xs : List CV) : Option (CV × Heap) := fzE ctx false 1 r04_Small_C [.tmp 2] st H xs
theorem r04_Small_F_eq (st : Bool) (H : Heap) (xs : List CV) : r04_Small_F st H xs = if xs.length = 1 then (eval ctx r04_Small_C (enterC 0 xs) ⟨[], []⟩).bind (fzOut [.tmp 2] st false H) else none := (rfl)
theorem r04_Small_call (cap args : List CV) (H : Heap) : call ctx (.fn (.func 16) [] cap) args H = (snapL H false false (args ++ cap)).bind (r04_Small_F (CV.refs (args ++ cap)) H) := fz_call rfl (show ctx.info 16 = some r04_Small_I by kernel_rfl) cap args H
noncomputable def r05_Full_F (st : Bool) (H : Heap) (xs : List CV) : Option (CV × Heap) := fzE ctx false 1 r05_Full_C [.cell 2 true 10] st H xs
theorem r05_Full_F_eq (st : Bool) (H : Heap) (xs : List CV) : r05_Full_F st H xs = if xs.length = 1 then (eval ctx r05_Full_C (enterC 0 xs) ⟨[], []⟩).bind (fzOut [.cell 2 true 10] st false H) else none := (rfl)
theorem r05_Full_call (cap args : List CV) (H : Heap) : call ctx (.fn (.func 17) [] cap) args H = (snapL H false false (args ++ cap)).bind (r05_Full_F (CV.refs (args ++ cap)) H) := fz_call rfl (show ctx.info 17 = some r05_Full_I by kernel_rfl) cap args H
noncomputable def graph_New_F (st : Bool) (H : Heap) (xs : List CV) : Option (CV × Heap) := fzE ctx false 1 graph_New_C [.tmp 2] st H xs
theorem graph_New_F_eq (st : Bool) (H : Heap) (xs : List CV) : graph_New_F st H xs = if xs.length = 1 then (eval ctx graph_New_C (enterC 0 xs) ⟨[], []⟩).bind (fzOut [.tmp 2] st false H) else none := (rfl)
theorem graph_New_call (cap args : List CV) (H : Heap) : call ctx (.fn (.func 18) [] cap) args H = (snapL H false false (args ++ cap)).bind (graph_New_F (CV.refs (args ++ cap)) H) := fz_call rfl (show ctx.info 18 = some graph_New_I by kernel_rfl) cap args H
noncomputable def l10_report_F (st : Bool) (H : Heap) (xs : List CV) : Option (CV × Heap) := fzE ctx false 3 l10_report_C [.cell 6 true 7] st H xs
theorem l10_report_F_eq (st : Bool) (H : Heap) (xs : List CV) : l10_report_F st H xs = if xs.length = 3 then (eval ctx l10_report_C (enterC 0 xs) ⟨[], []⟩).bind (fzOut [.cell 6 true 7] st false H) else none := (rfl)
theorem l10_report_call (cap args : List CV) (H : Heap) : call ctx (.fn (.func 19) [] cap) args H = (snapL H false false (args ++ cap)).bind (l10_report_F (CV.refs (args ++ cap)) H) := fz_call rfl (show ctx.info 19 = some l10_report_I by kernel_rfl) cap args H
noncomputable def train_Fits_F (st : Bool) (H : Heap) (xs : List CV) : Option (CV × Heap) := fzE ctx false 2 train_Fits_C [.tmp 4] st H xs
theorem train_Fits_F_eq (st : Bool) (H : Heap) (xs : List CV) : train_Fits_F st H xs = if xs.length = 2 then (eval ctx train_Fits_C (enterC 0 xs) ⟨[], []⟩).bind (fzOut [.tmp 4] st false H) else none := (rfl)
theorem train_Fits_call (cap args : List CV) (H : Heap) : call ctx (.fn (.func 20) [] cap) args H = (snapL H false false (args ++ cap)).bind (train_Fits_F (CV.refs (args ++ cap)) H) := fz_call rfl (show ctx.info 20 = some train_Fits_I by kernel_rfl) cap args H
noncomputable def r10_Fits_F (st : Bool) (H : Heap) (xs : List CV) : Option (CV × Heap) := fzE ctx false 2 r10_Fits_C [.tmp 4] st H xs
theorem r10_Fits_F_eq (st : Bool) (H : Heap) (xs : List CV) : r10_Fits_F st H xs = if xs.length = 2 then (eval ctx r10_Fits_C (enterC 0 xs) ⟨[], []⟩).bind (fzOut [.tmp 4] st false H) else none := (rfl)
theorem r10_Fits_call (cap args : List CV) (H : Heap) : call ctx (.fn (.func 21) [] cap) args H = (snapL H false false (args ++ cap)).bind (r10_Fits_F (CV.refs (args ++ cap)) H) := fz_call rfl (show ctx.info 21 = some r10_Fits_I by kernel_rfl) cap args H
noncomputable def r10_Back_F (st : Bool) (H : Heap) (xs : List CV) : Option (CV × Heap) := fzE ctx false 1 r10_Back_C [.tmp 2] st H xs
theorem r10_Back_F_eq (st : Bool) (H : Heap) (xs : List CV) : r10_Back_F st H xs = if xs.length = 1 then (eval ctx r10_Back_C (enterC 0 xs) ⟨[], []⟩).bind (fzOut [.tmp 2] st false H) else none := (rfl)
theorem r10_Back_call (cap args : List CV) (H : Heap) : call ctx (.fn (.func 22) [] cap) args H = (snapL H false false (args ++ cap)).bind (r10_Back_F (CV.refs (args ++ cap)) H) := fz_call rfl (show ctx.info 22 = some r10_Back_I by kernel_rfl) cap args H
noncomputable def train_New_F (bx : List (Nat × List CV)) (bl : List Blk) (xs : List CV) : Option (CV × Heap) := if xs.length = 0 then (eval ctx train_New_C (enterC 0 xs) ⟨[], bl⟩).bind (refOut [.tmp 0] bx) else none
theorem train_New_F_eq (bx : List (Nat × List CV)) (bl : List Blk) (xs : List CV) : train_New_F bx bl xs = if xs.length = 0 then (eval ctx train_New_C (enterC 0 xs) ⟨[], bl⟩).bind (refOut [.tmp 0] bx) else none := (rfl)
theorem train_New_call (cap args : List CV) (bx : List (Nat × List CV)) (bl : List Blk) : call ctx (.fn (.func 23) [] cap) args ⟨bx, bl⟩ = if CV.locs (args ++ cap) then none else train_New_F bx bl (args ++ cap) := ref_call rfl (show ctx.info 23 = some train_New_I by kernel_rfl) cap args bx bl
noncomputable def train_Register_Note_F (bx : List (Nat × List CV)) (bl : List Blk) (xs : List CV) : Option (CV × Heap) := if xs.length = 5 then (eval ctx train_Register_Note_C (enterC 0 xs) ⟨[], bl⟩).bind (refOut [.tmp 10] bx) else none
theorem train_Register_Note_F_eq (bx : List (Nat × List CV)) (bl : List Blk) (xs : List CV) : train_Register_Note_F bx bl xs = if xs.length = 5 then (eval ctx train_Register_Note_C (enterC 0 xs) ⟨[], bl⟩).bind (refOut [.tmp 10] bx) else none := (rfl)
theorem train_Register_Note_call (cap args : List CV) (bx : List (Nat × List CV)) (bl : List Blk) : call ctx (.fn (.func 24) [] cap) args ⟨bx, bl⟩ = if CV.locs (args ++ cap) then none else train_Register_Note_F bx bl (args ++ cap) := ref_call rfl (show ctx.info 24 = some train_Register_Note_I by kernel_rfl) cap args bx bl
noncomputable def train_Register_Open_F (bx : List (Nat × List CV)) (bl : List Blk) (xs : List CV) : Option (CV × Heap) := if xs.length = 3 then (eval ctx train_Register_Open_C (enterC 0 xs) ⟨[], bl⟩).bind (refOut [.tmp 6] bx) else none
theorem train_Register_Open_F_eq (bx : List (Nat × List CV)) (bl : List Blk) (xs : List CV) : train_Register_Open_F bx bl xs = if xs.length = 3 then (eval ctx train_Register_Open_C (enterC 0 xs) ⟨[], bl⟩).bind (refOut [.tmp 6] bx) else none := (rfl)
theorem train_Register_Open_call (cap args : List CV) (bx : List (Nat × List CV)) (bl : List Blk) : call ctx (.fn (.func 25) [] cap) args ⟨bx, bl⟩ = if CV.locs (args ++ cap) then none else train_Register_Open_F bx bl (args ++ cap) := ref_call rfl (show ctx.info 25 = some train_Register_Open_I by kernel_rfl) cap args bx bl
noncomputable def train_Register_Get_F (bx : List (Nat × List CV)) (bl : List Blk) (xs : List CV) : Option (CV × Heap) := if xs.length = 2 then (eval ctx train_Register_Get_C (enterC 0 xs) ⟨[], bl⟩).bind (refOut [.cell 4 true 6, .tmp 5] bx) else none
theorem train_Register_Get_F_eq (bx : List (Nat × List CV)) (bl : List Blk) (xs : List CV) : train_Register_Get_F bx bl xs = if xs.length = 2 then (eval ctx train_Register_Get_C (enterC 0 xs) ⟨[], bl⟩).bind (refOut [.cell 4 true 6, .tmp 5] bx) else none := (rfl)
theorem train_Register_Get_call (cap args : List CV) (bx : List (Nat × List CV)) (bl : List Blk) : call ctx (.fn (.func 26) [] cap) args ⟨bx, bl⟩ = if CV.locs (args ++ cap) then none else train_Register_Get_F bx bl (args ++ cap) := ref_call rfl (show ctx.info 26 = some train_Register_Get_I by kernel_rfl) cap args bx bl
noncomputable def r01_Ints_F (st : Bool) (H : Heap) (xs : List CV) : Option (CV × Heap) := fzE ctx false 2 r01_Ints_C [.tmp 4] st H xs
theorem r01_Ints_F_eq (st : Bool) (H : Heap) (xs : List CV) : r01_Ints_F st H xs = if xs.length = 2 then (eval ctx r01_Ints_C (enterC 0 xs) ⟨[], []⟩).bind (fzOut [.tmp 4] st false H) else none := (rfl)
theorem r01_Ints_call (cap args : List CV) (H : Heap) : call ctx (.fn (.func 27) [] cap) args H = (snapL H false false (args ++ cap)).bind (r01_Ints_F (CV.refs (args ++ cap)) H) := fz_call rfl (show ctx.info 27 = some r01_Ints_I by kernel_rfl) cap args H
noncomputable def r10_Join_F (st : Bool) (H : Heap) (xs : List CV) : Option (CV × Heap) := fzE ctx false 2 r10_Join_C [.tmp 4] st H xs
theorem r10_Join_F_eq (st : Bool) (H : Heap) (xs : List CV) : r10_Join_F st H xs = if xs.length = 2 then (eval ctx r10_Join_C (enterC 0 xs) ⟨[], []⟩).bind (fzOut [.tmp 4] st false H) else none := (rfl)
theorem r10_Join_call (cap args : List CV) (H : Heap) : call ctx (.fn (.func 28) [] cap) args H = (snapL H false false (args ++ cap)).bind (r10_Join_F (CV.refs (args ++ cap)) H) := fz_call rfl (show ctx.info 28 = some r10_Join_I by kernel_rfl) cap args H
noncomputable def graph_Graph_Around_F (st : Bool) (H : Heap) (xs : List CV) : Option (CV × Heap) := fzE ctx false 2 graph_Graph_Around_C [.tmp 4] st H xs
theorem graph_Graph_Around_F_eq (st : Bool) (H : Heap) (xs : List CV) : graph_Graph_Around_F st H xs = if xs.length = 2 then (eval ctx graph_Graph_Around_C (enterC 0 xs) ⟨[], []⟩).bind (fzOut [.tmp 4] st false H) else none := (rfl)
theorem graph_Graph_Around_call (cap args : List CV) (H : Heap) : call ctx (.fn (.func 41) [] cap) args H = (snapL H false false (args ++ cap)).bind (graph_Graph_Around_F (CV.refs (args ++ cap)) H) := fz_call rfl (show ctx.info 41 = some graph_Graph_Around_I by kernel_rfl) cap args H
noncomputable def r01_Has_F (st : Bool) (H : Heap) (xs : List CV) : Option (CV × Heap) := fzE ctx false 2 r01_Has_C [.tmp 4] st H xs
theorem r01_Has_F_eq (st : Bool) (H : Heap) (xs : List CV) : r01_Has_F st H xs = if xs.length = 2 then (eval ctx r01_Has_C (enterC 0 xs) ⟨[], []⟩).bind (fzOut [.tmp 4] st false H) else none := (rfl)
theorem r01_Has_call (cap args : List CV) (H : Heap) : call ctx (.fn (.func 42) [] cap) args H = (snapL H false false (args ++ cap)).bind (r01_Has_F (CV.refs (args ++ cap)) H) := fz_call rfl (show ctx.info 42 = some r01_Has_I by kernel_rfl) cap args H
noncomputable def graph_Graph_Ends_F (st : Bool) (H : Heap) (xs : List CV) : Option (CV × Heap) := oE ctx 2 graph_Graph_Ends_C [.tmp 4] st H xs
theorem graph_Graph_Ends_F_eq (st : Bool) (H : Heap) (xs : List CV) : graph_Graph_Ends_F st H xs = if xs.length = 2 then (eval ctx graph_Graph_Ends_C (enterC 0 xs) ⟨[], []⟩).bind (ownOut [.tmp 4] st H) else none := (rfl)
theorem graph_Graph_Ends_call (cap args : List CV) (H : Heap) : call ctx (.fn (.func 44) [] cap) args H = (snapL H false false (args ++ cap)).bind (graph_Graph_Ends_F (CV.refs (args ++ cap)) H) := own_call rfl (show ctx.info 44 = some graph_Graph_Ends_I by kernel_rfl) cap args H
noncomputable def graph_Graph_Len_F (st : Bool) (H : Heap) (xs : List CV) : Option (CV × Heap) := fzE ctx false 2 graph_Graph_Len_C [.tmp 4] st H xs
theorem graph_Graph_Len_F_eq (st : Bool) (H : Heap) (xs : List CV) : graph_Graph_Len_F st H xs = if xs.length = 2 then (eval ctx graph_Graph_Len_C (enterC 0 xs) ⟨[], []⟩).bind (fzOut [.tmp 4] st false H) else none := (rfl)
theorem graph_Graph_Len_call (cap args : List CV) (H : Heap) : call ctx (.fn (.func 47) [] cap) args H = (snapL H false false (args ++ cap)).bind (graph_Graph_Len_F (CV.refs (args ++ cap)) H) := fz_call rfl (show ctx.info 47 = some graph_Graph_Len_I by kernel_rfl) cap args H
noncomputable def r05_Walk_F (st : Bool) (H : Heap) (xs : List CV) : Option (CV × Heap) := fzE ctx false 5 r05_Walk_C [.tmp 10] st H xs
theorem r05_Walk_F_eq (st : Bool) (H : Heap) (xs : List CV) : r05_Walk_F st H xs = if xs.length = 5 then (eval ctx r05_Walk_C (enterC 0 xs) ⟨[], []⟩).bind (fzOut [.tmp 10] st false H) else none := (rfl)
theorem r05_Walk_call (cap args : List CV) (H : Heap) : call ctx (.fn (.func 48) [] cap) args H = (snapL H false false (args ++ cap)).bind (r05_Walk_F (CV.refs (args ++ cap)) H) := fz_call rfl (show ctx.info 48 = some r05_Walk_I by kernel_rfl) cap args H
noncomputable def graph_Graph_Point_F (st : Bool) (H : Heap) (xs : List CV) : Option (CV × Heap) := fzE ctx false 2 graph_Graph_Point_C [.tmp 4] st H xs
theorem graph_Graph_Point_F_eq (st : Bool) (H : Heap) (xs : List CV) : graph_Graph_Point_F st H xs = if xs.length = 2 then (eval ctx graph_Graph_Point_C (enterC 0 xs) ⟨[], []⟩).bind (fzOut [.tmp 4] st false H) else none := (rfl)
theorem graph_Graph_Point_call (cap args : List CV) (H : Heap) : call ctx (.fn (.func 53) [] cap) args H = (snapL H false false (args ++ cap)).bind (graph_Graph_Point_F (CV.refs (args ++ cap)) H) := fz_call rfl (show ctx.info 53 = some graph_Graph_Point_I by kernel_rfl) cap args H
noncomputable def train_Join_F (st : Bool) (H : Heap) (xs : List CV) : Option (CV × Heap) := fzE ctx false 2 train_Join_C [.tmp 4] st H xs
theorem train_Join_F_eq (st : Bool) (H : Heap) (xs : List CV) : train_Join_F st H xs = if xs.length = 2 then (eval ctx train_Join_C (enterC 0 xs) ⟨[], []⟩).bind (fzOut [.tmp 4] st false H) else none := (rfl)
theorem train_Join_call (cap args : List CV) (H : Heap) : call ctx (.fn (.func 54) [] cap) args H = (snapL H false false (args ++ cap)).bind (train_Join_F (CV.refs (args ++ cap)) H) := fz_call rfl (show ctx.info 54 = some train_Join_I by kernel_rfl) cap args H
noncomputable def r04_Make_F (st : Bool) (H : Heap) (xs : List CV) : Option (CV × Heap) := fzE ctx true 1 r04_Make_C [.cell 2 true 10] st H xs
theorem r04_Make_F_eq (st : Bool) (H : Heap) (xs : List CV) : r04_Make_F st H xs = if xs.length = 1 then (eval ctx r04_Make_C (enterC 0 xs) ⟨[], []⟩).bind (fzOut [.cell 2 true 10] st true H) else none := (rfl)
theorem r04_Make_call (cap args : List CV) (H : Heap) : call ctx (.fn (.func 55) [] cap) args H = (snapL H false false (args ++ cap)).bind (r04_Make_F (CV.refs (args ++ cap)) H) := fz_call rfl (show ctx.info 55 = some r04_Make_I by kernel_rfl) cap args H
noncomputable def r05_Len_F (st : Bool) (H : Heap) (xs : List CV) : Option (CV × Heap) := fzE ctx false 2 r05_Len_C [.tmp 4] st H xs
theorem r05_Len_F_eq (st : Bool) (H : Heap) (xs : List CV) : r05_Len_F st H xs = if xs.length = 2 then (eval ctx r05_Len_C (enterC 0 xs) ⟨[], []⟩).bind (fzOut [.tmp 4] st false H) else none := (rfl)
theorem r05_Len_call (cap args : List CV) (H : Heap) : call ctx (.fn (.func 56) [] cap) args H = (snapL H false false (args ++ cap)).bind (r05_Len_F (CV.refs (args ++ cap)) H) := fz_call rfl (show ctx.info 56 = some r05_Len_I by kernel_rfl) cap args H
noncomputable def train_unlike_F (st : Bool) (H : Heap) (xs : List CV) : Option (CV × Heap) := fzE ctx false 2 train_unlike_C [.tmp 4] st H xs
theorem train_unlike_F_eq (st : Bool) (H : Heap) (xs : List CV) : train_unlike_F st H xs = if xs.length = 2 then (eval ctx train_unlike_C (enterC 0 xs) ⟨[], []⟩).bind (fzOut [.tmp 4] st false H) else none := (rfl)
theorem train_unlike_call (cap args : List CV) (H : Heap) : call ctx (.fn (.func 57) [] cap) args H = (snapL H false false (args ++ cap)).bind (train_unlike_F (CV.refs (args ++ cap)) H) := fz_call rfl (show ctx.info 57 = some train_unlike_I by kernel_rfl) cap args H
noncomputable def slices_IndexFunc_End_F (st : Bool) (H : Heap) (xs : List CV) : Option (CV × Heap) := fzE ctx false 2 slices_IndexFunc_End_C [.tmp 4] st H xs
theorem slices_IndexFunc_End_F_eq (st : Bool) (H : Heap) (xs : List CV) : slices_IndexFunc_End_F st H xs = if xs.length = 2 then (eval ctx slices_IndexFunc_End_C (enterC 0 xs) ⟨[], []⟩).bind (fzOut [.tmp 4] st false H) else none := (rfl)
theorem slices_IndexFunc_End_call (cap args : List CV) (H : Heap) : call ctx (.fn (.func 58) [] cap) args H = (snapL H false false (args ++ cap)).bind (slices_IndexFunc_End_F (CV.refs (args ++ cap)) H) := fz_call rfl (show ctx.info 58 = some slices_IndexFunc_End_I by kernel_rfl) cap args H
noncomputable def train_Fits_1_F (st : Bool) (H : Heap) (xs : List CV) : Option (CV × Heap) := fzE ctx false 2 train_Fits_1_C [.tmp 3] st H xs
theorem train_Fits_1_F_eq (st : Bool) (H : Heap) (xs : List CV) : train_Fits_1_F st H xs = if xs.length = 2 then (eval ctx train_Fits_1_C (enterC 0 xs) ⟨[], []⟩).bind (fzOut [.tmp 3] st false H) else none := (rfl)
theorem train_Fits_1_call (cap args : List CV) (H : Heap) : call ctx (.fn (.func 59) [] cap) args H = (snapL H false false (args ++ cap)).bind (train_Fits_1_F (CV.refs (args ++ cap)) H) := fz_call rfl (show ctx.info 59 = some train_Fits_1_I by kernel_rfl) cap args H
noncomputable def r01_Rise_F (st : Bool) (H : Heap) (xs : List CV) : Option (CV × Heap) := fzE ctx false 1 r01_Rise_C [.tmp 2] st H xs
theorem r01_Rise_F_eq (st : Bool) (H : Heap) (xs : List CV) : r01_Rise_F st H xs = if xs.length = 1 then (eval ctx r01_Rise_C (enterC 0 xs) ⟨[], []⟩).bind (fzOut [.tmp 2] st false H) else none := (rfl)
theorem r01_Rise_call (cap args : List CV) (H : Heap) : call ctx (.fn (.func 60) [] cap) args H = (snapL H false false (args ++ cap)).bind (r01_Rise_F (CV.refs (args ++ cap)) H) := fz_call rfl (show ctx.info 60 = some r01_Rise_I by kernel_rfl) cap args H
noncomputable def r05_Around_F (st : Bool) (H : Heap) (xs : List CV) : Option (CV × Heap) := fzE ctx false 2 r05_Around_C [.tmp 4] st H xs
theorem r05_Around_F_eq (st : Bool) (H : Heap) (xs : List CV) : r05_Around_F st H xs = if xs.length = 2 then (eval ctx r05_Around_C (enterC 0 xs) ⟨[], []⟩).bind (fzOut [.tmp 4] st false H) else none := (rfl)
theorem r05_Around_call (cap args : List CV) (H : Heap) : call ctx (.fn (.func 61) [] cap) args H = (snapL H false false (args ++ cap)).bind (r05_Around_F (CV.refs (args ++ cap)) H) := fz_call rfl (show ctx.info 61 = some r05_Around_I by kernel_rfl) cap args H
noncomputable def slices_Clone_int_F (st : Bool) (H : Heap) (xs : List CV) : Option (CV × Heap) := oE ctx 1 slices_Clone_int_C [.tmp 2] st H xs
theorem slices_Clone_int_F_eq (st : Bool) (H : Heap) (xs : List CV) : slices_Clone_int_F st H xs = if xs.length = 1 then (eval ctx slices_Clone_int_C (enterC 0 xs) ⟨[], []⟩).bind (ownOut [.tmp 2] st H) else none := (rfl)
theorem slices_Clone_int_call (cap args : List CV) (H : Heap) : call ctx (.fn (.func 62) [] cap) args H = (snapL H false false (args ++ cap)).bind (slices_Clone_int_F (CV.refs (args ++ cap)) H) := own_call rfl (show ctx.info 62 = some slices_Clone_int_I by kernel_rfl) cap args H
noncomputable def graph_Graph_node_F (st : Bool) (H : Heap) (xs : List CV) : Option (CV × Heap) := fzE ctx false 2 graph_Graph_node_C [.tmp 4, .tmp 5] st H xs
theorem graph_Graph_node_F_eq (st : Bool) (H : Heap) (xs : List CV) : graph_Graph_node_F st H xs = if xs.length = 2 then (eval ctx graph_Graph_node_C (enterC 0 xs) ⟨[], []⟩).bind (fzOut [.tmp 4, .tmp 5] st false H) else none := (rfl)
theorem graph_Graph_node_call (cap args : List CV) (H : Heap) : call ctx (.fn (.func 76) [] cap) args H = (snapL H false false (args ++ cap)).bind (graph_Graph_node_F (CV.refs (args ++ cap)) H) := fz_call rfl (show ctx.info 76 = some graph_Graph_node_I by kernel_rfl) cap args H
noncomputable def slices_DeleteFunc_End_F (bx : List (Nat × List CV)) (bl : List Blk) (xs : List CV) : Option (CV × Heap) := if xs.length = 2 then (eval ctx slices_DeleteFunc_End_C (enterC 0 xs) ⟨[], bl⟩).bind (refOut [.tmp 4] bx) else none
theorem slices_DeleteFunc_End_F_eq (bx : List (Nat × List CV)) (bl : List Blk) (xs : List CV) : slices_DeleteFunc_End_F bx bl xs = if xs.length = 2 then (eval ctx slices_DeleteFunc_End_C (enterC 0 xs) ⟨[], bl⟩).bind (refOut [.tmp 4] bx) else none := (rfl)
theorem slices_DeleteFunc_End_call (cap args : List CV) (bx : List (Nat × List CV)) (bl : List Blk) : call ctx (.fn (.func 77) [] cap) args ⟨bx, bl⟩ = if CV.locs (args ++ cap) then none else slices_DeleteFunc_End_F bx bl (args ++ cap) := ref_call rfl (show ctx.info 77 = some slices_DeleteFunc_End_I by kernel_rfl) cap args bx bl
noncomputable def graph_Graph_Around_1_F (st : Bool) (H : Heap) (xs : List CV) : Option (CV × Heap) := fzE ctx false 2 graph_Graph_Around_1_C [.tmp 3] st H xs
theorem graph_Graph_Around_1_F_eq (st : Bool) (H : Heap) (xs : List CV) : graph_Graph_Around_1_F st H xs = if xs.length = 2 then (eval ctx graph_Graph_Around_1_C (enterC 0 xs) ⟨[], []⟩).bind (fzOut [.tmp 3] st false H) else none := (rfl)
theorem graph_Graph_Around_1_call (cap args : List CV) (H : Heap) : call ctx (.fn (.func 78) [] cap) args H = (snapL H false false (args ++ cap)).bind (graph_Graph_Around_1_F (CV.refs (args ++ cap)) H) := fz_call rfl (show ctx.info 78 = some graph_Graph_Around_1_I by kernel_rfl) cap args H
noncomputable def graph_Graph_at_F (st : Bool) (H : Heap) (xs : List CV) : Option (CV × Heap) := fzE ctx false 3 graph_Graph_at_C [.tmp 6] st H xs
theorem graph_Graph_at_F_eq (st : Bool) (H : Heap) (xs : List CV) : graph_Graph_at_F st H xs = if xs.length = 3 then (eval ctx graph_Graph_at_C (enterC 0 xs) ⟨[], []⟩).bind (fzOut [.tmp 6] st false H) else none := (rfl)
theorem graph_Graph_at_call (cap args : List CV) (H : Heap) : call ctx (.fn (.func 80) [] cap) args H = (snapL H false false (args ++ cap)).bind (graph_Graph_at_F (CV.refs (args ++ cap)) H) := fz_call rfl (show ctx.info 80 = some graph_Graph_at_I by kernel_rfl) cap args H
noncomputable def graph_Graph_section_F (st : Bool) (H : Heap) (xs : List CV) : Option (CV × Heap) := fzE ctx false 2 graph_Graph_section_C [.cell 4 true 3, .tmp 5] st H xs
theorem graph_Graph_section_F_eq (st : Bool) (H : Heap) (xs : List CV) : graph_Graph_section_F st H xs = if xs.length = 2 then (eval ctx graph_Graph_section_C (enterC 0 xs) ⟨[], []⟩).bind (fzOut [.cell 4 true 3, .tmp 5] st false H) else none := (rfl)
theorem graph_Graph_section_call (cap args : List CV) (H : Heap) : call ctx (.fn (.func 83) [] cap) args H = (snapL H false false (args ++ cap)).bind (graph_Graph_section_F (CV.refs (args ++ cap)) H) := fz_call rfl (show ctx.info 83 = some graph_Graph_section_I by kernel_rfl) cap args H
noncomputable def slices_IndexFunc_int_F (st : Bool) (H : Heap) (xs : List CV) : Option (CV × Heap) := fzE ctx false 2 slices_IndexFunc_int_C [.tmp 4] st H xs
theorem slices_IndexFunc_int_F_eq (st : Bool) (H : Heap) (xs : List CV) : slices_IndexFunc_int_F st H xs = if xs.length = 2 then (eval ctx slices_IndexFunc_int_C (enterC 0 xs) ⟨[], []⟩).bind (fzOut [.tmp 4] st false H) else none := (rfl)
theorem slices_IndexFunc_int_call (cap args : List CV) (H : Heap) : call ctx (.fn (.func 84) [] cap) args H = (snapL H false false (args ++ cap)).bind (slices_IndexFunc_int_F (CV.refs (args ++ cap)) H) := fz_call rfl (show ctx.info 84 = some slices_IndexFunc_int_I by kernel_rfl) cap args H
noncomputable def slices_Contains_int_F (st : Bool) (H : Heap) (xs : List CV) : Option (CV × Heap) := fzE ctx false 2 slices_Contains_int_C [.tmp 4] st H xs
theorem slices_Contains_int_F_eq (st : Bool) (H : Heap) (xs : List CV) : slices_Contains_int_F st H xs = if xs.length = 2 then (eval ctx slices_Contains_int_C (enterC 0 xs) ⟨[], []⟩).bind (fzOut [.tmp 4] st false H) else none := (rfl)
theorem slices_Contains_int_call (cap args : List CV) (H : Heap) : call ctx (.fn (.func 86) [] cap) args H = (snapL H false false (args ++ cap)).bind (slices_Contains_int_F (CV.refs (args ++ cap)) H) := fz_call rfl (show ctx.info 86 = some slices_Contains_int_I by kernel_rfl) cap args H
noncomputable def r05_Point_F (st : Bool) (H : Heap) (xs : List CV) : Option (CV × Heap) := fzE ctx false 2 r05_Point_C [.tmp 4] st H xs
theorem r05_Point_F_eq (st : Bool) (H : Heap) (xs : List CV) : r05_Point_F st H xs = if xs.length = 2 then (eval ctx r05_Point_C (enterC 0 xs) ⟨[], []⟩).bind (fzOut [.tmp 4] st false H) else none := (rfl)
theorem r05_Point_call (cap args : List CV) (H : Heap) : call ctx (.fn (.func 89) [] cap) args H = (snapL H false false (args ++ cap)).bind (r05_Point_F (CV.refs (args ++ cap)) H) := fz_call rfl (show ctx.info 89 = some r05_Point_I by kernel_rfl) cap args H
noncomputable def r05_Ends_F (st : Bool) (H : Heap) (xs : List CV) : Option (CV × Heap) := fzE ctx false 2 r05_Ends_C [.tmp 4] st H xs
theorem r05_Ends_F_eq (st : Bool) (H : Heap) (xs : List CV) : r05_Ends_F st H xs = if xs.length = 2 then (eval ctx r05_Ends_C (enterC 0 xs) ⟨[], []⟩).bind (fzOut [.tmp 4] st false H) else none := (rfl)
theorem r05_Ends_call (cap args : List CV) (H : Heap) : call ctx (.fn (.func 91) [] cap) args H = (snapL H false false (args ++ cap)).bind (r05_Ends_F (CV.refs (args ++ cap)) H) := fz_call rfl (show ctx.info 91 = some r05_Ends_I by kernel_rfl) cap args H
noncomputable def slices_IndexFunc_Point_F (st : Bool) (H : Heap) (xs : List CV) : Option (CV × Heap) := fzE ctx false 2 slices_IndexFunc_Point_C [.tmp 4] st H xs
theorem slices_IndexFunc_Point_F_eq (st : Bool) (H : Heap) (xs : List CV) : slices_IndexFunc_Point_F st H xs = if xs.length = 2 then (eval ctx slices_IndexFunc_Point_C (enterC 0 xs) ⟨[], []⟩).bind (fzOut [.tmp 4] st false H) else none := (rfl)
theorem slices_IndexFunc_Point_call (cap args : List CV) (H : Heap) : call ctx (.fn (.func 98) [] cap) args H = (snapL H false false (args ++ cap)).bind (slices_IndexFunc_Point_F (CV.refs (args ++ cap)) H) := fz_call rfl (show ctx.info 98 = some slices_IndexFunc_Point_I by kernel_rfl) cap args H
noncomputable def graph_Graph_Point_1_F (st : Bool) (H : Heap) (xs : List CV) : Option (CV × Heap) := fzE ctx false 2 graph_Graph_Point_1_C [.tmp 3] st H xs
theorem graph_Graph_Point_1_F_eq (st : Bool) (H : Heap) (xs : List CV) : graph_Graph_Point_1_F st H xs = if xs.length = 2 then (eval ctx graph_Graph_Point_1_C (enterC 0 xs) ⟨[], []⟩).bind (fzOut [.tmp 3] st false H) else none := (rfl)
theorem graph_Graph_Point_1_call (cap args : List CV) (H : Heap) : call ctx (.fn (.func 99) [] cap) args H = (snapL H false false (args ++ cap)).bind (graph_Graph_Point_1_F (CV.refs (args ++ cap)) H) := fz_call rfl (show ctx.info 99 = some graph_Graph_Point_1_I by kernel_rfl) cap args H
noncomputable def slices_Index_int_F (st : Bool) (H : Heap) (xs : List CV) : Option (CV × Heap) := fzE ctx false 2 slices_Index_int_C [.tmp 4] st H xs
theorem slices_Index_int_F_eq (st : Bool) (H : Heap) (xs : List CV) : slices_Index_int_F st H xs = if xs.length = 2 then (eval ctx slices_Index_int_C (enterC 0 xs) ⟨[], []⟩).bind (fzOut [.tmp 4] st false H) else none := (rfl)
theorem slices_Index_int_call (cap args : List CV) (H : Heap) : call ctx (.fn (.func 100) [] cap) args H = (snapL H false false (args ++ cap)).bind (slices_Index_int_F (CV.refs (args ++ cap)) H) := fz_call rfl (show ctx.info 100 = some slices_Index_int_I by kernel_rfl) cap args H
noncomputable def r05_node_F (st : Bool) (H : Heap) (xs : List CV) : Option (CV × Heap) := fzE ctx false 2 r05_node_C [.tmp 4, .tmp 5] st H xs
theorem r05_node_F_eq (st : Bool) (H : Heap) (xs : List CV) : r05_node_F st H xs = if xs.length = 2 then (eval ctx r05_node_C (enterC 0 xs) ⟨[], []⟩).bind (fzOut [.tmp 4, .tmp 5] st false H) else none := (rfl)
theorem r05_node_call (cap args : List CV) (H : Heap) : call ctx (.fn (.func 101) [] cap) args H = (snapL H false false (args ++ cap)).bind (r05_node_F (CV.refs (args ++ cap)) H) := fz_call rfl (show ctx.info 101 = some r05_node_I by kernel_rfl) cap args H
noncomputable def r05_one_F (st : Bool) (H : Heap) (xs : List CV) : Option (CV × Heap) := fzE ctx false 3 r05_one_C [.tmp 6] st H xs
theorem r05_one_F_eq (st : Bool) (H : Heap) (xs : List CV) : r05_one_F st H xs = if xs.length = 3 then (eval ctx r05_one_C (enterC 0 xs) ⟨[], []⟩).bind (fzOut [.tmp 6] st false H) else none := (rfl)
theorem r05_one_call (cap args : List CV) (H : Heap) : call ctx (.fn (.func 102) [] cap) args H = (snapL H false false (args ++ cap)).bind (r05_one_F (CV.refs (args ++ cap)) H) := fz_call rfl (show ctx.info 102 = some r05_one_I by kernel_rfl) cap args H
noncomputable def slices_Concat_End_F (st : Bool) (H : Heap) (xs : List CV) : Option (CV × Heap) := fzE ctx false 1 slices_Concat_End_C [.tmp 2] st H xs
theorem slices_Concat_End_F_eq (st : Bool) (H : Heap) (xs : List CV) : slices_Concat_End_F st H xs = if xs.length = 1 then (eval ctx slices_Concat_End_C (enterC 0 xs) ⟨[], []⟩).bind (fzOut [.tmp 2] st false H) else none := (rfl)
theorem slices_Concat_End_call (cap args : List CV) (H : Heap) : call ctx (.fn (.func 79) [] cap) args H = (snapL H false false (args ++ cap)).bind (slices_Concat_End_F (CV.refs (args ++ cap)) H) := fz_call rfl (show ctx.info 79 = some slices_Concat_End_I by kernel_rfl) cap args H
noncomputable def slices_Grow_End_F (bx : List (Nat × List CV)) (bl : List Blk) (xs : List CV) : Option (CV × Heap) := if xs.length = 2 then (eval ctx slices_Grow_End_C (enterC 0 xs) ⟨[], bl⟩).bind (refOut [.tmp 4] bx) else none
theorem slices_Grow_End_F_eq (bx : List (Nat × List CV)) (bl : List Blk) (xs : List CV) : slices_Grow_End_F bx bl xs = if xs.length = 2 then (eval ctx slices_Grow_End_C (enterC 0 xs) ⟨[], bl⟩).bind (refOut [.tmp 4] bx) else none := (rfl)
theorem slices_Grow_End_call (cap args : List CV) (bx : List (Nat × List CV)) (bl : List Blk) : call ctx (.fn (.func 106) [] cap) args ⟨bx, bl⟩ = if CV.locs (args ++ cap) then none else slices_Grow_End_F bx bl (args ++ cap) := ref_call rfl (show ctx.info 106 = some slices_Grow_End_I by kernel_rfl) cap args bx bl
noncomputable def r04_Small_R0 (x : Env × Heap) : Out := intoE ctx 0 [1, 3] [1] r04_Small_B0 x
noncomputable def r04_Small_K0 (x : Ex × Env × Heap) : Out := roundE ctx 0 [1, 3] [1] r04_Small_B0 x
theorem r04_Small_L0_eq (env : Env) (H : Heap) : eval ctx r04_Small_L0 env H = (keepE [1, 3] env H).bind r04_Small_R0 := eval_bloop' ctx env H 0 [1, 3] [1] r04_Small_B0
theorem r04_Small_R0_eq (env : Env) (H : Heap) : r04_Small_R0 (env, H) = (eval ctx r04_Small_B0 env H).bind r04_Small_K0 := (rfl)
theorem r04_Small_K0_norm (env : Env) (H : Heap) : r04_Small_K0 (.norm, env, H) = (keepE [1, 3] env H).bind r04_Small_R0 := r04_Small_L0_eq env H
theorem r04_Small_K0_ret (env : Env) (H : Heap) : r04_Small_K0 (.ret, env, H) = some (.ret, env, H) := (rfl)
theorem r04_Small_K0_exit (k : Nat) (env : Env) (H : Heap) : r04_Small_K0 (.exit k, env, H) = if k = 0 then (keepE [1] env H).map normE else some (.exit k, env, H) := (rfl)
noncomputable def r05_Full_R0 (x : Env × Heap) : Out := intoE ctx 0 [1, 2, 3, 4] [2, 3] r05_Full_B0 x
noncomputable def r05_Full_K0 (x : Ex × Env × Heap) : Out := roundE ctx 0 [1, 2, 3, 4] [2, 3] r05_Full_B0 x
theorem r05_Full_L0_eq (env : Env) (H : Heap) : eval ctx r05_Full_L0 env H = (keepE [1, 2, 3, 4] env H).bind r05_Full_R0 := eval_bloop' ctx env H 0 [1, 2, 3, 4] [2, 3] r05_Full_B0
theorem r05_Full_R0_eq (env : Env) (H : Heap) : r05_Full_R0 (env, H) = (eval ctx r05_Full_B0 env H).bind r05_Full_K0 := (rfl)
theorem r05_Full_K0_norm (env : Env) (H : Heap) : r05_Full_K0 (.norm, env, H) = (keepE [1, 2, 3, 4] env H).bind r05_Full_R0 := r05_Full_L0_eq env H
theorem r05_Full_K0_ret (env : Env) (H : Heap) : r05_Full_K0 (.ret, env, H) = some (.ret, env, H) := (rfl)
theorem r05_Full_K0_exit (k : Nat) (env : Env) (H : Heap) : r05_Full_K0 (.exit k, env, H) = if k = 0 then (keepE [2, 3] env H).map normE else some (.exit k, env, H) := (rfl)
noncomputable def train_Fits_R0 (x : Env × Heap) : Out := intoE ctx 0 [0, 6, 60, 61, 62] [] train_Fits_B0 x
noncomputable def train_Fits_K0 (x : Ex × Env × Heap) : Out := roundE ctx 0 [0, 6, 60, 61, 62] [] train_Fits_B0 x
theorem train_Fits_L0_eq (env : Env) (H : Heap) : eval ctx train_Fits_L0 env H = (keepE [0, 6, 60, 61, 62] env H).bind train_Fits_R0 := eval_bloop' ctx env H 0 [0, 6, 60, 61, 62] [] train_Fits_B0
theorem train_Fits_R0_eq (env : Env) (H : Heap) : train_Fits_R0 (env, H) = (eval ctx train_Fits_B0 env H).bind train_Fits_K0 := (rfl)
theorem train_Fits_K0_norm (env : Env) (H : Heap) : train_Fits_K0 (.norm, env, H) = (keepE [0, 6, 60, 61, 62] env H).bind train_Fits_R0 := train_Fits_L0_eq env H
theorem train_Fits_K0_ret (env : Env) (H : Heap) : train_Fits_K0 (.ret, env, H) = some (.ret, env, H) := (rfl)
theorem train_Fits_K0_exit (k : Nat) (env : Env) (H : Heap) : train_Fits_K0 (.exit k, env, H) = if k = 0 then (keepE [] env H).map normE else some (.exit k, env, H) := (rfl)
noncomputable def r10_Fits_R0 (x : Env × Heap) : Out := intoE ctx 0 [2, 3, 5, 6] [2, 3, 5] r10_Fits_B0 x
noncomputable def r10_Fits_K0 (x : Ex × Env × Heap) : Out := roundE ctx 0 [2, 3, 5, 6] [2, 3, 5] r10_Fits_B0 x
theorem r10_Fits_L0_eq (env : Env) (H : Heap) : eval ctx r10_Fits_L0 env H = (keepE [2, 3, 5, 6] env H).bind r10_Fits_R0 := eval_bloop' ctx env H 0 [2, 3, 5, 6] [2, 3, 5] r10_Fits_B0
theorem r10_Fits_R0_eq (env : Env) (H : Heap) : r10_Fits_R0 (env, H) = (eval ctx r10_Fits_B0 env H).bind r10_Fits_K0 := (rfl)
theorem r10_Fits_K0_norm (env : Env) (H : Heap) : r10_Fits_K0 (.norm, env, H) = (keepE [2, 3, 5, 6] env H).bind r10_Fits_R0 := r10_Fits_L0_eq env H
theorem r10_Fits_K0_ret (env : Env) (H : Heap) : r10_Fits_K0 (.ret, env, H) = some (.ret, env, H) := (rfl)
theorem r10_Fits_K0_exit (k : Nat) (env : Env) (H : Heap) : r10_Fits_K0 (.exit k, env, H) = if k = 0 then (keepE [2, 3, 5] env H).map normE else some (.exit k, env, H) := (rfl)
noncomputable def r10_Fits_R4 (x : Env × Heap) : Out := intoE ctx 4 [2, 3, 5, 7, 8, 9, 10] [2, 3, 5, 7, 8, 9, 10] r10_Fits_B4 x
noncomputable def r10_Fits_K4 (x : Ex × Env × Heap) : Out := roundE ctx 4 [2, 3, 5, 7, 8, 9, 10] [2, 3, 5, 7, 8, 9, 10] r10_Fits_B4 x
theorem r10_Fits_L4_eq (env : Env) (H : Heap) : eval ctx r10_Fits_L4 env H = (keepE [2, 3, 5, 7, 8, 9, 10] env H).bind r10_Fits_R4 := eval_bloop' ctx env H 4 [2, 3, 5, 7, 8, 9, 10] [2, 3, 5, 7, 8, 9, 10] r10_Fits_B4
theorem r10_Fits_R4_eq (env : Env) (H : Heap) : r10_Fits_R4 (env, H) = (eval ctx r10_Fits_B4 env H).bind r10_Fits_K4 := (rfl)
theorem r10_Fits_K4_norm (env : Env) (H : Heap) : r10_Fits_K4 (.norm, env, H) = (keepE [2, 3, 5, 7, 8, 9, 10] env H).bind r10_Fits_R4 := r10_Fits_L4_eq env H
theorem r10_Fits_K4_ret (env : Env) (H : Heap) : r10_Fits_K4 (.ret, env, H) = some (.ret, env, H) := (rfl)
theorem r10_Fits_K4_exit (k : Nat) (env : Env) (H : Heap) : r10_Fits_K4 (.exit k, env, H) = if k = 4 then (keepE [2, 3, 5, 7, 8, 9, 10] env H).map normE else some (.exit k, env, H) := (rfl)
noncomputable def r10_Fits_R2 (x : Env × Heap) : Out := intoE ctx 2 [2, 3, 5, 7, 8] [] r10_Fits_B2 x
noncomputable def r10_Fits_K2 (x : Ex × Env × Heap) : Out := roundE ctx 2 [2, 3, 5, 7, 8] [] r10_Fits_B2 x
theorem r10_Fits_L2_eq (env : Env) (H : Heap) : eval ctx r10_Fits_L2 env H = (keepE [2, 3, 5, 7, 8] env H).bind r10_Fits_R2 := eval_bloop' ctx env H 2 [2, 3, 5, 7, 8] [] r10_Fits_B2
theorem r10_Fits_R2_eq (env : Env) (H : Heap) : r10_Fits_R2 (env, H) = (eval ctx r10_Fits_B2 env H).bind r10_Fits_K2 := (rfl)
theorem r10_Fits_K2_norm (env : Env) (H : Heap) : r10_Fits_K2 (.norm, env, H) = (keepE [2, 3, 5, 7, 8] env H).bind r10_Fits_R2 := r10_Fits_L2_eq env H
theorem r10_Fits_K2_ret (env : Env) (H : Heap) : r10_Fits_K2 (.ret, env, H) = some (.ret, env, H) := (rfl)
theorem r10_Fits_K2_exit (k : Nat) (env : Env) (H : Heap) : r10_Fits_K2 (.exit k, env, H) = if k = 2 then (keepE [] env H).map normE else some (.exit k, env, H) := (rfl)
noncomputable def r10_Back_R0 (x : Env × Heap) : Out := intoE ctx 0 [0, 3, 4] [3] r10_Back_B0 x
noncomputable def r10_Back_K0 (x : Ex × Env × Heap) : Out := roundE ctx 0 [0, 3, 4] [3] r10_Back_B0 x
theorem r10_Back_L0_eq (env : Env) (H : Heap) : eval ctx r10_Back_L0 env H = (keepE [0, 3, 4] env H).bind r10_Back_R0 := eval_bloop' ctx env H 0 [0, 3, 4] [3] r10_Back_B0
theorem r10_Back_R0_eq (env : Env) (H : Heap) : r10_Back_R0 (env, H) = (eval ctx r10_Back_B0 env H).bind r10_Back_K0 := (rfl)
theorem r10_Back_K0_norm (env : Env) (H : Heap) : r10_Back_K0 (.norm, env, H) = (keepE [0, 3, 4] env H).bind r10_Back_R0 := r10_Back_L0_eq env H
theorem r10_Back_K0_ret (env : Env) (H : Heap) : r10_Back_K0 (.ret, env, H) = some (.ret, env, H) := (rfl)
theorem r10_Back_K0_exit (k : Nat) (env : Env) (H : Heap) : r10_Back_K0 (.exit k, env, H) = if k = 0 then (keepE [3] env H).map normE else some (.exit k, env, H) := (rfl)
noncomputable def r01_Ints_R0 (x : Env × Heap) : Out := intoE ctx 0 [0, 1, 5] [] r01_Ints_B0 x
noncomputable def r01_Ints_K0 (x : Ex × Env × Heap) : Out := roundE ctx 0 [0, 1, 5] [] r01_Ints_B0 x
theorem r01_Ints_L0_eq (env : Env) (H : Heap) : eval ctx r01_Ints_L0 env H = (keepE [0, 1, 5] env H).bind r01_Ints_R0 := eval_bloop' ctx env H 0 [0, 1, 5] [] r01_Ints_B0
theorem r01_Ints_R0_eq (env : Env) (H : Heap) : r01_Ints_R0 (env, H) = (eval ctx r01_Ints_B0 env H).bind r01_Ints_K0 := (rfl)
theorem r01_Ints_K0_norm (env : Env) (H : Heap) : r01_Ints_K0 (.norm, env, H) = (keepE [0, 1, 5] env H).bind r01_Ints_R0 := r01_Ints_L0_eq env H
theorem r01_Ints_K0_ret (env : Env) (H : Heap) : r01_Ints_K0 (.ret, env, H) = some (.ret, env, H) := (rfl)
theorem r01_Ints_K0_exit (k : Nat) (env : Env) (H : Heap) : r01_Ints_K0 (.exit k, env, H) = if k = 0 then (keepE [] env H).map normE else some (.exit k, env, H) := (rfl)
noncomputable def r10_Join_R0 (x : Env × Heap) : Out := intoE ctx 0 [0, 1, 5, 6] [0, 1, 5] r10_Join_B0 x
noncomputable def r10_Join_K0 (x : Ex × Env × Heap) : Out := roundE ctx 0 [0, 1, 5, 6] [0, 1, 5] r10_Join_B0 x
theorem r10_Join_L0_eq (env : Env) (H : Heap) : eval ctx r10_Join_L0 env H = (keepE [0, 1, 5, 6] env H).bind r10_Join_R0 := eval_bloop' ctx env H 0 [0, 1, 5, 6] [0, 1, 5] r10_Join_B0
theorem r10_Join_R0_eq (env : Env) (H : Heap) : r10_Join_R0 (env, H) = (eval ctx r10_Join_B0 env H).bind r10_Join_K0 := (rfl)
theorem r10_Join_K0_norm (env : Env) (H : Heap) : r10_Join_K0 (.norm, env, H) = (keepE [0, 1, 5, 6] env H).bind r10_Join_R0 := r10_Join_L0_eq env H
theorem r10_Join_K0_ret (env : Env) (H : Heap) : r10_Join_K0 (.ret, env, H) = some (.ret, env, H) := (rfl)
theorem r10_Join_K0_exit (k : Nat) (env : Env) (H : Heap) : r10_Join_K0 (.exit k, env, H) = if k = 0 then (keepE [0, 1, 5] env H).map normE else some (.exit k, env, H) := (rfl)
noncomputable def r10_Join_R2 (x : Env × Heap) : Out := intoE ctx 2 [1, 7, 8] [7] r10_Join_B2 x
noncomputable def r10_Join_K2 (x : Ex × Env × Heap) : Out := roundE ctx 2 [1, 7, 8] [7] r10_Join_B2 x
theorem r10_Join_L2_eq (env : Env) (H : Heap) : eval ctx r10_Join_L2 env H = (keepE [1, 7, 8] env H).bind r10_Join_R2 := eval_bloop' ctx env H 2 [1, 7, 8] [7] r10_Join_B2
theorem r10_Join_R2_eq (env : Env) (H : Heap) : r10_Join_R2 (env, H) = (eval ctx r10_Join_B2 env H).bind r10_Join_K2 := (rfl)
theorem r10_Join_K2_norm (env : Env) (H : Heap) : r10_Join_K2 (.norm, env, H) = (keepE [1, 7, 8] env H).bind r10_Join_R2 := r10_Join_L2_eq env H
theorem r10_Join_K2_ret (env : Env) (H : Heap) : r10_Join_K2 (.ret, env, H) = some (.ret, env, H) := (rfl)
theorem r10_Join_K2_exit (k : Nat) (env : Env) (H : Heap) : r10_Join_K2 (.exit k, env, H) = if k = 2 then (keepE [7] env H).map normE else some (.exit k, env, H) := (rfl)
noncomputable def r01_Has_R0 (x : Env × Heap) : Out := intoE ctx 0 [0, 1, 5] [] r01_Has_B0 x
noncomputable def r01_Has_K0 (x : Ex × Env × Heap) : Out := roundE ctx 0 [0, 1, 5] [] r01_Has_B0 x
theorem r01_Has_L0_eq (env : Env) (H : Heap) : eval ctx r01_Has_L0 env H = (keepE [0, 1, 5] env H).bind r01_Has_R0 := eval_bloop' ctx env H 0 [0, 1, 5] [] r01_Has_B0
theorem r01_Has_R0_eq (env : Env) (H : Heap) : r01_Has_R0 (env, H) = (eval ctx r01_Has_B0 env H).bind r01_Has_K0 := (rfl)
theorem r01_Has_K0_norm (env : Env) (H : Heap) : r01_Has_K0 (.norm, env, H) = (keepE [0, 1, 5] env H).bind r01_Has_R0 := r01_Has_L0_eq env H
theorem r01_Has_K0_ret (env : Env) (H : Heap) : r01_Has_K0 (.ret, env, H) = some (.ret, env, H) := (rfl)
theorem r01_Has_K0_exit (k : Nat) (env : Env) (H : Heap) : r01_Has_K0 (.exit k, env, H) = if k = 0 then (keepE [] env H).map normE else some (.exit k, env, H) := (rfl)
noncomputable def graph_Graph_Ends_R2 (x : Env × Heap) : Out := intoE ctx 2 [0, 1, 5, 6, 26, 27] [0, 1, 5, 6] graph_Graph_Ends_B2 x
noncomputable def graph_Graph_Ends_K2 (x : Ex × Env × Heap) : Out := roundE ctx 2 [0, 1, 5, 6, 26, 27] [0, 1, 5, 6] graph_Graph_Ends_B2 x
theorem graph_Graph_Ends_L2_eq (env : Env) (H : Heap) : eval ctx graph_Graph_Ends_L2 env H = (keepE [0, 1, 5, 6, 26, 27] env H).bind graph_Graph_Ends_R2 := eval_bloop' ctx env H 2 [0, 1, 5, 6, 26, 27] [0, 1, 5, 6] graph_Graph_Ends_B2
theorem graph_Graph_Ends_R2_eq (env : Env) (H : Heap) : graph_Graph_Ends_R2 (env, H) = (eval ctx graph_Graph_Ends_B2 env H).bind graph_Graph_Ends_K2 := (rfl)
theorem graph_Graph_Ends_K2_norm (env : Env) (H : Heap) : graph_Graph_Ends_K2 (.norm, env, H) = (keepE [0, 1, 5, 6, 26, 27] env H).bind graph_Graph_Ends_R2 := graph_Graph_Ends_L2_eq env H
theorem graph_Graph_Ends_K2_ret (env : Env) (H : Heap) : graph_Graph_Ends_K2 (.ret, env, H) = some (.ret, env, H) := (rfl)
theorem graph_Graph_Ends_K2_exit (k : Nat) (env : Env) (H : Heap) : graph_Graph_Ends_K2 (.exit k, env, H) = if k = 2 then (keepE [0, 1, 5, 6] env H).map normE else some (.exit k, env, H) := (rfl)
noncomputable def graph_Graph_Ends_R0 (x : Env × Heap) : Out := intoE ctx 0 [0, 1, 5, 6] [] graph_Graph_Ends_B0 x
noncomputable def graph_Graph_Ends_K0 (x : Ex × Env × Heap) : Out := roundE ctx 0 [0, 1, 5, 6] [] graph_Graph_Ends_B0 x
theorem graph_Graph_Ends_L0_eq (env : Env) (H : Heap) : eval ctx graph_Graph_Ends_L0 env H = (keepE [0, 1, 5, 6] env H).bind graph_Graph_Ends_R0 := eval_bloop' ctx env H 0 [0, 1, 5, 6] [] graph_Graph_Ends_B0
theorem graph_Graph_Ends_R0_eq (env : Env) (H : Heap) : graph_Graph_Ends_R0 (env, H) = (eval ctx graph_Graph_Ends_B0 env H).bind graph_Graph_Ends_K0 := (rfl)
theorem graph_Graph_Ends_K0_norm (env : Env) (H : Heap) : graph_Graph_Ends_K0 (.norm, env, H) = (keepE [0, 1, 5, 6] env H).bind graph_Graph_Ends_R0 := graph_Graph_Ends_L0_eq env H
theorem graph_Graph_Ends_K0_ret (env : Env) (H : Heap) : graph_Graph_Ends_K0 (.ret, env, H) = some (.ret, env, H) := (rfl)
theorem graph_Graph_Ends_K0_exit (k : Nat) (env : Env) (H : Heap) : graph_Graph_Ends_K0 (.exit k, env, H) = if k = 0 then (keepE [] env H).map normE else some (.exit k, env, H) := (rfl)
noncomputable def r05_Walk_R0 (x : Env × Heap) : Out := intoE ctx 0 [3, 4, 5, 11, 12, 13] [11] r05_Walk_B0 x
noncomputable def r05_Walk_K0 (x : Ex × Env × Heap) : Out := roundE ctx 0 [3, 4, 5, 11, 12, 13] [11] r05_Walk_B0 x
theorem r05_Walk_L0_eq (env : Env) (H : Heap) : eval ctx r05_Walk_L0 env H = (keepE [3, 4, 5, 11, 12, 13] env H).bind r05_Walk_R0 := eval_bloop' ctx env H 0 [3, 4, 5, 11, 12, 13] [11] r05_Walk_B0
theorem r05_Walk_R0_eq (env : Env) (H : Heap) : r05_Walk_R0 (env, H) = (eval ctx r05_Walk_B0 env H).bind r05_Walk_K0 := (rfl)
theorem r05_Walk_K0_norm (env : Env) (H : Heap) : r05_Walk_K0 (.norm, env, H) = (keepE [3, 4, 5, 11, 12, 13] env H).bind r05_Walk_R0 := r05_Walk_L0_eq env H
theorem r05_Walk_K0_ret (env : Env) (H : Heap) : r05_Walk_K0 (.ret, env, H) = some (.ret, env, H) := (rfl)
theorem r05_Walk_K0_exit (k : Nat) (env : Env) (H : Heap) : r05_Walk_K0 (.exit k, env, H) = if k = 0 then (keepE [11] env H).map normE else some (.exit k, env, H) := (rfl)
noncomputable def train_Join_R0 (x : Env × Heap) : Out := intoE ctx 0 [5, 28, 29, 30] [5] train_Join_B0 x
noncomputable def train_Join_K0 (x : Ex × Env × Heap) : Out := roundE ctx 0 [5, 28, 29, 30] [5] train_Join_B0 x
theorem train_Join_L0_eq (env : Env) (H : Heap) : eval ctx train_Join_L0 env H = (keepE [5, 28, 29, 30] env H).bind train_Join_R0 := eval_bloop' ctx env H 0 [5, 28, 29, 30] [5] train_Join_B0
theorem train_Join_R0_eq (env : Env) (H : Heap) : train_Join_R0 (env, H) = (eval ctx train_Join_B0 env H).bind train_Join_K0 := (rfl)
theorem train_Join_K0_norm (env : Env) (H : Heap) : train_Join_K0 (.norm, env, H) = (keepE [5, 28, 29, 30] env H).bind train_Join_R0 := train_Join_L0_eq env H
theorem train_Join_K0_ret (env : Env) (H : Heap) : train_Join_K0 (.ret, env, H) = some (.ret, env, H) := (rfl)
theorem train_Join_K0_exit (k : Nat) (env : Env) (H : Heap) : train_Join_K0 (.exit k, env, H) = if k = 0 then (keepE [5] env H).map normE else some (.exit k, env, H) := (rfl)
noncomputable def r04_Make_R1 (x : Env × Heap) : Out := intoE ctx 1 [1, 2, 3, 6, 7, 8, 9] [1, 2, 3, 6, 7, 8] r04_Make_B1 x
noncomputable def r04_Make_K1 (x : Ex × Env × Heap) : Out := roundE ctx 1 [1, 2, 3, 6, 7, 8, 9] [1, 2, 3, 6, 7, 8] r04_Make_B1 x
theorem r04_Make_L1_eq (env : Env) (H : Heap) : eval ctx r04_Make_L1 env H = (keepE [1, 2, 3, 6, 7, 8, 9] env H).bind r04_Make_R1 := eval_bloop' ctx env H 1 [1, 2, 3, 6, 7, 8, 9] [1, 2, 3, 6, 7, 8] r04_Make_B1
theorem r04_Make_R1_eq (env : Env) (H : Heap) : r04_Make_R1 (env, H) = (eval ctx r04_Make_B1 env H).bind r04_Make_K1 := (rfl)
theorem r04_Make_K1_norm (env : Env) (H : Heap) : r04_Make_K1 (.norm, env, H) = (keepE [1, 2, 3, 6, 7, 8, 9] env H).bind r04_Make_R1 := r04_Make_L1_eq env H
theorem r04_Make_K1_ret (env : Env) (H : Heap) : r04_Make_K1 (.ret, env, H) = some (.ret, env, H) := (rfl)
theorem r04_Make_K1_exit (k : Nat) (env : Env) (H : Heap) : r04_Make_K1 (.exit k, env, H) = if k = 1 then (keepE [1, 2, 3, 6, 7, 8] env H).map normE else some (.exit k, env, H) := (rfl)
noncomputable def r04_Make_R3 (x : Env × Heap) : Out := intoE ctx 3 [1, 2, 3, 6, 7, 8, 10] [1, 2, 3, 6, 7] r04_Make_B3 x
noncomputable def r04_Make_K3 (x : Ex × Env × Heap) : Out := roundE ctx 3 [1, 2, 3, 6, 7, 8, 10] [1, 2, 3, 6, 7] r04_Make_B3 x
theorem r04_Make_L3_eq (env : Env) (H : Heap) : eval ctx r04_Make_L3 env H = (keepE [1, 2, 3, 6, 7, 8, 10] env H).bind r04_Make_R3 := eval_bloop' ctx env H 3 [1, 2, 3, 6, 7, 8, 10] [1, 2, 3, 6, 7] r04_Make_B3
theorem r04_Make_R3_eq (env : Env) (H : Heap) : r04_Make_R3 (env, H) = (eval ctx r04_Make_B3 env H).bind r04_Make_K3 := (rfl)
theorem r04_Make_K3_norm (env : Env) (H : Heap) : r04_Make_K3 (.norm, env, H) = (keepE [1, 2, 3, 6, 7, 8, 10] env H).bind r04_Make_R3 := r04_Make_L3_eq env H
theorem r04_Make_K3_ret (env : Env) (H : Heap) : r04_Make_K3 (.ret, env, H) = some (.ret, env, H) := (rfl)
theorem r04_Make_K3_exit (k : Nat) (env : Env) (H : Heap) : r04_Make_K3 (.exit k, env, H) = if k = 3 then (keepE [1, 2, 3, 6, 7] env H).map normE else some (.exit k, env, H) := (rfl)
noncomputable def r04_Make_R5 (x : Env × Heap) : Out := intoE ctx 5 [1, 2, 3, 6, 7, 11] [1, 2, 3, 6, 7] r04_Make_B5 x
noncomputable def r04_Make_K5 (x : Ex × Env × Heap) : Out := roundE ctx 5 [1, 2, 3, 6, 7, 11] [1, 2, 3, 6, 7] r04_Make_B5 x
theorem r04_Make_L5_eq (env : Env) (H : Heap) : eval ctx r04_Make_L5 env H = (keepE [1, 2, 3, 6, 7, 11] env H).bind r04_Make_R5 := eval_bloop' ctx env H 5 [1, 2, 3, 6, 7, 11] [1, 2, 3, 6, 7] r04_Make_B5
theorem r04_Make_R5_eq (env : Env) (H : Heap) : r04_Make_R5 (env, H) = (eval ctx r04_Make_B5 env H).bind r04_Make_K5 := (rfl)
theorem r04_Make_K5_norm (env : Env) (H : Heap) : r04_Make_K5 (.norm, env, H) = (keepE [1, 2, 3, 6, 7, 11] env H).bind r04_Make_R5 := r04_Make_L5_eq env H
theorem r04_Make_K5_ret (env : Env) (H : Heap) : r04_Make_K5 (.ret, env, H) = some (.ret, env, H) := (rfl)
theorem r04_Make_K5_exit (k : Nat) (env : Env) (H : Heap) : r04_Make_K5 (.exit k, env, H) = if k = 5 then (keepE [1, 2, 3, 6, 7] env H).map normE else some (.exit k, env, H) := (rfl)
noncomputable def r04_Make_R7 (x : Env × Heap) : Out := intoE ctx 7 [1, 2, 3, 6, 7, 12] [1, 2, 3, 6] r04_Make_B7 x
noncomputable def r04_Make_K7 (x : Ex × Env × Heap) : Out := roundE ctx 7 [1, 2, 3, 6, 7, 12] [1, 2, 3, 6] r04_Make_B7 x
theorem r04_Make_L7_eq (env : Env) (H : Heap) : eval ctx r04_Make_L7 env H = (keepE [1, 2, 3, 6, 7, 12] env H).bind r04_Make_R7 := eval_bloop' ctx env H 7 [1, 2, 3, 6, 7, 12] [1, 2, 3, 6] r04_Make_B7
theorem r04_Make_R7_eq (env : Env) (H : Heap) : r04_Make_R7 (env, H) = (eval ctx r04_Make_B7 env H).bind r04_Make_K7 := (rfl)
theorem r04_Make_K7_norm (env : Env) (H : Heap) : r04_Make_K7 (.norm, env, H) = (keepE [1, 2, 3, 6, 7, 12] env H).bind r04_Make_R7 := r04_Make_L7_eq env H
theorem r04_Make_K7_ret (env : Env) (H : Heap) : r04_Make_K7 (.ret, env, H) = some (.ret, env, H) := (rfl)
theorem r04_Make_K7_exit (k : Nat) (env : Env) (H : Heap) : r04_Make_K7 (.exit k, env, H) = if k = 7 then (keepE [1, 2, 3, 6] env H).map normE else some (.exit k, env, H) := (rfl)
noncomputable def train_unlike_R0 (x : Env × Heap) : Out := intoE ctx 0 [0, 1, 7, 8, 9] [] train_unlike_B0 x
noncomputable def train_unlike_K0 (x : Ex × Env × Heap) : Out := roundE ctx 0 [0, 1, 7, 8, 9] [] train_unlike_B0 x
theorem train_unlike_L0_eq (env : Env) (H : Heap) : eval ctx train_unlike_L0 env H = (keepE [0, 1, 7, 8, 9] env H).bind train_unlike_R0 := eval_bloop' ctx env H 0 [0, 1, 7, 8, 9] [] train_unlike_B0
theorem train_unlike_R0_eq (env : Env) (H : Heap) : train_unlike_R0 (env, H) = (eval ctx train_unlike_B0 env H).bind train_unlike_K0 := (rfl)
theorem train_unlike_K0_norm (env : Env) (H : Heap) : train_unlike_K0 (.norm, env, H) = (keepE [0, 1, 7, 8, 9] env H).bind train_unlike_R0 := train_unlike_L0_eq env H
theorem train_unlike_K0_ret (env : Env) (H : Heap) : train_unlike_K0 (.ret, env, H) = some (.ret, env, H) := (rfl)
theorem train_unlike_K0_exit (k : Nat) (env : Env) (H : Heap) : train_unlike_K0 (.exit k, env, H) = if k = 0 then (keepE [] env H).map normE else some (.exit k, env, H) := (rfl)
noncomputable def slices_IndexFunc_End_R0 (x : Env × Heap) : Out := intoE ctx 0 [0, 1, 7, 8] [] slices_IndexFunc_End_B0 x
noncomputable def slices_IndexFunc_End_K0 (x : Ex × Env × Heap) : Out := roundE ctx 0 [0, 1, 7, 8] [] slices_IndexFunc_End_B0 x
theorem slices_IndexFunc_End_L0_eq (env : Env) (H : Heap) : eval ctx slices_IndexFunc_End_L0 env H = (keepE [0, 1, 7, 8] env H).bind slices_IndexFunc_End_R0 := eval_bloop' ctx env H 0 [0, 1, 7, 8] [] slices_IndexFunc_End_B0
theorem slices_IndexFunc_End_R0_eq (env : Env) (H : Heap) : slices_IndexFunc_End_R0 (env, H) = (eval ctx slices_IndexFunc_End_B0 env H).bind slices_IndexFunc_End_K0 := (rfl)
theorem slices_IndexFunc_End_K0_norm (env : Env) (H : Heap) : slices_IndexFunc_End_K0 (.norm, env, H) = (keepE [0, 1, 7, 8] env H).bind slices_IndexFunc_End_R0 := slices_IndexFunc_End_L0_eq env H
theorem slices_IndexFunc_End_K0_ret (env : Env) (H : Heap) : slices_IndexFunc_End_K0 (.ret, env, H) = some (.ret, env, H) := (rfl)
theorem slices_IndexFunc_End_K0_exit (k : Nat) (env : Env) (H : Heap) : slices_IndexFunc_End_K0 (.exit k, env, H) = if k = 0 then (keepE [] env H).map normE else some (.exit k, env, H) := (rfl)
noncomputable def r01_Rise_R2 (x : Env × Heap) : Out := intoE ctx 2 [0, 3, 4, 5] [0, 3, 4] r01_Rise_B2 x
noncomputable def r01_Rise_K2 (x : Ex × Env × Heap) : Out := roundE ctx 2 [0, 3, 4, 5] [0, 3, 4] r01_Rise_B2 x
theorem r01_Rise_L2_eq (env : Env) (H : Heap) : eval ctx r01_Rise_L2 env H = (keepE [0, 3, 4, 5] env H).bind r01_Rise_R2 := eval_bloop' ctx env H 2 [0, 3, 4, 5] [0, 3, 4] r01_Rise_B2
theorem r01_Rise_R2_eq (env : Env) (H : Heap) : r01_Rise_R2 (env, H) = (eval ctx r01_Rise_B2 env H).bind r01_Rise_K2 := (rfl)
theorem r01_Rise_K2_norm (env : Env) (H : Heap) : r01_Rise_K2 (.norm, env, H) = (keepE [0, 3, 4, 5] env H).bind r01_Rise_R2 := r01_Rise_L2_eq env H
theorem r01_Rise_K2_ret (env : Env) (H : Heap) : r01_Rise_K2 (.ret, env, H) = some (.ret, env, H) := (rfl)
theorem r01_Rise_K2_exit (k : Nat) (env : Env) (H : Heap) : r01_Rise_K2 (.exit k, env, H) = if k = 2 then (keepE [0, 3, 4] env H).map normE else some (.exit k, env, H) := (rfl)
noncomputable def r01_Rise_R0 (x : Env × Heap) : Out := intoE ctx 0 [0, 3] [] r01_Rise_B0 x
noncomputable def r01_Rise_K0 (x : Ex × Env × Heap) : Out := roundE ctx 0 [0, 3] [] r01_Rise_B0 x
theorem r01_Rise_L0_eq (env : Env) (H : Heap) : eval ctx r01_Rise_L0 env H = (keepE [0, 3] env H).bind r01_Rise_R0 := eval_bloop' ctx env H 0 [0, 3] [] r01_Rise_B0
theorem r01_Rise_R0_eq (env : Env) (H : Heap) : r01_Rise_R0 (env, H) = (eval ctx r01_Rise_B0 env H).bind r01_Rise_K0 := (rfl)
theorem r01_Rise_K0_norm (env : Env) (H : Heap) : r01_Rise_K0 (.norm, env, H) = (keepE [0, 3] env H).bind r01_Rise_R0 := r01_Rise_L0_eq env H
theorem r01_Rise_K0_ret (env : Env) (H : Heap) : r01_Rise_K0 (.ret, env, H) = some (.ret, env, H) := (rfl)
theorem r01_Rise_K0_exit (k : Nat) (env : Env) (H : Heap) : r01_Rise_K0 (.exit k, env, H) = if k = 0 then (keepE [] env H).map normE else some (.exit k, env, H) := (rfl)
noncomputable def r05_Around_R0 (x : Env × Heap) : Out := intoE ctx 0 [3, 8, 10, 11] [8] r05_Around_B0 x
noncomputable def r05_Around_K0 (x : Ex × Env × Heap) : Out := roundE ctx 0 [3, 8, 10, 11] [8] r05_Around_B0 x
theorem r05_Around_L0_eq (env : Env) (H : Heap) : eval ctx r05_Around_L0 env H = (keepE [3, 8, 10, 11] env H).bind r05_Around_R0 := eval_bloop' ctx env H 0 [3, 8, 10, 11] [8] r05_Around_B0
theorem r05_Around_R0_eq (env : Env) (H : Heap) : r05_Around_R0 (env, H) = (eval ctx r05_Around_B0 env H).bind r05_Around_K0 := (rfl)
theorem r05_Around_K0_norm (env : Env) (H : Heap) : r05_Around_K0 (.norm, env, H) = (keepE [3, 8, 10, 11] env H).bind r05_Around_R0 := r05_Around_L0_eq env H
theorem r05_Around_K0_ret (env : Env) (H : Heap) : r05_Around_K0 (.ret, env, H) = some (.ret, env, H) := (rfl)
theorem r05_Around_K0_exit (k : Nat) (env : Env) (H : Heap) : r05_Around_K0 (.exit k, env, H) = if k = 0 then (keepE [8] env H).map normE else some (.exit k, env, H) := (rfl)
noncomputable def slices_DeleteFunc_End_R0 (x : Env × Heap) : Out := intoE ctx 0 [0, 1, 5, 6] [0, 5] slices_DeleteFunc_End_B0 x
noncomputable def slices_DeleteFunc_End_K0 (x : Ex × Env × Heap) : Out := roundE ctx 0 [0, 1, 5, 6] [0, 5] slices_DeleteFunc_End_B0 x
theorem slices_DeleteFunc_End_L0_eq (env : Env) (H : Heap) : eval ctx slices_DeleteFunc_End_L0 env H = (keepE [0, 1, 5, 6] env H).bind slices_DeleteFunc_End_R0 := eval_bloop' ctx env H 0 [0, 1, 5, 6] [0, 5] slices_DeleteFunc_End_B0
theorem slices_DeleteFunc_End_R0_eq (env : Env) (H : Heap) : slices_DeleteFunc_End_R0 (env, H) = (eval ctx slices_DeleteFunc_End_B0 env H).bind slices_DeleteFunc_End_K0 := (rfl)
theorem slices_DeleteFunc_End_K0_norm (env : Env) (H : Heap) : slices_DeleteFunc_End_K0 (.norm, env, H) = (keepE [0, 1, 5, 6] env H).bind slices_DeleteFunc_End_R0 := slices_DeleteFunc_End_L0_eq env H
theorem slices_DeleteFunc_End_K0_ret (env : Env) (H : Heap) : slices_DeleteFunc_End_K0 (.ret, env, H) = some (.ret, env, H) := (rfl)
theorem slices_DeleteFunc_End_K0_exit (k : Nat) (env : Env) (H : Heap) : slices_DeleteFunc_End_K0 (.exit k, env, H) = if k = 0 then (keepE [0, 5] env H).map normE else some (.exit k, env, H) := (rfl)
noncomputable def graph_Graph_at_R0 (x : Env × Heap) : Out := intoE ctx 0 [1, 11, 12, 13] [] graph_Graph_at_B0 x
noncomputable def graph_Graph_at_K0 (x : Ex × Env × Heap) : Out := roundE ctx 0 [1, 11, 12, 13] [] graph_Graph_at_B0 x
theorem graph_Graph_at_L0_eq (env : Env) (H : Heap) : eval ctx graph_Graph_at_L0 env H = (keepE [1, 11, 12, 13] env H).bind graph_Graph_at_R0 := eval_bloop' ctx env H 0 [1, 11, 12, 13] [] graph_Graph_at_B0
theorem graph_Graph_at_R0_eq (env : Env) (H : Heap) : graph_Graph_at_R0 (env, H) = (eval ctx graph_Graph_at_B0 env H).bind graph_Graph_at_K0 := (rfl)
theorem graph_Graph_at_K0_norm (env : Env) (H : Heap) : graph_Graph_at_K0 (.norm, env, H) = (keepE [1, 11, 12, 13] env H).bind graph_Graph_at_R0 := graph_Graph_at_L0_eq env H
theorem graph_Graph_at_K0_ret (env : Env) (H : Heap) : graph_Graph_at_K0 (.ret, env, H) = some (.ret, env, H) := (rfl)
theorem graph_Graph_at_K0_exit (k : Nat) (env : Env) (H : Heap) : graph_Graph_at_K0 (.exit k, env, H) = if k = 0 then (keepE [] env H).map normE else some (.exit k, env, H) := (rfl)
noncomputable def slices_IndexFunc_int_R0 (x : Env × Heap) : Out := intoE ctx 0 [0, 1, 7, 8] [] slices_IndexFunc_int_B0 x
noncomputable def slices_IndexFunc_int_K0 (x : Ex × Env × Heap) : Out := roundE ctx 0 [0, 1, 7, 8] [] slices_IndexFunc_int_B0 x
theorem slices_IndexFunc_int_L0_eq (env : Env) (H : Heap) : eval ctx slices_IndexFunc_int_L0 env H = (keepE [0, 1, 7, 8] env H).bind slices_IndexFunc_int_R0 := eval_bloop' ctx env H 0 [0, 1, 7, 8] [] slices_IndexFunc_int_B0
theorem slices_IndexFunc_int_R0_eq (env : Env) (H : Heap) : slices_IndexFunc_int_R0 (env, H) = (eval ctx slices_IndexFunc_int_B0 env H).bind slices_IndexFunc_int_K0 := (rfl)
theorem slices_IndexFunc_int_K0_norm (env : Env) (H : Heap) : slices_IndexFunc_int_K0 (.norm, env, H) = (keepE [0, 1, 7, 8] env H).bind slices_IndexFunc_int_R0 := slices_IndexFunc_int_L0_eq env H
theorem slices_IndexFunc_int_K0_ret (env : Env) (H : Heap) : slices_IndexFunc_int_K0 (.ret, env, H) = some (.ret, env, H) := (rfl)
theorem slices_IndexFunc_int_K0_exit (k : Nat) (env : Env) (H : Heap) : slices_IndexFunc_int_K0 (.exit k, env, H) = if k = 0 then (keepE [] env H).map normE else some (.exit k, env, H) := (rfl)
noncomputable def r05_Point_R0 (x : Env × Heap) : Out := intoE ctx 0 [1, 2, 5] [] r05_Point_B0 x
noncomputable def r05_Point_K0 (x : Ex × Env × Heap) : Out := roundE ctx 0 [1, 2, 5] [] r05_Point_B0 x
theorem r05_Point_L0_eq (env : Env) (H : Heap) : eval ctx r05_Point_L0 env H = (keepE [1, 2, 5] env H).bind r05_Point_R0 := eval_bloop' ctx env H 0 [1, 2, 5] [] r05_Point_B0
theorem r05_Point_R0_eq (env : Env) (H : Heap) : r05_Point_R0 (env, H) = (eval ctx r05_Point_B0 env H).bind r05_Point_K0 := (rfl)
theorem r05_Point_K0_norm (env : Env) (H : Heap) : r05_Point_K0 (.norm, env, H) = (keepE [1, 2, 5] env H).bind r05_Point_R0 := r05_Point_L0_eq env H
theorem r05_Point_K0_ret (env : Env) (H : Heap) : r05_Point_K0 (.ret, env, H) = some (.ret, env, H) := (rfl)
theorem r05_Point_K0_exit (k : Nat) (env : Env) (H : Heap) : r05_Point_K0 (.exit k, env, H) = if k = 0 then (keepE [] env H).map normE else some (.exit k, env, H) := (rfl)
noncomputable def r05_Ends_R0 (x : Env × Heap) : Out := intoE ctx 0 [1, 2, 5, 6] [5] r05_Ends_B0 x
noncomputable def r05_Ends_K0 (x : Ex × Env × Heap) : Out := roundE ctx 0 [1, 2, 5, 6] [5] r05_Ends_B0 x
theorem r05_Ends_L0_eq (env : Env) (H : Heap) : eval ctx r05_Ends_L0 env H = (keepE [1, 2, 5, 6] env H).bind r05_Ends_R0 := eval_bloop' ctx env H 0 [1, 2, 5, 6] [5] r05_Ends_B0
theorem r05_Ends_R0_eq (env : Env) (H : Heap) : r05_Ends_R0 (env, H) = (eval ctx r05_Ends_B0 env H).bind r05_Ends_K0 := (rfl)
theorem r05_Ends_K0_norm (env : Env) (H : Heap) : r05_Ends_K0 (.norm, env, H) = (keepE [1, 2, 5, 6] env H).bind r05_Ends_R0 := r05_Ends_L0_eq env H
theorem r05_Ends_K0_ret (env : Env) (H : Heap) : r05_Ends_K0 (.ret, env, H) = some (.ret, env, H) := (rfl)
theorem r05_Ends_K0_exit (k : Nat) (env : Env) (H : Heap) : r05_Ends_K0 (.exit k, env, H) = if k = 0 then (keepE [5] env H).map normE else some (.exit k, env, H) := (rfl)
noncomputable def slices_IndexFunc_Point_R0 (x : Env × Heap) : Out := intoE ctx 0 [0, 1, 7, 8] [] slices_IndexFunc_Point_B0 x
noncomputable def slices_IndexFunc_Point_K0 (x : Ex × Env × Heap) : Out := roundE ctx 0 [0, 1, 7, 8] [] slices_IndexFunc_Point_B0 x
theorem slices_IndexFunc_Point_L0_eq (env : Env) (H : Heap) : eval ctx slices_IndexFunc_Point_L0 env H = (keepE [0, 1, 7, 8] env H).bind slices_IndexFunc_Point_R0 := eval_bloop' ctx env H 0 [0, 1, 7, 8] [] slices_IndexFunc_Point_B0
theorem slices_IndexFunc_Point_R0_eq (env : Env) (H : Heap) : slices_IndexFunc_Point_R0 (env, H) = (eval ctx slices_IndexFunc_Point_B0 env H).bind slices_IndexFunc_Point_K0 := (rfl)
theorem slices_IndexFunc_Point_K0_norm (env : Env) (H : Heap) : slices_IndexFunc_Point_K0 (.norm, env, H) = (keepE [0, 1, 7, 8] env H).bind slices_IndexFunc_Point_R0 := slices_IndexFunc_Point_L0_eq env H
theorem slices_IndexFunc_Point_K0_ret (env : Env) (H : Heap) : slices_IndexFunc_Point_K0 (.ret, env, H) = some (.ret, env, H) := (rfl)
theorem slices_IndexFunc_Point_K0_exit (k : Nat) (env : Env) (H : Heap) : slices_IndexFunc_Point_K0 (.exit k, env, H) = if k = 0 then (keepE [] env H).map normE else some (.exit k, env, H) := (rfl)
noncomputable def slices_Index_int_R0 (x : Env × Heap) : Out := intoE ctx 0 [0, 1, 7, 8] [] slices_Index_int_B0 x
noncomputable def slices_Index_int_K0 (x : Ex × Env × Heap) : Out := roundE ctx 0 [0, 1, 7, 8] [] slices_Index_int_B0 x
theorem slices_Index_int_L0_eq (env : Env) (H : Heap) : eval ctx slices_Index_int_L0 env H = (keepE [0, 1, 7, 8] env H).bind slices_Index_int_R0 := eval_bloop' ctx env H 0 [0, 1, 7, 8] [] slices_Index_int_B0
theorem slices_Index_int_R0_eq (env : Env) (H : Heap) : slices_Index_int_R0 (env, H) = (eval ctx slices_Index_int_B0 env H).bind slices_Index_int_K0 := (rfl)
theorem slices_Index_int_K0_norm (env : Env) (H : Heap) : slices_Index_int_K0 (.norm, env, H) = (keepE [0, 1, 7, 8] env H).bind slices_Index_int_R0 := slices_Index_int_L0_eq env H
theorem slices_Index_int_K0_ret (env : Env) (H : Heap) : slices_Index_int_K0 (.ret, env, H) = some (.ret, env, H) := (rfl)
theorem slices_Index_int_K0_exit (k : Nat) (env : Env) (H : Heap) : slices_Index_int_K0 (.exit k, env, H) = if k = 0 then (keepE [] env H).map normE else some (.exit k, env, H) := (rfl)
noncomputable def r05_one_R0 (x : Env × Heap) : Out := intoE ctx 0 [1, 7, 8] [] r05_one_B0 x
noncomputable def r05_one_K0 (x : Ex × Env × Heap) : Out := roundE ctx 0 [1, 7, 8] [] r05_one_B0 x
theorem r05_one_L0_eq (env : Env) (H : Heap) : eval ctx r05_one_L0 env H = (keepE [1, 7, 8] env H).bind r05_one_R0 := eval_bloop' ctx env H 0 [1, 7, 8] [] r05_one_B0
theorem r05_one_R0_eq (env : Env) (H : Heap) : r05_one_R0 (env, H) = (eval ctx r05_one_B0 env H).bind r05_one_K0 := (rfl)
theorem r05_one_K0_norm (env : Env) (H : Heap) : r05_one_K0 (.norm, env, H) = (keepE [1, 7, 8] env H).bind r05_one_R0 := r05_one_L0_eq env H
theorem r05_one_K0_ret (env : Env) (H : Heap) : r05_one_K0 (.ret, env, H) = some (.ret, env, H) := (rfl)
theorem r05_one_K0_exit (k : Nat) (env : Env) (H : Heap) : r05_one_K0 (.exit k, env, H) = if k = 0 then (keepE [] env H).map normE else some (.exit k, env, H) := (rfl)
noncomputable def slices_Concat_End_R0 (x : Env × Heap) : Out := intoE ctx 0 [0, 3, 9, 10, 11] [0, 3] slices_Concat_End_B0 x
noncomputable def slices_Concat_End_K0 (x : Ex × Env × Heap) : Out := roundE ctx 0 [0, 3, 9, 10, 11] [0, 3] slices_Concat_End_B0 x
theorem slices_Concat_End_L0_eq (env : Env) (H : Heap) : eval ctx slices_Concat_End_L0 env H = (keepE [0, 3, 9, 10, 11] env H).bind slices_Concat_End_R0 := eval_bloop' ctx env H 0 [0, 3, 9, 10, 11] [0, 3] slices_Concat_End_B0
theorem slices_Concat_End_R0_eq (env : Env) (H : Heap) : slices_Concat_End_R0 (env, H) = (eval ctx slices_Concat_End_B0 env H).bind slices_Concat_End_K0 := (rfl)
theorem slices_Concat_End_K0_norm (env : Env) (H : Heap) : slices_Concat_End_K0 (.norm, env, H) = (keepE [0, 3, 9, 10, 11] env H).bind slices_Concat_End_R0 := slices_Concat_End_L0_eq env H
theorem slices_Concat_End_K0_ret (env : Env) (H : Heap) : slices_Concat_End_K0 (.ret, env, H) = some (.ret, env, H) := (rfl)
theorem slices_Concat_End_K0_exit (k : Nat) (env : Env) (H : Heap) : slices_Concat_End_K0 (.exit k, env, H) = if k = 0 then (keepE [0, 3] env H).map normE else some (.exit k, env, H) := (rfl)
noncomputable def slices_Concat_End_R2 (x : Env × Heap) : Out := intoE ctx 2 [6, 25, 26, 27] [6] slices_Concat_End_B2 x
noncomputable def slices_Concat_End_K2 (x : Ex × Env × Heap) : Out := roundE ctx 2 [6, 25, 26, 27] [6] slices_Concat_End_B2 x
theorem slices_Concat_End_L2_eq (env : Env) (H : Heap) : eval ctx slices_Concat_End_L2 env H = (keepE [6, 25, 26, 27] env H).bind slices_Concat_End_R2 := eval_bloop' ctx env H 2 [6, 25, 26, 27] [6] slices_Concat_End_B2
theorem slices_Concat_End_R2_eq (env : Env) (H : Heap) : slices_Concat_End_R2 (env, H) = (eval ctx slices_Concat_End_B2 env H).bind slices_Concat_End_K2 := (rfl)
theorem slices_Concat_End_K2_norm (env : Env) (H : Heap) : slices_Concat_End_K2 (.norm, env, H) = (keepE [6, 25, 26, 27] env H).bind slices_Concat_End_R2 := slices_Concat_End_L2_eq env H
theorem slices_Concat_End_K2_ret (env : Env) (H : Heap) : slices_Concat_End_K2 (.ret, env, H) = some (.ret, env, H) := (rfl)
theorem slices_Concat_End_K2_exit (k : Nat) (env : Env) (H : Heap) : slices_Concat_End_K2 (.exit k, env, H) = if k = 2 then (keepE [6] env H).map normE else some (.exit k, env, H) := (rfl)
end Go.Proofs.Ytmkdhpjidhbijaa.Zt
