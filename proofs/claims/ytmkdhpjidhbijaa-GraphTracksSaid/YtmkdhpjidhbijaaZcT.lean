/- Go functions, as the interpreter runs them: written by a program of this claim's own, proved to be what the compiler makes of them. No condition. -/
import Derived.Test.YtmkdhpjidhbijaaZcT0
set_option linter.all false
namespace Go.Proofs.Ytmkdhpjidhbijaa.Zt
open Go Go.Zc
set_option maxRecDepth 100000

/-- All of them. -/
def tab : List (Nat × FInfo) := [(9, l05_GraphBack_I), (16, r04_Small_I), (17, r05_Full_I), (18, graph_New_I), (27, r01_Ints_I), (40, l05_joins_I), (41, graph_Graph_Around_I), (42, r01_Has_I), (43, graph_Graph_Near_I), (44, graph_Graph_Ends_I), (47, graph_Graph_Len_I), (48, r05_Walk_I), (53, graph_Graph_Point_I), (55, r04_Make_I), (58, slices_IndexFunc_End_I), (61, r05_Around_I), (76, graph_Graph_node_I), (77, slices_DeleteFunc_End_I), (78, graph_Graph_Around_1_I), (80, graph_Graph_at_I), (81, slices_Sort_int_I), (82, slices_Compact_int_I), (83, graph_Graph_section_I), (89, r05_Point_I), (91, r05_Ends_I), (98, slices_IndexFunc_Point_I), (99, graph_Graph_Point_1_I), (101, r05_node_I), (102, r05_one_I), (107, slices_pdqsortOrdered_int_I), (108, math_bits_Len_I), (115, slices_insertionSortOrdered_int_I), (121, cmp_Less_int_I), (125, math_bits_Len64_I), (124, math_bits_Len32_I), (79, slices_Concat_End_I), (106, slices_Grow_End_I), (132, cmp_isNaN_int_I), (10, l05_GraphEnds_I), (45, graph_Graph_Beside_I), (46, graph_Graph_Part_I), (84, slices_IndexFunc_int_I), (85, graph_Graph_Part_1_I), (86, slices_Contains_int_I), (100, slices_Index_int_I), (11, l05_GraphPaths_I), (49, graph_Graph_Path_I), (50, l05_paths_I), (60, r01_Rise_I), (87, graph_Graph_way_I), (88, r05_Path_I), (109, graph_Graph_way_1_I), (110, graph_Graph_need_I), (111, r05_way_I), (12, l05_GraphTracks_I), (51, l05_like_I), (52, graph_Graph_Next_I), (56, r05_Len_I), (90, l05_same_I), (92, r05_Near_I), (93, r05_Part_I), (94, r05_Beside_I), (95, r05_Next_I), (96, graph_stands_I), (97, graph_Graph_Next_1_I), (13, l05_GraphNeeds_I)]
def ctx : Ctx := ⟨Zc.look tab, fun _ => none⟩
theorem l05_GraphBack_ok : compF Try.prog (quietOf ctx) l05_GraphBack_A (.fz false) Try.f9 = some l05_GraphBack_I := by kernel_rfl
theorem r04_Small_ok : compF Try.prog (quietOf ctx) r04_Small_A (.fz false) Try.f16 = some r04_Small_I := by kernel_rfl
theorem r05_Full_ok : compF Try.prog (quietOf ctx) r05_Full_A (.fz false) Try.f17 = some r05_Full_I := by kernel_rfl
theorem graph_New_ok : compF Try.prog (quietOf ctx) graph_New_A (.fz false) Try.f18 = some graph_New_I := by kernel_rfl
theorem r01_Ints_ok : compF Try.prog (quietOf ctx) r01_Ints_A (.fz false) Try.f27 = some r01_Ints_I := by kernel_rfl
theorem l05_joins_ok : compF Try.prog (quietOf ctx) l05_joins_A (.fz false) Try.f40 = some l05_joins_I := by kernel_rfl
theorem graph_Graph_Around_ok : compF Try.prog (quietOf ctx) graph_Graph_Around_A (.fz false) Try.f41 = some graph_Graph_Around_I := by kernel_rfl
theorem r01_Has_ok : compF Try.prog (quietOf ctx) r01_Has_A (.fz false) Try.f42 = some r01_Has_I := by kernel_rfl
theorem graph_Graph_Near_ok : compF Try.prog (quietOf ctx) graph_Graph_Near_A (.fz false) Try.f43 = some graph_Graph_Near_I := by kernel_rfl
theorem graph_Graph_Ends_ok : compF Try.prog (quietOf ctx) graph_Graph_Ends_A .own Try.f44 = some graph_Graph_Ends_I := by kernel_rfl
theorem graph_Graph_Len_ok : compF Try.prog (quietOf ctx) graph_Graph_Len_A (.fz false) Try.f47 = some graph_Graph_Len_I := by kernel_rfl
theorem r05_Walk_ok : compF Try.prog (quietOf ctx) r05_Walk_A (.fz false) Try.f48 = some r05_Walk_I := by kernel_rfl
theorem graph_Graph_Point_ok : compF Try.prog (quietOf ctx) graph_Graph_Point_A (.fz false) Try.f53 = some graph_Graph_Point_I := by kernel_rfl
theorem r04_Make_ok : compF Try.prog (quietOf ctx) r04_Make_A (.fz true) Try.f55 = some r04_Make_I := by kernel_rfl
theorem slices_IndexFunc_End_ok : compF Try.prog (quietOf ctx) slices_IndexFunc_End_A (.fz false) Try.f58 = some slices_IndexFunc_End_I := by kernel_rfl
theorem r05_Around_ok : compF Try.prog (quietOf ctx) r05_Around_A (.fz false) Try.f61 = some r05_Around_I := by kernel_rfl
theorem graph_Graph_node_ok : compF Try.prog (quietOf ctx) graph_Graph_node_A (.fz false) Try.f76 = some graph_Graph_node_I := by kernel_rfl
theorem slices_DeleteFunc_End_ok : compF Try.prog (quietOf ctx) slices_DeleteFunc_End_A .ref Try.f77 = some slices_DeleteFunc_End_I := by kernel_rfl
theorem graph_Graph_Around_1_ok : compF Try.prog (quietOf ctx) graph_Graph_Around_1_A (.fz false) Try.f78 = some graph_Graph_Around_1_I := by kernel_rfl
theorem graph_Graph_at_ok : compF Try.prog (quietOf ctx) graph_Graph_at_A (.fz false) Try.f80 = some graph_Graph_at_I := by kernel_rfl
theorem slices_Sort_int_ok : compF Try.prog (quietOf ctx) slices_Sort_int_A .ref Try.f81 = some slices_Sort_int_I := by kernel_rfl
theorem slices_Compact_int_ok : compF Try.prog (quietOf ctx) slices_Compact_int_A .ref Try.f82 = some slices_Compact_int_I := by kernel_rfl
theorem graph_Graph_section_ok : compF Try.prog (quietOf ctx) graph_Graph_section_A (.fz false) Try.f83 = some graph_Graph_section_I := by kernel_rfl
theorem r05_Point_ok : compF Try.prog (quietOf ctx) r05_Point_A (.fz false) Try.f89 = some r05_Point_I := by kernel_rfl
theorem r05_Ends_ok : compF Try.prog (quietOf ctx) r05_Ends_A (.fz false) Try.f91 = some r05_Ends_I := by kernel_rfl
theorem slices_IndexFunc_Point_ok : compF Try.prog (quietOf ctx) slices_IndexFunc_Point_A (.fz false) Try.f98 = some slices_IndexFunc_Point_I := by kernel_rfl
theorem graph_Graph_Point_1_ok : compF Try.prog (quietOf ctx) graph_Graph_Point_1_A (.fz false) Try.f99 = some graph_Graph_Point_1_I := by kernel_rfl
theorem r05_node_ok : compF Try.prog (quietOf ctx) r05_node_A (.fz false) Try.f101 = some r05_node_I := by kernel_rfl
theorem r05_one_ok : compF Try.prog (quietOf ctx) r05_one_A (.fz false) Try.f102 = some r05_one_I := by kernel_rfl
theorem slices_pdqsortOrdered_int_ok : compF Try.prog (quietOf ctx) slices_pdqsortOrdered_int_A .ref Try.f107 = some slices_pdqsortOrdered_int_I := by kernel_rfl
theorem math_bits_Len_ok : compF Try.prog (quietOf ctx) math_bits_Len_A (.fz false) Try.f108 = some math_bits_Len_I := by kernel_rfl
theorem slices_insertionSortOrdered_int_ok : compF Try.prog (quietOf ctx) slices_insertionSortOrdered_int_A .ref Try.f115 = some slices_insertionSortOrdered_int_I := by kernel_rfl
theorem cmp_Less_int_ok : compF Try.prog (quietOf ctx) cmp_Less_int_A (.fz false) Try.f121 = some cmp_Less_int_I := by kernel_rfl
theorem math_bits_Len64_ok : compF Try.prog (quietOf ctx) math_bits_Len64_A (.fz false) Try.f125 = some math_bits_Len64_I := by kernel_rfl
theorem math_bits_Len32_ok : compF Try.prog (quietOf ctx) math_bits_Len32_A (.fz false) Try.f124 = some math_bits_Len32_I := by kernel_rfl
theorem slices_Concat_End_ok : compF Try.prog (quietOf ctx) slices_Concat_End_A (.fz false) Try.f79 = some slices_Concat_End_I := by kernel_rfl
theorem slices_Grow_End_ok : compF Try.prog (quietOf ctx) slices_Grow_End_A .ref Try.f106 = some slices_Grow_End_I := by kernel_rfl
theorem cmp_isNaN_int_ok : compF Try.prog (quietOf ctx) cmp_isNaN_int_A (.fz false) Try.f132 = some cmp_isNaN_int_I := by kernel_rfl
theorem l05_GraphEnds_ok : compF Try.prog (quietOf ctx) l05_GraphEnds_A (.fz false) Try.f10 = some l05_GraphEnds_I := by kernel_rfl
theorem graph_Graph_Beside_ok : compF Try.prog (quietOf ctx) graph_Graph_Beside_A (.fz false) Try.f45 = some graph_Graph_Beside_I := by kernel_rfl
theorem graph_Graph_Part_ok : compF Try.prog (quietOf ctx) graph_Graph_Part_A (.fz false) Try.f46 = some graph_Graph_Part_I := by kernel_rfl
theorem slices_IndexFunc_int_ok : compF Try.prog (quietOf ctx) slices_IndexFunc_int_A (.fz false) Try.f84 = some slices_IndexFunc_int_I := by kernel_rfl
theorem graph_Graph_Part_1_ok : compF Try.prog (quietOf ctx) graph_Graph_Part_1_A (.fz false) Try.f85 = some graph_Graph_Part_1_I := by kernel_rfl
theorem slices_Contains_int_ok : compF Try.prog (quietOf ctx) slices_Contains_int_A (.fz false) Try.f86 = some slices_Contains_int_I := by kernel_rfl
theorem slices_Index_int_ok : compF Try.prog (quietOf ctx) slices_Index_int_A (.fz false) Try.f100 = some slices_Index_int_I := by kernel_rfl
theorem l05_GraphPaths_ok : compF Try.prog (quietOf ctx) l05_GraphPaths_A (.fz false) Try.f11 = some l05_GraphPaths_I := by kernel_rfl
theorem graph_Graph_Path_ok : compF Try.prog (quietOf ctx) graph_Graph_Path_A (.fz false) Try.f49 = some graph_Graph_Path_I := by kernel_rfl
theorem l05_paths_ok : compF Try.prog (quietOf ctx) l05_paths_A (.fz false) Try.f50 = some l05_paths_I := by kernel_rfl
theorem r01_Rise_ok : compF Try.prog (quietOf ctx) r01_Rise_A (.fz false) Try.f60 = some r01_Rise_I := by kernel_rfl
theorem graph_Graph_way_ok : compF Try.prog (quietOf ctx) graph_Graph_way_A (.fz false) Try.f87 = some graph_Graph_way_I := by kernel_rfl
theorem r05_Path_ok : compF Try.prog (quietOf ctx) r05_Path_A (.fz false) Try.f88 = some r05_Path_I := by kernel_rfl
theorem graph_Graph_way_1_ok : compF Try.prog (quietOf ctx) graph_Graph_way_1_A (.fz false) Try.f109 = some graph_Graph_way_1_I := by kernel_rfl
theorem graph_Graph_need_ok : compF Try.prog (quietOf ctx) graph_Graph_need_A (.fz false) Try.f110 = some graph_Graph_need_I := by kernel_rfl
theorem r05_way_ok : compF Try.prog (quietOf ctx) r05_way_A (.fz false) Try.f111 = some r05_way_I := by kernel_rfl
theorem l05_GraphTracks_ok : compF Try.prog (quietOf ctx) l05_GraphTracks_A (.fz false) Try.f12 = some l05_GraphTracks_I := by kernel_rfl
theorem l05_like_ok : compF Try.prog (quietOf ctx) l05_like_A (.fz false) Try.f51 = some l05_like_I := by kernel_rfl
theorem graph_Graph_Next_ok : compF Try.prog (quietOf ctx) graph_Graph_Next_A (.fz false) Try.f52 = some graph_Graph_Next_I := by kernel_rfl
theorem r05_Len_ok : compF Try.prog (quietOf ctx) r05_Len_A (.fz false) Try.f56 = some r05_Len_I := by kernel_rfl
theorem l05_same_ok : compF Try.prog (quietOf ctx) l05_same_A (.fz false) Try.f90 = some l05_same_I := by kernel_rfl
theorem r05_Near_ok : compF Try.prog (quietOf ctx) r05_Near_A (.fz false) Try.f92 = some r05_Near_I := by kernel_rfl
theorem r05_Part_ok : compF Try.prog (quietOf ctx) r05_Part_A (.fz false) Try.f93 = some r05_Part_I := by kernel_rfl
theorem r05_Beside_ok : compF Try.prog (quietOf ctx) r05_Beside_A (.fz false) Try.f94 = some r05_Beside_I := by kernel_rfl
theorem r05_Next_ok : compF Try.prog (quietOf ctx) r05_Next_A (.fz false) Try.f95 = some r05_Next_I := by kernel_rfl
theorem graph_stands_ok : compF Try.prog (quietOf ctx) graph_stands_A (.fz false) Try.f96 = some graph_stands_I := by kernel_rfl
theorem graph_Graph_Next_1_ok : compF Try.prog (quietOf ctx) graph_Graph_Next_1_A (.fz false) Try.f97 = some graph_Graph_Next_1_I := by kernel_rfl
theorem l05_GraphNeeds_ok : compF Try.prog (quietOf ctx) l05_GraphNeeds_A (.fz false) Try.f13 = some l05_GraphNeeds_I := by kernel_rfl
theorem ctx_ok : CtxOk Try.prog ctx :=
  ctxOk_of (by kernel_rfl) (
    .cons ⟨_, _, Try.func9, l05_GraphBack_ok⟩ (
    .cons ⟨_, _, Try.func16, r04_Small_ok⟩ (
    .cons ⟨_, _, Try.func17, r05_Full_ok⟩ (
    .cons ⟨_, _, Try.func18, graph_New_ok⟩ (
    .cons ⟨_, _, Try.func27, r01_Ints_ok⟩ (
    .cons ⟨_, _, Try.func40, l05_joins_ok⟩ (
    .cons ⟨_, _, Try.func41, graph_Graph_Around_ok⟩ (
    .cons ⟨_, _, Try.func42, r01_Has_ok⟩ (
    .cons ⟨_, _, Try.func43, graph_Graph_Near_ok⟩ (
    .cons ⟨_, _, Try.func44, graph_Graph_Ends_ok⟩ (
    .cons ⟨_, _, Try.func47, graph_Graph_Len_ok⟩ (
    .cons ⟨_, _, Try.func48, r05_Walk_ok⟩ (
    .cons ⟨_, _, Try.func53, graph_Graph_Point_ok⟩ (
    .cons ⟨_, _, Try.func55, r04_Make_ok⟩ (
    .cons ⟨_, _, Try.func58, slices_IndexFunc_End_ok⟩ (
    .cons ⟨_, _, Try.func61, r05_Around_ok⟩ (
    .cons ⟨_, _, Try.func76, graph_Graph_node_ok⟩ (
    .cons ⟨_, _, Try.func77, slices_DeleteFunc_End_ok⟩ (
    .cons ⟨_, _, Try.func78, graph_Graph_Around_1_ok⟩ (
    .cons ⟨_, _, Try.func80, graph_Graph_at_ok⟩ (
    .cons ⟨_, _, Try.func81, slices_Sort_int_ok⟩ (
    .cons ⟨_, _, Try.func82, slices_Compact_int_ok⟩ (
    .cons ⟨_, _, Try.func83, graph_Graph_section_ok⟩ (
    .cons ⟨_, _, Try.func89, r05_Point_ok⟩ (
    .cons ⟨_, _, Try.func91, r05_Ends_ok⟩ (
    .cons ⟨_, _, Try.func98, slices_IndexFunc_Point_ok⟩ (
    .cons ⟨_, _, Try.func99, graph_Graph_Point_1_ok⟩ (
    .cons ⟨_, _, Try.func101, r05_node_ok⟩ (
    .cons ⟨_, _, Try.func102, r05_one_ok⟩ (
    .cons ⟨_, _, Try.func107, slices_pdqsortOrdered_int_ok⟩ (
    .cons ⟨_, _, Try.func108, math_bits_Len_ok⟩ (
    .cons ⟨_, _, Try.func115, slices_insertionSortOrdered_int_ok⟩ (
    .cons ⟨_, _, Try.func121, cmp_Less_int_ok⟩ (
    .cons ⟨_, _, Try.func125, math_bits_Len64_ok⟩ (
    .cons ⟨_, _, Try.func124, math_bits_Len32_ok⟩ (
    .cons ⟨_, _, Try.func79, slices_Concat_End_ok⟩ (
    .cons ⟨_, _, Try.func106, slices_Grow_End_ok⟩ (
    .cons ⟨_, _, Try.func132, cmp_isNaN_int_ok⟩ (
    .cons ⟨_, _, Try.func10, l05_GraphEnds_ok⟩ (
    .cons ⟨_, _, Try.func45, graph_Graph_Beside_ok⟩ (
    .cons ⟨_, _, Try.func46, graph_Graph_Part_ok⟩ (
    .cons ⟨_, _, Try.func84, slices_IndexFunc_int_ok⟩ (
    .cons ⟨_, _, Try.func85, graph_Graph_Part_1_ok⟩ (
    .cons ⟨_, _, Try.func86, slices_Contains_int_ok⟩ (
    .cons ⟨_, _, Try.func100, slices_Index_int_ok⟩ (
    .cons ⟨_, _, Try.func11, l05_GraphPaths_ok⟩ (
    .cons ⟨_, _, Try.func49, graph_Graph_Path_ok⟩ (
    .cons ⟨_, _, Try.func50, l05_paths_ok⟩ (
    .cons ⟨_, _, Try.func60, r01_Rise_ok⟩ (
    .cons ⟨_, _, Try.func87, graph_Graph_way_ok⟩ (
    .cons ⟨_, _, Try.func88, r05_Path_ok⟩ (
    .cons ⟨_, _, Try.func109, graph_Graph_way_1_ok⟩ (
    .cons ⟨_, _, Try.func110, graph_Graph_need_ok⟩ (
    .cons ⟨_, _, Try.func111, r05_way_ok⟩ (
    .cons ⟨_, _, Try.func12, l05_GraphTracks_ok⟩ (
    .cons ⟨_, _, Try.func51, l05_like_ok⟩ (
    .cons ⟨_, _, Try.func52, graph_Graph_Next_ok⟩ (
    .cons ⟨_, _, Try.func56, r05_Len_ok⟩ (
    .cons ⟨_, _, Try.func90, l05_same_ok⟩ (
    .cons ⟨_, _, Try.func92, r05_Near_ok⟩ (
    .cons ⟨_, _, Try.func93, r05_Part_ok⟩ (
    .cons ⟨_, _, Try.func94, r05_Beside_ok⟩ (
    .cons ⟨_, _, Try.func95, r05_Next_ok⟩ (
    .cons ⟨_, _, Try.func96, graph_stands_ok⟩ (
    .cons ⟨_, _, Try.func97, graph_Graph_Next_1_ok⟩ (
    .cons ⟨_, _, Try.func13, l05_GraphNeeds_ok⟩ (
    .nil)))))))))))))))))))))))))))))))))))))))))))))))))))))))))))))))))))
noncomputable def l05_GraphBack_F (st : Bool) (H : Heap) (xs : List CV) : Option (CV × Heap) := fzE ctx false 1 l05_GraphBack_C [.tmp 2] st H xs
theorem l05_GraphBack_F_eq (st : Bool) (H : Heap) (xs : List CV) : l05_GraphBack_F st H xs = if xs.length = 1 then (eval ctx l05_GraphBack_C (enterC 0 xs) ⟨[], []⟩).bind (fzOut [.tmp 2] st false H) else none := (rfl)
theorem l05_GraphBack_call (cap args : List CV) (H : Heap) : call ctx (.fn (.func 9) [] cap) args H = (snapL H false false (args ++ cap)).bind (l05_GraphBack_F (CV.refs (args ++ cap)) H) := fz_call rfl (show ctx.info 9 = some l05_GraphBack_I by kernel_rfl) cap args H
noncomputable def r04_Small_F (st : Bool) (H : Heap) (xs : List CV) : Option (CV × Heap) := fzE ctx false 1 r04_Small_C [.tmp 2] st H xs
theorem r04_Small_F_eq (st : Bool) (H : Heap) (xs : List CV) : r04_Small_F st H xs = if xs.length = 1 then (eval ctx r04_Small_C (enterC 0 xs) ⟨[], []⟩).bind (fzOut [.tmp 2] st false H) else none := (rfl)
theorem r04_Small_call (cap args : List CV) (H : Heap) : call ctx (.fn (.func 16) [] cap) args H = (snapL H false false (args ++ cap)).bind (r04_Small_F (CV.refs (args ++ cap)) H) := fz_call rfl (show ctx.info 16 = some r04_Small_I by kernel_rfl) cap args H
noncomputable def r05_Full_F (st : Bool) (H : Heap) (xs : List CV) : Option (CV × Heap) := fzE ctx false 1 r05_Full_C [.cell 2 true 10] st H xs
theorem r05_Full_F_eq (st : Bool) (H : Heap) (xs : List CV) : r05_Full_F st H xs = if xs.length = 1 then (eval ctx r05_Full_C (enterC 0 xs) ⟨[], []⟩).bind (fzOut [.cell 2 true 10] st false H) else none := (rfl)
theorem r05_Full_call (cap args : List CV) (H : Heap) : call ctx (.fn (.func 17) [] cap) args H = (snapL H false false (args ++ cap)).bind (r05_Full_F (CV.refs (args ++ cap)) H) := fz_call rfl (show ctx.info 17 = some r05_Full_I by kernel_rfl) cap args H
noncomputable def graph_New_F (st : Bool) (H : Heap) (xs : List CV) : Option (CV × Heap) := fzE ctx false 1 graph_New_C [.tmp 2] st H xs
theorem graph_New_F_eq (st : Bool) (H : Heap) (xs : List CV) : graph_New_F st H xs = if xs.length = 1 then (eval ctx graph_New_C (enterC 0 xs) ⟨[], []⟩).bind (fzOut [.tmp 2] st false H) else none := (rfl)
theorem graph_New_call (cap args : List CV) (H : Heap) : call ctx (.fn (.func 18) [] cap) args H = (snapL H false false (args ++ cap)).bind (graph_New_F (CV.refs (args ++ cap)) H) := fz_call rfl (show ctx.info 18 = some graph_New_I by kernel_rfl) cap args H
noncomputable def r01_Ints_F (st : Bool) (H : Heap) (xs : List CV) : Option (CV × Heap) := fzE ctx false 2 r01_Ints_C [.tmp 4] st H xs
theorem r01_Ints_F_eq (st : Bool) (H : Heap) (xs : List CV) : r01_Ints_F st H xs = if xs.length = 2 then (eval ctx r01_Ints_C (enterC 0 xs) ⟨[], []⟩).bind (fzOut [.tmp 4] st false H) else none := (rfl)
theorem r01_Ints_call (cap args : List CV) (H : Heap) : call ctx (.fn (.func 27) [] cap) args H = (snapL H false false (args ++ cap)).bind (r01_Ints_F (CV.refs (args ++ cap)) H) := fz_call rfl (show ctx.info 27 = some r01_Ints_I by kernel_rfl) cap args H
noncomputable def l05_joins_F (st : Bool) (H : Heap) (xs : List CV) : Option (CV × Heap) := fzE ctx false 0 l05_joins_C [.tmp 0] st H xs
theorem l05_joins_F_eq (st : Bool) (H : Heap) (xs : List CV) : l05_joins_F st H xs = if xs.length = 0 then (eval ctx l05_joins_C (enterC 0 xs) ⟨[], []⟩).bind (fzOut [.tmp 0] st false H) else none := (rfl)
theorem l05_joins_call (cap args : List CV) (H : Heap) : call ctx (.fn (.func 40) [] cap) args H = (snapL H false false (args ++ cap)).bind (l05_joins_F (CV.refs (args ++ cap)) H) := fz_call rfl (show ctx.info 40 = some l05_joins_I by kernel_rfl) cap args H
noncomputable def graph_Graph_Around_F (st : Bool) (H : Heap) (xs : List CV) : Option (CV × Heap) := fzE ctx false 2 graph_Graph_Around_C [.tmp 4] st H xs
theorem graph_Graph_Around_F_eq (st : Bool) (H : Heap) (xs : List CV) : graph_Graph_Around_F st H xs = if xs.length = 2 then (eval ctx graph_Graph_Around_C (enterC 0 xs) ⟨[], []⟩).bind (fzOut [.tmp 4] st false H) else none := (rfl)
theorem graph_Graph_Around_call (cap args : List CV) (H : Heap) : call ctx (.fn (.func 41) [] cap) args H = (snapL H false false (args ++ cap)).bind (graph_Graph_Around_F (CV.refs (args ++ cap)) H) := fz_call rfl (show ctx.info 41 = some graph_Graph_Around_I by kernel_rfl) cap args H
noncomputable def r01_Has_F (st : Bool) (H : Heap) (xs : List CV) : Option (CV × Heap) := fzE ctx false 2 r01_Has_C [.tmp 4] st H xs
theorem r01_Has_F_eq (st : Bool) (H : Heap) (xs : List CV) : r01_Has_F st H xs = if xs.length = 2 then (eval ctx r01_Has_C (enterC 0 xs) ⟨[], []⟩).bind (fzOut [.tmp 4] st false H) else none := (rfl)
theorem r01_Has_call (cap args : List CV) (H : Heap) : call ctx (.fn (.func 42) [] cap) args H = (snapL H false false (args ++ cap)).bind (r01_Has_F (CV.refs (args ++ cap)) H) := fz_call rfl (show ctx.info 42 = some r01_Has_I by kernel_rfl) cap args H
noncomputable def graph_Graph_Near_F (st : Bool) (H : Heap) (xs : List CV) : Option (CV × Heap) := fzE ctx false 2 graph_Graph_Near_C [.tmp 4] st H xs
theorem graph_Graph_Near_F_eq (st : Bool) (H : Heap) (xs : List CV) : graph_Graph_Near_F st H xs = if xs.length = 2 then (eval ctx graph_Graph_Near_C (enterC 0 xs) ⟨[], []⟩).bind (fzOut [.tmp 4] st false H) else none := (rfl)
theorem graph_Graph_Near_call (cap args : List CV) (H : Heap) : call ctx (.fn (.func 43) [] cap) args H = (snapL H false false (args ++ cap)).bind (graph_Graph_Near_F (CV.refs (args ++ cap)) H) := fz_call rfl (show ctx.info 43 = some graph_Graph_Near_I by kernel_rfl) cap args H
noncomputable def graph_Graph_Ends_F (st : Bool) (H : Heap) (xs : List CV) : Option (CV × Heap) := oE ctx 2 graph_Graph_Ends_C [.tmp 4] st H xs
theorem graph_Graph_Ends_F_eq (st : Bool) (H : Heap) (xs : List CV) : graph_Graph_Ends_F st H xs = if xs.length = 2 then (eval ctx graph_Graph_Ends_C (enterC 0 xs) ⟨[], []⟩).bind (ownOut [.tmp 4] st H) else none := (rfl)
theorem graph_Graph_Ends_call (cap args : List CV) (H : Heap) : call ctx (.fn (.func 44) [] cap) args H = (snapL H false false (args ++ cap)).bind (graph_Graph_Ends_F (CV.refs (args ++ cap)) H) := own_call rfl (show ctx.info 44 = some graph_Graph_Ends_I by kernel_rfl) cap args H
noncomputable def graph_Graph_Len_F (st : Bool) (H : Heap) (xs : List CV) : Option (CV × Heap) := fzE ctx false 2 graph_Graph_Len_C [.tmp 4] st H xs
theorem graph_Graph_Len_F_eq (st : Bool) (H : Heap) (xs : List CV) : graph_Graph_Len_F st H xs = if xs.length = 2 then (eval ctx graph_Graph_Len_C (enterC 0 xs) ⟨[], []⟩).bind (fzOut [.tmp 4] st false H) else none := (rfl)
theorem graph_Graph_Len_call (cap args : List CV) (H : Heap) : call ctx (.fn (.func 47) [] cap) args H = (snapL H false false (args ++ cap)).bind (graph_Graph_Len_F (CV.refs (args ++ cap)) H) := fz_call rfl (show ctx.info 47 = some graph_Graph_Len_I by kernel_rfl) cap args H
noncomputable def r05_Walk_F (st : Bool) (H : Heap) (xs : List CV) : Option (CV × Heap) := fzE ctx false 5 r05_Walk_C [.tmp 10] st H xs
theorem r05_Walk_F_eq (st : Bool) (H : Heap) (xs : List CV) : r05_Walk_F st H xs = if xs.length = 5 then (eval ctx r05_Walk_C (enterC 0 xs) ⟨[], []⟩).bind (fzOut [.tmp 10] st false H) else none := (rfl)
theorem r05_Walk_call (cap args : List CV) (H : Heap) : call ctx (.fn (.func 48) [] cap) args H = (snapL H false false (args ++ cap)).bind (r05_Walk_F (CV.refs (args ++ cap)) H) := fz_call rfl (show ctx.info 48 = some r05_Walk_I by kernel_rfl) cap args H
noncomputable def graph_Graph_Point_F (st : Bool) (H : Heap) (xs : List CV) : Option (CV × Heap) := fzE ctx false 2 graph_Graph_Point_C [.tmp 4] st H xs
theorem graph_Graph_Point_F_eq (st : Bool) (H : Heap) (xs : List CV) : graph_Graph_Point_F st H xs = if xs.length = 2 then (eval ctx graph_Graph_Point_C (enterC 0 xs) ⟨[], []⟩).bind (fzOut [.tmp 4] st false H) else none := (rfl)
theorem graph_Graph_Point_call (cap args : List CV) (H : Heap) : call ctx (.fn (.func 53) [] cap) args H = (snapL H false false (args ++ cap)).bind (graph_Graph_Point_F (CV.refs (args ++ cap)) H) := fz_call rfl (show ctx.info 53 = some graph_Graph_Point_I by kernel_rfl) cap args H
noncomputable def r04_Make_F (st : Bool) (H : Heap) (xs : List CV) : Option (CV × Heap) := fzE ctx true 1 r04_Make_C [.cell 2 true 10] st H xs
theorem r04_Make_F_eq (st : Bool) (H : Heap) (xs : List CV) : r04_Make_F st H xs = if xs.length = 1 then (eval ctx r04_Make_C (enterC 0 xs) ⟨[], []⟩).bind (fzOut [.cell 2 true 10] st true H) else none := (rfl)
theorem r04_Make_call (cap args : List CV) (H : Heap) : call ctx (.fn (.func 55) [] cap) args H = (snapL H false false (args ++ cap)).bind (r04_Make_F (CV.refs (args ++ cap)) H) := fz_call rfl (show ctx.info 55 = some r04_Make_I by kernel_rfl) cap args H
noncomputable def slices_IndexFunc_End_F (st : Bool) (H : Heap) (xs : List CV) : Option (CV × Heap) := fzE ctx false 2 slices_IndexFunc_End_C [.tmp 4] st H xs
theorem slices_IndexFunc_End_F_eq (st : Bool) (H : Heap) (xs : List CV) : slices_IndexFunc_End_F st H xs = if xs.length = 2 then (eval ctx slices_IndexFunc_End_C (enterC 0 xs) ⟨[], []⟩).bind (fzOut [.tmp 4] st false H) else none := (rfl)
theorem slices_IndexFunc_End_call (cap args : List CV) (H : Heap) : call ctx (.fn (.func 58) [] cap) args H = (snapL H false false (args ++ cap)).bind (slices_IndexFunc_End_F (CV.refs (args ++ cap)) H) := fz_call rfl (show ctx.info 58 = some slices_IndexFunc_End_I by kernel_rfl) cap args H
noncomputable def r05_Around_F (st : Bool) (H : Heap) (xs : List CV) : Option (CV × Heap) := fzE ctx false 2 r05_Around_C [.tmp 4] st H xs
theorem r05_Around_F_eq (st : Bool) (H : Heap) (xs : List CV) : r05_Around_F st H xs = if xs.length = 2 then (eval ctx r05_Around_C (enterC 0 xs) ⟨[], []⟩).bind (fzOut [.tmp 4] st false H) else none := (rfl)
theorem r05_Around_call (cap args : List CV) (H : Heap) : call ctx (.fn (.func 61) [] cap) args H = (snapL H false false (args ++ cap)).bind (r05_Around_F (CV.refs (args ++ cap)) H) := fz_call rfl (show ctx.info 61 = some r05_Around_I by kernel_rfl) cap args H
noncomputable def graph_Graph_node_F (st : Bool) (H : Heap) (xs : List CV) : Option (CV × Heap) := fzE ctx false 2 graph_Graph_node_C [.tmp 4, .tmp 5] st H xs
theorem graph_Graph_node_F_eq (st : Bool) (H : Heap) (xs : List CV) : graph_Graph_node_F st H xs = if xs.length = 2 then (eval ctx graph_Graph_node_C (enterC 0 xs) ⟨[], []⟩).bind (fzOut [.tmp 4, .tmp 5] st false H) else none := (rfl)
theorem graph_Graph_node_call (cap args : List CV) (H : Heap) : call ctx (.fn (.func 76) [] cap) args H = (snapL H false false (args ++ cap)).bind (graph_Graph_node_F (CV.refs (args ++ cap)) H) := fz_call rfl (show ctx.info 76 = some graph_Graph_node_I by kernel_rfl) cap args H
noncomputable def slices_DeleteFunc_End_F (bx : List (Nat × List CV)) (bl : List Blk) (xs : List CV) : Option (CV × Heap) := if xs.length = 2 then (eval ctx slices_DeleteFunc_End_C (enterC 0 xs) ⟨[], bl⟩).bind (refOut [.tmp 4] bx) else none
theorem slices_DeleteFunc_End_F_eq (bx : List (Nat × List CV)) (bl : List Blk) (xs : List CV) : slices_DeleteFunc_End_F bx bl xs = if xs.length = 2 then (eval ctx slices_DeleteFunc_End_C (enterC 0 xs) ⟨[], bl⟩).bind (refOut [.tmp 4] bx) else none := (rfl)
theorem slices_DeleteFunc_End_call (cap args : List CV) (bx : List (Nat × List CV)) (bl : List Blk) : call ctx (.fn (.func 77) [] cap) args ⟨bx, bl⟩ = if CV.locs (args ++ cap) then none else slices_DeleteFunc_End_F bx bl (args ++ cap) := ref_call rfl (show ctx.info 77 = some slices_DeleteFunc_End_I by kernel_rfl) cap args bx bl
noncomputable def graph_Graph_Around_1_F (st : Bool) (H : Heap) (xs : List CV) : Option (CV × Heap) := fzE ctx false 2 graph_Graph_Around_1_C [.tmp 3] st H xs
theorem graph_Graph_Around_1_F_eq (st : Bool) (H : Heap) (xs : List CV) : graph_Graph_Around_1_F st H xs = if xs.length = 2 then (eval ctx graph_Graph_Around_1_C (enterC 0 xs) ⟨[], []⟩).bind (fzOut [.tmp 3] st false H) else none := (rfl)
theorem graph_Graph_Around_1_call (cap args : List CV) (H : Heap) : call ctx (.fn (.func 78) [] cap) args H = (snapL H false false (args ++ cap)).bind (graph_Graph_Around_1_F (CV.refs (args ++ cap)) H) := fz_call rfl (show ctx.info 78 = some graph_Graph_Around_1_I by kernel_rfl) cap args H
noncomputable def graph_Graph_at_F (st : Bool) (H : Heap) (xs : List CV) : Option (CV × Heap) := fzE ctx false 3 graph_Graph_at_C [.tmp 6] st H xs
theorem graph_Graph_at_F_eq (st : Bool) (H : Heap) (xs : List CV) : graph_Graph_at_F st H xs = if xs.length = 3 then (eval ctx graph_Graph_at_C (enterC 0 xs) ⟨[], []⟩).bind (fzOut [.tmp 6] st false H) else none := (rfl)
theorem graph_Graph_at_call (cap args : List CV) (H : Heap) : call ctx (.fn (.func 80) [] cap) args H = (snapL H false false (args ++ cap)).bind (graph_Graph_at_F (CV.refs (args ++ cap)) H) := fz_call rfl (show ctx.info 80 = some graph_Graph_at_I by kernel_rfl) cap args H
noncomputable def slices_Sort_int_F (bx : List (Nat × List CV)) (bl : List Blk) (xs : List CV) : Option (CV × Heap) := if xs.length = 1 then (eval ctx slices_Sort_int_C (enterC 0 xs) ⟨[], bl⟩).bind (refOut [] bx) else none
theorem slices_Sort_int_F_eq (bx : List (Nat × List CV)) (bl : List Blk) (xs : List CV) : slices_Sort_int_F bx bl xs = if xs.length = 1 then (eval ctx slices_Sort_int_C (enterC 0 xs) ⟨[], bl⟩).bind (refOut [] bx) else none := (rfl)
theorem slices_Sort_int_call (cap args : List CV) (bx : List (Nat × List CV)) (bl : List Blk) : call ctx (.fn (.func 81) [] cap) args ⟨bx, bl⟩ = if CV.locs (args ++ cap) then none else slices_Sort_int_F bx bl (args ++ cap) := ref_call rfl (show ctx.info 81 = some slices_Sort_int_I by kernel_rfl) cap args bx bl
noncomputable def slices_Compact_int_F (bx : List (Nat × List CV)) (bl : List Blk) (xs : List CV) : Option (CV × Heap) := if xs.length = 1 then (eval ctx slices_Compact_int_C (enterC 0 xs) ⟨[], bl⟩).bind (refOut [.tmp 2] bx) else none
theorem slices_Compact_int_F_eq (bx : List (Nat × List CV)) (bl : List Blk) (xs : List CV) : slices_Compact_int_F bx bl xs = if xs.length = 1 then (eval ctx slices_Compact_int_C (enterC 0 xs) ⟨[], bl⟩).bind (refOut [.tmp 2] bx) else none := (rfl)
theorem slices_Compact_int_call (cap args : List CV) (bx : List (Nat × List CV)) (bl : List Blk) : call ctx (.fn (.func 82) [] cap) args ⟨bx, bl⟩ = if CV.locs (args ++ cap) then none else slices_Compact_int_F bx bl (args ++ cap) := ref_call rfl (show ctx.info 82 = some slices_Compact_int_I by kernel_rfl) cap args bx bl
noncomputable def graph_Graph_section_F (st : Bool) (H : Heap) (xs : List CV) : Option (CV × Heap) := fzE ctx false 2 graph_Graph_section_C [.cell 4 true 3, .tmp 5] st H xs
theorem graph_Graph_section_F_eq (st : Bool) (H : Heap) (xs : List CV) : graph_Graph_section_F st H xs = if xs.length = 2 then (eval ctx graph_Graph_section_C (enterC 0 xs) ⟨[], []⟩).bind (fzOut [.cell 4 true 3, .tmp 5] st false H) else none := (rfl)
theorem graph_Graph_section_call (cap args : List CV) (H : Heap) : call ctx (.fn (.func 83) [] cap) args H = (snapL H false false (args ++ cap)).bind (graph_Graph_section_F (CV.refs (args ++ cap)) H) := fz_call rfl (show ctx.info 83 = some graph_Graph_section_I by kernel_rfl) cap args H
noncomputable def r05_Point_F (st : Bool) (H : Heap) (xs : List CV) : Option (CV × Heap) := fzE ctx false 2 r05_Point_C [.tmp 4] st H xs
theorem r05_Point_F_eq (st : Bool) (H : Heap) (xs : List CV) : r05_Point_F st H xs = if xs.length = 2 then (eval ctx r05_Point_C (enterC 0 xs) ⟨[], []⟩).bind (fzOut [.tmp 4] st false H) else none := (rfl)
theorem r05_Point_call (cap args : List CV) (H : Heap) : call ctx (.fn (.func 89) [] cap) args H = (snapL H false false (args ++ cap)).bind (r05_Point_F (CV.refs (args ++ cap)) H) := fz_call rfl (show ctx.info 89 = some r05_Point_I by kernel_rfl) cap args H
noncomputable def r05_Ends_F (st : Bool) (H : Heap) (xs : List CV) : Option (CV × Heap) := fzE ctx false 2 r05_Ends_C [.tmp 4] st H xs
theorem r05_Ends_F_eq (st : Bool) (H : Heap) (xs : List CV) : r05_Ends_F st H xs = if xs.length = 2 then (eval ctx r05_Ends_C (enterC 0 xs) ⟨[], []⟩).bind (fzOut [.tmp 4] st false H) else none := (rfl)
theorem r05_Ends_call (cap args : List CV) (H : Heap) : call ctx (.fn (.func 91) [] cap) args H = (snapL H false false (args ++ cap)).bind (r05_Ends_F (CV.refs (args ++ cap)) H) := fz_call rfl (show ctx.info 91 = some r05_Ends_I by kernel_rfl) cap args H
noncomputable def slices_IndexFunc_Point_F (st : Bool) (H : Heap) (xs : List CV) : Option (CV × Heap) := fzE ctx false 2 slices_IndexFunc_Point_C [.tmp 4] st H xs
theorem slices_IndexFunc_Point_F_eq (st : Bool) (H : Heap) (xs : List CV) : slices_IndexFunc_Point_F st H xs = if xs.length = 2 then (eval ctx slices_IndexFunc_Point_C (enterC 0 xs) ⟨[], []⟩).bind (fzOut [.tmp 4] st false H) else none := (rfl)
theorem slices_IndexFunc_Point_call (cap args : List CV) (H : Heap) : call ctx (.fn (.func 98) [] cap) args H = (snapL H false false (args ++ cap)).bind (slices_IndexFunc_Point_F (CV.refs (args ++ cap)) H) := fz_call rfl (show ctx.info 98 = some slices_IndexFunc_Point_I by kernel_rfl) cap args H
noncomputable def graph_Graph_Point_1_F (st : Bool) (H : Heap) (xs : List CV) : Option (CV × Heap) := fzE ctx false 2 graph_Graph_Point_1_C [.tmp 3] st H xs
theorem graph_Graph_Point_1_F_eq (st : Bool) (H : Heap) (xs : List CV) : graph_Graph_Point_1_F st H xs = if xs.length = 2 then (eval ctx graph_Graph_Point_1_C (enterC 0 xs) ⟨[], []⟩).bind (fzOut [.tmp 3] st false H) else none := (rfl)
theorem graph_Graph_Point_1_call (cap args : List CV) (H : Heap) : call ctx (.fn (.func 99) [] cap) args H = (snapL H false false (args ++ cap)).bind (graph_Graph_Point_1_F (CV.refs (args ++ cap)) H) := fz_call rfl (show ctx.info 99 = some graph_Graph_Point_1_I by kernel_rfl) cap args H
noncomputable def r05_node_F (st : Bool) (H : Heap) (xs : List CV) : Option (CV × Heap) := fzE ctx false 2 r05_node_C [.tmp 4, .tmp 5] st H xs
theorem r05_node_F_eq (st : Bool) (H : Heap) (xs : List CV) : r05_node_F st H xs = if xs.length = 2 then (eval ctx r05_node_C (enterC 0 xs) ⟨[], []⟩).bind (fzOut [.tmp 4, .tmp 5] st false H) else none := (rfl)
theorem r05_node_call (cap args : List CV) (H : Heap) : call ctx (.fn (.func 101) [] cap) args H = (snapL H false false (args ++ cap)).bind (r05_node_F (CV.refs (args ++ cap)) H) := fz_call rfl (show ctx.info 101 = some r05_node_I by kernel_rfl) cap args H
noncomputable def r05_one_F (st : Bool) (H : Heap) (xs : List CV) : Option (CV × Heap) := fzE ctx false 3 r05_one_C [.tmp 6] st H xs
theorem r05_one_F_eq (st : Bool) (H : Heap) (xs : List CV) : r05_one_F st H xs = if xs.length = 3 then (eval ctx r05_one_C (enterC 0 xs) ⟨[], []⟩).bind (fzOut [.tmp 6] st false H) else none := (rfl)
theorem r05_one_call (cap args : List CV) (H : Heap) : call ctx (.fn (.func 102) [] cap) args H = (snapL H false false (args ++ cap)).bind (r05_one_F (CV.refs (args ++ cap)) H) := fz_call rfl (show ctx.info 102 = some r05_one_I by kernel_rfl) cap args H
noncomputable def slices_pdqsortOrdered_int_F (bx : List (Nat × List CV)) (bl : List Blk) (xs : List CV) : Option (CV × Heap) := if xs.length = 4 then (eval ctx slices_pdqsortOrdered_int_C (enterC 0 xs) ⟨[], bl⟩).bind (refOut [] bx) else none
theorem slices_pdqsortOrdered_int_F_eq (bx : List (Nat × List CV)) (bl : List Blk) (xs : List CV) : slices_pdqsortOrdered_int_F bx bl xs = if xs.length = 4 then (eval ctx slices_pdqsortOrdered_int_C (enterC 0 xs) ⟨[], bl⟩).bind (refOut [] bx) else none := (rfl)
theorem slices_pdqsortOrdered_int_call (cap args : List CV) (bx : List (Nat × List CV)) (bl : List Blk) : call ctx (.fn (.func 107) [] cap) args ⟨bx, bl⟩ = if CV.locs (args ++ cap) then none else slices_pdqsortOrdered_int_F bx bl (args ++ cap) := ref_call rfl (show ctx.info 107 = some slices_pdqsortOrdered_int_I by kernel_rfl) cap args bx bl
noncomputable def math_bits_Len_F (st : Bool) (H : Heap) (xs : List CV) : Option (CV × Heap) := fzE ctx false 1 math_bits_Len_C [.tmp 2] st H xs
theorem math_bits_Len_F_eq (st : Bool) (H : Heap) (xs : List CV) : math_bits_Len_F st H xs = if xs.length = 1 then (eval ctx math_bits_Len_C (enterC 0 xs) ⟨[], []⟩).bind (fzOut [.tmp 2] st false H) else none := (rfl)
theorem math_bits_Len_call (cap args : List CV) (H : Heap) : call ctx (.fn (.func 108) [] cap) args H = (snapL H false false (args ++ cap)).bind (math_bits_Len_F (CV.refs (args ++ cap)) H) := fz_call rfl (show ctx.info 108 = some math_bits_Len_I by kernel_rfl) cap args H
noncomputable def slices_insertionSortOrdered_int_F (bx : List (Nat × List CV)) (bl : List Blk) (xs : List CV) : Option (CV × Heap) := if xs.length = 3 then (eval ctx slices_insertionSortOrdered_int_C (enterC 0 xs) ⟨[], bl⟩).bind (refOut [] bx) else none
theorem slices_insertionSortOrdered_int_F_eq (bx : List (Nat × List CV)) (bl : List Blk) (xs : List CV) : slices_insertionSortOrdered_int_F bx bl xs = if xs.length = 3 then (eval ctx slices_insertionSortOrdered_int_C (enterC 0 xs) ⟨[], bl⟩).bind (refOut [] bx) else none := (rfl)
theorem slices_insertionSortOrdered_int_call (cap args : List CV) (bx : List (Nat × List CV)) (bl : List Blk) : call ctx (.fn (.func 115) [] cap) args ⟨bx, bl⟩ = if CV.locs (args ++ cap) then none else slices_insertionSortOrdered_int_F bx bl (args ++ cap) := ref_call rfl (show ctx.info 115 = some slices_insertionSortOrdered_int_I by kernel_rfl) cap args bx bl
noncomputable def cmp_Less_int_F (st : Bool) (H : Heap) (xs : List CV) : Option (CV × Heap) := fzE ctx false 2 cmp_Less_int_C [.tmp 4] st H xs
theorem cmp_Less_int_F_eq (st : Bool) (H : Heap) (xs : List CV) : cmp_Less_int_F st H xs = if xs.length = 2 then (eval ctx cmp_Less_int_C (enterC 0 xs) ⟨[], []⟩).bind (fzOut [.tmp 4] st false H) else none := (rfl)
theorem cmp_Less_int_call (cap args : List CV) (H : Heap) : call ctx (.fn (.func 121) [] cap) args H = (snapL H false false (args ++ cap)).bind (cmp_Less_int_F (CV.refs (args ++ cap)) H) := fz_call rfl (show ctx.info 121 = some cmp_Less_int_I by kernel_rfl) cap args H
noncomputable def math_bits_Len64_F (st : Bool) (H : Heap) (xs : List CV) : Option (CV × Heap) := fzE ctx false 1 math_bits_Len64_C [.tmp 2] st H xs
theorem math_bits_Len64_F_eq (st : Bool) (H : Heap) (xs : List CV) : math_bits_Len64_F st H xs = if xs.length = 1 then (eval ctx math_bits_Len64_C (enterC 0 xs) ⟨[], []⟩).bind (fzOut [.tmp 2] st false H) else none := (rfl)
theorem math_bits_Len64_call (cap args : List CV) (H : Heap) : call ctx (.fn (.func 125) [] cap) args H = (snapL H false false (args ++ cap)).bind (math_bits_Len64_F (CV.refs (args ++ cap)) H) := fz_call rfl (show ctx.info 125 = some math_bits_Len64_I by kernel_rfl) cap args H
noncomputable def math_bits_Len32_F (st : Bool) (H : Heap) (xs : List CV) : Option (CV × Heap) := fzE ctx false 1 math_bits_Len32_C [.tmp 2] st H xs
theorem math_bits_Len32_F_eq (st : Bool) (H : Heap) (xs : List CV) : math_bits_Len32_F st H xs = if xs.length = 1 then (eval ctx math_bits_Len32_C (enterC 0 xs) ⟨[], []⟩).bind (fzOut [.tmp 2] st false H) else none := (rfl)
theorem math_bits_Len32_call (cap args : List CV) (H : Heap) : call ctx (.fn (.func 124) [] cap) args H = (snapL H false false (args ++ cap)).bind (math_bits_Len32_F (CV.refs (args ++ cap)) H) := fz_call rfl (show ctx.info 124 = some math_bits_Len32_I by kernel_rfl) cap args H
noncomputable def slices_Concat_End_F (st : Bool) (H : Heap) (xs : List CV) : Option (CV × Heap) := fzE ctx false 1 slices_Concat_End_C [.tmp 2] st H xs
theorem slices_Concat_End_F_eq (st : Bool) (H : Heap) (xs : List CV) : slices_Concat_End_F st H xs = if xs.length = 1 then (eval ctx slices_Concat_End_C (enterC 0 xs) ⟨[], []⟩).bind (fzOut [.tmp 2] st false H) else none := (rfl)
theorem slices_Concat_End_call (cap args : List CV) (H : Heap) : call ctx (.fn (.func 79) [] cap) args H = (snapL H false false (args ++ cap)).bind (slices_Concat_End_F (CV.refs (args ++ cap)) H) := fz_call rfl (show ctx.info 79 = some slices_Concat_End_I by kernel_rfl) cap args H
noncomputable def slices_Grow_End_F (bx : List (Nat × List CV)) (bl : List Blk) (xs : List CV) : Option (CV × Heap) := if xs.length = 2 then (eval ctx slices_Grow_End_C (enterC 0 xs) ⟨[], bl⟩).bind (refOut [.tmp 4] bx) else none
theorem slices_Grow_End_F_eq (bx : List (Nat × List CV)) (bl : List Blk) (xs : List CV) : slices_Grow_End_F bx bl xs = if xs.length = 2 then (eval ctx slices_Grow_End_C (enterC 0 xs) ⟨[], bl⟩).bind (refOut [.tmp 4] bx) else none := (rfl)
theorem slices_Grow_End_call (cap args : List CV) (bx : List (Nat × List CV)) (bl : List Blk) : call ctx (.fn (.func 106) [] cap) args ⟨bx, bl⟩ = if CV.locs (args ++ cap) then none else slices_Grow_End_F bx bl (args ++ cap) := ref_call rfl (show ctx.info 106 = some slices_Grow_End_I by kernel_rfl) cap args bx bl
noncomputable def cmp_isNaN_int_F (st : Bool) (H : Heap) (xs : List CV) : Option (CV × Heap) := fzE ctx false 1 cmp_isNaN_int_C [.tmp 2] st H xs
theorem cmp_isNaN_int_F_eq (st : Bool) (H : Heap) (xs : List CV) : cmp_isNaN_int_F st H xs = if xs.length = 1 then (eval ctx cmp_isNaN_int_C (enterC 0 xs) ⟨[], []⟩).bind (fzOut [.tmp 2] st false H) else none := (rfl)
theorem cmp_isNaN_int_call (cap args : List CV) (H : Heap) : call ctx (.fn (.func 132) [] cap) args H = (snapL H false false (args ++ cap)).bind (cmp_isNaN_int_F (CV.refs (args ++ cap)) H) := fz_call rfl (show ctx.info 132 = some cmp_isNaN_int_I by kernel_rfl) cap args H
noncomputable def l05_GraphEnds_F (st : Bool) (H : Heap) (xs : List CV) : Option (CV × Heap) := fzE ctx false 1 l05_GraphEnds_C [.tmp 2] st H xs
theorem l05_GraphEnds_F_eq (st : Bool) (H : Heap) (xs : List CV) : l05_GraphEnds_F st H xs = if xs.length = 1 then (eval ctx l05_GraphEnds_C (enterC 0 xs) ⟨[], []⟩).bind (fzOut [.tmp 2] st false H) else none := (rfl)
theorem l05_GraphEnds_call (cap args : List CV) (H : Heap) : call ctx (.fn (.func 10) [] cap) args H = (snapL H false false (args ++ cap)).bind (l05_GraphEnds_F (CV.refs (args ++ cap)) H) := fz_call rfl (show ctx.info 10 = some l05_GraphEnds_I by kernel_rfl) cap args H
noncomputable def graph_Graph_Beside_F (st : Bool) (H : Heap) (xs : List CV) : Option (CV × Heap) := fzE ctx false 2 graph_Graph_Beside_C [.tmp 4] st H xs
theorem graph_Graph_Beside_F_eq (st : Bool) (H : Heap) (xs : List CV) : graph_Graph_Beside_F st H xs = if xs.length = 2 then (eval ctx graph_Graph_Beside_C (enterC 0 xs) ⟨[], []⟩).bind (fzOut [.tmp 4] st false H) else none := (rfl)
theorem graph_Graph_Beside_call (cap args : List CV) (H : Heap) : call ctx (.fn (.func 45) [] cap) args H = (snapL H false false (args ++ cap)).bind (graph_Graph_Beside_F (CV.refs (args ++ cap)) H) := fz_call rfl (show ctx.info 45 = some graph_Graph_Beside_I by kernel_rfl) cap args H
noncomputable def graph_Graph_Part_F (st : Bool) (H : Heap) (xs : List CV) : Option (CV × Heap) := fzE ctx false 2 graph_Graph_Part_C [.tmp 4] st H xs
theorem graph_Graph_Part_F_eq (st : Bool) (H : Heap) (xs : List CV) : graph_Graph_Part_F st H xs = if xs.length = 2 then (eval ctx graph_Graph_Part_C (enterC 0 xs) ⟨[], []⟩).bind (fzOut [.tmp 4] st false H) else none := (rfl)
theorem graph_Graph_Part_call (cap args : List CV) (H : Heap) : call ctx (.fn (.func 46) [] cap) args H = (snapL H false false (args ++ cap)).bind (graph_Graph_Part_F (CV.refs (args ++ cap)) H) := fz_call rfl (show ctx.info 46 = some graph_Graph_Part_I by kernel_rfl) cap args H
noncomputable def slices_IndexFunc_int_F (st : Bool) (H : Heap) (xs : List CV) : Option (CV × Heap) := fzE ctx false 2 slices_IndexFunc_int_C [.tmp 4] st H xs
theorem slices_IndexFunc_int_F_eq (st : Bool) (H : Heap) (xs : List CV) : slices_IndexFunc_int_F st H xs = if xs.length = 2 then (eval ctx slices_IndexFunc_int_C (enterC 0 xs) ⟨[], []⟩).bind (fzOut [.tmp 4] st false H) else none := (rfl)
theorem slices_IndexFunc_int_call (cap args : List CV) (H : Heap) : call ctx (.fn (.func 84) [] cap) args H = (snapL H false false (args ++ cap)).bind (slices_IndexFunc_int_F (CV.refs (args ++ cap)) H) := fz_call rfl (show ctx.info 84 = some slices_IndexFunc_int_I by kernel_rfl) cap args H
noncomputable def graph_Graph_Part_1_F (st : Bool) (H : Heap) (xs : List CV) : Option (CV × Heap) := fzE ctx false 2 graph_Graph_Part_1_C [.tmp 3] st H xs
theorem graph_Graph_Part_1_F_eq (st : Bool) (H : Heap) (xs : List CV) : graph_Graph_Part_1_F st H xs = if xs.length = 2 then (eval ctx graph_Graph_Part_1_C (enterC 0 xs) ⟨[], []⟩).bind (fzOut [.tmp 3] st false H) else none := (rfl)
theorem graph_Graph_Part_1_call (cap args : List CV) (H : Heap) : call ctx (.fn (.func 85) [] cap) args H = (snapL H false false (args ++ cap)).bind (graph_Graph_Part_1_F (CV.refs (args ++ cap)) H) := fz_call rfl (show ctx.info 85 = some graph_Graph_Part_1_I by kernel_rfl) cap args H
noncomputable def slices_Contains_int_F (st : Bool) (H : Heap) (xs : List CV) : Option (CV × Heap) := fzE ctx false 2 slices_Contains_int_C [.tmp 4] st H xs
theorem slices_Contains_int_F_eq (st : Bool) (H : Heap) (xs : List CV) : slices_Contains_int_F st H xs = if xs.length = 2 then (eval ctx slices_Contains_int_C (enterC 0 xs) ⟨[], []⟩).bind (fzOut [.tmp 4] st false H) else none := (rfl)
theorem slices_Contains_int_call (cap args : List CV) (H : Heap) : call ctx (.fn (.func 86) [] cap) args H = (snapL H false false (args ++ cap)).bind (slices_Contains_int_F (CV.refs (args ++ cap)) H) := fz_call rfl (show ctx.info 86 = some slices_Contains_int_I by kernel_rfl) cap args H
noncomputable def slices_Index_int_F (st : Bool) (H : Heap) (xs : List CV) : Option (CV × Heap) := fzE ctx false 2 slices_Index_int_C [.tmp 4] st H xs
theorem slices_Index_int_F_eq (st : Bool) (H : Heap) (xs : List CV) : slices_Index_int_F st H xs = if xs.length = 2 then (eval ctx slices_Index_int_C (enterC 0 xs) ⟨[], []⟩).bind (fzOut [.tmp 4] st false H) else none := (rfl)
theorem slices_Index_int_call (cap args : List CV) (H : Heap) : call ctx (.fn (.func 100) [] cap) args H = (snapL H false false (args ++ cap)).bind (slices_Index_int_F (CV.refs (args ++ cap)) H) := fz_call rfl (show ctx.info 100 = some slices_Index_int_I by kernel_rfl) cap args H
noncomputable def l05_GraphPaths_F (st : Bool) (H : Heap) (xs : List CV) : Option (CV × Heap) := fzE ctx false 6 l05_GraphPaths_C [.tmp 12] st H xs
theorem l05_GraphPaths_F_eq (st : Bool) (H : Heap) (xs : List CV) : l05_GraphPaths_F st H xs = if xs.length = 6 then (eval ctx l05_GraphPaths_C (enterC 0 xs) ⟨[], []⟩).bind (fzOut [.tmp 12] st false H) else none := (rfl)
theorem l05_GraphPaths_call (cap args : List CV) (H : Heap) : call ctx (.fn (.func 11) [] cap) args H = (snapL H false false (args ++ cap)).bind (l05_GraphPaths_F (CV.refs (args ++ cap)) H) := fz_call rfl (show ctx.info 11 = some l05_GraphPaths_I by kernel_rfl) cap args H
noncomputable def graph_Graph_Path_F (st : Bool) (H : Heap) (xs : List CV) : Option (CV × Heap) := fzE ctx false 2 graph_Graph_Path_C [.tmp 4, .tmp 5] st H xs
theorem graph_Graph_Path_F_eq (st : Bool) (H : Heap) (xs : List CV) : graph_Graph_Path_F st H xs = if xs.length = 2 then (eval ctx graph_Graph_Path_C (enterC 0 xs) ⟨[], []⟩).bind (fzOut [.tmp 4, .tmp 5] st false H) else none := (rfl)
theorem graph_Graph_Path_call (cap args : List CV) (H : Heap) : call ctx (.fn (.func 49) [] cap) args H = (snapL H false false (args ++ cap)).bind (graph_Graph_Path_F (CV.refs (args ++ cap)) H) := fz_call rfl (show ctx.info 49 = some graph_Graph_Path_I by kernel_rfl) cap args H
noncomputable def l05_paths_F (st : Bool) (H : Heap) (xs : List CV) : Option (CV × Heap) := fzE ctx false 2 l05_paths_C [.tmp 4] st H xs
theorem l05_paths_F_eq (st : Bool) (H : Heap) (xs : List CV) : l05_paths_F st H xs = if xs.length = 2 then (eval ctx l05_paths_C (enterC 0 xs) ⟨[], []⟩).bind (fzOut [.tmp 4] st false H) else none := (rfl)
theorem l05_paths_call (cap args : List CV) (H : Heap) : call ctx (.fn (.func 50) [] cap) args H = (snapL H false false (args ++ cap)).bind (l05_paths_F (CV.refs (args ++ cap)) H) := fz_call rfl (show ctx.info 50 = some l05_paths_I by kernel_rfl) cap args H
noncomputable def r01_Rise_F (st : Bool) (H : Heap) (xs : List CV) : Option (CV × Heap) := fzE ctx false 1 r01_Rise_C [.tmp 2] st H xs
theorem r01_Rise_F_eq (st : Bool) (H : Heap) (xs : List CV) : r01_Rise_F st H xs = if xs.length = 1 then (eval ctx r01_Rise_C (enterC 0 xs) ⟨[], []⟩).bind (fzOut [.tmp 2] st false H) else none := (rfl)
theorem r01_Rise_call (cap args : List CV) (H : Heap) : call ctx (.fn (.func 60) [] cap) args H = (snapL H false false (args ++ cap)).bind (r01_Rise_F (CV.refs (args ++ cap)) H) := fz_call rfl (show ctx.info 60 = some r01_Rise_I by kernel_rfl) cap args H
noncomputable def graph_Graph_way_F (st : Bool) (H : Heap) (xs : List CV) : Option (CV × Heap) := fzE ctx false 3 graph_Graph_way_C [.tmp 6, .tmp 7] st H xs
theorem graph_Graph_way_F_eq (st : Bool) (H : Heap) (xs : List CV) : graph_Graph_way_F st H xs = if xs.length = 3 then (eval ctx graph_Graph_way_C (enterC 0 xs) ⟨[], []⟩).bind (fzOut [.tmp 6, .tmp 7] st false H) else none := (rfl)
theorem graph_Graph_way_call (cap args : List CV) (H : Heap) : call ctx (.fn (.func 87) [] cap) args H = (snapL H false false (args ++ cap)).bind (graph_Graph_way_F (CV.refs (args ++ cap)) H) := fz_call rfl (show ctx.info 87 = some graph_Graph_way_I by kernel_rfl) cap args H
noncomputable def r05_Path_F (st : Bool) (H : Heap) (xs : List CV) : Option (CV × Heap) := fzE ctx false 2 r05_Path_C [.tmp 4, .tmp 5] st H xs
theorem r05_Path_F_eq (st : Bool) (H : Heap) (xs : List CV) : r05_Path_F st H xs = if xs.length = 2 then (eval ctx r05_Path_C (enterC 0 xs) ⟨[], []⟩).bind (fzOut [.tmp 4, .tmp 5] st false H) else none := (rfl)
theorem r05_Path_call (cap args : List CV) (H : Heap) : call ctx (.fn (.func 88) [] cap) args H = (snapL H false false (args ++ cap)).bind (r05_Path_F (CV.refs (args ++ cap)) H) := fz_call rfl (show ctx.info 88 = some r05_Path_I by kernel_rfl) cap args H
noncomputable def graph_Graph_way_1_F (st : Bool) (H : Heap) (xs : List CV) : Option (CV × Heap) := fzE ctx false 2 graph_Graph_way_1_C [.tmp 3] st H xs
theorem graph_Graph_way_1_F_eq (st : Bool) (H : Heap) (xs : List CV) : graph_Graph_way_1_F st H xs = if xs.length = 2 then (eval ctx graph_Graph_way_1_C (enterC 0 xs) ⟨[], []⟩).bind (fzOut [.tmp 3] st false H) else none := (rfl)
theorem graph_Graph_way_1_call (cap args : List CV) (H : Heap) : call ctx (.fn (.func 109) [] cap) args H = (snapL H false false (args ++ cap)).bind (graph_Graph_way_1_F (CV.refs (args ++ cap)) H) := fz_call rfl (show ctx.info 109 = some graph_Graph_way_1_I by kernel_rfl) cap args H
noncomputable def graph_Graph_need_F (st : Bool) (H : Heap) (xs : List CV) : Option (CV × Heap) := fzE ctx false 3 graph_Graph_need_C [.tmp 6] st H xs
theorem graph_Graph_need_F_eq (st : Bool) (H : Heap) (xs : List CV) : graph_Graph_need_F st H xs = if xs.length = 3 then (eval ctx graph_Graph_need_C (enterC 0 xs) ⟨[], []⟩).bind (fzOut [.tmp 6] st false H) else none := (rfl)
theorem graph_Graph_need_call (cap args : List CV) (H : Heap) : call ctx (.fn (.func 110) [] cap) args H = (snapL H false false (args ++ cap)).bind (graph_Graph_need_F (CV.refs (args ++ cap)) H) := fz_call rfl (show ctx.info 110 = some graph_Graph_need_I by kernel_rfl) cap args H
noncomputable def r05_way_F (st : Bool) (H : Heap) (xs : List CV) : Option (CV × Heap) := fzE ctx false 3 r05_way_C [.tmp 6, .tmp 7] st H xs
theorem r05_way_F_eq (st : Bool) (H : Heap) (xs : List CV) : r05_way_F st H xs = if xs.length = 3 then (eval ctx r05_way_C (enterC 0 xs) ⟨[], []⟩).bind (fzOut [.tmp 6, .tmp 7] st false H) else none := (rfl)
theorem r05_way_call (cap args : List CV) (H : Heap) : call ctx (.fn (.func 111) [] cap) args H = (snapL H false false (args ++ cap)).bind (r05_way_F (CV.refs (args ++ cap)) H) := fz_call rfl (show ctx.info 111 = some r05_way_I by kernel_rfl) cap args H
noncomputable def l05_GraphTracks_F (st : Bool) (H : Heap) (xs : List CV) : Option (CV × Heap) := fzE ctx false 2 l05_GraphTracks_C [.tmp 4] st H xs
theorem l05_GraphTracks_F_eq (st : Bool) (H : Heap) (xs : List CV) : l05_GraphTracks_F st H xs = if xs.length = 2 then (eval ctx l05_GraphTracks_C (enterC 0 xs) ⟨[], []⟩).bind (fzOut [.tmp 4] st false H) else none := (rfl)
theorem l05_GraphTracks_call (cap args : List CV) (H : Heap) : call ctx (.fn (.func 12) [] cap) args H = (snapL H false false (args ++ cap)).bind (l05_GraphTracks_F (CV.refs (args ++ cap)) H) := fz_call rfl (show ctx.info 12 = some l05_GraphTracks_I by kernel_rfl) cap args H
noncomputable def l05_like_F (st : Bool) (H : Heap) (xs : List CV) : Option (CV × Heap) := fzE ctx false 2 l05_like_C [.tmp 4] st H xs
theorem l05_like_F_eq (st : Bool) (H : Heap) (xs : List CV) : l05_like_F st H xs = if xs.length = 2 then (eval ctx l05_like_C (enterC 0 xs) ⟨[], []⟩).bind (fzOut [.tmp 4] st false H) else none := (rfl)
theorem l05_like_call (cap args : List CV) (H : Heap) : call ctx (.fn (.func 51) [] cap) args H = (snapL H false false (args ++ cap)).bind (l05_like_F (CV.refs (args ++ cap)) H) := fz_call rfl (show ctx.info 51 = some l05_like_I by kernel_rfl) cap args H
noncomputable def graph_Graph_Next_F (st : Bool) (H : Heap) (xs : List CV) : Option (CV × Heap) := fzE ctx false 3 graph_Graph_Next_C [.cell 6 true 2, .tmp 7] st H xs
theorem graph_Graph_Next_F_eq (st : Bool) (H : Heap) (xs : List CV) : graph_Graph_Next_F st H xs = if xs.length = 3 then (eval ctx graph_Graph_Next_C (enterC 0 xs) ⟨[], []⟩).bind (fzOut [.cell 6 true 2, .tmp 7] st false H) else none := (rfl)
theorem graph_Graph_Next_call (cap args : List CV) (H : Heap) : call ctx (.fn (.func 52) [] cap) args H = (snapL H false false (args ++ cap)).bind (graph_Graph_Next_F (CV.refs (args ++ cap)) H) := fz_call rfl (show ctx.info 52 = some graph_Graph_Next_I by kernel_rfl) cap args H
noncomputable def r05_Len_F (st : Bool) (H : Heap) (xs : List CV) : Option (CV × Heap) := fzE ctx false 2 r05_Len_C [.tmp 4] st H xs
theorem r05_Len_F_eq (st : Bool) (H : Heap) (xs : List CV) : r05_Len_F st H xs = if xs.length = 2 then (eval ctx r05_Len_C (enterC 0 xs) ⟨[], []⟩).bind (fzOut [.tmp 4] st false H) else none := (rfl)
theorem r05_Len_call (cap args : List CV) (H : Heap) : call ctx (.fn (.func 56) [] cap) args H = (snapL H false false (args ++ cap)).bind (r05_Len_F (CV.refs (args ++ cap)) H) := fz_call rfl (show ctx.info 56 = some r05_Len_I by kernel_rfl) cap args H
noncomputable def l05_same_F (st : Bool) (H : Heap) (xs : List CV) : Option (CV × Heap) := fzE ctx false 2 l05_same_C [.tmp 4] st H xs
theorem l05_same_F_eq (st : Bool) (H : Heap) (xs : List CV) : l05_same_F st H xs = if xs.length = 2 then (eval ctx l05_same_C (enterC 0 xs) ⟨[], []⟩).bind (fzOut [.tmp 4] st false H) else none := (rfl)
theorem l05_same_call (cap args : List CV) (H : Heap) : call ctx (.fn (.func 90) [] cap) args H = (snapL H false false (args ++ cap)).bind (l05_same_F (CV.refs (args ++ cap)) H) := fz_call rfl (show ctx.info 90 = some l05_same_I by kernel_rfl) cap args H
noncomputable def r05_Near_F (st : Bool) (H : Heap) (xs : List CV) : Option (CV × Heap) := fzE ctx false 2 r05_Near_C [.tmp 4] st H xs
theorem r05_Near_F_eq (st : Bool) (H : Heap) (xs : List CV) : r05_Near_F st H xs = if xs.length = 2 then (eval ctx r05_Near_C (enterC 0 xs) ⟨[], []⟩).bind (fzOut [.tmp 4] st false H) else none := (rfl)
theorem r05_Near_call (cap args : List CV) (H : Heap) : call ctx (.fn (.func 92) [] cap) args H = (snapL H false false (args ++ cap)).bind (r05_Near_F (CV.refs (args ++ cap)) H) := fz_call rfl (show ctx.info 92 = some r05_Near_I by kernel_rfl) cap args H
noncomputable def r05_Part_F (st : Bool) (H : Heap) (xs : List CV) : Option (CV × Heap) := fzE ctx false 2 r05_Part_C [.tmp 4] st H xs
theorem r05_Part_F_eq (st : Bool) (H : Heap) (xs : List CV) : r05_Part_F st H xs = if xs.length = 2 then (eval ctx r05_Part_C (enterC 0 xs) ⟨[], []⟩).bind (fzOut [.tmp 4] st false H) else none := (rfl)
theorem r05_Part_call (cap args : List CV) (H : Heap) : call ctx (.fn (.func 93) [] cap) args H = (snapL H false false (args ++ cap)).bind (r05_Part_F (CV.refs (args ++ cap)) H) := fz_call rfl (show ctx.info 93 = some r05_Part_I by kernel_rfl) cap args H
noncomputable def r05_Beside_F (st : Bool) (H : Heap) (xs : List CV) : Option (CV × Heap) := fzE ctx false 2 r05_Beside_C [.tmp 4] st H xs
theorem r05_Beside_F_eq (st : Bool) (H : Heap) (xs : List CV) : r05_Beside_F st H xs = if xs.length = 2 then (eval ctx r05_Beside_C (enterC 0 xs) ⟨[], []⟩).bind (fzOut [.tmp 4] st false H) else none := (rfl)
theorem r05_Beside_call (cap args : List CV) (H : Heap) : call ctx (.fn (.func 94) [] cap) args H = (snapL H false false (args ++ cap)).bind (r05_Beside_F (CV.refs (args ++ cap)) H) := fz_call rfl (show ctx.info 94 = some r05_Beside_I by kernel_rfl) cap args H
noncomputable def r05_Next_F (st : Bool) (H : Heap) (xs : List CV) : Option (CV × Heap) := fzE ctx false 3 r05_Next_C [.cell 6 true 2, .tmp 7] st H xs
theorem r05_Next_F_eq (st : Bool) (H : Heap) (xs : List CV) : r05_Next_F st H xs = if xs.length = 3 then (eval ctx r05_Next_C (enterC 0 xs) ⟨[], []⟩).bind (fzOut [.cell 6 true 2, .tmp 7] st false H) else none := (rfl)
theorem r05_Next_call (cap args : List CV) (H : Heap) : call ctx (.fn (.func 95) [] cap) args H = (snapL H false false (args ++ cap)).bind (r05_Next_F (CV.refs (args ++ cap)) H) := fz_call rfl (show ctx.info 95 = some r05_Next_I by kernel_rfl) cap args H
noncomputable def graph_stands_F (st : Bool) (H : Heap) (xs : List CV) : Option (CV × Heap) := fzE ctx false 2 graph_stands_C [.tmp 4] st H xs
theorem graph_stands_F_eq (st : Bool) (H : Heap) (xs : List CV) : graph_stands_F st H xs = if xs.length = 2 then (eval ctx graph_stands_C (enterC 0 xs) ⟨[], []⟩).bind (fzOut [.tmp 4] st false H) else none := (rfl)
theorem graph_stands_call (cap args : List CV) (H : Heap) : call ctx (.fn (.func 96) [] cap) args H = (snapL H false false (args ++ cap)).bind (graph_stands_F (CV.refs (args ++ cap)) H) := fz_call rfl (show ctx.info 96 = some graph_stands_I by kernel_rfl) cap args H
noncomputable def graph_Graph_Next_1_F (st : Bool) (H : Heap) (xs : List CV) : Option (CV × Heap) := fzE ctx false 2 graph_Graph_Next_1_C [.tmp 3] st H xs
theorem graph_Graph_Next_1_F_eq (st : Bool) (H : Heap) (xs : List CV) : graph_Graph_Next_1_F st H xs = if xs.length = 2 then (eval ctx graph_Graph_Next_1_C (enterC 0 xs) ⟨[], []⟩).bind (fzOut [.tmp 3] st false H) else none := (rfl)
theorem graph_Graph_Next_1_call (cap args : List CV) (H : Heap) : call ctx (.fn (.func 97) [] cap) args H = (snapL H false false (args ++ cap)).bind (graph_Graph_Next_1_F (CV.refs (args ++ cap)) H) := fz_call rfl (show ctx.info 97 = some graph_Graph_Next_1_I by kernel_rfl) cap args H
noncomputable def l05_GraphNeeds_F (st : Bool) (H : Heap) (xs : List CV) : Option (CV × Heap) := fzE ctx false 3 l05_GraphNeeds_C [.tmp 6] st H xs
theorem l05_GraphNeeds_F_eq (st : Bool) (H : Heap) (xs : List CV) : l05_GraphNeeds_F st H xs = if xs.length = 3 then (eval ctx l05_GraphNeeds_C (enterC 0 xs) ⟨[], []⟩).bind (fzOut [.tmp 6] st false H) else none := (rfl)
theorem l05_GraphNeeds_call (cap args : List CV) (H : Heap) : call ctx (.fn (.func 13) [] cap) args H = (snapL H false false (args ++ cap)).bind (l05_GraphNeeds_F (CV.refs (args ++ cap)) H) := fz_call rfl (show ctx.info 13 = some l05_GraphNeeds_I by kernel_rfl) cap args H
noncomputable def l05_GraphBack_R6 (x : Env × Heap) : Out := intoE ctx 6 [3, 4, 5, 6, 7, 8, 9, 10, 11, 12] [3, 4, 5, 6, 7, 8, 9, 10] l05_GraphBack_B6 x
noncomputable def l05_GraphBack_K6 (x : Ex × Env × Heap) : Out := roundE ctx 6 [3, 4, 5, 6, 7, 8, 9, 10, 11, 12] [3, 4, 5, 6, 7, 8, 9, 10] l05_GraphBack_B6 x
theorem l05_GraphBack_L6_eq (env : Env) (H : Heap) : eval ctx l05_GraphBack_L6 env H = (keepE [3, 4, 5, 6, 7, 8, 9, 10, 11, 12] env H).bind l05_GraphBack_R6 := eval_bloop' ctx env H 6 [3, 4, 5, 6, 7, 8, 9, 10, 11, 12] [3, 4, 5, 6, 7, 8, 9, 10] l05_GraphBack_B6
theorem l05_GraphBack_R6_eq (env : Env) (H : Heap) : l05_GraphBack_R6 (env, H) = (eval ctx l05_GraphBack_B6 env H).bind l05_GraphBack_K6 := (rfl)
theorem l05_GraphBack_K6_norm (env : Env) (H : Heap) : l05_GraphBack_K6 (.norm, env, H) = (keepE [3, 4, 5, 6, 7, 8, 9, 10, 11, 12] env H).bind l05_GraphBack_R6 := l05_GraphBack_L6_eq env H
theorem l05_GraphBack_K6_ret (env : Env) (H : Heap) : l05_GraphBack_K6 (.ret, env, H) = some (.ret, env, H) := (rfl)
theorem l05_GraphBack_K6_exit (k : Nat) (env : Env) (H : Heap) : l05_GraphBack_K6 (.exit k, env, H) = if k = 6 then (keepE [3, 4, 5, 6, 7, 8, 9, 10] env H).map normE else some (.exit k, env, H) := (rfl)
noncomputable def l05_GraphBack_R4 (x : Env × Heap) : Out := intoE ctx 4 [3, 4, 5, 6, 7, 8, 9] [3, 4, 5, 6] l05_GraphBack_B4 x
noncomputable def l05_GraphBack_K4 (x : Ex × Env × Heap) : Out := roundE ctx 4 [3, 4, 5, 6, 7, 8, 9] [3, 4, 5, 6] l05_GraphBack_B4 x
theorem l05_GraphBack_L4_eq (env : Env) (H : Heap) : eval ctx l05_GraphBack_L4 env H = (keepE [3, 4, 5, 6, 7, 8, 9] env H).bind l05_GraphBack_R4 := eval_bloop' ctx env H 4 [3, 4, 5, 6, 7, 8, 9] [3, 4, 5, 6] l05_GraphBack_B4
theorem l05_GraphBack_R4_eq (env : Env) (H : Heap) : l05_GraphBack_R4 (env, H) = (eval ctx l05_GraphBack_B4 env H).bind l05_GraphBack_K4 := (rfl)
theorem l05_GraphBack_K4_norm (env : Env) (H : Heap) : l05_GraphBack_K4 (.norm, env, H) = (keepE [3, 4, 5, 6, 7, 8, 9] env H).bind l05_GraphBack_R4 := l05_GraphBack_L4_eq env H
theorem l05_GraphBack_K4_ret (env : Env) (H : Heap) : l05_GraphBack_K4 (.ret, env, H) = some (.ret, env, H) := (rfl)
theorem l05_GraphBack_K4_exit (k : Nat) (env : Env) (H : Heap) : l05_GraphBack_K4 (.exit k, env, H) = if k = 4 then (keepE [3, 4, 5, 6] env H).map normE else some (.exit k, env, H) := (rfl)
noncomputable def l05_GraphBack_R2 (x : Env × Heap) : Out := intoE ctx 2 [3, 4, 5, 6] [3, 4, 5] l05_GraphBack_B2 x
noncomputable def l05_GraphBack_K2 (x : Ex × Env × Heap) : Out := roundE ctx 2 [3, 4, 5, 6] [3, 4, 5] l05_GraphBack_B2 x
theorem l05_GraphBack_L2_eq (env : Env) (H : Heap) : eval ctx l05_GraphBack_L2 env H = (keepE [3, 4, 5, 6] env H).bind l05_GraphBack_R2 := eval_bloop' ctx env H 2 [3, 4, 5, 6] [3, 4, 5] l05_GraphBack_B2
theorem l05_GraphBack_R2_eq (env : Env) (H : Heap) : l05_GraphBack_R2 (env, H) = (eval ctx l05_GraphBack_B2 env H).bind l05_GraphBack_K2 := (rfl)
theorem l05_GraphBack_K2_norm (env : Env) (H : Heap) : l05_GraphBack_K2 (.norm, env, H) = (keepE [3, 4, 5, 6] env H).bind l05_GraphBack_R2 := l05_GraphBack_L2_eq env H
theorem l05_GraphBack_K2_ret (env : Env) (H : Heap) : l05_GraphBack_K2 (.ret, env, H) = some (.ret, env, H) := (rfl)
theorem l05_GraphBack_K2_exit (k : Nat) (env : Env) (H : Heap) : l05_GraphBack_K2 (.exit k, env, H) = if k = 2 then (keepE [3, 4, 5] env H).map normE else some (.exit k, env, H) := (rfl)
noncomputable def l05_GraphBack_R0 (x : Env × Heap) : Out := intoE ctx 0 [3, 4, 5] [] l05_GraphBack_B0 x
noncomputable def l05_GraphBack_K0 (x : Ex × Env × Heap) : Out := roundE ctx 0 [3, 4, 5] [] l05_GraphBack_B0 x
theorem l05_GraphBack_L0_eq (env : Env) (H : Heap) : eval ctx l05_GraphBack_L0 env H = (keepE [3, 4, 5] env H).bind l05_GraphBack_R0 := eval_bloop' ctx env H 0 [3, 4, 5] [] l05_GraphBack_B0
theorem l05_GraphBack_R0_eq (env : Env) (H : Heap) : l05_GraphBack_R0 (env, H) = (eval ctx l05_GraphBack_B0 env H).bind l05_GraphBack_K0 := (rfl)
theorem l05_GraphBack_K0_norm (env : Env) (H : Heap) : l05_GraphBack_K0 (.norm, env, H) = (keepE [3, 4, 5] env H).bind l05_GraphBack_R0 := l05_GraphBack_L0_eq env H
theorem l05_GraphBack_K0_ret (env : Env) (H : Heap) : l05_GraphBack_K0 (.ret, env, H) = some (.ret, env, H) := (rfl)
theorem l05_GraphBack_K0_exit (k : Nat) (env : Env) (H : Heap) : l05_GraphBack_K0 (.exit k, env, H) = if k = 0 then (keepE [] env H).map normE else some (.exit k, env, H) := (rfl)
noncomputable def r04_Small_R0 (x : Env × Heap) : Out := intoE ctx 0 [1, 3] [1] r04_Small_B0 x
noncomputable def r04_Small_K0 (x : Ex × Env × Heap) : Out := roundE ctx 0 [1, 3] [1] r04_Small_B0 x
theorem r04_Small_L0_eq (env : Env) (H : Heap) : eval ctx r04_Small_L0 env H = (keepE [1, 3] env H).bind r04_Small_R0 := eval_bloop' ctx env H 0 [1, 3] [1] r04_Small_B0
theorem r04_Small_R0_eq (env : Env) (H : Heap) : r04_Small_R0 (env, H) = (eval ctx r04_Small_B0 env H).bind r04_Small_K0 := (rfl)
theorem r04_Small_K0_norm (env : Env) (H : Heap) : r04_Small_K0 (.norm, env, H) = (keepE [1, 3] env H).bind r04_Small_R0 := r04_Small_L0_eq env H
theorem r04_Small_K0_ret (env : Env) (H : Heap) : r04_Small_K0 (.ret, env, H) = some (.ret, env, H) := (rfl)
theorem r04_Small_K0_exit (k : Nat) (env : Env) (H : Heap) : r04_Small_K0 (.exit k, env, H) = if k = 0 then (keepE [1] env H).map normE else some (.exit k, env, H) := (rfl)
noncomputable def r05_Full_R0 (x : Env × Heap) : Out := intoE ctx 0 [1, 2, 3, 4] [2, 3] r05_Full_B0 x
noncomputable def r05_Full_K0 (x : Ex × Env × Heap) : Out := roundE ctx 0 [1, 2, 3, 4] [2, 3] r05_Full_B0 x
theorem r05_Full_L0_eq (env : Env) (H : Heap) : eval ctx r05_Full_L0 env H = (keepE [1, 2, 3, 4] env H).bind r05_Full_R0 := eval_bloop' ctx env H 0 [1, 2, 3, 4] [2, 3] r05_Full_B0
theorem r05_Full_R0_eq (env : Env) (H : Heap) : r05_Full_R0 (env, H) = (eval ctx r05_Full_B0 env H).bind r05_Full_K0 := (rfl)
theorem r05_Full_K0_norm (env : Env) (H : Heap) : r05_Full_K0 (.norm, env, H) = (keepE [1, 2, 3, 4] env H).bind r05_Full_R0 := r05_Full_L0_eq env H
theorem r05_Full_K0_ret (env : Env) (H : Heap) : r05_Full_K0 (.ret, env, H) = some (.ret, env, H) := (rfl)
theorem r05_Full_K0_exit (k : Nat) (env : Env) (H : Heap) : r05_Full_K0 (.exit k, env, H) = if k = 0 then (keepE [2, 3] env H).map normE else some (.exit k, env, H) := (rfl)
noncomputable def r01_Ints_R0 (x : Env × Heap) : Out := intoE ctx 0 [0, 1, 5] [] r01_Ints_B0 x
noncomputable def r01_Ints_K0 (x : Ex × Env × Heap) : Out := roundE ctx 0 [0, 1, 5] [] r01_Ints_B0 x
theorem r01_Ints_L0_eq (env : Env) (H : Heap) : eval ctx r01_Ints_L0 env H = (keepE [0, 1, 5] env H).bind r01_Ints_R0 := eval_bloop' ctx env H 0 [0, 1, 5] [] r01_Ints_B0
theorem r01_Ints_R0_eq (env : Env) (H : Heap) : r01_Ints_R0 (env, H) = (eval ctx r01_Ints_B0 env H).bind r01_Ints_K0 := (rfl)
theorem r01_Ints_K0_norm (env : Env) (H : Heap) : r01_Ints_K0 (.norm, env, H) = (keepE [0, 1, 5] env H).bind r01_Ints_R0 := r01_Ints_L0_eq env H
theorem r01_Ints_K0_ret (env : Env) (H : Heap) : r01_Ints_K0 (.ret, env, H) = some (.ret, env, H) := (rfl)
theorem r01_Ints_K0_exit (k : Nat) (env : Env) (H : Heap) : r01_Ints_K0 (.exit k, env, H) = if k = 0 then (keepE [] env H).map normE else some (.exit k, env, H) := (rfl)
noncomputable def r01_Has_R0 (x : Env × Heap) : Out := intoE ctx 0 [0, 1, 5] [] r01_Has_B0 x
noncomputable def r01_Has_K0 (x : Ex × Env × Heap) : Out := roundE ctx 0 [0, 1, 5] [] r01_Has_B0 x
theorem r01_Has_L0_eq (env : Env) (H : Heap) : eval ctx r01_Has_L0 env H = (keepE [0, 1, 5] env H).bind r01_Has_R0 := eval_bloop' ctx env H 0 [0, 1, 5] [] r01_Has_B0
theorem r01_Has_R0_eq (env : Env) (H : Heap) : r01_Has_R0 (env, H) = (eval ctx r01_Has_B0 env H).bind r01_Has_K0 := (rfl)
theorem r01_Has_K0_norm (env : Env) (H : Heap) : r01_Has_K0 (.norm, env, H) = (keepE [0, 1, 5] env H).bind r01_Has_R0 := r01_Has_L0_eq env H
theorem r01_Has_K0_ret (env : Env) (H : Heap) : r01_Has_K0 (.ret, env, H) = some (.ret, env, H) := (rfl)
theorem r01_Has_K0_exit (k : Nat) (env : Env) (H : Heap) : r01_Has_K0 (.exit k, env, H) = if k = 0 then (keepE [] env H).map normE else some (.exit k, env, H) := (rfl)
noncomputable def graph_Graph_Near_R2 (x : Env × Heap) : Out := intoE ctx 2 [0, 1, 5, 9, 16, 17, 18] [0, 1, 5, 9] graph_Graph_Near_B2 x
noncomputable def graph_Graph_Near_K2 (x : Ex × Env × Heap) : Out := roundE ctx 2 [0, 1, 5, 9, 16, 17, 18] [0, 1, 5, 9] graph_Graph_Near_B2 x
theorem graph_Graph_Near_L2_eq (env : Env) (H : Heap) : eval ctx graph_Graph_Near_L2 env H = (keepE [0, 1, 5, 9, 16, 17, 18] env H).bind graph_Graph_Near_R2 := eval_bloop' ctx env H 2 [0, 1, 5, 9, 16, 17, 18] [0, 1, 5, 9] graph_Graph_Near_B2
theorem graph_Graph_Near_R2_eq (env : Env) (H : Heap) : graph_Graph_Near_R2 (env, H) = (eval ctx graph_Graph_Near_B2 env H).bind graph_Graph_Near_K2 := (rfl)
theorem graph_Graph_Near_K2_norm (env : Env) (H : Heap) : graph_Graph_Near_K2 (.norm, env, H) = (keepE [0, 1, 5, 9, 16, 17, 18] env H).bind graph_Graph_Near_R2 := graph_Graph_Near_L2_eq env H
theorem graph_Graph_Near_K2_ret (env : Env) (H : Heap) : graph_Graph_Near_K2 (.ret, env, H) = some (.ret, env, H) := (rfl)
theorem graph_Graph_Near_K2_exit (k : Nat) (env : Env) (H : Heap) : graph_Graph_Near_K2 (.exit k, env, H) = if k = 2 then (keepE [0, 1, 5, 9] env H).map normE else some (.exit k, env, H) := (rfl)
noncomputable def graph_Graph_Near_R0 (x : Env × Heap) : Out := intoE ctx 0 [0, 1, 5, 9] [5] graph_Graph_Near_B0 x
noncomputable def graph_Graph_Near_K0 (x : Ex × Env × Heap) : Out := roundE ctx 0 [0, 1, 5, 9] [5] graph_Graph_Near_B0 x
theorem graph_Graph_Near_L0_eq (env : Env) (H : Heap) : eval ctx graph_Graph_Near_L0 env H = (keepE [0, 1, 5, 9] env H).bind graph_Graph_Near_R0 := eval_bloop' ctx env H 0 [0, 1, 5, 9] [5] graph_Graph_Near_B0
theorem graph_Graph_Near_R0_eq (env : Env) (H : Heap) : graph_Graph_Near_R0 (env, H) = (eval ctx graph_Graph_Near_B0 env H).bind graph_Graph_Near_K0 := (rfl)
theorem graph_Graph_Near_K0_norm (env : Env) (H : Heap) : graph_Graph_Near_K0 (.norm, env, H) = (keepE [0, 1, 5, 9] env H).bind graph_Graph_Near_R0 := graph_Graph_Near_L0_eq env H
theorem graph_Graph_Near_K0_ret (env : Env) (H : Heap) : graph_Graph_Near_K0 (.ret, env, H) = some (.ret, env, H) := (rfl)
theorem graph_Graph_Near_K0_exit (k : Nat) (env : Env) (H : Heap) : graph_Graph_Near_K0 (.exit k, env, H) = if k = 0 then (keepE [5] env H).map normE else some (.exit k, env, H) := (rfl)
noncomputable def graph_Graph_Ends_R2 (x : Env × Heap) : Out := intoE ctx 2 [0, 1, 5, 6, 26, 27] [0, 1, 5, 6] graph_Graph_Ends_B2 x
noncomputable def graph_Graph_Ends_K2 (x : Ex × Env × Heap) : Out := roundE ctx 2 [0, 1, 5, 6, 26, 27] [0, 1, 5, 6] graph_Graph_Ends_B2 x
theorem graph_Graph_Ends_L2_eq (env : Env) (H : Heap) : eval ctx graph_Graph_Ends_L2 env H = (keepE [0, 1, 5, 6, 26, 27] env H).bind graph_Graph_Ends_R2 := eval_bloop' ctx env H 2 [0, 1, 5, 6, 26, 27] [0, 1, 5, 6] graph_Graph_Ends_B2
theorem graph_Graph_Ends_R2_eq (env : Env) (H : Heap) : graph_Graph_Ends_R2 (env, H) = (eval ctx graph_Graph_Ends_B2 env H).bind graph_Graph_Ends_K2 := (rfl)
theorem graph_Graph_Ends_K2_norm (env : Env) (H : Heap) : graph_Graph_Ends_K2 (.norm, env, H) = (keepE [0, 1, 5, 6, 26, 27] env H).bind graph_Graph_Ends_R2 := graph_Graph_Ends_L2_eq env H
theorem graph_Graph_Ends_K2_ret (env : Env) (H : Heap) : graph_Graph_Ends_K2 (.ret, env, H) = some (.ret, env, H) := (rfl)
theorem graph_Graph_Ends_K2_exit (k : Nat) (env : Env) (H : Heap) : graph_Graph_Ends_K2 (.exit k, env, H) = if k = 2 then (keepE [0, 1, 5, 6] env H).map normE else some (.exit k, env, H) := (rfl)
noncomputable def graph_Graph_Ends_R0 (x : Env × Heap) : Out := intoE ctx 0 [0, 1, 5, 6] [] graph_Graph_Ends_B0 x
noncomputable def graph_Graph_Ends_K0 (x : Ex × Env × Heap) : Out := roundE ctx 0 [0, 1, 5, 6] [] graph_Graph_Ends_B0 x
theorem graph_Graph_Ends_L0_eq (env : Env) (H : Heap) : eval ctx graph_Graph_Ends_L0 env H = (keepE [0, 1, 5, 6] env H).bind graph_Graph_Ends_R0 := eval_bloop' ctx env H 0 [0, 1, 5, 6] [] graph_Graph_Ends_B0
theorem graph_Graph_Ends_R0_eq (env : Env) (H : Heap) : graph_Graph_Ends_R0 (env, H) = (eval ctx graph_Graph_Ends_B0 env H).bind graph_Graph_Ends_K0 := (rfl)
theorem graph_Graph_Ends_K0_norm (env : Env) (H : Heap) : graph_Graph_Ends_K0 (.norm, env, H) = (keepE [0, 1, 5, 6] env H).bind graph_Graph_Ends_R0 := graph_Graph_Ends_L0_eq env H
theorem graph_Graph_Ends_K0_ret (env : Env) (H : Heap) : graph_Graph_Ends_K0 (.ret, env, H) = some (.ret, env, H) := (rfl)
theorem graph_Graph_Ends_K0_exit (k : Nat) (env : Env) (H : Heap) : graph_Graph_Ends_K0 (.exit k, env, H) = if k = 0 then (keepE [] env H).map normE else some (.exit k, env, H) := (rfl)
noncomputable def r05_Walk_R0 (x : Env × Heap) : Out := intoE ctx 0 [3, 4, 5, 11, 12, 13] [11] r05_Walk_B0 x
noncomputable def r05_Walk_K0 (x : Ex × Env × Heap) : Out := roundE ctx 0 [3, 4, 5, 11, 12, 13] [11] r05_Walk_B0 x
theorem r05_Walk_L0_eq (env : Env) (H : Heap) : eval ctx r05_Walk_L0 env H = (keepE [3, 4, 5, 11, 12, 13] env H).bind r05_Walk_R0 := eval_bloop' ctx env H 0 [3, 4, 5, 11, 12, 13] [11] r05_Walk_B0
theorem r05_Walk_R0_eq (env : Env) (H : Heap) : r05_Walk_R0 (env, H) = (eval ctx r05_Walk_B0 env H).bind r05_Walk_K0 := (rfl)
theorem r05_Walk_K0_norm (env : Env) (H : Heap) : r05_Walk_K0 (.norm, env, H) = (keepE [3, 4, 5, 11, 12, 13] env H).bind r05_Walk_R0 := r05_Walk_L0_eq env H
theorem r05_Walk_K0_ret (env : Env) (H : Heap) : r05_Walk_K0 (.ret, env, H) = some (.ret, env, H) := (rfl)
theorem r05_Walk_K0_exit (k : Nat) (env : Env) (H : Heap) : r05_Walk_K0 (.exit k, env, H) = if k = 0 then (keepE [11] env H).map normE else some (.exit k, env, H) := (rfl)
noncomputable def r04_Make_R1 (x : Env × Heap) : Out := intoE ctx 1 [1, 2, 3, 6, 7, 8, 9] [1, 2, 3, 6, 7, 8] r04_Make_B1 x
noncomputable def r04_Make_K1 (x : Ex × Env × Heap) : Out := roundE ctx 1 [1, 2, 3, 6, 7, 8, 9] [1, 2, 3, 6, 7, 8] r04_Make_B1 x
theorem r04_Make_L1_eq (env : Env) (H : Heap) : eval ctx r04_Make_L1 env H = (keepE [1, 2, 3, 6, 7, 8, 9] env H).bind r04_Make_R1 := eval_bloop' ctx env H 1 [1, 2, 3, 6, 7, 8, 9] [1, 2, 3, 6, 7, 8] r04_Make_B1
theorem r04_Make_R1_eq (env : Env) (H : Heap) : r04_Make_R1 (env, H) = (eval ctx r04_Make_B1 env H).bind r04_Make_K1 := (rfl)
theorem r04_Make_K1_norm (env : Env) (H : Heap) : r04_Make_K1 (.norm, env, H) = (keepE [1, 2, 3, 6, 7, 8, 9] env H).bind r04_Make_R1 := r04_Make_L1_eq env H
theorem r04_Make_K1_ret (env : Env) (H : Heap) : r04_Make_K1 (.ret, env, H) = some (.ret, env, H) := (rfl)
theorem r04_Make_K1_exit (k : Nat) (env : Env) (H : Heap) : r04_Make_K1 (.exit k, env, H) = if k = 1 then (keepE [1, 2, 3, 6, 7, 8] env H).map normE else some (.exit k, env, H) := (rfl)
noncomputable def r04_Make_R3 (x : Env × Heap) : Out := intoE ctx 3 [1, 2, 3, 6, 7, 8, 10] [1, 2, 3, 6, 7] r04_Make_B3 x
noncomputable def r04_Make_K3 (x : Ex × Env × Heap) : Out := roundE ctx 3 [1, 2, 3, 6, 7, 8, 10] [1, 2, 3, 6, 7] r04_Make_B3 x
theorem r04_Make_L3_eq (env : Env) (H : Heap) : eval ctx r04_Make_L3 env H = (keepE [1, 2, 3, 6, 7, 8, 10] env H).bind r04_Make_R3 := eval_bloop' ctx env H 3 [1, 2, 3, 6, 7, 8, 10] [1, 2, 3, 6, 7] r04_Make_B3
theorem r04_Make_R3_eq (env : Env) (H : Heap) : r04_Make_R3 (env, H) = (eval ctx r04_Make_B3 env H).bind r04_Make_K3 := (rfl)
theorem r04_Make_K3_norm (env : Env) (H : Heap) : r04_Make_K3 (.norm, env, H) = (keepE [1, 2, 3, 6, 7, 8, 10] env H).bind r04_Make_R3 := r04_Make_L3_eq env H
theorem r04_Make_K3_ret (env : Env) (H : Heap) : r04_Make_K3 (.ret, env, H) = some (.ret, env, H) := (rfl)
theorem r04_Make_K3_exit (k : Nat) (env : Env) (H : Heap) : r04_Make_K3 (.exit k, env, H) = if k = 3 then (keepE [1, 2, 3, 6, 7] env H).map normE else some (.exit k, env, H) := (rfl)
noncomputable def r04_Make_R5 (x : Env × Heap) : Out := intoE ctx 5 [1, 2, 3, 6, 7, 11] [1, 2, 3, 6, 7] r04_Make_B5 x
noncomputable def r04_Make_K5 (x : Ex × Env × Heap) : Out := roundE ctx 5 [1, 2, 3, 6, 7, 11] [1, 2, 3, 6, 7] r04_Make_B5 x
theorem r04_Make_L5_eq (env : Env) (H : Heap) : eval ctx r04_Make_L5 env H = (keepE [1, 2, 3, 6, 7, 11] env H).bind r04_Make_R5 := eval_bloop' ctx env H 5 [1, 2, 3, 6, 7, 11] [1, 2, 3, 6, 7] r04_Make_B5
theorem r04_Make_R5_eq (env : Env) (H : Heap) : r04_Make_R5 (env, H) = (eval ctx r04_Make_B5 env H).bind r04_Make_K5 := (rfl)
theorem r04_Make_K5_norm (env : Env) (H : Heap) : r04_Make_K5 (.norm, env, H) = (keepE [1, 2, 3, 6, 7, 11] env H).bind r04_Make_R5 := r04_Make_L5_eq env H
theorem r04_Make_K5_ret (env : Env) (H : Heap) : r04_Make_K5 (.ret, env, H) = some (.ret, env, H) := (rfl)
theorem r04_Make_K5_exit (k : Nat) (env : Env) (H : Heap) : r04_Make_K5 (.exit k, env, H) = if k = 5 then (keepE [1, 2, 3, 6, 7] env H).map normE else some (.exit k, env, H) := (rfl)
noncomputable def r04_Make_R7 (x : Env × Heap) : Out := intoE ctx 7 [1, 2, 3, 6, 7, 12] [1, 2, 3, 6] r04_Make_B7 x
noncomputable def r04_Make_K7 (x : Ex × Env × Heap) : Out := roundE ctx 7 [1, 2, 3, 6, 7, 12] [1, 2, 3, 6] r04_Make_B7 x
theorem r04_Make_L7_eq (env : Env) (H : Heap) : eval ctx r04_Make_L7 env H = (keepE [1, 2, 3, 6, 7, 12] env H).bind r04_Make_R7 := eval_bloop' ctx env H 7 [1, 2, 3, 6, 7, 12] [1, 2, 3, 6] r04_Make_B7
theorem r04_Make_R7_eq (env : Env) (H : Heap) : r04_Make_R7 (env, H) = (eval ctx r04_Make_B7 env H).bind r04_Make_K7 := (rfl)
theorem r04_Make_K7_norm (env : Env) (H : Heap) : r04_Make_K7 (.norm, env, H) = (keepE [1, 2, 3, 6, 7, 12] env H).bind r04_Make_R7 := r04_Make_L7_eq env H
theorem r04_Make_K7_ret (env : Env) (H : Heap) : r04_Make_K7 (.ret, env, H) = some (.ret, env, H) := (rfl)
theorem r04_Make_K7_exit (k : Nat) (env : Env) (H : Heap) : r04_Make_K7 (.exit k, env, H) = if k = 7 then (keepE [1, 2, 3, 6] env H).map normE else some (.exit k, env, H) := (rfl)
noncomputable def slices_IndexFunc_End_R0 (x : Env × Heap) : Out := intoE ctx 0 [0, 1, 7, 8] [] slices_IndexFunc_End_B0 x
noncomputable def slices_IndexFunc_End_K0 (x : Ex × Env × Heap) : Out := roundE ctx 0 [0, 1, 7, 8] [] slices_IndexFunc_End_B0 x
theorem slices_IndexFunc_End_L0_eq (env : Env) (H : Heap) : eval ctx slices_IndexFunc_End_L0 env H = (keepE [0, 1, 7, 8] env H).bind slices_IndexFunc_End_R0 := eval_bloop' ctx env H 0 [0, 1, 7, 8] [] slices_IndexFunc_End_B0
theorem slices_IndexFunc_End_R0_eq (env : Env) (H : Heap) : slices_IndexFunc_End_R0 (env, H) = (eval ctx slices_IndexFunc_End_B0 env H).bind slices_IndexFunc_End_K0 := (rfl)
theorem slices_IndexFunc_End_K0_norm (env : Env) (H : Heap) : slices_IndexFunc_End_K0 (.norm, env, H) = (keepE [0, 1, 7, 8] env H).bind slices_IndexFunc_End_R0 := slices_IndexFunc_End_L0_eq env H
theorem slices_IndexFunc_End_K0_ret (env : Env) (H : Heap) : slices_IndexFunc_End_K0 (.ret, env, H) = some (.ret, env, H) := (rfl)
theorem slices_IndexFunc_End_K0_exit (k : Nat) (env : Env) (H : Heap) : slices_IndexFunc_End_K0 (.exit k, env, H) = if k = 0 then (keepE [] env H).map normE else some (.exit k, env, H) := (rfl)
noncomputable def r05_Around_R0 (x : Env × Heap) : Out := intoE ctx 0 [3, 8, 10, 11] [8] r05_Around_B0 x
noncomputable def r05_Around_K0 (x : Ex × Env × Heap) : Out := roundE ctx 0 [3, 8, 10, 11] [8] r05_Around_B0 x
theorem r05_Around_L0_eq (env : Env) (H : Heap) : eval ctx r05_Around_L0 env H = (keepE [3, 8, 10, 11] env H).bind r05_Around_R0 := eval_bloop' ctx env H 0 [3, 8, 10, 11] [8] r05_Around_B0
theorem r05_Around_R0_eq (env : Env) (H : Heap) : r05_Around_R0 (env, H) = (eval ctx r05_Around_B0 env H).bind r05_Around_K0 := (rfl)
theorem r05_Around_K0_norm (env : Env) (H : Heap) : r05_Around_K0 (.norm, env, H) = (keepE [3, 8, 10, 11] env H).bind r05_Around_R0 := r05_Around_L0_eq env H
theorem r05_Around_K0_ret (env : Env) (H : Heap) : r05_Around_K0 (.ret, env, H) = some (.ret, env, H) := (rfl)
theorem r05_Around_K0_exit (k : Nat) (env : Env) (H : Heap) : r05_Around_K0 (.exit k, env, H) = if k = 0 then (keepE [8] env H).map normE else some (.exit k, env, H) := (rfl)
noncomputable def slices_DeleteFunc_End_R0 (x : Env × Heap) : Out := intoE ctx 0 [0, 1, 5, 6] [0, 5] slices_DeleteFunc_End_B0 x
noncomputable def slices_DeleteFunc_End_K0 (x : Ex × Env × Heap) : Out := roundE ctx 0 [0, 1, 5, 6] [0, 5] slices_DeleteFunc_End_B0 x
theorem slices_DeleteFunc_End_L0_eq (env : Env) (H : Heap) : eval ctx slices_DeleteFunc_End_L0 env H = (keepE [0, 1, 5, 6] env H).bind slices_DeleteFunc_End_R0 := eval_bloop' ctx env H 0 [0, 1, 5, 6] [0, 5] slices_DeleteFunc_End_B0
theorem slices_DeleteFunc_End_R0_eq (env : Env) (H : Heap) : slices_DeleteFunc_End_R0 (env, H) = (eval ctx slices_DeleteFunc_End_B0 env H).bind slices_DeleteFunc_End_K0 := (rfl)
theorem slices_DeleteFunc_End_K0_norm (env : Env) (H : Heap) : slices_DeleteFunc_End_K0 (.norm, env, H) = (keepE [0, 1, 5, 6] env H).bind slices_DeleteFunc_End_R0 := slices_DeleteFunc_End_L0_eq env H
theorem slices_DeleteFunc_End_K0_ret (env : Env) (H : Heap) : slices_DeleteFunc_End_K0 (.ret, env, H) = some (.ret, env, H) := (rfl)
theorem slices_DeleteFunc_End_K0_exit (k : Nat) (env : Env) (H : Heap) : slices_DeleteFunc_End_K0 (.exit k, env, H) = if k = 0 then (keepE [0, 5] env H).map normE else some (.exit k, env, H) := (rfl)
noncomputable def graph_Graph_at_R0 (x : Env × Heap) : Out := intoE ctx 0 [1, 11, 12, 13] [] graph_Graph_at_B0 x
noncomputable def graph_Graph_at_K0 (x : Ex × Env × Heap) : Out := roundE ctx 0 [1, 11, 12, 13] [] graph_Graph_at_B0 x
theorem graph_Graph_at_L0_eq (env : Env) (H : Heap) : eval ctx graph_Graph_at_L0 env H = (keepE [1, 11, 12, 13] env H).bind graph_Graph_at_R0 := eval_bloop' ctx env H 0 [1, 11, 12, 13] [] graph_Graph_at_B0
theorem graph_Graph_at_R0_eq (env : Env) (H : Heap) : graph_Graph_at_R0 (env, H) = (eval ctx graph_Graph_at_B0 env H).bind graph_Graph_at_K0 := (rfl)
theorem graph_Graph_at_K0_norm (env : Env) (H : Heap) : graph_Graph_at_K0 (.norm, env, H) = (keepE [1, 11, 12, 13] env H).bind graph_Graph_at_R0 := graph_Graph_at_L0_eq env H
theorem graph_Graph_at_K0_ret (env : Env) (H : Heap) : graph_Graph_at_K0 (.ret, env, H) = some (.ret, env, H) := (rfl)
theorem graph_Graph_at_K0_exit (k : Nat) (env : Env) (H : Heap) : graph_Graph_at_K0 (.exit k, env, H) = if k = 0 then (keepE [] env H).map normE else some (.exit k, env, H) := (rfl)
noncomputable def slices_Compact_int_R2 (x : Env × Heap) : Out := intoE ctx 2 [0, 3, 4, 5] [0, 3] slices_Compact_int_B2 x
noncomputable def slices_Compact_int_K2 (x : Ex × Env × Heap) : Out := roundE ctx 2 [0, 3, 4, 5] [0, 3] slices_Compact_int_B2 x
theorem slices_Compact_int_L2_eq (env : Env) (H : Heap) : eval ctx slices_Compact_int_L2 env H = (keepE [0, 3, 4, 5] env H).bind slices_Compact_int_R2 := eval_bloop' ctx env H 2 [0, 3, 4, 5] [0, 3] slices_Compact_int_B2
theorem slices_Compact_int_R2_eq (env : Env) (H : Heap) : slices_Compact_int_R2 (env, H) = (eval ctx slices_Compact_int_B2 env H).bind slices_Compact_int_K2 := (rfl)
theorem slices_Compact_int_K2_norm (env : Env) (H : Heap) : slices_Compact_int_K2 (.norm, env, H) = (keepE [0, 3, 4, 5] env H).bind slices_Compact_int_R2 := slices_Compact_int_L2_eq env H
theorem slices_Compact_int_K2_ret (env : Env) (H : Heap) : slices_Compact_int_K2 (.ret, env, H) = some (.ret, env, H) := (rfl)
theorem slices_Compact_int_K2_exit (k : Nat) (env : Env) (H : Heap) : slices_Compact_int_K2 (.exit k, env, H) = if k = 2 then (keepE [0, 3] env H).map normE else some (.exit k, env, H) := (rfl)
noncomputable def slices_Compact_int_R0 (x : Env × Heap) : Out := intoE ctx 0 [0, 3] [0] slices_Compact_int_B0 x
noncomputable def slices_Compact_int_K0 (x : Ex × Env × Heap) : Out := roundE ctx 0 [0, 3] [0] slices_Compact_int_B0 x
theorem slices_Compact_int_L0_eq (env : Env) (H : Heap) : eval ctx slices_Compact_int_L0 env H = (keepE [0, 3] env H).bind slices_Compact_int_R0 := eval_bloop' ctx env H 0 [0, 3] [0] slices_Compact_int_B0
theorem slices_Compact_int_R0_eq (env : Env) (H : Heap) : slices_Compact_int_R0 (env, H) = (eval ctx slices_Compact_int_B0 env H).bind slices_Compact_int_K0 := (rfl)
theorem slices_Compact_int_K0_norm (env : Env) (H : Heap) : slices_Compact_int_K0 (.norm, env, H) = (keepE [0, 3] env H).bind slices_Compact_int_R0 := slices_Compact_int_L0_eq env H
theorem slices_Compact_int_K0_ret (env : Env) (H : Heap) : slices_Compact_int_K0 (.ret, env, H) = some (.ret, env, H) := (rfl)
theorem slices_Compact_int_K0_exit (k : Nat) (env : Env) (H : Heap) : slices_Compact_int_K0 (.exit k, env, H) = if k = 0 then (keepE [0] env H).map normE else some (.exit k, env, H) := (rfl)
noncomputable def r05_Point_R0 (x : Env × Heap) : Out := intoE ctx 0 [1, 2, 5] [] r05_Point_B0 x
noncomputable def r05_Point_K0 (x : Ex × Env × Heap) : Out := roundE ctx 0 [1, 2, 5] [] r05_Point_B0 x
theorem r05_Point_L0_eq (env : Env) (H : Heap) : eval ctx r05_Point_L0 env H = (keepE [1, 2, 5] env H).bind r05_Point_R0 := eval_bloop' ctx env H 0 [1, 2, 5] [] r05_Point_B0
theorem r05_Point_R0_eq (env : Env) (H : Heap) : r05_Point_R0 (env, H) = (eval ctx r05_Point_B0 env H).bind r05_Point_K0 := (rfl)
theorem r05_Point_K0_norm (env : Env) (H : Heap) : r05_Point_K0 (.norm, env, H) = (keepE [1, 2, 5] env H).bind r05_Point_R0 := r05_Point_L0_eq env H
theorem r05_Point_K0_ret (env : Env) (H : Heap) : r05_Point_K0 (.ret, env, H) = some (.ret, env, H) := (rfl)
theorem r05_Point_K0_exit (k : Nat) (env : Env) (H : Heap) : r05_Point_K0 (.exit k, env, H) = if k = 0 then (keepE [] env H).map normE else some (.exit k, env, H) := (rfl)
noncomputable def r05_Ends_R0 (x : Env × Heap) : Out := intoE ctx 0 [1, 2, 5, 6] [5] r05_Ends_B0 x
noncomputable def r05_Ends_K0 (x : Ex × Env × Heap) : Out := roundE ctx 0 [1, 2, 5, 6] [5] r05_Ends_B0 x
theorem r05_Ends_L0_eq (env : Env) (H : Heap) : eval ctx r05_Ends_L0 env H = (keepE [1, 2, 5, 6] env H).bind r05_Ends_R0 := eval_bloop' ctx env H 0 [1, 2, 5, 6] [5] r05_Ends_B0
theorem r05_Ends_R0_eq (env : Env) (H : Heap) : r05_Ends_R0 (env, H) = (eval ctx r05_Ends_B0 env H).bind r05_Ends_K0 := (rfl)
theorem r05_Ends_K0_norm (env : Env) (H : Heap) : r05_Ends_K0 (.norm, env, H) = (keepE [1, 2, 5, 6] env H).bind r05_Ends_R0 := r05_Ends_L0_eq env H
theorem r05_Ends_K0_ret (env : Env) (H : Heap) : r05_Ends_K0 (.ret, env, H) = some (.ret, env, H) := (rfl)
theorem r05_Ends_K0_exit (k : Nat) (env : Env) (H : Heap) : r05_Ends_K0 (.exit k, env, H) = if k = 0 then (keepE [5] env H).map normE else some (.exit k, env, H) := (rfl)
noncomputable def slices_IndexFunc_Point_R0 (x : Env × Heap) : Out := intoE ctx 0 [0, 1, 7, 8] [] slices_IndexFunc_Point_B0 x
noncomputable def slices_IndexFunc_Point_K0 (x : Ex × Env × Heap) : Out := roundE ctx 0 [0, 1, 7, 8] [] slices_IndexFunc_Point_B0 x
theorem slices_IndexFunc_Point_L0_eq (env : Env) (H : Heap) : eval ctx slices_IndexFunc_Point_L0 env H = (keepE [0, 1, 7, 8] env H).bind slices_IndexFunc_Point_R0 := eval_bloop' ctx env H 0 [0, 1, 7, 8] [] slices_IndexFunc_Point_B0
theorem slices_IndexFunc_Point_R0_eq (env : Env) (H : Heap) : slices_IndexFunc_Point_R0 (env, H) = (eval ctx slices_IndexFunc_Point_B0 env H).bind slices_IndexFunc_Point_K0 := (rfl)
theorem slices_IndexFunc_Point_K0_norm (env : Env) (H : Heap) : slices_IndexFunc_Point_K0 (.norm, env, H) = (keepE [0, 1, 7, 8] env H).bind slices_IndexFunc_Point_R0 := slices_IndexFunc_Point_L0_eq env H
theorem slices_IndexFunc_Point_K0_ret (env : Env) (H : Heap) : slices_IndexFunc_Point_K0 (.ret, env, H) = some (.ret, env, H) := (rfl)
theorem slices_IndexFunc_Point_K0_exit (k : Nat) (env : Env) (H : Heap) : slices_IndexFunc_Point_K0 (.exit k, env, H) = if k = 0 then (keepE [] env H).map normE else some (.exit k, env, H) := (rfl)
noncomputable def r05_one_R0 (x : Env × Heap) : Out := intoE ctx 0 [1, 7, 8] [] r05_one_B0 x
noncomputable def r05_one_K0 (x : Ex × Env × Heap) : Out := roundE ctx 0 [1, 7, 8] [] r05_one_B0 x
theorem r05_one_L0_eq (env : Env) (H : Heap) : eval ctx r05_one_L0 env H = (keepE [1, 7, 8] env H).bind r05_one_R0 := eval_bloop' ctx env H 0 [1, 7, 8] [] r05_one_B0
theorem r05_one_R0_eq (env : Env) (H : Heap) : r05_one_R0 (env, H) = (eval ctx r05_one_B0 env H).bind r05_one_K0 := (rfl)
theorem r05_one_K0_norm (env : Env) (H : Heap) : r05_one_K0 (.norm, env, H) = (keepE [1, 7, 8] env H).bind r05_one_R0 := r05_one_L0_eq env H
theorem r05_one_K0_ret (env : Env) (H : Heap) : r05_one_K0 (.ret, env, H) = some (.ret, env, H) := (rfl)
theorem r05_one_K0_exit (k : Nat) (env : Env) (H : Heap) : r05_one_K0 (.exit k, env, H) = if k = 0 then (keepE [] env H).map normE else some (.exit k, env, H) := (rfl)
noncomputable def slices_pdqsortOrdered_int_R0 (x : Env × Heap) : Out := intoE ctx 0 [0, 1, 2, 3, 8, 9] [] slices_pdqsortOrdered_int_B0 x
noncomputable def slices_pdqsortOrdered_int_K0 (x : Ex × Env × Heap) : Out := roundE ctx 0 [0, 1, 2, 3, 8, 9] [] slices_pdqsortOrdered_int_B0 x
theorem slices_pdqsortOrdered_int_L0_eq (env : Env) (H : Heap) : eval ctx slices_pdqsortOrdered_int_L0 env H = (keepE [0, 1, 2, 3, 8, 9] env H).bind slices_pdqsortOrdered_int_R0 := eval_bloop' ctx env H 0 [0, 1, 2, 3, 8, 9] [] slices_pdqsortOrdered_int_B0
theorem slices_pdqsortOrdered_int_R0_eq (env : Env) (H : Heap) : slices_pdqsortOrdered_int_R0 (env, H) = (eval ctx slices_pdqsortOrdered_int_B0 env H).bind slices_pdqsortOrdered_int_K0 := (rfl)
theorem slices_pdqsortOrdered_int_K0_norm (env : Env) (H : Heap) : slices_pdqsortOrdered_int_K0 (.norm, env, H) = (keepE [0, 1, 2, 3, 8, 9] env H).bind slices_pdqsortOrdered_int_R0 := slices_pdqsortOrdered_int_L0_eq env H
theorem slices_pdqsortOrdered_int_K0_ret (env : Env) (H : Heap) : slices_pdqsortOrdered_int_K0 (.ret, env, H) = some (.ret, env, H) := (rfl)
theorem slices_pdqsortOrdered_int_K0_exit (k : Nat) (env : Env) (H : Heap) : slices_pdqsortOrdered_int_K0 (.exit k, env, H) = if k = 0 then (keepE [] env H).map normE else some (.exit k, env, H) := (rfl)
noncomputable def slices_insertionSortOrdered_int_R2 (x : Env × Heap) : Out := intoE ctx 2 [0, 1, 2, 6, 7] [0, 1, 2, 6] slices_insertionSortOrdered_int_B2 x
noncomputable def slices_insertionSortOrdered_int_K2 (x : Ex × Env × Heap) : Out := roundE ctx 2 [0, 1, 2, 6, 7] [0, 1, 2, 6] slices_insertionSortOrdered_int_B2 x
theorem slices_insertionSortOrdered_int_L2_eq (env : Env) (H : Heap) : eval ctx slices_insertionSortOrdered_int_L2 env H = (keepE [0, 1, 2, 6, 7] env H).bind slices_insertionSortOrdered_int_R2 := eval_bloop' ctx env H 2 [0, 1, 2, 6, 7] [0, 1, 2, 6] slices_insertionSortOrdered_int_B2
theorem slices_insertionSortOrdered_int_R2_eq (env : Env) (H : Heap) : slices_insertionSortOrdered_int_R2 (env, H) = (eval ctx slices_insertionSortOrdered_int_B2 env H).bind slices_insertionSortOrdered_int_K2 := (rfl)
theorem slices_insertionSortOrdered_int_K2_norm (env : Env) (H : Heap) : slices_insertionSortOrdered_int_K2 (.norm, env, H) = (keepE [0, 1, 2, 6, 7] env H).bind slices_insertionSortOrdered_int_R2 := slices_insertionSortOrdered_int_L2_eq env H
theorem slices_insertionSortOrdered_int_K2_ret (env : Env) (H : Heap) : slices_insertionSortOrdered_int_K2 (.ret, env, H) = some (.ret, env, H) := (rfl)
theorem slices_insertionSortOrdered_int_K2_exit (k : Nat) (env : Env) (H : Heap) : slices_insertionSortOrdered_int_K2 (.exit k, env, H) = if k = 2 then (keepE [0, 1, 2, 6] env H).map normE else some (.exit k, env, H) := (rfl)
noncomputable def slices_insertionSortOrdered_int_R0 (x : Env × Heap) : Out := intoE ctx 0 [0, 1, 2, 6] [] slices_insertionSortOrdered_int_B0 x
noncomputable def slices_insertionSortOrdered_int_K0 (x : Ex × Env × Heap) : Out := roundE ctx 0 [0, 1, 2, 6] [] slices_insertionSortOrdered_int_B0 x
theorem slices_insertionSortOrdered_int_L0_eq (env : Env) (H : Heap) : eval ctx slices_insertionSortOrdered_int_L0 env H = (keepE [0, 1, 2, 6] env H).bind slices_insertionSortOrdered_int_R0 := eval_bloop' ctx env H 0 [0, 1, 2, 6] [] slices_insertionSortOrdered_int_B0
theorem slices_insertionSortOrdered_int_R0_eq (env : Env) (H : Heap) : slices_insertionSortOrdered_int_R0 (env, H) = (eval ctx slices_insertionSortOrdered_int_B0 env H).bind slices_insertionSortOrdered_int_K0 := (rfl)
theorem slices_insertionSortOrdered_int_K0_norm (env : Env) (H : Heap) : slices_insertionSortOrdered_int_K0 (.norm, env, H) = (keepE [0, 1, 2, 6] env H).bind slices_insertionSortOrdered_int_R0 := slices_insertionSortOrdered_int_L0_eq env H
theorem slices_insertionSortOrdered_int_K0_ret (env : Env) (H : Heap) : slices_insertionSortOrdered_int_K0 (.ret, env, H) = some (.ret, env, H) := (rfl)
theorem slices_insertionSortOrdered_int_K0_exit (k : Nat) (env : Env) (H : Heap) : slices_insertionSortOrdered_int_K0 (.exit k, env, H) = if k = 0 then (keepE [] env H).map normE else some (.exit k, env, H) := (rfl)
noncomputable def slices_Concat_End_R0 (x : Env × Heap) : Out := intoE ctx 0 [0, 3, 9, 10, 11] [0, 3] slices_Concat_End_B0 x
noncomputable def slices_Concat_End_K0 (x : Ex × Env × Heap) : Out := roundE ctx 0 [0, 3, 9, 10, 11] [0, 3] slices_Concat_End_B0 x
theorem slices_Concat_End_L0_eq (env : Env) (H : Heap) : eval ctx slices_Concat_End_L0 env H = (keepE [0, 3, 9, 10, 11] env H).bind slices_Concat_End_R0 := eval_bloop' ctx env H 0 [0, 3, 9, 10, 11] [0, 3] slices_Concat_End_B0
theorem slices_Concat_End_R0_eq (env : Env) (H : Heap) : slices_Concat_End_R0 (env, H) = (eval ctx slices_Concat_End_B0 env H).bind slices_Concat_End_K0 := (rfl)
theorem slices_Concat_End_K0_norm (env : Env) (H : Heap) : slices_Concat_End_K0 (.norm, env, H) = (keepE [0, 3, 9, 10, 11] env H).bind slices_Concat_End_R0 := slices_Concat_End_L0_eq env H
theorem slices_Concat_End_K0_ret (env : Env) (H : Heap) : slices_Concat_End_K0 (.ret, env, H) = some (.ret, env, H) := (rfl)
theorem slices_Concat_End_K0_exit (k : Nat) (env : Env) (H : Heap) : slices_Concat_End_K0 (.exit k, env, H) = if k = 0 then (keepE [0, 3] env H).map normE else some (.exit k, env, H) := (rfl)
noncomputable def slices_Concat_End_R2 (x : Env × Heap) : Out := intoE ctx 2 [6, 25, 26, 27] [6] slices_Concat_End_B2 x
noncomputable def slices_Concat_End_K2 (x : Ex × Env × Heap) : Out := roundE ctx 2 [6, 25, 26, 27] [6] slices_Concat_End_B2 x
theorem slices_Concat_End_L2_eq (env : Env) (H : Heap) : eval ctx slices_Concat_End_L2 env H = (keepE [6, 25, 26, 27] env H).bind slices_Concat_End_R2 := eval_bloop' ctx env H 2 [6, 25, 26, 27] [6] slices_Concat_End_B2
theorem slices_Concat_End_R2_eq (env : Env) (H : Heap) : slices_Concat_End_R2 (env, H) = (eval ctx slices_Concat_End_B2 env H).bind slices_Concat_End_K2 := (rfl)
theorem slices_Concat_End_K2_norm (env : Env) (H : Heap) : slices_Concat_End_K2 (.norm, env, H) = (keepE [6, 25, 26, 27] env H).bind slices_Concat_End_R2 := slices_Concat_End_L2_eq env H
theorem slices_Concat_End_K2_ret (env : Env) (H : Heap) : slices_Concat_End_K2 (.ret, env, H) = some (.ret, env, H) := (rfl)
theorem slices_Concat_End_K2_exit (k : Nat) (env : Env) (H : Heap) : slices_Concat_End_K2 (.exit k, env, H) = if k = 2 then (keepE [6] env H).map normE else some (.exit k, env, H) := (rfl)
noncomputable def l05_GraphEnds_R0 (x : Env × Heap) : Out := intoE ctx 0 [3, 4, 5, 6] [3, 4, 5] l05_GraphEnds_B0 x
noncomputable def l05_GraphEnds_K0 (x : Ex × Env × Heap) : Out := roundE ctx 0 [3, 4, 5, 6] [3, 4, 5] l05_GraphEnds_B0 x
theorem l05_GraphEnds_L0_eq (env : Env) (H : Heap) : eval ctx l05_GraphEnds_L0 env H = (keepE [3, 4, 5, 6] env H).bind l05_GraphEnds_R0 := eval_bloop' ctx env H 0 [3, 4, 5, 6] [3, 4, 5] l05_GraphEnds_B0
theorem l05_GraphEnds_R0_eq (env : Env) (H : Heap) : l05_GraphEnds_R0 (env, H) = (eval ctx l05_GraphEnds_B0 env H).bind l05_GraphEnds_K0 := (rfl)
theorem l05_GraphEnds_K0_norm (env : Env) (H : Heap) : l05_GraphEnds_K0 (.norm, env, H) = (keepE [3, 4, 5, 6] env H).bind l05_GraphEnds_R0 := l05_GraphEnds_L0_eq env H
theorem l05_GraphEnds_K0_ret (env : Env) (H : Heap) : l05_GraphEnds_K0 (.ret, env, H) = some (.ret, env, H) := (rfl)
theorem l05_GraphEnds_K0_exit (k : Nat) (env : Env) (H : Heap) : l05_GraphEnds_K0 (.exit k, env, H) = if k = 0 then (keepE [3, 4, 5] env H).map normE else some (.exit k, env, H) := (rfl)
noncomputable def l05_GraphEnds_R4 (x : Env × Heap) : Out := intoE ctx 4 [3, 4, 5, 7, 8, 9] [3, 4, 5, 7] l05_GraphEnds_B4 x
noncomputable def l05_GraphEnds_K4 (x : Ex × Env × Heap) : Out := roundE ctx 4 [3, 4, 5, 7, 8, 9] [3, 4, 5, 7] l05_GraphEnds_B4 x
theorem l05_GraphEnds_L4_eq (env : Env) (H : Heap) : eval ctx l05_GraphEnds_L4 env H = (keepE [3, 4, 5, 7, 8, 9] env H).bind l05_GraphEnds_R4 := eval_bloop' ctx env H 4 [3, 4, 5, 7, 8, 9] [3, 4, 5, 7] l05_GraphEnds_B4
theorem l05_GraphEnds_R4_eq (env : Env) (H : Heap) : l05_GraphEnds_R4 (env, H) = (eval ctx l05_GraphEnds_B4 env H).bind l05_GraphEnds_K4 := (rfl)
theorem l05_GraphEnds_K4_norm (env : Env) (H : Heap) : l05_GraphEnds_K4 (.norm, env, H) = (keepE [3, 4, 5, 7, 8, 9] env H).bind l05_GraphEnds_R4 := l05_GraphEnds_L4_eq env H
theorem l05_GraphEnds_K4_ret (env : Env) (H : Heap) : l05_GraphEnds_K4 (.ret, env, H) = some (.ret, env, H) := (rfl)
theorem l05_GraphEnds_K4_exit (k : Nat) (env : Env) (H : Heap) : l05_GraphEnds_K4 (.exit k, env, H) = if k = 4 then (keepE [3, 4, 5, 7] env H).map normE else some (.exit k, env, H) := (rfl)
noncomputable def l05_GraphEnds_R2 (x : Env × Heap) : Out := intoE ctx 2 [3, 4, 5, 7] [3, 4, 5] l05_GraphEnds_B2 x
noncomputable def l05_GraphEnds_K2 (x : Ex × Env × Heap) : Out := roundE ctx 2 [3, 4, 5, 7] [3, 4, 5] l05_GraphEnds_B2 x
theorem l05_GraphEnds_L2_eq (env : Env) (H : Heap) : eval ctx l05_GraphEnds_L2 env H = (keepE [3, 4, 5, 7] env H).bind l05_GraphEnds_R2 := eval_bloop' ctx env H 2 [3, 4, 5, 7] [3, 4, 5] l05_GraphEnds_B2
theorem l05_GraphEnds_R2_eq (env : Env) (H : Heap) : l05_GraphEnds_R2 (env, H) = (eval ctx l05_GraphEnds_B2 env H).bind l05_GraphEnds_K2 := (rfl)
theorem l05_GraphEnds_K2_norm (env : Env) (H : Heap) : l05_GraphEnds_K2 (.norm, env, H) = (keepE [3, 4, 5, 7] env H).bind l05_GraphEnds_R2 := l05_GraphEnds_L2_eq env H
theorem l05_GraphEnds_K2_ret (env : Env) (H : Heap) : l05_GraphEnds_K2 (.ret, env, H) = some (.ret, env, H) := (rfl)
theorem l05_GraphEnds_K2_exit (k : Nat) (env : Env) (H : Heap) : l05_GraphEnds_K2 (.exit k, env, H) = if k = 2 then (keepE [3, 4, 5] env H).map normE else some (.exit k, env, H) := (rfl)
noncomputable def l05_GraphEnds_R6 (x : Env × Heap) : Out := intoE ctx 6 [3, 4, 5, 10] [3, 5] l05_GraphEnds_B6 x
noncomputable def l05_GraphEnds_K6 (x : Ex × Env × Heap) : Out := roundE ctx 6 [3, 4, 5, 10] [3, 5] l05_GraphEnds_B6 x
theorem l05_GraphEnds_L6_eq (env : Env) (H : Heap) : eval ctx l05_GraphEnds_L6 env H = (keepE [3, 4, 5, 10] env H).bind l05_GraphEnds_R6 := eval_bloop' ctx env H 6 [3, 4, 5, 10] [3, 5] l05_GraphEnds_B6
theorem l05_GraphEnds_R6_eq (env : Env) (H : Heap) : l05_GraphEnds_R6 (env, H) = (eval ctx l05_GraphEnds_B6 env H).bind l05_GraphEnds_K6 := (rfl)
theorem l05_GraphEnds_K6_norm (env : Env) (H : Heap) : l05_GraphEnds_K6 (.norm, env, H) = (keepE [3, 4, 5, 10] env H).bind l05_GraphEnds_R6 := l05_GraphEnds_L6_eq env H
theorem l05_GraphEnds_K6_ret (env : Env) (H : Heap) : l05_GraphEnds_K6 (.ret, env, H) = some (.ret, env, H) := (rfl)
theorem l05_GraphEnds_K6_exit (k : Nat) (env : Env) (H : Heap) : l05_GraphEnds_K6 (.exit k, env, H) = if k = 6 then (keepE [3, 5] env H).map normE else some (.exit k, env, H) := (rfl)
noncomputable def graph_Graph_Beside_R2 (x : Env × Heap) : Out := intoE ctx 2 [0, 1, 5, 34, 35, 36, 42, 43, 44] [0, 1, 5, 34, 35, 36] graph_Graph_Beside_B2 x
noncomputable def graph_Graph_Beside_K2 (x : Ex × Env × Heap) : Out := roundE ctx 2 [0, 1, 5, 34, 35, 36, 42, 43, 44] [0, 1, 5, 34, 35, 36] graph_Graph_Beside_B2 x
theorem graph_Graph_Beside_L2_eq (env : Env) (H : Heap) : eval ctx graph_Graph_Beside_L2 env H = (keepE [0, 1, 5, 34, 35, 36, 42, 43, 44] env H).bind graph_Graph_Beside_R2 := eval_bloop' ctx env H 2 [0, 1, 5, 34, 35, 36, 42, 43, 44] [0, 1, 5, 34, 35, 36] graph_Graph_Beside_B2
theorem graph_Graph_Beside_R2_eq (env : Env) (H : Heap) : graph_Graph_Beside_R2 (env, H) = (eval ctx graph_Graph_Beside_B2 env H).bind graph_Graph_Beside_K2 := (rfl)
theorem graph_Graph_Beside_K2_norm (env : Env) (H : Heap) : graph_Graph_Beside_K2 (.norm, env, H) = (keepE [0, 1, 5, 34, 35, 36, 42, 43, 44] env H).bind graph_Graph_Beside_R2 := graph_Graph_Beside_L2_eq env H
theorem graph_Graph_Beside_K2_ret (env : Env) (H : Heap) : graph_Graph_Beside_K2 (.ret, env, H) = some (.ret, env, H) := (rfl)
theorem graph_Graph_Beside_K2_exit (k : Nat) (env : Env) (H : Heap) : graph_Graph_Beside_K2 (.exit k, env, H) = if k = 2 then (keepE [0, 1, 5, 34, 35, 36] env H).map normE else some (.exit k, env, H) := (rfl)
noncomputable def graph_Graph_Beside_R0 (x : Env × Heap) : Out := intoE ctx 0 [0, 1, 5, 34, 35, 36] [5] graph_Graph_Beside_B0 x
noncomputable def graph_Graph_Beside_K0 (x : Ex × Env × Heap) : Out := roundE ctx 0 [0, 1, 5, 34, 35, 36] [5] graph_Graph_Beside_B0 x
theorem graph_Graph_Beside_L0_eq (env : Env) (H : Heap) : eval ctx graph_Graph_Beside_L0 env H = (keepE [0, 1, 5, 34, 35, 36] env H).bind graph_Graph_Beside_R0 := eval_bloop' ctx env H 0 [0, 1, 5, 34, 35, 36] [5] graph_Graph_Beside_B0
theorem graph_Graph_Beside_R0_eq (env : Env) (H : Heap) : graph_Graph_Beside_R0 (env, H) = (eval ctx graph_Graph_Beside_B0 env H).bind graph_Graph_Beside_K0 := (rfl)
theorem graph_Graph_Beside_K0_norm (env : Env) (H : Heap) : graph_Graph_Beside_K0 (.norm, env, H) = (keepE [0, 1, 5, 34, 35, 36] env H).bind graph_Graph_Beside_R0 := graph_Graph_Beside_L0_eq env H
theorem graph_Graph_Beside_K0_ret (env : Env) (H : Heap) : graph_Graph_Beside_K0 (.ret, env, H) = some (.ret, env, H) := (rfl)
theorem graph_Graph_Beside_K0_exit (k : Nat) (env : Env) (H : Heap) : graph_Graph_Beside_K0 (.exit k, env, H) = if k = 0 then (keepE [5] env H).map normE else some (.exit k, env, H) := (rfl)
noncomputable def slices_IndexFunc_int_R0 (x : Env × Heap) : Out := intoE ctx 0 [0, 1, 7, 8] [] slices_IndexFunc_int_B0 x
noncomputable def slices_IndexFunc_int_K0 (x : Ex × Env × Heap) : Out := roundE ctx 0 [0, 1, 7, 8] [] slices_IndexFunc_int_B0 x
theorem slices_IndexFunc_int_L0_eq (env : Env) (H : Heap) : eval ctx slices_IndexFunc_int_L0 env H = (keepE [0, 1, 7, 8] env H).bind slices_IndexFunc_int_R0 := eval_bloop' ctx env H 0 [0, 1, 7, 8] [] slices_IndexFunc_int_B0
theorem slices_IndexFunc_int_R0_eq (env : Env) (H : Heap) : slices_IndexFunc_int_R0 (env, H) = (eval ctx slices_IndexFunc_int_B0 env H).bind slices_IndexFunc_int_K0 := (rfl)
theorem slices_IndexFunc_int_K0_norm (env : Env) (H : Heap) : slices_IndexFunc_int_K0 (.norm, env, H) = (keepE [0, 1, 7, 8] env H).bind slices_IndexFunc_int_R0 := slices_IndexFunc_int_L0_eq env H
theorem slices_IndexFunc_int_K0_ret (env : Env) (H : Heap) : slices_IndexFunc_int_K0 (.ret, env, H) = some (.ret, env, H) := (rfl)
theorem slices_IndexFunc_int_K0_exit (k : Nat) (env : Env) (H : Heap) : slices_IndexFunc_int_K0 (.exit k, env, H) = if k = 0 then (keepE [] env H).map normE else some (.exit k, env, H) := (rfl)
noncomputable def slices_Index_int_R0 (x : Env × Heap) : Out := intoE ctx 0 [0, 1, 7, 8] [] slices_Index_int_B0 x
noncomputable def slices_Index_int_K0 (x : Ex × Env × Heap) : Out := roundE ctx 0 [0, 1, 7, 8] [] slices_Index_int_B0 x
theorem slices_Index_int_L0_eq (env : Env) (H : Heap) : eval ctx slices_Index_int_L0 env H = (keepE [0, 1, 7, 8] env H).bind slices_Index_int_R0 := eval_bloop' ctx env H 0 [0, 1, 7, 8] [] slices_Index_int_B0
theorem slices_Index_int_R0_eq (env : Env) (H : Heap) : slices_Index_int_R0 (env, H) = (eval ctx slices_Index_int_B0 env H).bind slices_Index_int_K0 := (rfl)
theorem slices_Index_int_K0_norm (env : Env) (H : Heap) : slices_Index_int_K0 (.norm, env, H) = (keepE [0, 1, 7, 8] env H).bind slices_Index_int_R0 := slices_Index_int_L0_eq env H
theorem slices_Index_int_K0_ret (env : Env) (H : Heap) : slices_Index_int_K0 (.ret, env, H) = some (.ret, env, H) := (rfl)
theorem slices_Index_int_K0_exit (k : Nat) (env : Env) (H : Heap) : slices_Index_int_K0 (.exit k, env, H) = if k = 0 then (keepE [] env H).map normE else some (.exit k, env, H) := (rfl)
noncomputable def graph_Graph_Path_R0 (x : Env × Heap) : Out := intoE ctx 0 [0, 1, 14, 15, 16] [0, 1] graph_Graph_Path_B0 x
noncomputable def graph_Graph_Path_K0 (x : Ex × Env × Heap) : Out := roundE ctx 0 [0, 1, 14, 15, 16] [0, 1] graph_Graph_Path_B0 x
theorem graph_Graph_Path_L0_eq (env : Env) (H : Heap) : eval ctx graph_Graph_Path_L0 env H = (keepE [0, 1, 14, 15, 16] env H).bind graph_Graph_Path_R0 := eval_bloop' ctx env H 0 [0, 1, 14, 15, 16] [0, 1] graph_Graph_Path_B0
theorem graph_Graph_Path_R0_eq (env : Env) (H : Heap) : graph_Graph_Path_R0 (env, H) = (eval ctx graph_Graph_Path_B0 env H).bind graph_Graph_Path_K0 := (rfl)
theorem graph_Graph_Path_K0_norm (env : Env) (H : Heap) : graph_Graph_Path_K0 (.norm, env, H) = (keepE [0, 1, 14, 15, 16] env H).bind graph_Graph_Path_R0 := graph_Graph_Path_L0_eq env H
theorem graph_Graph_Path_K0_ret (env : Env) (H : Heap) : graph_Graph_Path_K0 (.ret, env, H) = some (.ret, env, H) := (rfl)
theorem graph_Graph_Path_K0_exit (k : Nat) (env : Env) (H : Heap) : graph_Graph_Path_K0 (.exit k, env, H) = if k = 0 then (keepE [0, 1] env H).map normE else some (.exit k, env, H) := (rfl)
noncomputable def graph_Graph_Path_R2 (x : Env × Heap) : Out := intoE ctx 2 [0, 1, 27] [] graph_Graph_Path_B2 x
noncomputable def graph_Graph_Path_K2 (x : Ex × Env × Heap) : Out := roundE ctx 2 [0, 1, 27] [] graph_Graph_Path_B2 x
theorem graph_Graph_Path_L2_eq (env : Env) (H : Heap) : eval ctx graph_Graph_Path_L2 env H = (keepE [0, 1, 27] env H).bind graph_Graph_Path_R2 := eval_bloop' ctx env H 2 [0, 1, 27] [] graph_Graph_Path_B2
theorem graph_Graph_Path_R2_eq (env : Env) (H : Heap) : graph_Graph_Path_R2 (env, H) = (eval ctx graph_Graph_Path_B2 env H).bind graph_Graph_Path_K2 := (rfl)
theorem graph_Graph_Path_K2_norm (env : Env) (H : Heap) : graph_Graph_Path_K2 (.norm, env, H) = (keepE [0, 1, 27] env H).bind graph_Graph_Path_R2 := graph_Graph_Path_L2_eq env H
theorem graph_Graph_Path_K2_ret (env : Env) (H : Heap) : graph_Graph_Path_K2 (.ret, env, H) = some (.ret, env, H) := (rfl)
theorem graph_Graph_Path_K2_exit (k : Nat) (env : Env) (H : Heap) : graph_Graph_Path_K2 (.exit k, env, H) = if k = 2 then (keepE [] env H).map normE else some (.exit k, env, H) := (rfl)
noncomputable def l05_paths_R0 (x : Env × Heap) : Out := intoE ctx 0 [5, 7, 9] [] l05_paths_B0 x
noncomputable def l05_paths_K0 (x : Ex × Env × Heap) : Out := roundE ctx 0 [5, 7, 9] [] l05_paths_B0 x
theorem l05_paths_L0_eq (env : Env) (H : Heap) : eval ctx l05_paths_L0 env H = (keepE [5, 7, 9] env H).bind l05_paths_R0 := eval_bloop' ctx env H 0 [5, 7, 9] [] l05_paths_B0
theorem l05_paths_R0_eq (env : Env) (H : Heap) : l05_paths_R0 (env, H) = (eval ctx l05_paths_B0 env H).bind l05_paths_K0 := (rfl)
theorem l05_paths_K0_norm (env : Env) (H : Heap) : l05_paths_K0 (.norm, env, H) = (keepE [5, 7, 9] env H).bind l05_paths_R0 := l05_paths_L0_eq env H
theorem l05_paths_K0_ret (env : Env) (H : Heap) : l05_paths_K0 (.ret, env, H) = some (.ret, env, H) := (rfl)
theorem l05_paths_K0_exit (k : Nat) (env : Env) (H : Heap) : l05_paths_K0 (.exit k, env, H) = if k = 0 then (keepE [] env H).map normE else some (.exit k, env, H) := (rfl)
noncomputable def r01_Rise_R2 (x : Env × Heap) : Out := intoE ctx 2 [0, 3, 4, 5] [0, 3, 4] r01_Rise_B2 x
noncomputable def r01_Rise_K2 (x : Ex × Env × Heap) : Out := roundE ctx 2 [0, 3, 4, 5] [0, 3, 4] r01_Rise_B2 x
theorem r01_Rise_L2_eq (env : Env) (H : Heap) : eval ctx r01_Rise_L2 env H = (keepE [0, 3, 4, 5] env H).bind r01_Rise_R2 := eval_bloop' ctx env H 2 [0, 3, 4, 5] [0, 3, 4] r01_Rise_B2
theorem r01_Rise_R2_eq (env : Env) (H : Heap) : r01_Rise_R2 (env, H) = (eval ctx r01_Rise_B2 env H).bind r01_Rise_K2 := (rfl)
theorem r01_Rise_K2_norm (env : Env) (H : Heap) : r01_Rise_K2 (.norm, env, H) = (keepE [0, 3, 4, 5] env H).bind r01_Rise_R2 := r01_Rise_L2_eq env H
theorem r01_Rise_K2_ret (env : Env) (H : Heap) : r01_Rise_K2 (.ret, env, H) = some (.ret, env, H) := (rfl)
theorem r01_Rise_K2_exit (k : Nat) (env : Env) (H : Heap) : r01_Rise_K2 (.exit k, env, H) = if k = 2 then (keepE [0, 3, 4] env H).map normE else some (.exit k, env, H) := (rfl)
noncomputable def r01_Rise_R0 (x : Env × Heap) : Out := intoE ctx 0 [0, 3] [] r01_Rise_B0 x
noncomputable def r01_Rise_K0 (x : Ex × Env × Heap) : Out := roundE ctx 0 [0, 3] [] r01_Rise_B0 x
theorem r01_Rise_L0_eq (env : Env) (H : Heap) : eval ctx r01_Rise_L0 env H = (keepE [0, 3] env H).bind r01_Rise_R0 := eval_bloop' ctx env H 0 [0, 3] [] r01_Rise_B0
theorem r01_Rise_R0_eq (env : Env) (H : Heap) : r01_Rise_R0 (env, H) = (eval ctx r01_Rise_B0 env H).bind r01_Rise_K0 := (rfl)
theorem r01_Rise_K0_norm (env : Env) (H : Heap) : r01_Rise_K0 (.norm, env, H) = (keepE [0, 3] env H).bind r01_Rise_R0 := r01_Rise_L0_eq env H
theorem r01_Rise_K0_ret (env : Env) (H : Heap) : r01_Rise_K0 (.ret, env, H) = some (.ret, env, H) := (rfl)
theorem r01_Rise_K0_exit (k : Nat) (env : Env) (H : Heap) : r01_Rise_K0 (.exit k, env, H) = if k = 0 then (keepE [] env H).map normE else some (.exit k, env, H) := (rfl)
noncomputable def graph_Graph_way_R0 (x : Env × Heap) : Out := intoE ctx 0 [0, 4, 8, 13, 14, 15] [8] graph_Graph_way_B0 x
noncomputable def graph_Graph_way_K0 (x : Ex × Env × Heap) : Out := roundE ctx 0 [0, 4, 8, 13, 14, 15] [8] graph_Graph_way_B0 x
theorem graph_Graph_way_L0_eq (env : Env) (H : Heap) : eval ctx graph_Graph_way_L0 env H = (keepE [0, 4, 8, 13, 14, 15] env H).bind graph_Graph_way_R0 := eval_bloop' ctx env H 0 [0, 4, 8, 13, 14, 15] [8] graph_Graph_way_B0
theorem graph_Graph_way_R0_eq (env : Env) (H : Heap) : graph_Graph_way_R0 (env, H) = (eval ctx graph_Graph_way_B0 env H).bind graph_Graph_way_K0 := (rfl)
theorem graph_Graph_way_K0_norm (env : Env) (H : Heap) : graph_Graph_way_K0 (.norm, env, H) = (keepE [0, 4, 8, 13, 14, 15] env H).bind graph_Graph_way_R0 := graph_Graph_way_L0_eq env H
theorem graph_Graph_way_K0_ret (env : Env) (H : Heap) : graph_Graph_way_K0 (.ret, env, H) = some (.ret, env, H) := (rfl)
theorem graph_Graph_way_K0_exit (k : Nat) (env : Env) (H : Heap) : graph_Graph_way_K0 (.exit k, env, H) = if k = 0 then (keepE [8] env H).map normE else some (.exit k, env, H) := (rfl)
noncomputable def r05_Path_R0 (x : Env × Heap) : Out := intoE ctx 0 [1, 2, 6] [] r05_Path_B0 x
noncomputable def r05_Path_K0 (x : Ex × Env × Heap) : Out := roundE ctx 0 [1, 2, 6] [] r05_Path_B0 x
theorem r05_Path_L0_eq (env : Env) (H : Heap) : eval ctx r05_Path_L0 env H = (keepE [1, 2, 6] env H).bind r05_Path_R0 := eval_bloop' ctx env H 0 [1, 2, 6] [] r05_Path_B0
theorem r05_Path_R0_eq (env : Env) (H : Heap) : r05_Path_R0 (env, H) = (eval ctx r05_Path_B0 env H).bind r05_Path_K0 := (rfl)
theorem r05_Path_K0_norm (env : Env) (H : Heap) : r05_Path_K0 (.norm, env, H) = (keepE [1, 2, 6] env H).bind r05_Path_R0 := r05_Path_L0_eq env H
theorem r05_Path_K0_ret (env : Env) (H : Heap) : r05_Path_K0 (.ret, env, H) = some (.ret, env, H) := (rfl)
theorem r05_Path_K0_exit (k : Nat) (env : Env) (H : Heap) : r05_Path_K0 (.exit k, env, H) = if k = 0 then (keepE [] env H).map normE else some (.exit k, env, H) := (rfl)
noncomputable def r05_way_R2 (x : Env × Heap) : Out := intoE ctx 2 [2, 3, 4, 8, 9, 10, 11] [2, 3, 4, 8, 9, 10, 11] r05_way_B2 x
noncomputable def r05_way_K2 (x : Ex × Env × Heap) : Out := roundE ctx 2 [2, 3, 4, 8, 9, 10, 11] [2, 3, 4, 8, 9, 10, 11] r05_way_B2 x
theorem r05_way_L2_eq (env : Env) (H : Heap) : eval ctx r05_way_L2 env H = (keepE [2, 3, 4, 8, 9, 10, 11] env H).bind r05_way_R2 := eval_bloop' ctx env H 2 [2, 3, 4, 8, 9, 10, 11] [2, 3, 4, 8, 9, 10, 11] r05_way_B2
theorem r05_way_R2_eq (env : Env) (H : Heap) : r05_way_R2 (env, H) = (eval ctx r05_way_B2 env H).bind r05_way_K2 := (rfl)
theorem r05_way_K2_norm (env : Env) (H : Heap) : r05_way_K2 (.norm, env, H) = (keepE [2, 3, 4, 8, 9, 10, 11] env H).bind r05_way_R2 := r05_way_L2_eq env H
theorem r05_way_K2_ret (env : Env) (H : Heap) : r05_way_K2 (.ret, env, H) = some (.ret, env, H) := (rfl)
theorem r05_way_K2_exit (k : Nat) (env : Env) (H : Heap) : r05_way_K2 (.exit k, env, H) = if k = 2 then (keepE [2, 3, 4, 8, 9, 10, 11] env H).map normE else some (.exit k, env, H) := (rfl)
noncomputable def r05_way_R0 (x : Env × Heap) : Out := intoE ctx 0 [2, 3, 4, 8, 9] [8] r05_way_B0 x
noncomputable def r05_way_K0 (x : Ex × Env × Heap) : Out := roundE ctx 0 [2, 3, 4, 8, 9] [8] r05_way_B0 x
theorem r05_way_L0_eq (env : Env) (H : Heap) : eval ctx r05_way_L0 env H = (keepE [2, 3, 4, 8, 9] env H).bind r05_way_R0 := eval_bloop' ctx env H 0 [2, 3, 4, 8, 9] [8] r05_way_B0
theorem r05_way_R0_eq (env : Env) (H : Heap) : r05_way_R0 (env, H) = (eval ctx r05_way_B0 env H).bind r05_way_K0 := (rfl)
theorem r05_way_K0_norm (env : Env) (H : Heap) : r05_way_K0 (.norm, env, H) = (keepE [2, 3, 4, 8, 9] env H).bind r05_way_R0 := r05_way_L0_eq env H
theorem r05_way_K0_ret (env : Env) (H : Heap) : r05_way_K0 (.ret, env, H) = some (.ret, env, H) := (rfl)
theorem r05_way_K0_exit (k : Nat) (env : Env) (H : Heap) : r05_way_K0 (.exit k, env, H) = if k = 0 then (keepE [8] env H).map normE else some (.exit k, env, H) := (rfl)
noncomputable def l05_like_R2 (x : Env × Heap) : Out := intoE ctx 2 [1, 2, 5, 6, 7] [1, 2, 5, 6] l05_like_B2 x
noncomputable def l05_like_K2 (x : Ex × Env × Heap) : Out := roundE ctx 2 [1, 2, 5, 6, 7] [1, 2, 5, 6] l05_like_B2 x
theorem l05_like_L2_eq (env : Env) (H : Heap) : eval ctx l05_like_L2 env H = (keepE [1, 2, 5, 6, 7] env H).bind l05_like_R2 := eval_bloop' ctx env H 2 [1, 2, 5, 6, 7] [1, 2, 5, 6] l05_like_B2
theorem l05_like_R2_eq (env : Env) (H : Heap) : l05_like_R2 (env, H) = (eval ctx l05_like_B2 env H).bind l05_like_K2 := (rfl)
theorem l05_like_K2_norm (env : Env) (H : Heap) : l05_like_K2 (.norm, env, H) = (keepE [1, 2, 5, 6, 7] env H).bind l05_like_R2 := l05_like_L2_eq env H
theorem l05_like_K2_ret (env : Env) (H : Heap) : l05_like_K2 (.ret, env, H) = some (.ret, env, H) := (rfl)
theorem l05_like_K2_exit (k : Nat) (env : Env) (H : Heap) : l05_like_K2 (.exit k, env, H) = if k = 2 then (keepE [1, 2, 5, 6] env H).map normE else some (.exit k, env, H) := (rfl)
noncomputable def l05_like_R0 (x : Env × Heap) : Out := intoE ctx 0 [1, 2, 5, 6] [] l05_like_B0 x
noncomputable def l05_like_K0 (x : Ex × Env × Heap) : Out := roundE ctx 0 [1, 2, 5, 6] [] l05_like_B0 x
theorem l05_like_L0_eq (env : Env) (H : Heap) : eval ctx l05_like_L0 env H = (keepE [1, 2, 5, 6] env H).bind l05_like_R0 := eval_bloop' ctx env H 0 [1, 2, 5, 6] [] l05_like_B0
theorem l05_like_R0_eq (env : Env) (H : Heap) : l05_like_R0 (env, H) = (eval ctx l05_like_B0 env H).bind l05_like_K0 := (rfl)
theorem l05_like_K0_norm (env : Env) (H : Heap) : l05_like_K0 (.norm, env, H) = (keepE [1, 2, 5, 6] env H).bind l05_like_R0 := l05_like_L0_eq env H
theorem l05_like_K0_ret (env : Env) (H : Heap) : l05_like_K0 (.ret, env, H) = some (.ret, env, H) := (rfl)
theorem l05_like_K0_exit (k : Nat) (env : Env) (H : Heap) : l05_like_K0 (.exit k, env, H) = if k = 0 then (keepE [] env H).map normE else some (.exit k, env, H) := (rfl)
noncomputable def l05_same_R0 (x : Env × Heap) : Out := intoE ctx 0 [0, 1, 5] [] l05_same_B0 x
noncomputable def l05_same_K0 (x : Ex × Env × Heap) : Out := roundE ctx 0 [0, 1, 5] [] l05_same_B0 x
theorem l05_same_L0_eq (env : Env) (H : Heap) : eval ctx l05_same_L0 env H = (keepE [0, 1, 5] env H).bind l05_same_R0 := eval_bloop' ctx env H 0 [0, 1, 5] [] l05_same_B0
theorem l05_same_R0_eq (env : Env) (H : Heap) : l05_same_R0 (env, H) = (eval ctx l05_same_B0 env H).bind l05_same_K0 := (rfl)
theorem l05_same_K0_norm (env : Env) (H : Heap) : l05_same_K0 (.norm, env, H) = (keepE [0, 1, 5] env H).bind l05_same_R0 := l05_same_L0_eq env H
theorem l05_same_K0_ret (env : Env) (H : Heap) : l05_same_K0 (.ret, env, H) = some (.ret, env, H) := (rfl)
theorem l05_same_K0_exit (k : Nat) (env : Env) (H : Heap) : l05_same_K0 (.exit k, env, H) = if k = 0 then (keepE [] env H).map normE else some (.exit k, env, H) := (rfl)
noncomputable def r05_Near_R2 (x : Env × Heap) : Out := intoE ctx 2 [1, 2, 5, 6, 7, 8] [1, 2, 5, 6] r05_Near_B2 x
noncomputable def r05_Near_K2 (x : Ex × Env × Heap) : Out := roundE ctx 2 [1, 2, 5, 6, 7, 8] [1, 2, 5, 6] r05_Near_B2 x
theorem r05_Near_L2_eq (env : Env) (H : Heap) : eval ctx r05_Near_L2 env H = (keepE [1, 2, 5, 6, 7, 8] env H).bind r05_Near_R2 := eval_bloop' ctx env H 2 [1, 2, 5, 6, 7, 8] [1, 2, 5, 6] r05_Near_B2
theorem r05_Near_R2_eq (env : Env) (H : Heap) : r05_Near_R2 (env, H) = (eval ctx r05_Near_B2 env H).bind r05_Near_K2 := (rfl)
theorem r05_Near_K2_norm (env : Env) (H : Heap) : r05_Near_K2 (.norm, env, H) = (keepE [1, 2, 5, 6, 7, 8] env H).bind r05_Near_R2 := r05_Near_L2_eq env H
theorem r05_Near_K2_ret (env : Env) (H : Heap) : r05_Near_K2 (.ret, env, H) = some (.ret, env, H) := (rfl)
theorem r05_Near_K2_exit (k : Nat) (env : Env) (H : Heap) : r05_Near_K2 (.exit k, env, H) = if k = 2 then (keepE [1, 2, 5, 6] env H).map normE else some (.exit k, env, H) := (rfl)
noncomputable def r05_Near_R0 (x : Env × Heap) : Out := intoE ctx 0 [1, 2, 5, 6] [5] r05_Near_B0 x
noncomputable def r05_Near_K0 (x : Ex × Env × Heap) : Out := roundE ctx 0 [1, 2, 5, 6] [5] r05_Near_B0 x
theorem r05_Near_L0_eq (env : Env) (H : Heap) : eval ctx r05_Near_L0 env H = (keepE [1, 2, 5, 6] env H).bind r05_Near_R0 := eval_bloop' ctx env H 0 [1, 2, 5, 6] [5] r05_Near_B0
theorem r05_Near_R0_eq (env : Env) (H : Heap) : r05_Near_R0 (env, H) = (eval ctx r05_Near_B0 env H).bind r05_Near_K0 := (rfl)
theorem r05_Near_K0_norm (env : Env) (H : Heap) : r05_Near_K0 (.norm, env, H) = (keepE [1, 2, 5, 6] env H).bind r05_Near_R0 := r05_Near_L0_eq env H
theorem r05_Near_K0_ret (env : Env) (H : Heap) : r05_Near_K0 (.ret, env, H) = some (.ret, env, H) := (rfl)
theorem r05_Near_K0_exit (k : Nat) (env : Env) (H : Heap) : r05_Near_K0 (.exit k, env, H) = if k = 0 then (keepE [5] env H).map normE else some (.exit k, env, H) := (rfl)
noncomputable def r05_Part_R0 (x : Env × Heap) : Out := intoE ctx 0 [1, 2, 5] [] r05_Part_B0 x
noncomputable def r05_Part_K0 (x : Ex × Env × Heap) : Out := roundE ctx 0 [1, 2, 5] [] r05_Part_B0 x
theorem r05_Part_L0_eq (env : Env) (H : Heap) : eval ctx r05_Part_L0 env H = (keepE [1, 2, 5] env H).bind r05_Part_R0 := eval_bloop' ctx env H 0 [1, 2, 5] [] r05_Part_B0
theorem r05_Part_R0_eq (env : Env) (H : Heap) : r05_Part_R0 (env, H) = (eval ctx r05_Part_B0 env H).bind r05_Part_K0 := (rfl)
theorem r05_Part_K0_norm (env : Env) (H : Heap) : r05_Part_K0 (.norm, env, H) = (keepE [1, 2, 5] env H).bind r05_Part_R0 := r05_Part_L0_eq env H
theorem r05_Part_K0_ret (env : Env) (H : Heap) : r05_Part_K0 (.ret, env, H) = some (.ret, env, H) := (rfl)
theorem r05_Part_K0_exit (k : Nat) (env : Env) (H : Heap) : r05_Part_K0 (.exit k, env, H) = if k = 0 then (keepE [] env H).map normE else some (.exit k, env, H) := (rfl)
noncomputable def r05_Beside_R2 (x : Env × Heap) : Out := intoE ctx 2 [1, 2, 5, 6, 7, 8] [1, 2, 5, 6] r05_Beside_B2 x
noncomputable def r05_Beside_K2 (x : Ex × Env × Heap) : Out := roundE ctx 2 [1, 2, 5, 6, 7, 8] [1, 2, 5, 6] r05_Beside_B2 x
theorem r05_Beside_L2_eq (env : Env) (H : Heap) : eval ctx r05_Beside_L2 env H = (keepE [1, 2, 5, 6, 7, 8] env H).bind r05_Beside_R2 := eval_bloop' ctx env H 2 [1, 2, 5, 6, 7, 8] [1, 2, 5, 6] r05_Beside_B2
theorem r05_Beside_R2_eq (env : Env) (H : Heap) : r05_Beside_R2 (env, H) = (eval ctx r05_Beside_B2 env H).bind r05_Beside_K2 := (rfl)
theorem r05_Beside_K2_norm (env : Env) (H : Heap) : r05_Beside_K2 (.norm, env, H) = (keepE [1, 2, 5, 6, 7, 8] env H).bind r05_Beside_R2 := r05_Beside_L2_eq env H
theorem r05_Beside_K2_ret (env : Env) (H : Heap) : r05_Beside_K2 (.ret, env, H) = some (.ret, env, H) := (rfl)
theorem r05_Beside_K2_exit (k : Nat) (env : Env) (H : Heap) : r05_Beside_K2 (.exit k, env, H) = if k = 2 then (keepE [1, 2, 5, 6] env H).map normE else some (.exit k, env, H) := (rfl)
noncomputable def r05_Beside_R0 (x : Env × Heap) : Out := intoE ctx 0 [1, 2, 5, 6] [5] r05_Beside_B0 x
noncomputable def r05_Beside_K0 (x : Ex × Env × Heap) : Out := roundE ctx 0 [1, 2, 5, 6] [5] r05_Beside_B0 x
theorem r05_Beside_L0_eq (env : Env) (H : Heap) : eval ctx r05_Beside_L0 env H = (keepE [1, 2, 5, 6] env H).bind r05_Beside_R0 := eval_bloop' ctx env H 0 [1, 2, 5, 6] [5] r05_Beside_B0
theorem r05_Beside_R0_eq (env : Env) (H : Heap) : r05_Beside_R0 (env, H) = (eval ctx r05_Beside_B0 env H).bind r05_Beside_K0 := (rfl)
theorem r05_Beside_K0_norm (env : Env) (H : Heap) : r05_Beside_K0 (.norm, env, H) = (keepE [1, 2, 5, 6] env H).bind r05_Beside_R0 := r05_Beside_L0_eq env H
theorem r05_Beside_K0_ret (env : Env) (H : Heap) : r05_Beside_K0 (.ret, env, H) = some (.ret, env, H) := (rfl)
theorem r05_Beside_K0_exit (k : Nat) (env : Env) (H : Heap) : r05_Beside_K0 (.exit k, env, H) = if k = 0 then (keepE [5] env H).map normE else some (.exit k, env, H) := (rfl)
noncomputable def r05_Next_R0 (x : Env × Heap) : Out := intoE ctx 0 [6, 8, 12, 13] [6] r05_Next_B0 x
noncomputable def r05_Next_K0 (x : Ex × Env × Heap) : Out := roundE ctx 0 [6, 8, 12, 13] [6] r05_Next_B0 x
theorem r05_Next_L0_eq (env : Env) (H : Heap) : eval ctx r05_Next_L0 env H = (keepE [6, 8, 12, 13] env H).bind r05_Next_R0 := eval_bloop' ctx env H 0 [6, 8, 12, 13] [6] r05_Next_B0
theorem r05_Next_R0_eq (env : Env) (H : Heap) : r05_Next_R0 (env, H) = (eval ctx r05_Next_B0 env H).bind r05_Next_K0 := (rfl)
theorem r05_Next_K0_norm (env : Env) (H : Heap) : r05_Next_K0 (.norm, env, H) = (keepE [6, 8, 12, 13] env H).bind r05_Next_R0 := r05_Next_L0_eq env H
theorem r05_Next_K0_ret (env : Env) (H : Heap) : r05_Next_K0 (.ret, env, H) = some (.ret, env, H) := (rfl)
theorem r05_Next_K0_exit (k : Nat) (env : Env) (H : Heap) : r05_Next_K0 (.exit k, env, H) = if k = 0 then (keepE [6] env H).map normE else some (.exit k, env, H) := (rfl)
noncomputable def l05_GraphNeeds_R0 (x : Env × Heap) : Out := intoE ctx 0 [8, 9, 10, 11, 13, 14] [8, 9, 10, 13] l05_GraphNeeds_B0 x
noncomputable def l05_GraphNeeds_K0 (x : Ex × Env × Heap) : Out := roundE ctx 0 [8, 9, 10, 11, 13, 14] [8, 9, 10, 13] l05_GraphNeeds_B0 x
theorem l05_GraphNeeds_L0_eq (env : Env) (H : Heap) : eval ctx l05_GraphNeeds_L0 env H = (keepE [8, 9, 10, 11, 13, 14] env H).bind l05_GraphNeeds_R0 := eval_bloop' ctx env H 0 [8, 9, 10, 11, 13, 14] [8, 9, 10, 13] l05_GraphNeeds_B0
theorem l05_GraphNeeds_R0_eq (env : Env) (H : Heap) : l05_GraphNeeds_R0 (env, H) = (eval ctx l05_GraphNeeds_B0 env H).bind l05_GraphNeeds_K0 := (rfl)
theorem l05_GraphNeeds_K0_norm (env : Env) (H : Heap) : l05_GraphNeeds_K0 (.norm, env, H) = (keepE [8, 9, 10, 11, 13, 14] env H).bind l05_GraphNeeds_R0 := l05_GraphNeeds_L0_eq env H
theorem l05_GraphNeeds_K0_ret (env : Env) (H : Heap) : l05_GraphNeeds_K0 (.ret, env, H) = some (.ret, env, H) := (rfl)
theorem l05_GraphNeeds_K0_exit (k : Nat) (env : Env) (H : Heap) : l05_GraphNeeds_K0 (.exit k, env, H) = if k = 0 then (keepE [8, 9, 10, 13] env H).map normE else some (.exit k, env, H) := (rfl)
noncomputable def l05_GraphNeeds_R2 (x : Env × Heap) : Out := intoE ctx 2 [8, 10, 13, 15, 16] [] l05_GraphNeeds_B2 x
noncomputable def l05_GraphNeeds_K2 (x : Ex × Env × Heap) : Out := roundE ctx 2 [8, 10, 13, 15, 16] [] l05_GraphNeeds_B2 x
theorem l05_GraphNeeds_L2_eq (env : Env) (H : Heap) : eval ctx l05_GraphNeeds_L2 env H = (keepE [8, 10, 13, 15, 16] env H).bind l05_GraphNeeds_R2 := eval_bloop' ctx env H 2 [8, 10, 13, 15, 16] [] l05_GraphNeeds_B2
theorem l05_GraphNeeds_R2_eq (env : Env) (H : Heap) : l05_GraphNeeds_R2 (env, H) = (eval ctx l05_GraphNeeds_B2 env H).bind l05_GraphNeeds_K2 := (rfl)
theorem l05_GraphNeeds_K2_norm (env : Env) (H : Heap) : l05_GraphNeeds_K2 (.norm, env, H) = (keepE [8, 10, 13, 15, 16] env H).bind l05_GraphNeeds_R2 := l05_GraphNeeds_L2_eq env H
theorem l05_GraphNeeds_K2_ret (env : Env) (H : Heap) : l05_GraphNeeds_K2 (.ret, env, H) = some (.ret, env, H) := (rfl)
theorem l05_GraphNeeds_K2_exit (k : Nat) (env : Env) (H : Heap) : l05_GraphNeeds_K2 (.exit k, env, H) = if k = 2 then (keepE [] env H).map normE else some (.exit k, env, H) := (rfl)
end Go.Proofs.Ytmkdhpjidhbijaa.Zt
