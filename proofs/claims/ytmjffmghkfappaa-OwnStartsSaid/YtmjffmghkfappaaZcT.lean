/- Go functions, as the interpreter runs them: written by a program of this claim's own, proved to be what the compiler makes of them. No condition. -/
import Derived.Test.YtmjffmghkfappaaZcT0
set_option linter.all false
namespace Go.Proofs.Ytmjffmghkfappaa.Zt
open Go Go.Zc
set_option maxRecDepth 100000

/-- All of them. -/
def tab : List (Nat × FInfo) := [(3, l12_OwnNext_I), (4, l12_OwnRuns_I), (5, l12_OwnSure_I), (6, l12_OwnFinds_I), (7, l12_OwnClear_I), (8, l12_OwnStarts_I), (9, l12_OwnDeclares_I), (15, l12_comes_I), (16, r04_Small_I), (17, l12_few_I), (18, r05_Full_I), (19, l12_views_I), (20, l12_owners_I), (21, r01_Ints_I), (22, own_Next_I), (23, l12_clear_I), (24, r12_Next_I), (25, r12_Find_I), (26, r05_Beside_I), (27, r11_Meets_I), (28, own_Find_I), (29, own_Start_I), (30, own_Declare_I), (31, r12_Declare_I), (44, r01_Rise_I), (47, r04_Make_I), (48, r05_Walk_I), (49, r01_Has_I), (50, graph_New_I), (51, own_alone_I), (52, own_holds_I), (53, r12_holds_I), (54, r05_Near_I), (55, r05_Part_I), (56, slices_IndexFunc_View_I), (57, own_Find_1_I), (58, slices_Repeat_int_I), (59, slices_Clone_int_I), (65, graph_Graph_Len_I), (69, slices_ContainsFunc_int_I), (73, slices_Contains_int_I), (75, r05_Len_I), (78, r05_Around_I), (79, graph_Graph_Beside_I), (80, chain_Meets_I), (81, math_bits_Mul_I), (84, graph_Graph_section_I), (86, graph_Graph_Around_I), (87, slices_IndexFunc_End_I), (89, slices_IndexFunc_Int_I), (91, slices_Sort_int_I), (93, slices_Index_int_I), (94, r05_node_I), (95, r05_Point_I), (96, r05_one_I), (97, r05_Ends_I), (98, graph_Graph_Near_I), (99, graph_Graph_Part_I), (100, slices_Compact_int_I), (101, chain_Meets_1_I), (102, math_bits_Mul32_I), (103, math_bits_Mul64_I), (104, graph_Graph_node_I), (105, graph_Graph_Point_I), (110, slices_DeleteFunc_End_I), (111, graph_Graph_Ends_I), (112, graph_Graph_Around_1_I), (113, slices_Concat_End_I), (114, graph_Graph_at_I), (116, slices_pdqsortOrdered_int_I), (117, math_bits_Len_I), (118, slices_IndexFunc_int_I), (119, graph_Graph_Part_1_I), (120, slices_IndexFunc_Point_I), (121, graph_Graph_Point_1_I), (123, slices_Grow_End_I), (124, slices_insertionSortOrdered_int_I), (130, cmp_Less_int_I), (133, math_bits_Len32_I), (134, math_bits_Len64_I), (141, cmp_isNaN_int_I)]
def ctx : Ctx := ⟨Zc.look tab, fun _ => none⟩
theorem l12_OwnNext_ok : compF Try.prog (quietOf ctx) l12_OwnNext_A (.fz false) Try.f3 = some l12_OwnNext_I := by kernel_rfl
theorem l12_OwnRuns_ok : compF Try.prog (quietOf ctx) l12_OwnRuns_A (.fz false) Try.f4 = some l12_OwnRuns_I := by kernel_rfl
theorem l12_OwnSure_ok : compF Try.prog (quietOf ctx) l12_OwnSure_A (.fz false) Try.f5 = some l12_OwnSure_I := by kernel_rfl
theorem l12_OwnFinds_ok : compF Try.prog (quietOf ctx) l12_OwnFinds_A (.fz false) Try.f6 = some l12_OwnFinds_I := by kernel_rfl
theorem l12_OwnClear_ok : compF Try.prog (quietOf ctx) l12_OwnClear_A (.fz false) Try.f7 = some l12_OwnClear_I := by kernel_rfl
theorem l12_OwnStarts_ok : compF Try.prog (quietOf ctx) l12_OwnStarts_A (.fz false) Try.f8 = some l12_OwnStarts_I := by kernel_rfl
theorem l12_OwnDeclares_ok : compF Try.prog (quietOf ctx) l12_OwnDeclares_A (.fz false) Try.f9 = some l12_OwnDeclares_I := by kernel_rfl
theorem l12_comes_ok : compF Try.prog (quietOf ctx) l12_comes_A (.fz false) Try.f15 = some l12_comes_I := by kernel_rfl
theorem r04_Small_ok : compF Try.prog (quietOf ctx) r04_Small_A (.fz false) Try.f16 = some r04_Small_I := by kernel_rfl
theorem l12_few_ok : compF Try.prog (quietOf ctx) l12_few_A (.fz false) Try.f17 = some l12_few_I := by kernel_rfl
theorem r05_Full_ok : compF Try.prog (quietOf ctx) r05_Full_A (.fz false) Try.f18 = some r05_Full_I := by kernel_rfl
theorem l12_views_ok : compF Try.prog (quietOf ctx) l12_views_A (.fz false) Try.f19 = some l12_views_I := by kernel_rfl
theorem l12_owners_ok : compF Try.prog (quietOf ctx) l12_owners_A (.fz false) Try.f20 = some l12_owners_I := by kernel_rfl
theorem r01_Ints_ok : compF Try.prog (quietOf ctx) r01_Ints_A (.fz false) Try.f21 = some r01_Ints_I := by kernel_rfl
theorem own_Next_ok : compF Try.prog (quietOf ctx) own_Next_A (.fz false) Try.f22 = some own_Next_I := by kernel_rfl
theorem l12_clear_ok : compF Try.prog (quietOf ctx) l12_clear_A (.fz false) Try.f23 = some l12_clear_I := by kernel_rfl
theorem r12_Next_ok : compF Try.prog (quietOf ctx) r12_Next_A (.fz false) Try.f24 = some r12_Next_I := by kernel_rfl
theorem r12_Find_ok : compF Try.prog (quietOf ctx) r12_Find_A .ref Try.f25 = some r12_Find_I := by kernel_rfl
theorem r05_Beside_ok : compF Try.prog (quietOf ctx) r05_Beside_A (.fz false) Try.f26 = some r05_Beside_I := by kernel_rfl
theorem r11_Meets_ok : compF Try.prog (quietOf ctx) r11_Meets_A (.fz false) Try.f27 = some r11_Meets_I := by kernel_rfl
theorem own_Find_ok : compF Try.prog (quietOf ctx) own_Find_A .ref Try.f28 = some own_Find_I := by kernel_rfl
theorem own_Start_ok : compF Try.prog (quietOf ctx) own_Start_A (.fz false) Try.f29 = some own_Start_I := by kernel_rfl
theorem own_Declare_ok : compF Try.prog (quietOf ctx) own_Declare_A (.fz false) Try.f30 = some own_Declare_I := by kernel_rfl
theorem r12_Declare_ok : compF Try.prog (quietOf ctx) r12_Declare_A (.fz false) Try.f31 = some r12_Declare_I := by kernel_rfl
theorem r01_Rise_ok : compF Try.prog (quietOf ctx) r01_Rise_A (.fz false) Try.f44 = some r01_Rise_I := by kernel_rfl
theorem r04_Make_ok : compF Try.prog (quietOf ctx) r04_Make_A (.fz true) Try.f47 = some r04_Make_I := by kernel_rfl
theorem r05_Walk_ok : compF Try.prog (quietOf ctx) r05_Walk_A (.fz false) Try.f48 = some r05_Walk_I := by kernel_rfl
theorem r01_Has_ok : compF Try.prog (quietOf ctx) r01_Has_A (.fz false) Try.f49 = some r01_Has_I := by kernel_rfl
theorem graph_New_ok : compF Try.prog (quietOf ctx) graph_New_A (.fz false) Try.f50 = some graph_New_I := by kernel_rfl
theorem own_alone_ok : compF Try.prog (quietOf ctx) own_alone_A (.fz false) Try.f51 = some own_alone_I := by kernel_rfl
theorem own_holds_ok : compF Try.prog (quietOf ctx) own_holds_A (.fz false) Try.f52 = some own_holds_I := by kernel_rfl
theorem r12_holds_ok : compF Try.prog (quietOf ctx) r12_holds_A (.fz false) Try.f53 = some r12_holds_I := by kernel_rfl
theorem r05_Near_ok : compF Try.prog (quietOf ctx) r05_Near_A (.fz false) Try.f54 = some r05_Near_I := by kernel_rfl
theorem r05_Part_ok : compF Try.prog (quietOf ctx) r05_Part_A (.fz false) Try.f55 = some r05_Part_I := by kernel_rfl
theorem slices_IndexFunc_View_ok : compF Try.prog (quietOf ctx) slices_IndexFunc_View_A (.fz false) Try.f56 = some slices_IndexFunc_View_I := by kernel_rfl
theorem own_Find_1_ok : compF Try.prog (quietOf ctx) own_Find_1_A (.fz false) Try.f57 = some own_Find_1_I := by kernel_rfl
theorem slices_Repeat_int_ok : compF Try.prog (quietOf ctx) slices_Repeat_int_A (.fz false) Try.f58 = some slices_Repeat_int_I := by kernel_rfl
theorem slices_Clone_int_ok : compF Try.prog (quietOf ctx) slices_Clone_int_A .own Try.f59 = some slices_Clone_int_I := by kernel_rfl
theorem graph_Graph_Len_ok : compF Try.prog (quietOf ctx) graph_Graph_Len_A (.fz false) Try.f65 = some graph_Graph_Len_I := by kernel_rfl
theorem slices_ContainsFunc_int_ok : compF Try.prog (quietOf ctx) slices_ContainsFunc_int_A (.fz false) Try.f69 = some slices_ContainsFunc_int_I := by kernel_rfl
theorem slices_Contains_int_ok : compF Try.prog (quietOf ctx) slices_Contains_int_A (.fz false) Try.f73 = some slices_Contains_int_I := by kernel_rfl
theorem r05_Len_ok : compF Try.prog (quietOf ctx) r05_Len_A (.fz false) Try.f75 = some r05_Len_I := by kernel_rfl
theorem r05_Around_ok : compF Try.prog (quietOf ctx) r05_Around_A (.fz false) Try.f78 = some r05_Around_I := by kernel_rfl
theorem graph_Graph_Beside_ok : compF Try.prog (quietOf ctx) graph_Graph_Beside_A (.fz false) Try.f79 = some graph_Graph_Beside_I := by kernel_rfl
theorem chain_Meets_ok : compF Try.prog (quietOf ctx) chain_Meets_A (.fz false) Try.f80 = some chain_Meets_I := by kernel_rfl
theorem math_bits_Mul_ok : compF Try.prog (quietOf ctx) math_bits_Mul_A (.fz false) Try.f81 = some math_bits_Mul_I := by kernel_rfl
theorem graph_Graph_section_ok : compF Try.prog (quietOf ctx) graph_Graph_section_A (.fz false) Try.f84 = some graph_Graph_section_I := by kernel_rfl
theorem graph_Graph_Around_ok : compF Try.prog (quietOf ctx) graph_Graph_Around_A (.fz false) Try.f86 = some graph_Graph_Around_I := by kernel_rfl
theorem slices_IndexFunc_End_ok : compF Try.prog (quietOf ctx) slices_IndexFunc_End_A (.fz false) Try.f87 = some slices_IndexFunc_End_I := by kernel_rfl
theorem slices_IndexFunc_Int_ok : compF Try.prog (quietOf ctx) slices_IndexFunc_Int_A (.fz false) Try.f89 = some slices_IndexFunc_Int_I := by kernel_rfl
theorem slices_Sort_int_ok : compF Try.prog (quietOf ctx) slices_Sort_int_A .ref Try.f91 = some slices_Sort_int_I := by kernel_rfl
theorem slices_Index_int_ok : compF Try.prog (quietOf ctx) slices_Index_int_A (.fz false) Try.f93 = some slices_Index_int_I := by kernel_rfl
theorem r05_node_ok : compF Try.prog (quietOf ctx) r05_node_A (.fz false) Try.f94 = some r05_node_I := by kernel_rfl
theorem r05_Point_ok : compF Try.prog (quietOf ctx) r05_Point_A (.fz false) Try.f95 = some r05_Point_I := by kernel_rfl
theorem r05_one_ok : compF Try.prog (quietOf ctx) r05_one_A (.fz false) Try.f96 = some r05_one_I := by kernel_rfl
theorem r05_Ends_ok : compF Try.prog (quietOf ctx) r05_Ends_A (.fz false) Try.f97 = some r05_Ends_I := by kernel_rfl
theorem graph_Graph_Near_ok : compF Try.prog (quietOf ctx) graph_Graph_Near_A (.fz false) Try.f98 = some graph_Graph_Near_I := by kernel_rfl
theorem graph_Graph_Part_ok : compF Try.prog (quietOf ctx) graph_Graph_Part_A (.fz false) Try.f99 = some graph_Graph_Part_I := by kernel_rfl
theorem slices_Compact_int_ok : compF Try.prog (quietOf ctx) slices_Compact_int_A .ref Try.f100 = some slices_Compact_int_I := by kernel_rfl
theorem chain_Meets_1_ok : compF Try.prog (quietOf ctx) chain_Meets_1_A (.fz false) Try.f101 = some chain_Meets_1_I := by kernel_rfl
theorem math_bits_Mul32_ok : compF Try.prog (quietOf ctx) math_bits_Mul32_A (.fz false) Try.f102 = some math_bits_Mul32_I := by kernel_rfl
theorem math_bits_Mul64_ok : compF Try.prog (quietOf ctx) math_bits_Mul64_A (.fz false) Try.f103 = some math_bits_Mul64_I := by kernel_rfl
theorem graph_Graph_node_ok : compF Try.prog (quietOf ctx) graph_Graph_node_A (.fz false) Try.f104 = some graph_Graph_node_I := by kernel_rfl
theorem graph_Graph_Point_ok : compF Try.prog (quietOf ctx) graph_Graph_Point_A (.fz false) Try.f105 = some graph_Graph_Point_I := by kernel_rfl
theorem slices_DeleteFunc_End_ok : compF Try.prog (quietOf ctx) slices_DeleteFunc_End_A .ref Try.f110 = some slices_DeleteFunc_End_I := by kernel_rfl
theorem graph_Graph_Ends_ok : compF Try.prog (quietOf ctx) graph_Graph_Ends_A .own Try.f111 = some graph_Graph_Ends_I := by kernel_rfl
theorem graph_Graph_Around_1_ok : compF Try.prog (quietOf ctx) graph_Graph_Around_1_A (.fz false) Try.f112 = some graph_Graph_Around_1_I := by kernel_rfl
theorem slices_Concat_End_ok : compF Try.prog (quietOf ctx) slices_Concat_End_A (.fz false) Try.f113 = some slices_Concat_End_I := by kernel_rfl
theorem graph_Graph_at_ok : compF Try.prog (quietOf ctx) graph_Graph_at_A (.fz false) Try.f114 = some graph_Graph_at_I := by kernel_rfl
theorem slices_pdqsortOrdered_int_ok : compF Try.prog (quietOf ctx) slices_pdqsortOrdered_int_A .ref Try.f116 = some slices_pdqsortOrdered_int_I := by kernel_rfl
theorem math_bits_Len_ok : compF Try.prog (quietOf ctx) math_bits_Len_A (.fz false) Try.f117 = some math_bits_Len_I := by kernel_rfl
theorem slices_IndexFunc_int_ok : compF Try.prog (quietOf ctx) slices_IndexFunc_int_A (.fz false) Try.f118 = some slices_IndexFunc_int_I := by kernel_rfl
theorem graph_Graph_Part_1_ok : compF Try.prog (quietOf ctx) graph_Graph_Part_1_A (.fz false) Try.f119 = some graph_Graph_Part_1_I := by kernel_rfl
theorem slices_IndexFunc_Point_ok : compF Try.prog (quietOf ctx) slices_IndexFunc_Point_A (.fz false) Try.f120 = some slices_IndexFunc_Point_I := by kernel_rfl
theorem graph_Graph_Point_1_ok : compF Try.prog (quietOf ctx) graph_Graph_Point_1_A (.fz false) Try.f121 = some graph_Graph_Point_1_I := by kernel_rfl
theorem slices_Grow_End_ok : compF Try.prog (quietOf ctx) slices_Grow_End_A .ref Try.f123 = some slices_Grow_End_I := by kernel_rfl
theorem slices_insertionSortOrdered_int_ok : compF Try.prog (quietOf ctx) slices_insertionSortOrdered_int_A .ref Try.f124 = some slices_insertionSortOrdered_int_I := by kernel_rfl
theorem cmp_Less_int_ok : compF Try.prog (quietOf ctx) cmp_Less_int_A (.fz false) Try.f130 = some cmp_Less_int_I := by kernel_rfl
theorem math_bits_Len32_ok : compF Try.prog (quietOf ctx) math_bits_Len32_A (.fz false) Try.f133 = some math_bits_Len32_I := by kernel_rfl
theorem math_bits_Len64_ok : compF Try.prog (quietOf ctx) math_bits_Len64_A (.fz false) Try.f134 = some math_bits_Len64_I := by kernel_rfl
theorem cmp_isNaN_int_ok : compF Try.prog (quietOf ctx) cmp_isNaN_int_A (.fz false) Try.f141 = some cmp_isNaN_int_I := by kernel_rfl
theorem ctx_ok : CtxOk Try.prog ctx :=
  ctxOk_of (by kernel_rfl) (
    .cons ⟨_, _, Try.func3, l12_OwnNext_ok⟩ (
    .cons ⟨_, _, Try.func4, l12_OwnRuns_ok⟩ (
    .cons ⟨_, _, Try.func5, l12_OwnSure_ok⟩ (
    .cons ⟨_, _, Try.func6, l12_OwnFinds_ok⟩ (
    .cons ⟨_, _, Try.func7, l12_OwnClear_ok⟩ (
    .cons ⟨_, _, Try.func8, l12_OwnStarts_ok⟩ (
    .cons ⟨_, _, Try.func9, l12_OwnDeclares_ok⟩ (
    .cons ⟨_, _, Try.func15, l12_comes_ok⟩ (
    .cons ⟨_, _, Try.func16, r04_Small_ok⟩ (
    .cons ⟨_, _, Try.func17, l12_few_ok⟩ (
    .cons ⟨_, _, Try.func18, r05_Full_ok⟩ (
    .cons ⟨_, _, Try.func19, l12_views_ok⟩ (
    .cons ⟨_, _, Try.func20, l12_owners_ok⟩ (
    .cons ⟨_, _, Try.func21, r01_Ints_ok⟩ (
    .cons ⟨_, _, Try.func22, own_Next_ok⟩ (
    .cons ⟨_, _, Try.func23, l12_clear_ok⟩ (
    .cons ⟨_, _, Try.func24, r12_Next_ok⟩ (
    .cons ⟨_, _, Try.func25, r12_Find_ok⟩ (
    .cons ⟨_, _, Try.func26, r05_Beside_ok⟩ (
    .cons ⟨_, _, Try.func27, r11_Meets_ok⟩ (
    .cons ⟨_, _, Try.func28, own_Find_ok⟩ (
    .cons ⟨_, _, Try.func29, own_Start_ok⟩ (
    .cons ⟨_, _, Try.func30, own_Declare_ok⟩ (
    .cons ⟨_, _, Try.func31, r12_Declare_ok⟩ (
    .cons ⟨_, _, Try.func44, r01_Rise_ok⟩ (
    .cons ⟨_, _, Try.func47, r04_Make_ok⟩ (
    .cons ⟨_, _, Try.func48, r05_Walk_ok⟩ (
    .cons ⟨_, _, Try.func49, r01_Has_ok⟩ (
    .cons ⟨_, _, Try.func50, graph_New_ok⟩ (
    .cons ⟨_, _, Try.func51, own_alone_ok⟩ (
    .cons ⟨_, _, Try.func52, own_holds_ok⟩ (
    .cons ⟨_, _, Try.func53, r12_holds_ok⟩ (
    .cons ⟨_, _, Try.func54, r05_Near_ok⟩ (
    .cons ⟨_, _, Try.func55, r05_Part_ok⟩ (
    .cons ⟨_, _, Try.func56, slices_IndexFunc_View_ok⟩ (
    .cons ⟨_, _, Try.func57, own_Find_1_ok⟩ (
    .cons ⟨_, _, Try.func58, slices_Repeat_int_ok⟩ (
    .cons ⟨_, _, Try.func59, slices_Clone_int_ok⟩ (
    .cons ⟨_, _, Try.func65, graph_Graph_Len_ok⟩ (
    .cons ⟨_, _, Try.func69, slices_ContainsFunc_int_ok⟩ (
    .cons ⟨_, _, Try.func73, slices_Contains_int_ok⟩ (
    .cons ⟨_, _, Try.func75, r05_Len_ok⟩ (
    .cons ⟨_, _, Try.func78, r05_Around_ok⟩ (
    .cons ⟨_, _, Try.func79, graph_Graph_Beside_ok⟩ (
    .cons ⟨_, _, Try.func80, chain_Meets_ok⟩ (
    .cons ⟨_, _, Try.func81, math_bits_Mul_ok⟩ (
    .cons ⟨_, _, Try.func84, graph_Graph_section_ok⟩ (
    .cons ⟨_, _, Try.func86, graph_Graph_Around_ok⟩ (
    .cons ⟨_, _, Try.func87, slices_IndexFunc_End_ok⟩ (
    .cons ⟨_, _, Try.func89, slices_IndexFunc_Int_ok⟩ (
    .cons ⟨_, _, Try.func91, slices_Sort_int_ok⟩ (
    .cons ⟨_, _, Try.func93, slices_Index_int_ok⟩ (
    .cons ⟨_, _, Try.func94, r05_node_ok⟩ (
    .cons ⟨_, _, Try.func95, r05_Point_ok⟩ (
    .cons ⟨_, _, Try.func96, r05_one_ok⟩ (
    .cons ⟨_, _, Try.func97, r05_Ends_ok⟩ (
    .cons ⟨_, _, Try.func98, graph_Graph_Near_ok⟩ (
    .cons ⟨_, _, Try.func99, graph_Graph_Part_ok⟩ (
    .cons ⟨_, _, Try.func100, slices_Compact_int_ok⟩ (
    .cons ⟨_, _, Try.func101, chain_Meets_1_ok⟩ (
    .cons ⟨_, _, Try.func102, math_bits_Mul32_ok⟩ (
    .cons ⟨_, _, Try.func103, math_bits_Mul64_ok⟩ (
    .cons ⟨_, _, Try.func104, graph_Graph_node_ok⟩ (
    .cons ⟨_, _, Try.func105, graph_Graph_Point_ok⟩ (
    .cons ⟨_, _, Try.func110, slices_DeleteFunc_End_ok⟩ (
    .cons ⟨_, _, Try.func111, graph_Graph_Ends_ok⟩ (
    .cons ⟨_, _, Try.func112, graph_Graph_Around_1_ok⟩ (
    .cons ⟨_, _, Try.func113, slices_Concat_End_ok⟩ (
    .cons ⟨_, _, Try.func114, graph_Graph_at_ok⟩ (
    .cons ⟨_, _, Try.func116, slices_pdqsortOrdered_int_ok⟩ (
    .cons ⟨_, _, Try.func117, math_bits_Len_ok⟩ (
    .cons ⟨_, _, Try.func118, slices_IndexFunc_int_ok⟩ (
    .cons ⟨_, _, Try.func119, graph_Graph_Part_1_ok⟩ (
    .cons ⟨_, _, Try.func120, slices_IndexFunc_Point_ok⟩ (
    .cons ⟨_, _, Try.func121, graph_Graph_Point_1_ok⟩ (
    .cons ⟨_, _, Try.func123, slices_Grow_End_ok⟩ (
    .cons ⟨_, _, Try.func124, slices_insertionSortOrdered_int_ok⟩ (
    .cons ⟨_, _, Try.func130, cmp_Less_int_ok⟩ (
    .cons ⟨_, _, Try.func133, math_bits_Len32_ok⟩ (
    .cons ⟨_, _, Try.func134, math_bits_Len64_ok⟩ (
    .cons ⟨_, _, Try.func141, cmp_isNaN_int_ok⟩ (
    .nil))))))))))))))))))))))))))))))))))))))))))))))))))))))))))))))))))))))))))))))))))
noncomputable def l12_OwnNext_F (st : Bool) (H : Heap) (xs : List CV) : Option (CV × Heap) := fzE ctx false 2 l12_OwnNext_C [.tmp 4] st H xs
theorem l12_OwnNext_F_eq (st : Bool) (H : Heap) (xs : List CV) : l12_OwnNext_F st H xs = if xs.length = 2 then (eval ctx l12_OwnNext_C (enterC 0 xs) ⟨[], []⟩).bind (fzOut [.tmp 4] st false H) else none := (rfl)
theorem l12_OwnNext_call (cap args : List CV) (H : Heap) : call ctx (.fn (.func 3) [] cap) args H = (snapL H false false (args ++ cap)).bind (l12_OwnNext_F (CV.refs (args ++ cap)) H) := fz_call rfl (show ctx.info 3 = some l12_OwnNext_I by kernel_rfl) cap args H
noncomputable def l12_OwnRuns_F (st : Bool) (H : Heap) (xs : List CV) : Option (CV × Heap) := fzE ctx false 3 l12_OwnRuns_C [.tmp 6] st H xs
theorem l12_OwnRuns_F_eq (st : Bool) (H : Heap) (xs : List CV) : l12_OwnRuns_F st H xs = if xs.length = 3 then (eval ctx l12_OwnRuns_C (enterC 0 xs) ⟨[], []⟩).bind (fzOut [.tmp 6] st false H) else none := (rfl)
theorem l12_OwnRuns_call (cap args : List CV) (H : Heap) : call ctx (.fn (.func 4) [] cap) args H = (snapL H false false (args ++ cap)).bind (l12_OwnRuns_F (CV.refs (args ++ cap)) H) := fz_call rfl (show ctx.info 4 = some l12_OwnRuns_I by kernel_rfl) cap args H
noncomputable def l12_OwnSure_F (st : Bool) (H : Heap) (xs : List CV) : Option (CV × Heap) := fzE ctx false 2 l12_OwnSure_C [.tmp 4] st H xs
theorem l12_OwnSure_F_eq (st : Bool) (H : Heap) (xs : List CV) : l12_OwnSure_F st H xs = if xs.length = 2 then (eval ctx l12_OwnSure_C (enterC 0 xs) ⟨[], []⟩).bind (fzOut [.tmp 4] st false H) else none := (rfl)
theorem l12_OwnSure_call (cap args : List CV) (H : Heap) : call ctx (.fn (.func 5) [] cap) args H = (snapL H false false (args ++ cap)).bind (l12_OwnSure_F (CV.refs (args ++ cap)) H) := fz_call rfl (show ctx.info 5 = some l12_OwnSure_I by kernel_rfl) cap args H
noncomputable def l12_OwnFinds_F (st : Bool) (H : Heap) (xs : List CV) : Option (CV × Heap) := fzE ctx false 2 l12_OwnFinds_C [.tmp 4] st H xs
theorem l12_OwnFinds_F_eq (st : Bool) (H : Heap) (xs : List CV) : l12_OwnFinds_F st H xs = if xs.length = 2 then (eval ctx l12_OwnFinds_C (enterC 0 xs) ⟨[], []⟩).bind (fzOut [.tmp 4] st false H) else none := (rfl)
theorem l12_OwnFinds_call (cap args : List CV) (H : Heap) : call ctx (.fn (.func 6) [] cap) args H = (snapL H false false (args ++ cap)).bind (l12_OwnFinds_F (CV.refs (args ++ cap)) H) := fz_call rfl (show ctx.info 6 = some l12_OwnFinds_I by kernel_rfl) cap args H
noncomputable def l12_OwnClear_F (st : Bool) (H : Heap) (xs : List CV) : Option (CV × Heap) := fzE ctx false 2 l12_OwnClear_C [.tmp 4] st H xs
theorem l12_OwnClear_F_eq (st : Bool) (H : Heap) (xs : List CV) : l12_OwnClear_F st H xs = if xs.length = 2 then (eval ctx l12_OwnClear_C (enterC 0 xs) ⟨[], []⟩).bind (fzOut [.tmp 4] st false H) else none := (rfl)
theorem l12_OwnClear_call (cap args : List CV) (H : Heap) : call ctx (.fn (.func 7) [] cap) args H = (snapL H false false (args ++ cap)).bind (l12_OwnClear_F (CV.refs (args ++ cap)) H) := fz_call rfl (show ctx.info 7 = some l12_OwnClear_I by kernel_rfl) cap args H
noncomputable def l12_OwnStarts_F (st : Bool) (H : Heap) (xs : List CV) : Option (CV × Heap) := fzE ctx false 3 l12_OwnStarts_C [.tmp 6] st H xs
theorem l12_OwnStarts_F_eq (st : Bool) (H : Heap) (xs : List CV) : l12_OwnStarts_F st H xs = if xs.length = 3 then (eval ctx l12_OwnStarts_C (enterC 0 xs) ⟨[], []⟩).bind (fzOut [.tmp 6] st false H) else none := (rfl)
theorem l12_OwnStarts_call (cap args : List CV) (H : Heap) : call ctx (.fn (.func 8) [] cap) args H = (snapL H false false (args ++ cap)).bind (l12_OwnStarts_F (CV.refs (args ++ cap)) H) := fz_call rfl (show ctx.info 8 = some l12_OwnStarts_I by kernel_rfl) cap args H
noncomputable def l12_OwnDeclares_F (st : Bool) (H : Heap) (xs : List CV) : Option (CV × Heap) := fzE ctx false 5 l12_OwnDeclares_C [.tmp 10] st H xs
theorem l12_OwnDeclares_F_eq (st : Bool) (H : Heap) (xs : List CV) : l12_OwnDeclares_F st H xs = if xs.length = 5 then (eval ctx l12_OwnDeclares_C (enterC 0 xs) ⟨[], []⟩).bind (fzOut [.tmp 10] st false H) else none := (rfl)
theorem l12_OwnDeclares_call (cap args : List CV) (H : Heap) : call ctx (.fn (.func 9) [] cap) args H = (snapL H false false (args ++ cap)).bind (l12_OwnDeclares_F (CV.refs (args ++ cap)) H) := fz_call rfl (show ctx.info 9 = some l12_OwnDeclares_I by kernel_rfl) cap args H
noncomputable def l12_comes_F (st : Bool) (H : Heap) (xs : List CV) : Option (CV × Heap) := fzE ctx false 0 l12_comes_C [.tmp 0] st H xs
theorem l12_comes_F_eq (st : Bool) (H : Heap) (xs : List CV) : l12_comes_F st H xs = if xs.length = 0 then (eval ctx l12_comes_C (enterC 0 xs) ⟨[], []⟩).bind (fzOut [.tmp 0] st false H) else none := (rfl)
theorem l12_comes_call (cap args : List CV) (H : Heap) : call ctx (.fn (.func 15) [] cap) args H = (snapL H false false (args ++ cap)).bind (l12_comes_F (CV.refs (args ++ cap)) H) := fz_call rfl (show ctx.info 15 = some l12_comes_I by kernel_rfl) cap args H
noncomputable def r04_Small_F (st : Bool) (H : Heap) (xs : List CV) : Option (CV × Heap) := fzE ctx false 1 r04_Small_C [.tmp 2] st H xs
theorem r04_Small_F_eq (st : Bool) (H : Heap) (xs : List CV) : r04_Small_F st H xs = if xs.length = 1 then (eval ctx r04_Small_C (enterC 0 xs) ⟨[], []⟩).bind (fzOut [.tmp 2] st false H) else none := (rfl)
theorem r04_Small_call (cap args : List CV) (H : Heap) : call ctx (.fn (.func 16) [] cap) args H = (snapL H false false (args ++ cap)).bind (r04_Small_F (CV.refs (args ++ cap)) H) := fz_call rfl (show ctx.info 16 = some r04_Small_I by kernel_rfl) cap args H
noncomputable def l12_few_F (st : Bool) (H : Heap) (xs : List CV) : Option (CV × Heap) := fzE ctx false 1 l12_few_C [.tmp 2] st H xs
theorem l12_few_F_eq (st : Bool) (H : Heap) (xs : List CV) : l12_few_F st H xs = if xs.length = 1 then (eval ctx l12_few_C (enterC 0 xs) ⟨[], []⟩).bind (fzOut [.tmp 2] st false H) else none := (rfl)
theorem l12_few_call (cap args : List CV) (H : Heap) : call ctx (.fn (.func 17) [] cap) args H = (snapL H false false (args ++ cap)).bind (l12_few_F (CV.refs (args ++ cap)) H) := fz_call rfl (show ctx.info 17 = some l12_few_I by kernel_rfl) cap args H
noncomputable def r05_Full_F (st : Bool) (H : Heap) (xs : List CV) : Option (CV × Heap) := fzE ctx false 1 r05_Full_C [.cell 2 true 10] st H xs
theorem r05_Full_F_eq (st : Bool) (H : Heap) (xs : List CV) : r05_Full_F st H xs = if xs.length = 1 then (eval ctx r05_Full_C (enterC 0 xs) ⟨[], []⟩).bind (fzOut [.cell 2 true 10] st false H) else none := (rfl)
theorem r05_Full_call (cap args : List CV) (H : Heap) : call ctx (.fn (.func 18) [] cap) args H = (snapL H false false (args ++ cap)).bind (r05_Full_F (CV.refs (args ++ cap)) H) := fz_call rfl (show ctx.info 18 = some r05_Full_I by kernel_rfl) cap args H
noncomputable def l12_views_F (st : Bool) (H : Heap) (xs : List CV) : Option (CV × Heap) := fzE ctx false 2 l12_views_C [.tmp 4, .tmp 5] st H xs
theorem l12_views_F_eq (st : Bool) (H : Heap) (xs : List CV) : l12_views_F st H xs = if xs.length = 2 then (eval ctx l12_views_C (enterC 0 xs) ⟨[], []⟩).bind (fzOut [.tmp 4, .tmp 5] st false H) else none := (rfl)
theorem l12_views_call (cap args : List CV) (H : Heap) : call ctx (.fn (.func 19) [] cap) args H = (snapL H false false (args ++ cap)).bind (l12_views_F (CV.refs (args ++ cap)) H) := fz_call rfl (show ctx.info 19 = some l12_views_I by kernel_rfl) cap args H
noncomputable def l12_owners_F (st : Bool) (H : Heap) (xs : List CV) : Option (CV × Heap) := fzE ctx false 2 l12_owners_C [.tmp 4] st H xs
theorem l12_owners_F_eq (st : Bool) (H : Heap) (xs : List CV) : l12_owners_F st H xs = if xs.length = 2 then (eval ctx l12_owners_C (enterC 0 xs) ⟨[], []⟩).bind (fzOut [.tmp 4] st false H) else none := (rfl)
theorem l12_owners_call (cap args : List CV) (H : Heap) : call ctx (.fn (.func 20) [] cap) args H = (snapL H false false (args ++ cap)).bind (l12_owners_F (CV.refs (args ++ cap)) H) := fz_call rfl (show ctx.info 20 = some l12_owners_I by kernel_rfl) cap args H
noncomputable def r01_Ints_F (st : Bool) (H : Heap) (xs : List CV) : Option (CV × Heap) := fzE ctx false 2 r01_Ints_C [.tmp 4] st H xs
theorem r01_Ints_F_eq (st : Bool) (H : Heap) (xs : List CV) : r01_Ints_F st H xs = if xs.length = 2 then (eval ctx r01_Ints_C (enterC 0 xs) ⟨[], []⟩).bind (fzOut [.tmp 4] st false H) else none := (rfl)
theorem r01_Ints_call (cap args : List CV) (H : Heap) : call ctx (.fn (.func 21) [] cap) args H = (snapL H false false (args ++ cap)).bind (r01_Ints_F (CV.refs (args ++ cap)) H) := fz_call rfl (show ctx.info 21 = some r01_Ints_I by kernel_rfl) cap args H
noncomputable def own_Next_F (st : Bool) (H : Heap) (xs : List CV) : Option (CV × Heap) := fzE ctx false 4 own_Next_C [.tmp 8] st H xs
theorem own_Next_F_eq (st : Bool) (H : Heap) (xs : List CV) : own_Next_F st H xs = if xs.length = 4 then (eval ctx own_Next_C (enterC 0 xs) ⟨[], []⟩).bind (fzOut [.tmp 8] st false H) else none := (rfl)
theorem own_Next_call (cap args : List CV) (H : Heap) : call ctx (.fn (.func 22) [] cap) args H = (snapL H false false (args ++ cap)).bind (own_Next_F (CV.refs (args ++ cap)) H) := fz_call rfl (show ctx.info 22 = some own_Next_I by kernel_rfl) cap args H
noncomputable def l12_clear_F (st : Bool) (H : Heap) (xs : List CV) : Option (CV × Heap) := fzE ctx false 2 l12_clear_C [.tmp 4] st H xs
theorem l12_clear_F_eq (st : Bool) (H : Heap) (xs : List CV) : l12_clear_F st H xs = if xs.length = 2 then (eval ctx l12_clear_C (enterC 0 xs) ⟨[], []⟩).bind (fzOut [.tmp 4] st false H) else none := (rfl)
theorem l12_clear_call (cap args : List CV) (H : Heap) : call ctx (.fn (.func 23) [] cap) args H = (snapL H false false (args ++ cap)).bind (l12_clear_F (CV.refs (args ++ cap)) H) := fz_call rfl (show ctx.info 23 = some l12_clear_I by kernel_rfl) cap args H
noncomputable def r12_Next_F (st : Bool) (H : Heap) (xs : List CV) : Option (CV × Heap) := fzE ctx false 4 r12_Next_C [.tmp 8] st H xs
theorem r12_Next_F_eq (st : Bool) (H : Heap) (xs : List CV) : r12_Next_F st H xs = if xs.length = 4 then (eval ctx r12_Next_C (enterC 0 xs) ⟨[], []⟩).bind (fzOut [.tmp 8] st false H) else none := (rfl)
theorem r12_Next_call (cap args : List CV) (H : Heap) : call ctx (.fn (.func 24) [] cap) args H = (snapL H false false (args ++ cap)).bind (r12_Next_F (CV.refs (args ++ cap)) H) := fz_call rfl (show ctx.info 24 = some r12_Next_I by kernel_rfl) cap args H
noncomputable def r12_Find_F (bx : List (Nat × List CV)) (bl : List Blk) (xs : List CV) : Option (CV × Heap) := if xs.length = 2 then (eval ctx r12_Find_C (enterC 0 xs) ⟨[], bl⟩).bind (refOut [.cell 4 true 3, .tmp 5] bx) else none
theorem r12_Find_F_eq (bx : List (Nat × List CV)) (bl : List Blk) (xs : List CV) : r12_Find_F bx bl xs = if xs.length = 2 then (eval ctx r12_Find_C (enterC 0 xs) ⟨[], bl⟩).bind (refOut [.cell 4 true 3, .tmp 5] bx) else none := (rfl)
theorem r12_Find_call (cap args : List CV) (bx : List (Nat × List CV)) (bl : List Blk) : call ctx (.fn (.func 25) [] cap) args ⟨bx, bl⟩ = if CV.locs (args ++ cap) then none else r12_Find_F bx bl (args ++ cap) := ref_call rfl (show ctx.info 25 = some r12_Find_I by kernel_rfl) cap args bx bl
noncomputable def r05_Beside_F (st : Bool) (H : Heap) (xs : List CV) : Option (CV × Heap) := fzE ctx false 2 r05_Beside_C [.tmp 4] st H xs
theorem r05_Beside_F_eq (st : Bool) (H : Heap) (xs : List CV) : r05_Beside_F st H xs = if xs.length = 2 then (eval ctx r05_Beside_C (enterC 0 xs) ⟨[], []⟩).bind (fzOut [.tmp 4] st false H) else none := (rfl)
theorem r05_Beside_call (cap args : List CV) (H : Heap) : call ctx (.fn (.func 26) [] cap) args H = (snapL H false false (args ++ cap)).bind (r05_Beside_F (CV.refs (args ++ cap)) H) := fz_call rfl (show ctx.info 26 = some r05_Beside_I by kernel_rfl) cap args H
noncomputable def r11_Meets_F (st : Bool) (H : Heap) (xs : List CV) : Option (CV × Heap) := fzE ctx false 2 r11_Meets_C [.tmp 4] st H xs
theorem r11_Meets_F_eq (st : Bool) (H : Heap) (xs : List CV) : r11_Meets_F st H xs = if xs.length = 2 then (eval ctx r11_Meets_C (enterC 0 xs) ⟨[], []⟩).bind (fzOut [.tmp 4] st false H) else none := (rfl)
theorem r11_Meets_call (cap args : List CV) (H : Heap) : call ctx (.fn (.func 27) [] cap) args H = (snapL H false false (args ++ cap)).bind (r11_Meets_F (CV.refs (args ++ cap)) H) := fz_call rfl (show ctx.info 27 = some r11_Meets_I by kernel_rfl) cap args H
noncomputable def own_Find_F (bx : List (Nat × List CV)) (bl : List Blk) (xs : List CV) : Option (CV × Heap) := if xs.length = 2 then (eval ctx own_Find_C (enterC 0 xs) ⟨[], bl⟩).bind (refOut [.cell 4 true 3, .tmp 5] bx) else none
theorem own_Find_F_eq (bx : List (Nat × List CV)) (bl : List Blk) (xs : List CV) : own_Find_F bx bl xs = if xs.length = 2 then (eval ctx own_Find_C (enterC 0 xs) ⟨[], bl⟩).bind (refOut [.cell 4 true 3, .tmp 5] bx) else none := (rfl)
theorem own_Find_call (cap args : List CV) (bx : List (Nat × List CV)) (bl : List Blk) : call ctx (.fn (.func 28) [] cap) args ⟨bx, bl⟩ = if CV.locs (args ++ cap) then none else own_Find_F bx bl (args ++ cap) := ref_call rfl (show ctx.info 28 = some own_Find_I by kernel_rfl) cap args bx bl
noncomputable def own_Start_F (st : Bool) (H : Heap) (xs : List CV) : Option (CV × Heap) := fzE ctx false 1 own_Start_C [.tmp 2] st H xs
theorem own_Start_F_eq (st : Bool) (H : Heap) (xs : List CV) : own_Start_F st H xs = if xs.length = 1 then (eval ctx own_Start_C (enterC 0 xs) ⟨[], []⟩).bind (fzOut [.tmp 2] st false H) else none := (rfl)
theorem own_Start_call (cap args : List CV) (H : Heap) : call ctx (.fn (.func 29) [] cap) args H = (snapL H false false (args ++ cap)).bind (own_Start_F (CV.refs (args ++ cap)) H) := fz_call rfl (show ctx.info 29 = some own_Start_I by kernel_rfl) cap args H
noncomputable def own_Declare_F (st : Bool) (H : Heap) (xs : List CV) : Option (CV × Heap) := fzE ctx false 6 own_Declare_C [.tmp 12, .tmp 13] st H xs
theorem own_Declare_F_eq (st : Bool) (H : Heap) (xs : List CV) : own_Declare_F st H xs = if xs.length = 6 then (eval ctx own_Declare_C (enterC 0 xs) ⟨[], []⟩).bind (fzOut [.tmp 12, .tmp 13] st false H) else none := (rfl)
theorem own_Declare_call (cap args : List CV) (H : Heap) : call ctx (.fn (.func 30) [] cap) args H = (snapL H false false (args ++ cap)).bind (own_Declare_F (CV.refs (args ++ cap)) H) := fz_call rfl (show ctx.info 30 = some own_Declare_I by kernel_rfl) cap args H
noncomputable def r12_Declare_F (st : Bool) (H : Heap) (xs : List CV) : Option (CV × Heap) := fzE ctx false 6 r12_Declare_C [.tmp 12, .tmp 13] st H xs
theorem r12_Declare_F_eq (st : Bool) (H : Heap) (xs : List CV) : r12_Declare_F st H xs = if xs.length = 6 then (eval ctx r12_Declare_C (enterC 0 xs) ⟨[], []⟩).bind (fzOut [.tmp 12, .tmp 13] st false H) else none := (rfl)
theorem r12_Declare_call (cap args : List CV) (H : Heap) : call ctx (.fn (.func 31) [] cap) args H = (snapL H false false (args ++ cap)).bind (r12_Declare_F (CV.refs (args ++ cap)) H) := fz_call rfl (show ctx.info 31 = some r12_Declare_I by kernel_rfl) cap args H
noncomputable def r01_Rise_F (st : Bool) (H : Heap) (xs : List CV) : Option (CV × Heap) := fzE ctx false 1 r01_Rise_C [.tmp 2] st H xs
theorem r01_Rise_F_eq (st : Bool) (H : Heap) (xs : List CV) : r01_Rise_F st H xs = if xs.length = 1 then (eval ctx r01_Rise_C (enterC 0 xs) ⟨[], []⟩).bind (fzOut [.tmp 2] st false H) else none := (rfl)
theorem r01_Rise_call (cap args : List CV) (H : Heap) : call ctx (.fn (.func 44) [] cap) args H = (snapL H false false (args ++ cap)).bind (r01_Rise_F (CV.refs (args ++ cap)) H) := fz_call rfl (show ctx.info 44 = some r01_Rise_I by kernel_rfl) cap args H
noncomputable def r04_Make_F (st : Bool) (H : Heap) (xs : List CV) : Option (CV × Heap) := fzE ctx true 1 r04_Make_C [.cell 2 true 10] st H xs
theorem r04_Make_F_eq (st : Bool) (H : Heap) (xs : List CV) : r04_Make_F st H xs = if xs.length = 1 then (eval ctx r04_Make_C (enterC 0 xs) ⟨[], []⟩).bind (fzOut [.cell 2 true 10] st true H) else none := (rfl)
theorem r04_Make_call (cap args : List CV) (H : Heap) : call ctx (.fn (.func 47) [] cap) args H = (snapL H false false (args ++ cap)).bind (r04_Make_F (CV.refs (args ++ cap)) H) := fz_call rfl (show ctx.info 47 = some r04_Make_I by kernel_rfl) cap args H
noncomputable def r05_Walk_F (st : Bool) (H : Heap) (xs : List CV) : Option (CV × Heap) := fzE ctx false 5 r05_Walk_C [.tmp 10] st H xs
theorem r05_Walk_F_eq (st : Bool) (H : Heap) (xs : List CV) : r05_Walk_F st H xs = if xs.length = 5 then (eval ctx r05_Walk_C (enterC 0 xs) ⟨[], []⟩).bind (fzOut [.tmp 10] st false H) else none := (rfl)
theorem r05_Walk_call (cap args : List CV) (H : Heap) : call ctx (.fn (.func 48) [] cap) args H = (snapL H false false (args ++ cap)).bind (r05_Walk_F (CV.refs (args ++ cap)) H) := fz_call rfl (show ctx.info 48 = some r05_Walk_I by kernel_rfl) cap args H
noncomputable def r01_Has_F (st : Bool) (H : Heap) (xs : List CV) : Option (CV × Heap) := fzE ctx false 2 r01_Has_C [.tmp 4] st H xs
theorem r01_Has_F_eq (st : Bool) (H : Heap) (xs : List CV) : r01_Has_F st H xs = if xs.length = 2 then (eval ctx r01_Has_C (enterC 0 xs) ⟨[], []⟩).bind (fzOut [.tmp 4] st false H) else none := (rfl)
theorem r01_Has_call (cap args : List CV) (H : Heap) : call ctx (.fn (.func 49) [] cap) args H = (snapL H false false (args ++ cap)).bind (r01_Has_F (CV.refs (args ++ cap)) H) := fz_call rfl (show ctx.info 49 = some r01_Has_I by kernel_rfl) cap args H
noncomputable def graph_New_F (st : Bool) (H : Heap) (xs : List CV) : Option (CV × Heap) := fzE ctx false 1 graph_New_C [.tmp 2] st H xs
theorem graph_New_F_eq (st : Bool) (H : Heap) (xs : List CV) : graph_New_F st H xs = if xs.length = 1 then (eval ctx graph_New_C (enterC 0 xs) ⟨[], []⟩).bind (fzOut [.tmp 2] st false H) else none := (rfl)
theorem graph_New_call (cap args : List CV) (H : Heap) : call ctx (.fn (.func 50) [] cap) args H = (snapL H false false (args ++ cap)).bind (graph_New_F (CV.refs (args ++ cap)) H) := fz_call rfl (show ctx.info 50 = some graph_New_I by kernel_rfl) cap args H
noncomputable def own_alone_F (st : Bool) (H : Heap) (xs : List CV) : Option (CV × Heap) := fzE ctx false 3 own_alone_C [.tmp 6] st H xs
theorem own_alone_F_eq (st : Bool) (H : Heap) (xs : List CV) : own_alone_F st H xs = if xs.length = 3 then (eval ctx own_alone_C (enterC 0 xs) ⟨[], []⟩).bind (fzOut [.tmp 6] st false H) else none := (rfl)
theorem own_alone_call (cap args : List CV) (H : Heap) : call ctx (.fn (.func 51) [] cap) args H = (snapL H false false (args ++ cap)).bind (own_alone_F (CV.refs (args ++ cap)) H) := fz_call rfl (show ctx.info 51 = some own_alone_I by kernel_rfl) cap args H
noncomputable def own_holds_F (st : Bool) (H : Heap) (xs : List CV) : Option (CV × Heap) := fzE ctx false 4 own_holds_C [.tmp 8] st H xs
theorem own_holds_F_eq (st : Bool) (H : Heap) (xs : List CV) : own_holds_F st H xs = if xs.length = 4 then (eval ctx own_holds_C (enterC 0 xs) ⟨[], []⟩).bind (fzOut [.tmp 8] st false H) else none := (rfl)
theorem own_holds_call (cap args : List CV) (H : Heap) : call ctx (.fn (.func 52) [] cap) args H = (snapL H false false (args ++ cap)).bind (own_holds_F (CV.refs (args ++ cap)) H) := fz_call rfl (show ctx.info 52 = some own_holds_I by kernel_rfl) cap args H
noncomputable def r12_holds_F (st : Bool) (H : Heap) (xs : List CV) : Option (CV × Heap) := fzE ctx false 4 r12_holds_C [.tmp 8] st H xs
theorem r12_holds_F_eq (st : Bool) (H : Heap) (xs : List CV) : r12_holds_F st H xs = if xs.length = 4 then (eval ctx r12_holds_C (enterC 0 xs) ⟨[], []⟩).bind (fzOut [.tmp 8] st false H) else none := (rfl)
theorem r12_holds_call (cap args : List CV) (H : Heap) : call ctx (.fn (.func 53) [] cap) args H = (snapL H false false (args ++ cap)).bind (r12_holds_F (CV.refs (args ++ cap)) H) := fz_call rfl (show ctx.info 53 = some r12_holds_I by kernel_rfl) cap args H
noncomputable def r05_Near_F (st : Bool) (H : Heap) (xs : List CV) : Option (CV × Heap) := fzE ctx false 2 r05_Near_C [.tmp 4] st H xs
theorem r05_Near_F_eq (st : Bool) (H : Heap) (xs : List CV) : r05_Near_F st H xs = if xs.length = 2 then (eval ctx r05_Near_C (enterC 0 xs) ⟨[], []⟩).bind (fzOut [.tmp 4] st false H) else none := (rfl)
theorem r05_Near_call (cap args : List CV) (H : Heap) : call ctx (.fn (.func 54) [] cap) args H = (snapL H false false (args ++ cap)).bind (r05_Near_F (CV.refs (args ++ cap)) H) := fz_call rfl (show ctx.info 54 = some r05_Near_I by kernel_rfl) cap args H
noncomputable def r05_Part_F (st : Bool) (H : Heap) (xs : List CV) : Option (CV × Heap) := fzE ctx false 2 r05_Part_C [.tmp 4] st H xs
theorem r05_Part_F_eq (st : Bool) (H : Heap) (xs : List CV) : r05_Part_F st H xs = if xs.length = 2 then (eval ctx r05_Part_C (enterC 0 xs) ⟨[], []⟩).bind (fzOut [.tmp 4] st false H) else none := (rfl)
theorem r05_Part_call (cap args : List CV) (H : Heap) : call ctx (.fn (.func 55) [] cap) args H = (snapL H false false (args ++ cap)).bind (r05_Part_F (CV.refs (args ++ cap)) H) := fz_call rfl (show ctx.info 55 = some r05_Part_I by kernel_rfl) cap args H
noncomputable def slices_IndexFunc_View_F (st : Bool) (H : Heap) (xs : List CV) : Option (CV × Heap) := fzE ctx false 2 slices_IndexFunc_View_C [.tmp 4] st H xs
theorem slices_IndexFunc_View_F_eq (st : Bool) (H : Heap) (xs : List CV) : slices_IndexFunc_View_F st H xs = if xs.length = 2 then (eval ctx slices_IndexFunc_View_C (enterC 0 xs) ⟨[], []⟩).bind (fzOut [.tmp 4] st false H) else none := (rfl)
theorem slices_IndexFunc_View_call (cap args : List CV) (H : Heap) : call ctx (.fn (.func 56) [] cap) args H = (snapL H false false (args ++ cap)).bind (slices_IndexFunc_View_F (CV.refs (args ++ cap)) H) := fz_call rfl (show ctx.info 56 = some slices_IndexFunc_View_I by kernel_rfl) cap args H
noncomputable def own_Find_1_F (st : Bool) (H : Heap) (xs : List CV) : Option (CV × Heap) := fzE ctx false 2 own_Find_1_C [.tmp 3] st H xs
theorem own_Find_1_F_eq (st : Bool) (H : Heap) (xs : List CV) : own_Find_1_F st H xs = if xs.length = 2 then (eval ctx own_Find_1_C (enterC 0 xs) ⟨[], []⟩).bind (fzOut [.tmp 3] st false H) else none := (rfl)
theorem own_Find_1_call (cap args : List CV) (H : Heap) : call ctx (.fn (.func 57) [] cap) args H = (snapL H false false (args ++ cap)).bind (own_Find_1_F (CV.refs (args ++ cap)) H) := fz_call rfl (show ctx.info 57 = some own_Find_1_I by kernel_rfl) cap args H
noncomputable def slices_Repeat_int_F (st : Bool) (H : Heap) (xs : List CV) : Option (CV × Heap) := fzE ctx false 2 slices_Repeat_int_C [.tmp 4] st H xs
theorem slices_Repeat_int_F_eq (st : Bool) (H : Heap) (xs : List CV) : slices_Repeat_int_F st H xs = if xs.length = 2 then (eval ctx slices_Repeat_int_C (enterC 0 xs) ⟨[], []⟩).bind (fzOut [.tmp 4] st false H) else none := (rfl)
theorem slices_Repeat_int_call (cap args : List CV) (H : Heap) : call ctx (.fn (.func 58) [] cap) args H = (snapL H false false (args ++ cap)).bind (slices_Repeat_int_F (CV.refs (args ++ cap)) H) := fz_call rfl (show ctx.info 58 = some slices_Repeat_int_I by kernel_rfl) cap args H
noncomputable def slices_Clone_int_F (st : Bool) (H : Heap) (xs : List CV) : Option (CV × Heap) := oE ctx 1 slices_Clone_int_C [.tmp 2] st H xs
theorem slices_Clone_int_F_eq (st : Bool) (H : Heap) (xs : List CV) : slices_Clone_int_F st H xs = if xs.length = 1 then (eval ctx slices_Clone_int_C (enterC 0 xs) ⟨[], []⟩).bind (ownOut [.tmp 2] st H) else none := (rfl)
theorem slices_Clone_int_call (cap args : List CV) (H : Heap) : call ctx (.fn (.func 59) [] cap) args H = (snapL H false false (args ++ cap)).bind (slices_Clone_int_F (CV.refs (args ++ cap)) H) := own_call rfl (show ctx.info 59 = some slices_Clone_int_I by kernel_rfl) cap args H
noncomputable def graph_Graph_Len_F (st : Bool) (H : Heap) (xs : List CV) : Option (CV × Heap) := fzE ctx false 2 graph_Graph_Len_C [.tmp 4] st H xs
theorem graph_Graph_Len_F_eq (st : Bool) (H : Heap) (xs : List CV) : graph_Graph_Len_F st H xs = if xs.length = 2 then (eval ctx graph_Graph_Len_C (enterC 0 xs) ⟨[], []⟩).bind (fzOut [.tmp 4] st false H) else none := (rfl)
theorem graph_Graph_Len_call (cap args : List CV) (H : Heap) : call ctx (.fn (.func 65) [] cap) args H = (snapL H false false (args ++ cap)).bind (graph_Graph_Len_F (CV.refs (args ++ cap)) H) := fz_call rfl (show ctx.info 65 = some graph_Graph_Len_I by kernel_rfl) cap args H
noncomputable def slices_ContainsFunc_int_F (st : Bool) (H : Heap) (xs : List CV) : Option (CV × Heap) := fzE ctx false 2 slices_ContainsFunc_int_C [.tmp 4] st H xs
theorem slices_ContainsFunc_int_F_eq (st : Bool) (H : Heap) (xs : List CV) : slices_ContainsFunc_int_F st H xs = if xs.length = 2 then (eval ctx slices_ContainsFunc_int_C (enterC 0 xs) ⟨[], []⟩).bind (fzOut [.tmp 4] st false H) else none := (rfl)
theorem slices_ContainsFunc_int_call (cap args : List CV) (H : Heap) : call ctx (.fn (.func 69) [] cap) args H = (snapL H false false (args ++ cap)).bind (slices_ContainsFunc_int_F (CV.refs (args ++ cap)) H) := fz_call rfl (show ctx.info 69 = some slices_ContainsFunc_int_I by kernel_rfl) cap args H
noncomputable def slices_Contains_int_F (st : Bool) (H : Heap) (xs : List CV) : Option (CV × Heap) := fzE ctx false 2 slices_Contains_int_C [.tmp 4] st H xs
theorem slices_Contains_int_F_eq (st : Bool) (H : Heap) (xs : List CV) : slices_Contains_int_F st H xs = if xs.length = 2 then (eval ctx slices_Contains_int_C (enterC 0 xs) ⟨[], []⟩).bind (fzOut [.tmp 4] st false H) else none := (rfl)
theorem slices_Contains_int_call (cap args : List CV) (H : Heap) : call ctx (.fn (.func 73) [] cap) args H = (snapL H false false (args ++ cap)).bind (slices_Contains_int_F (CV.refs (args ++ cap)) H) := fz_call rfl (show ctx.info 73 = some slices_Contains_int_I by kernel_rfl) cap args H
noncomputable def r05_Len_F (st : Bool) (H : Heap) (xs : List CV) : Option (CV × Heap) := fzE ctx false 2 r05_Len_C [.tmp 4] st H xs
theorem r05_Len_F_eq (st : Bool) (H : Heap) (xs : List CV) : r05_Len_F st H xs = if xs.length = 2 then (eval ctx r05_Len_C (enterC 0 xs) ⟨[], []⟩).bind (fzOut [.tmp 4] st false H) else none := (rfl)
theorem r05_Len_call (cap args : List CV) (H : Heap) : call ctx (.fn (.func 75) [] cap) args H = (snapL H false false (args ++ cap)).bind (r05_Len_F (CV.refs (args ++ cap)) H) := fz_call rfl (show ctx.info 75 = some r05_Len_I by kernel_rfl) cap args H
noncomputable def r05_Around_F (st : Bool) (H : Heap) (xs : List CV) : Option (CV × Heap) := fzE ctx false 2 r05_Around_C [.tmp 4] st H xs
theorem r05_Around_F_eq (st : Bool) (H : Heap) (xs : List CV) : r05_Around_F st H xs = if xs.length = 2 then (eval ctx r05_Around_C (enterC 0 xs) ⟨[], []⟩).bind (fzOut [.tmp 4] st false H) else none := (rfl)
theorem r05_Around_call (cap args : List CV) (H : Heap) : call ctx (.fn (.func 78) [] cap) args H = (snapL H false false (args ++ cap)).bind (r05_Around_F (CV.refs (args ++ cap)) H) := fz_call rfl (show ctx.info 78 = some r05_Around_I by kernel_rfl) cap args H
noncomputable def graph_Graph_Beside_F (st : Bool) (H : Heap) (xs : List CV) : Option (CV × Heap) := fzE ctx false 2 graph_Graph_Beside_C [.tmp 4] st H xs
theorem graph_Graph_Beside_F_eq (st : Bool) (H : Heap) (xs : List CV) : graph_Graph_Beside_F st H xs = if xs.length = 2 then (eval ctx graph_Graph_Beside_C (enterC 0 xs) ⟨[], []⟩).bind (fzOut [.tmp 4] st false H) else none := (rfl)
theorem graph_Graph_Beside_call (cap args : List CV) (H : Heap) : call ctx (.fn (.func 79) [] cap) args H = (snapL H false false (args ++ cap)).bind (graph_Graph_Beside_F (CV.refs (args ++ cap)) H) := fz_call rfl (show ctx.info 79 = some graph_Graph_Beside_I by kernel_rfl) cap args H
noncomputable def chain_Meets_F (st : Bool) (H : Heap) (xs : List CV) : Option (CV × Heap) := fzE ctx false 2 chain_Meets_C [.tmp 4] st H xs
theorem chain_Meets_F_eq (st : Bool) (H : Heap) (xs : List CV) : chain_Meets_F st H xs = if xs.length = 2 then (eval ctx chain_Meets_C (enterC 0 xs) ⟨[], []⟩).bind (fzOut [.tmp 4] st false H) else none := (rfl)
theorem chain_Meets_call (cap args : List CV) (H : Heap) : call ctx (.fn (.func 80) [] cap) args H = (snapL H false false (args ++ cap)).bind (chain_Meets_F (CV.refs (args ++ cap)) H) := fz_call rfl (show ctx.info 80 = some chain_Meets_I by kernel_rfl) cap args H
noncomputable def math_bits_Mul_F (st : Bool) (H : Heap) (xs : List CV) : Option (CV × Heap) := fzE ctx false 2 math_bits_Mul_C [.tmp 4, .tmp 5] st H xs
theorem math_bits_Mul_F_eq (st : Bool) (H : Heap) (xs : List CV) : math_bits_Mul_F st H xs = if xs.length = 2 then (eval ctx math_bits_Mul_C (enterC 0 xs) ⟨[], []⟩).bind (fzOut [.tmp 4, .tmp 5] st false H) else none := (rfl)
theorem math_bits_Mul_call (cap args : List CV) (H : Heap) : call ctx (.fn (.func 81) [] cap) args H = (snapL H false false (args ++ cap)).bind (math_bits_Mul_F (CV.refs (args ++ cap)) H) := fz_call rfl (show ctx.info 81 = some math_bits_Mul_I by kernel_rfl) cap args H
noncomputable def graph_Graph_section_F (st : Bool) (H : Heap) (xs : List CV) : Option (CV × Heap) := fzE ctx false 2 graph_Graph_section_C [.cell 4 true 3, .tmp 5] st H xs
theorem graph_Graph_section_F_eq (st : Bool) (H : Heap) (xs : List CV) : graph_Graph_section_F st H xs = if xs.length = 2 then (eval ctx graph_Graph_section_C (enterC 0 xs) ⟨[], []⟩).bind (fzOut [.cell 4 true 3, .tmp 5] st false H) else none := (rfl)
theorem graph_Graph_section_call (cap args : List CV) (H : Heap) : call ctx (.fn (.func 84) [] cap) args H = (snapL H false false (args ++ cap)).bind (graph_Graph_section_F (CV.refs (args ++ cap)) H) := fz_call rfl (show ctx.info 84 = some graph_Graph_section_I by kernel_rfl) cap args H
noncomputable def graph_Graph_Around_F (st : Bool) (H : Heap) (xs : List CV) : Option (CV × Heap) := fzE ctx false 2 graph_Graph_Around_C [.tmp 4] st H xs
theorem graph_Graph_Around_F_eq (st : Bool) (H : Heap) (xs : List CV) : graph_Graph_Around_F st H xs = if xs.length = 2 then (eval ctx graph_Graph_Around_C (enterC 0 xs) ⟨[], []⟩).bind (fzOut [.tmp 4] st false H) else none := (rfl)
theorem graph_Graph_Around_call (cap args : List CV) (H : Heap) : call ctx (.fn (.func 86) [] cap) args H = (snapL H false false (args ++ cap)).bind (graph_Graph_Around_F (CV.refs (args ++ cap)) H) := fz_call rfl (show ctx.info 86 = some graph_Graph_Around_I by kernel_rfl) cap args H
noncomputable def slices_IndexFunc_End_F (st : Bool) (H : Heap) (xs : List CV) : Option (CV × Heap) := fzE ctx false 2 slices_IndexFunc_End_C [.tmp 4] st H xs
theorem slices_IndexFunc_End_F_eq (st : Bool) (H : Heap) (xs : List CV) : slices_IndexFunc_End_F st H xs = if xs.length = 2 then (eval ctx slices_IndexFunc_End_C (enterC 0 xs) ⟨[], []⟩).bind (fzOut [.tmp 4] st false H) else none := (rfl)
theorem slices_IndexFunc_End_call (cap args : List CV) (H : Heap) : call ctx (.fn (.func 87) [] cap) args H = (snapL H false false (args ++ cap)).bind (slices_IndexFunc_End_F (CV.refs (args ++ cap)) H) := fz_call rfl (show ctx.info 87 = some slices_IndexFunc_End_I by kernel_rfl) cap args H
noncomputable def slices_IndexFunc_Int_F (st : Bool) (H : Heap) (xs : List CV) : Option (CV × Heap) := fzE ctx false 2 slices_IndexFunc_Int_C [.tmp 4] st H xs
theorem slices_IndexFunc_Int_F_eq (st : Bool) (H : Heap) (xs : List CV) : slices_IndexFunc_Int_F st H xs = if xs.length = 2 then (eval ctx slices_IndexFunc_Int_C (enterC 0 xs) ⟨[], []⟩).bind (fzOut [.tmp 4] st false H) else none := (rfl)
theorem slices_IndexFunc_Int_call (cap args : List CV) (H : Heap) : call ctx (.fn (.func 89) [] cap) args H = (snapL H false false (args ++ cap)).bind (slices_IndexFunc_Int_F (CV.refs (args ++ cap)) H) := fz_call rfl (show ctx.info 89 = some slices_IndexFunc_Int_I by kernel_rfl) cap args H
noncomputable def slices_Sort_int_F (bx : List (Nat × List CV)) (bl : List Blk) (xs : List CV) : Option (CV × Heap) := if xs.length = 1 then (eval ctx slices_Sort_int_C (enterC 0 xs) ⟨[], bl⟩).bind (refOut [] bx) else none
theorem slices_Sort_int_F_eq (bx : List (Nat × List CV)) (bl : List Blk) (xs : List CV) : slices_Sort_int_F bx bl xs = if xs.length = 1 then (eval ctx slices_Sort_int_C (enterC 0 xs) ⟨[], bl⟩).bind (refOut [] bx) else none := (rfl)
theorem slices_Sort_int_call (cap args : List CV) (bx : List (Nat × List CV)) (bl : List Blk) : call ctx (.fn (.func 91) [] cap) args ⟨bx, bl⟩ = if CV.locs (args ++ cap) then none else slices_Sort_int_F bx bl (args ++ cap) := ref_call rfl (show ctx.info 91 = some slices_Sort_int_I by kernel_rfl) cap args bx bl
noncomputable def slices_Index_int_F (st : Bool) (H : Heap) (xs : List CV) : Option (CV × Heap) := fzE ctx false 2 slices_Index_int_C [.tmp 4] st H xs
theorem slices_Index_int_F_eq (st : Bool) (H : Heap) (xs : List CV) : slices_Index_int_F st H xs = if xs.length = 2 then (eval ctx slices_Index_int_C (enterC 0 xs) ⟨[], []⟩).bind (fzOut [.tmp 4] st false H) else none := (rfl)
theorem slices_Index_int_call (cap args : List CV) (H : Heap) : call ctx (.fn (.func 93) [] cap) args H = (snapL H false false (args ++ cap)).bind (slices_Index_int_F (CV.refs (args ++ cap)) H) := fz_call rfl (show ctx.info 93 = some slices_Index_int_I by kernel_rfl) cap args H
noncomputable def r05_node_F (st : Bool) (H : Heap) (xs : List CV) : Option (CV × Heap) := fzE ctx false 2 r05_node_C [.tmp 4, .tmp 5] st H xs
theorem r05_node_F_eq (st : Bool) (H : Heap) (xs : List CV) : r05_node_F st H xs = if xs.length = 2 then (eval ctx r05_node_C (enterC 0 xs) ⟨[], []⟩).bind (fzOut [.tmp 4, .tmp 5] st false H) else none := (rfl)
theorem r05_node_call (cap args : List CV) (H : Heap) : call ctx (.fn (.func 94) [] cap) args H = (snapL H false false (args ++ cap)).bind (r05_node_F (CV.refs (args ++ cap)) H) := fz_call rfl (show ctx.info 94 = some r05_node_I by kernel_rfl) cap args H
noncomputable def r05_Point_F (st : Bool) (H : Heap) (xs : List CV) : Option (CV × Heap) := fzE ctx false 2 r05_Point_C [.tmp 4] st H xs
theorem r05_Point_F_eq (st : Bool) (H : Heap) (xs : List CV) : r05_Point_F st H xs = if xs.length = 2 then (eval ctx r05_Point_C (enterC 0 xs) ⟨[], []⟩).bind (fzOut [.tmp 4] st false H) else none := (rfl)
theorem r05_Point_call (cap args : List CV) (H : Heap) : call ctx (.fn (.func 95) [] cap) args H = (snapL H false false (args ++ cap)).bind (r05_Point_F (CV.refs (args ++ cap)) H) := fz_call rfl (show ctx.info 95 = some r05_Point_I by kernel_rfl) cap args H
noncomputable def r05_one_F (st : Bool) (H : Heap) (xs : List CV) : Option (CV × Heap) := fzE ctx false 3 r05_one_C [.tmp 6] st H xs
theorem r05_one_F_eq (st : Bool) (H : Heap) (xs : List CV) : r05_one_F st H xs = if xs.length = 3 then (eval ctx r05_one_C (enterC 0 xs) ⟨[], []⟩).bind (fzOut [.tmp 6] st false H) else none := (rfl)
theorem r05_one_call (cap args : List CV) (H : Heap) : call ctx (.fn (.func 96) [] cap) args H = (snapL H false false (args ++ cap)).bind (r05_one_F (CV.refs (args ++ cap)) H) := fz_call rfl (show ctx.info 96 = some r05_one_I by kernel_rfl) cap args H
noncomputable def r05_Ends_F (st : Bool) (H : Heap) (xs : List CV) : Option (CV × Heap) := fzE ctx false 2 r05_Ends_C [.tmp 4] st H xs
theorem r05_Ends_F_eq (st : Bool) (H : Heap) (xs : List CV) : r05_Ends_F st H xs = if xs.length = 2 then (eval ctx r05_Ends_C (enterC 0 xs) ⟨[], []⟩).bind (fzOut [.tmp 4] st false H) else none := (rfl)
theorem r05_Ends_call (cap args : List CV) (H : Heap) : call ctx (.fn (.func 97) [] cap) args H = (snapL H false false (args ++ cap)).bind (r05_Ends_F (CV.refs (args ++ cap)) H) := fz_call rfl (show ctx.info 97 = some r05_Ends_I by kernel_rfl) cap args H
noncomputable def graph_Graph_Near_F (st : Bool) (H : Heap) (xs : List CV) : Option (CV × Heap) := fzE ctx false 2 graph_Graph_Near_C [.tmp 4] st H xs
theorem graph_Graph_Near_F_eq (st : Bool) (H : Heap) (xs : List CV) : graph_Graph_Near_F st H xs = if xs.length = 2 then (eval ctx graph_Graph_Near_C (enterC 0 xs) ⟨[], []⟩).bind (fzOut [.tmp 4] st false H) else none := (rfl)
theorem graph_Graph_Near_call (cap args : List CV) (H : Heap) : call ctx (.fn (.func 98) [] cap) args H = (snapL H false false (args ++ cap)).bind (graph_Graph_Near_F (CV.refs (args ++ cap)) H) := fz_call rfl (show ctx.info 98 = some graph_Graph_Near_I by kernel_rfl) cap args H
noncomputable def graph_Graph_Part_F (st : Bool) (H : Heap) (xs : List CV) : Option (CV × Heap) := fzE ctx false 2 graph_Graph_Part_C [.tmp 4] st H xs
theorem graph_Graph_Part_F_eq (st : Bool) (H : Heap) (xs : List CV) : graph_Graph_Part_F st H xs = if xs.length = 2 then (eval ctx graph_Graph_Part_C (enterC 0 xs) ⟨[], []⟩).bind (fzOut [.tmp 4] st false H) else none := (rfl)
theorem graph_Graph_Part_call (cap args : List CV) (H : Heap) : call ctx (.fn (.func 99) [] cap) args H = (snapL H false false (args ++ cap)).bind (graph_Graph_Part_F (CV.refs (args ++ cap)) H) := fz_call rfl (show ctx.info 99 = some graph_Graph_Part_I by kernel_rfl) cap args H
noncomputable def slices_Compact_int_F (bx : List (Nat × List CV)) (bl : List Blk) (xs : List CV) : Option (CV × Heap) := if xs.length = 1 then (eval ctx slices_Compact_int_C (enterC 0 xs) ⟨[], bl⟩).bind (refOut [.tmp 2] bx) else none
theorem slices_Compact_int_F_eq (bx : List (Nat × List CV)) (bl : List Blk) (xs : List CV) : slices_Compact_int_F bx bl xs = if xs.length = 1 then (eval ctx slices_Compact_int_C (enterC 0 xs) ⟨[], bl⟩).bind (refOut [.tmp 2] bx) else none := (rfl)
theorem slices_Compact_int_call (cap args : List CV) (bx : List (Nat × List CV)) (bl : List Blk) : call ctx (.fn (.func 100) [] cap) args ⟨bx, bl⟩ = if CV.locs (args ++ cap) then none else slices_Compact_int_F bx bl (args ++ cap) := ref_call rfl (show ctx.info 100 = some slices_Compact_int_I by kernel_rfl) cap args bx bl
noncomputable def chain_Meets_1_F (st : Bool) (H : Heap) (xs : List CV) : Option (CV × Heap) := fzE ctx false 2 chain_Meets_1_C [.tmp 3] st H xs
theorem chain_Meets_1_F_eq (st : Bool) (H : Heap) (xs : List CV) : chain_Meets_1_F st H xs = if xs.length = 2 then (eval ctx chain_Meets_1_C (enterC 0 xs) ⟨[], []⟩).bind (fzOut [.tmp 3] st false H) else none := (rfl)
theorem chain_Meets_1_call (cap args : List CV) (H : Heap) : call ctx (.fn (.func 101) [] cap) args H = (snapL H false false (args ++ cap)).bind (chain_Meets_1_F (CV.refs (args ++ cap)) H) := fz_call rfl (show ctx.info 101 = some chain_Meets_1_I by kernel_rfl) cap args H
noncomputable def math_bits_Mul32_F (st : Bool) (H : Heap) (xs : List CV) : Option (CV × Heap) := fzE ctx false 2 math_bits_Mul32_C [.tmp 4, .tmp 5] st H xs
theorem math_bits_Mul32_F_eq (st : Bool) (H : Heap) (xs : List CV) : math_bits_Mul32_F st H xs = if xs.length = 2 then (eval ctx math_bits_Mul32_C (enterC 0 xs) ⟨[], []⟩).bind (fzOut [.tmp 4, .tmp 5] st false H) else none := (rfl)
theorem math_bits_Mul32_call (cap args : List CV) (H : Heap) : call ctx (.fn (.func 102) [] cap) args H = (snapL H false false (args ++ cap)).bind (math_bits_Mul32_F (CV.refs (args ++ cap)) H) := fz_call rfl (show ctx.info 102 = some math_bits_Mul32_I by kernel_rfl) cap args H
noncomputable def math_bits_Mul64_F (st : Bool) (H : Heap) (xs : List CV) : Option (CV × Heap) := fzE ctx false 2 math_bits_Mul64_C [.tmp 4, .tmp 5] st H xs
theorem math_bits_Mul64_F_eq (st : Bool) (H : Heap) (xs : List CV) : math_bits_Mul64_F st H xs = if xs.length = 2 then (eval ctx math_bits_Mul64_C (enterC 0 xs) ⟨[], []⟩).bind (fzOut [.tmp 4, .tmp 5] st false H) else none := (rfl)
theorem math_bits_Mul64_call (cap args : List CV) (H : Heap) : call ctx (.fn (.func 103) [] cap) args H = (snapL H false false (args ++ cap)).bind (math_bits_Mul64_F (CV.refs (args ++ cap)) H) := fz_call rfl (show ctx.info 103 = some math_bits_Mul64_I by kernel_rfl) cap args H
noncomputable def graph_Graph_node_F (st : Bool) (H : Heap) (xs : List CV) : Option (CV × Heap) := fzE ctx false 2 graph_Graph_node_C [.tmp 4, .tmp 5] st H xs
theorem graph_Graph_node_F_eq (st : Bool) (H : Heap) (xs : List CV) : graph_Graph_node_F st H xs = if xs.length = 2 then (eval ctx graph_Graph_node_C (enterC 0 xs) ⟨[], []⟩).bind (fzOut [.tmp 4, .tmp 5] st false H) else none := (rfl)
theorem graph_Graph_node_call (cap args : List CV) (H : Heap) : call ctx (.fn (.func 104) [] cap) args H = (snapL H false false (args ++ cap)).bind (graph_Graph_node_F (CV.refs (args ++ cap)) H) := fz_call rfl (show ctx.info 104 = some graph_Graph_node_I by kernel_rfl) cap args H
noncomputable def graph_Graph_Point_F (st : Bool) (H : Heap) (xs : List CV) : Option (CV × Heap) := fzE ctx false 2 graph_Graph_Point_C [.tmp 4] st H xs
theorem graph_Graph_Point_F_eq (st : Bool) (H : Heap) (xs : List CV) : graph_Graph_Point_F st H xs = if xs.length = 2 then (eval ctx graph_Graph_Point_C (enterC 0 xs) ⟨[], []⟩).bind (fzOut [.tmp 4] st false H) else none := (rfl)
theorem graph_Graph_Point_call (cap args : List CV) (H : Heap) : call ctx (.fn (.func 105) [] cap) args H = (snapL H false false (args ++ cap)).bind (graph_Graph_Point_F (CV.refs (args ++ cap)) H) := fz_call rfl (show ctx.info 105 = some graph_Graph_Point_I by kernel_rfl) cap args H
noncomputable def slices_DeleteFunc_End_F (bx : List (Nat × List CV)) (bl : List Blk) (xs : List CV) : Option (CV × Heap) := if xs.length = 2 then (eval ctx slices_DeleteFunc_End_C (enterC 0 xs) ⟨[], bl⟩).bind (refOut [.tmp 4] bx) else none
theorem slices_DeleteFunc_End_F_eq (bx : List (Nat × List CV)) (bl : List Blk) (xs : List CV) : slices_DeleteFunc_End_F bx bl xs = if xs.length = 2 then (eval ctx slices_DeleteFunc_End_C (enterC 0 xs) ⟨[], bl⟩).bind (refOut [.tmp 4] bx) else none := (rfl)
theorem slices_DeleteFunc_End_call (cap args : List CV) (bx : List (Nat × List CV)) (bl : List Blk) : call ctx (.fn (.func 110) [] cap) args ⟨bx, bl⟩ = if CV.locs (args ++ cap) then none else slices_DeleteFunc_End_F bx bl (args ++ cap) := ref_call rfl (show ctx.info 110 = some slices_DeleteFunc_End_I by kernel_rfl) cap args bx bl
noncomputable def graph_Graph_Ends_F (st : Bool) (H : Heap) (xs : List CV) : Option (CV × Heap) := oE ctx 2 graph_Graph_Ends_C [.tmp 4] st H xs
theorem graph_Graph_Ends_F_eq (st : Bool) (H : Heap) (xs : List CV) : graph_Graph_Ends_F st H xs = if xs.length = 2 then (eval ctx graph_Graph_Ends_C (enterC 0 xs) ⟨[], []⟩).bind (ownOut [.tmp 4] st H) else none := (rfl)
theorem graph_Graph_Ends_call (cap args : List CV) (H : Heap) : call ctx (.fn (.func 111) [] cap) args H = (snapL H false false (args ++ cap)).bind (graph_Graph_Ends_F (CV.refs (args ++ cap)) H) := own_call rfl (show ctx.info 111 = some graph_Graph_Ends_I by kernel_rfl) cap args H
noncomputable def graph_Graph_Around_1_F (st : Bool) (H : Heap) (xs : List CV) : Option (CV × Heap) := fzE ctx false 2 graph_Graph_Around_1_C [.tmp 3] st H xs
theorem graph_Graph_Around_1_F_eq (st : Bool) (H : Heap) (xs : List CV) : graph_Graph_Around_1_F st H xs = if xs.length = 2 then (eval ctx graph_Graph_Around_1_C (enterC 0 xs) ⟨[], []⟩).bind (fzOut [.tmp 3] st false H) else none := (rfl)
theorem graph_Graph_Around_1_call (cap args : List CV) (H : Heap) : call ctx (.fn (.func 112) [] cap) args H = (snapL H false false (args ++ cap)).bind (graph_Graph_Around_1_F (CV.refs (args ++ cap)) H) := fz_call rfl (show ctx.info 112 = some graph_Graph_Around_1_I by kernel_rfl) cap args H
noncomputable def slices_Concat_End_F (st : Bool) (H : Heap) (xs : List CV) : Option (CV × Heap) := fzE ctx false 1 slices_Concat_End_C [.tmp 2] st H xs
theorem slices_Concat_End_F_eq (st : Bool) (H : Heap) (xs : List CV) : slices_Concat_End_F st H xs = if xs.length = 1 then (eval ctx slices_Concat_End_C (enterC 0 xs) ⟨[], []⟩).bind (fzOut [.tmp 2] st false H) else none := (rfl)
theorem slices_Concat_End_call (cap args : List CV) (H : Heap) : call ctx (.fn (.func 113) [] cap) args H = (snapL H false false (args ++ cap)).bind (slices_Concat_End_F (CV.refs (args ++ cap)) H) := fz_call rfl (show ctx.info 113 = some slices_Concat_End_I by kernel_rfl) cap args H
noncomputable def graph_Graph_at_F (st : Bool) (H : Heap) (xs : List CV) : Option (CV × Heap) := fzE ctx false 3 graph_Graph_at_C [.tmp 6] st H xs
theorem graph_Graph_at_F_eq (st : Bool) (H : Heap) (xs : List CV) : graph_Graph_at_F st H xs = if xs.length = 3 then (eval ctx graph_Graph_at_C (enterC 0 xs) ⟨[], []⟩).bind (fzOut [.tmp 6] st false H) else none := (rfl)
theorem graph_Graph_at_call (cap args : List CV) (H : Heap) : call ctx (.fn (.func 114) [] cap) args H = (snapL H false false (args ++ cap)).bind (graph_Graph_at_F (CV.refs (args ++ cap)) H) := fz_call rfl (show ctx.info 114 = some graph_Graph_at_I by kernel_rfl) cap args H
noncomputable def slices_pdqsortOrdered_int_F (bx : List (Nat × List CV)) (bl : List Blk) (xs : List CV) : Option (CV × Heap) := if xs.length = 4 then (eval ctx slices_pdqsortOrdered_int_C (enterC 0 xs) ⟨[], bl⟩).bind (refOut [] bx) else none
theorem slices_pdqsortOrdered_int_F_eq (bx : List (Nat × List CV)) (bl : List Blk) (xs : List CV) : slices_pdqsortOrdered_int_F bx bl xs = if xs.length = 4 then (eval ctx slices_pdqsortOrdered_int_C (enterC 0 xs) ⟨[], bl⟩).bind (refOut [] bx) else none := (rfl)
theorem slices_pdqsortOrdered_int_call (cap args : List CV) (bx : List (Nat × List CV)) (bl : List Blk) : call ctx (.fn (.func 116) [] cap) args ⟨bx, bl⟩ = if CV.locs (args ++ cap) then none else slices_pdqsortOrdered_int_F bx bl (args ++ cap) := ref_call rfl (show ctx.info 116 = some slices_pdqsortOrdered_int_I by kernel_rfl) cap args bx bl
noncomputable def math_bits_Len_F (st : Bool) (H : Heap) (xs : List CV) : Option (CV × Heap) := fzE ctx false 1 math_bits_Len_C [.tmp 2] st H xs
theorem math_bits_Len_F_eq (st : Bool) (H : Heap) (xs : List CV) : math_bits_Len_F st H xs = if xs.length = 1 then (eval ctx math_bits_Len_C (enterC 0 xs) ⟨[], []⟩).bind (fzOut [.tmp 2] st false H) else none := (rfl)
theorem math_bits_Len_call (cap args : List CV) (H : Heap) : call ctx (.fn (.func 117) [] cap) args H = (snapL H false false (args ++ cap)).bind (math_bits_Len_F (CV.refs (args ++ cap)) H) := fz_call rfl (show ctx.info 117 = some math_bits_Len_I by kernel_rfl) cap args H
noncomputable def slices_IndexFunc_int_F (st : Bool) (H : Heap) (xs : List CV) : Option (CV × Heap) := fzE ctx false 2 slices_IndexFunc_int_C [.tmp 4] st H xs
theorem slices_IndexFunc_int_F_eq (st : Bool) (H : Heap) (xs : List CV) : slices_IndexFunc_int_F st H xs = if xs.length = 2 then (eval ctx slices_IndexFunc_int_C (enterC 0 xs) ⟨[], []⟩).bind (fzOut [.tmp 4] st false H) else none := (rfl)
theorem slices_IndexFunc_int_call (cap args : List CV) (H : Heap) : call ctx (.fn (.func 118) [] cap) args H = (snapL H false false (args ++ cap)).bind (slices_IndexFunc_int_F (CV.refs (args ++ cap)) H) := fz_call rfl (show ctx.info 118 = some slices_IndexFunc_int_I by kernel_rfl) cap args H
noncomputable def graph_Graph_Part_1_F (st : Bool) (H : Heap) (xs : List CV) : Option (CV × Heap) := fzE ctx false 2 graph_Graph_Part_1_C [.tmp 3] st H xs
theorem graph_Graph_Part_1_F_eq (st : Bool) (H : Heap) (xs : List CV) : graph_Graph_Part_1_F st H xs = if xs.length = 2 then (eval ctx graph_Graph_Part_1_C (enterC 0 xs) ⟨[], []⟩).bind (fzOut [.tmp 3] st false H) else none := (rfl)
theorem graph_Graph_Part_1_call (cap args : List CV) (H : Heap) : call ctx (.fn (.func 119) [] cap) args H = (snapL H false false (args ++ cap)).bind (graph_Graph_Part_1_F (CV.refs (args ++ cap)) H) := fz_call rfl (show ctx.info 119 = some graph_Graph_Part_1_I by kernel_rfl) cap args H
noncomputable def slices_IndexFunc_Point_F (st : Bool) (H : Heap) (xs : List CV) : Option (CV × Heap) := fzE ctx false 2 slices_IndexFunc_Point_C [.tmp 4] st H xs
theorem slices_IndexFunc_Point_F_eq (st : Bool) (H : Heap) (xs : List CV) : slices_IndexFunc_Point_F st H xs = if xs.length = 2 then (eval ctx slices_IndexFunc_Point_C (enterC 0 xs) ⟨[], []⟩).bind (fzOut [.tmp 4] st false H) else none := (rfl)
theorem slices_IndexFunc_Point_call (cap args : List CV) (H : Heap) : call ctx (.fn (.func 120) [] cap) args H = (snapL H false false (args ++ cap)).bind (slices_IndexFunc_Point_F (CV.refs (args ++ cap)) H) := fz_call rfl (show ctx.info 120 = some slices_IndexFunc_Point_I by kernel_rfl) cap args H
noncomputable def graph_Graph_Point_1_F (st : Bool) (H : Heap) (xs : List CV) : Option (CV × Heap) := fzE ctx false 2 graph_Graph_Point_1_C [.tmp 3] st H xs
theorem graph_Graph_Point_1_F_eq (st : Bool) (H : Heap) (xs : List CV) : graph_Graph_Point_1_F st H xs = if xs.length = 2 then (eval ctx graph_Graph_Point_1_C (enterC 0 xs) ⟨[], []⟩).bind (fzOut [.tmp 3] st false H) else none := (rfl)
theorem graph_Graph_Point_1_call (cap args : List CV) (H : Heap) : call ctx (.fn (.func 121) [] cap) args H = (snapL H false false (args ++ cap)).bind (graph_Graph_Point_1_F (CV.refs (args ++ cap)) H) := fz_call rfl (show ctx.info 121 = some graph_Graph_Point_1_I by kernel_rfl) cap args H
noncomputable def slices_Grow_End_F (bx : List (Nat × List CV)) (bl : List Blk) (xs : List CV) : Option (CV × Heap) := if xs.length = 2 then (eval ctx slices_Grow_End_C (enterC 0 xs) ⟨[], bl⟩).bind (refOut [.tmp 4] bx) else none
theorem slices_Grow_End_F_eq (bx : List (Nat × List CV)) (bl : List Blk) (xs : List CV) : slices_Grow_End_F bx bl xs = if xs.length = 2 then (eval ctx slices_Grow_End_C (enterC 0 xs) ⟨[], bl⟩).bind (refOut [.tmp 4] bx) else none := (rfl)
theorem slices_Grow_End_call (cap args : List CV) (bx : List (Nat × List CV)) (bl : List Blk) : call ctx (.fn (.func 123) [] cap) args ⟨bx, bl⟩ = if CV.locs (args ++ cap) then none else slices_Grow_End_F bx bl (args ++ cap) := ref_call rfl (show ctx.info 123 = some slices_Grow_End_I by kernel_rfl) cap args bx bl
noncomputable def slices_insertionSortOrdered_int_F (bx : List (Nat × List CV)) (bl : List Blk) (xs : List CV) : Option (CV × Heap) := if xs.length = 3 then (eval ctx slices_insertionSortOrdered_int_C (enterC 0 xs) ⟨[], bl⟩).bind (refOut [] bx) else none
theorem slices_insertionSortOrdered_int_F_eq (bx : List (Nat × List CV)) (bl : List Blk) (xs : List CV) : slices_insertionSortOrdered_int_F bx bl xs = if xs.length = 3 then (eval ctx slices_insertionSortOrdered_int_C (enterC 0 xs) ⟨[], bl⟩).bind (refOut [] bx) else none := (rfl)
theorem slices_insertionSortOrdered_int_call (cap args : List CV) (bx : List (Nat × List CV)) (bl : List Blk) : call ctx (.fn (.func 124) [] cap) args ⟨bx, bl⟩ = if CV.locs (args ++ cap) then none else slices_insertionSortOrdered_int_F bx bl (args ++ cap) := ref_call rfl (show ctx.info 124 = some slices_insertionSortOrdered_int_I by kernel_rfl) cap args bx bl
noncomputable def cmp_Less_int_F (st : Bool) (H : Heap) (xs : List CV) : Option (CV × Heap) := fzE ctx false 2 cmp_Less_int_C [.tmp 4] st H xs
theorem cmp_Less_int_F_eq (st : Bool) (H : Heap) (xs : List CV) : cmp_Less_int_F st H xs = if xs.length = 2 then (eval ctx cmp_Less_int_C (enterC 0 xs) ⟨[], []⟩).bind (fzOut [.tmp 4] st false H) else none := (rfl)
theorem cmp_Less_int_call (cap args : List CV) (H : Heap) : call ctx (.fn (.func 130) [] cap) args H = (snapL H false false (args ++ cap)).bind (cmp_Less_int_F (CV.refs (args ++ cap)) H) := fz_call rfl (show ctx.info 130 = some cmp_Less_int_I by kernel_rfl) cap args H
noncomputable def math_bits_Len32_F (st : Bool) (H : Heap) (xs : List CV) : Option (CV × Heap) := fzE ctx false 1 math_bits_Len32_C [.tmp 2] st H xs
theorem math_bits_Len32_F_eq (st : Bool) (H : Heap) (xs : List CV) : math_bits_Len32_F st H xs = if xs.length = 1 then (eval ctx math_bits_Len32_C (enterC 0 xs) ⟨[], []⟩).bind (fzOut [.tmp 2] st false H) else none := (rfl)
theorem math_bits_Len32_call (cap args : List CV) (H : Heap) : call ctx (.fn (.func 133) [] cap) args H = (snapL H false false (args ++ cap)).bind (math_bits_Len32_F (CV.refs (args ++ cap)) H) := fz_call rfl (show ctx.info 133 = some math_bits_Len32_I by kernel_rfl) cap args H
noncomputable def math_bits_Len64_F (st : Bool) (H : Heap) (xs : List CV) : Option (CV × Heap) := fzE ctx false 1 math_bits_Len64_C [.tmp 2] st H xs
theorem math_bits_Len64_F_eq (st : Bool) (H : Heap) (xs : List CV) : math_bits_Len64_F st H xs = if xs.length = 1 then (eval ctx math_bits_Len64_C (enterC 0 xs) ⟨[], []⟩).bind (fzOut [.tmp 2] st false H) else none := (rfl)
theorem math_bits_Len64_call (cap args : List CV) (H : Heap) : call ctx (.fn (.func 134) [] cap) args H = (snapL H false false (args ++ cap)).bind (math_bits_Len64_F (CV.refs (args ++ cap)) H) := fz_call rfl (show ctx.info 134 = some math_bits_Len64_I by kernel_rfl) cap args H
noncomputable def cmp_isNaN_int_F (st : Bool) (H : Heap) (xs : List CV) : Option (CV × Heap) := fzE ctx false 1 cmp_isNaN_int_C [.tmp 2] st H xs
theorem cmp_isNaN_int_F_eq (st : Bool) (H : Heap) (xs : List CV) : cmp_isNaN_int_F st H xs = if xs.length = 1 then (eval ctx cmp_isNaN_int_C (enterC 0 xs) ⟨[], []⟩).bind (fzOut [.tmp 2] st false H) else none := (rfl)
theorem cmp_isNaN_int_call (cap args : List CV) (H : Heap) : call ctx (.fn (.func 141) [] cap) args H = (snapL H false false (args ++ cap)).bind (cmp_isNaN_int_F (CV.refs (args ++ cap)) H) := fz_call rfl (show ctx.info 141 = some cmp_isNaN_int_I by kernel_rfl) cap args H
noncomputable def l12_OwnRuns_R0 (x : Env × Heap) : Out := intoE ctx 0 [2, 7, 8, 9, 10] [] l12_OwnRuns_B0 x
noncomputable def l12_OwnRuns_K0 (x : Ex × Env × Heap) : Out := roundE ctx 0 [2, 7, 8, 9, 10] [] l12_OwnRuns_B0 x
theorem l12_OwnRuns_L0_eq (env : Env) (H : Heap) : eval ctx l12_OwnRuns_L0 env H = (keepE [2, 7, 8, 9, 10] env H).bind l12_OwnRuns_R0 := eval_bloop' ctx env H 0 [2, 7, 8, 9, 10] [] l12_OwnRuns_B0
theorem l12_OwnRuns_R0_eq (env : Env) (H : Heap) : l12_OwnRuns_R0 (env, H) = (eval ctx l12_OwnRuns_B0 env H).bind l12_OwnRuns_K0 := (rfl)
theorem l12_OwnRuns_K0_norm (env : Env) (H : Heap) : l12_OwnRuns_K0 (.norm, env, H) = (keepE [2, 7, 8, 9, 10] env H).bind l12_OwnRuns_R0 := l12_OwnRuns_L0_eq env H
theorem l12_OwnRuns_K0_ret (env : Env) (H : Heap) : l12_OwnRuns_K0 (.ret, env, H) = some (.ret, env, H) := (rfl)
theorem l12_OwnRuns_K0_exit (k : Nat) (env : Env) (H : Heap) : l12_OwnRuns_K0 (.exit k, env, H) = if k = 0 then (keepE [] env H).map normE else some (.exit k, env, H) := (rfl)
noncomputable def l12_OwnSure_R2 (x : Env × Heap) : Out := intoE ctx 2 [5, 7, 8, 9, 10, 11, 12, 13, 14, 15, 16] [5, 7, 8, 9, 10, 11, 12, 13, 14] l12_OwnSure_B2 x
noncomputable def l12_OwnSure_K2 (x : Ex × Env × Heap) : Out := roundE ctx 2 [5, 7, 8, 9, 10, 11, 12, 13, 14, 15, 16] [5, 7, 8, 9, 10, 11, 12, 13, 14] l12_OwnSure_B2 x
theorem l12_OwnSure_L2_eq (env : Env) (H : Heap) : eval ctx l12_OwnSure_L2 env H = (keepE [5, 7, 8, 9, 10, 11, 12, 13, 14, 15, 16] env H).bind l12_OwnSure_R2 := eval_bloop' ctx env H 2 [5, 7, 8, 9, 10, 11, 12, 13, 14, 15, 16] [5, 7, 8, 9, 10, 11, 12, 13, 14] l12_OwnSure_B2
theorem l12_OwnSure_R2_eq (env : Env) (H : Heap) : l12_OwnSure_R2 (env, H) = (eval ctx l12_OwnSure_B2 env H).bind l12_OwnSure_K2 := (rfl)
theorem l12_OwnSure_K2_norm (env : Env) (H : Heap) : l12_OwnSure_K2 (.norm, env, H) = (keepE [5, 7, 8, 9, 10, 11, 12, 13, 14, 15, 16] env H).bind l12_OwnSure_R2 := l12_OwnSure_L2_eq env H
theorem l12_OwnSure_K2_ret (env : Env) (H : Heap) : l12_OwnSure_K2 (.ret, env, H) = some (.ret, env, H) := (rfl)
theorem l12_OwnSure_K2_exit (k : Nat) (env : Env) (H : Heap) : l12_OwnSure_K2 (.exit k, env, H) = if k = 2 then (keepE [5, 7, 8, 9, 10, 11, 12, 13, 14] env H).map normE else some (.exit k, env, H) := (rfl)
noncomputable def l12_OwnSure_R0 (x : Env × Heap) : Out := intoE ctx 0 [5, 7, 8, 9, 10, 11] [] l12_OwnSure_B0 x
noncomputable def l12_OwnSure_K0 (x : Ex × Env × Heap) : Out := roundE ctx 0 [5, 7, 8, 9, 10, 11] [] l12_OwnSure_B0 x
theorem l12_OwnSure_L0_eq (env : Env) (H : Heap) : eval ctx l12_OwnSure_L0 env H = (keepE [5, 7, 8, 9, 10, 11] env H).bind l12_OwnSure_R0 := eval_bloop' ctx env H 0 [5, 7, 8, 9, 10, 11] [] l12_OwnSure_B0
theorem l12_OwnSure_R0_eq (env : Env) (H : Heap) : l12_OwnSure_R0 (env, H) = (eval ctx l12_OwnSure_B0 env H).bind l12_OwnSure_K0 := (rfl)
theorem l12_OwnSure_K0_norm (env : Env) (H : Heap) : l12_OwnSure_K0 (.norm, env, H) = (keepE [5, 7, 8, 9, 10, 11] env H).bind l12_OwnSure_R0 := l12_OwnSure_L0_eq env H
theorem l12_OwnSure_K0_ret (env : Env) (H : Heap) : l12_OwnSure_K0 (.ret, env, H) = some (.ret, env, H) := (rfl)
theorem l12_OwnSure_K0_exit (k : Nat) (env : Env) (H : Heap) : l12_OwnSure_K0 (.exit k, env, H) = if k = 0 then (keepE [] env H).map normE else some (.exit k, env, H) := (rfl)
noncomputable def l12_OwnFinds_R0 (x : Env × Heap) : Out := intoE ctx 0 [0, 1, 5, 6, 7] [1, 5, 6] l12_OwnFinds_B0 x
noncomputable def l12_OwnFinds_K0 (x : Ex × Env × Heap) : Out := roundE ctx 0 [0, 1, 5, 6, 7] [1, 5, 6] l12_OwnFinds_B0 x
theorem l12_OwnFinds_L0_eq (env : Env) (H : Heap) : eval ctx l12_OwnFinds_L0 env H = (keepE [0, 1, 5, 6, 7] env H).bind l12_OwnFinds_R0 := eval_bloop' ctx env H 0 [0, 1, 5, 6, 7] [1, 5, 6] l12_OwnFinds_B0
theorem l12_OwnFinds_R0_eq (env : Env) (H : Heap) : l12_OwnFinds_R0 (env, H) = (eval ctx l12_OwnFinds_B0 env H).bind l12_OwnFinds_K0 := (rfl)
theorem l12_OwnFinds_K0_norm (env : Env) (H : Heap) : l12_OwnFinds_K0 (.norm, env, H) = (keepE [0, 1, 5, 6, 7] env H).bind l12_OwnFinds_R0 := l12_OwnFinds_L0_eq env H
theorem l12_OwnFinds_K0_ret (env : Env) (H : Heap) : l12_OwnFinds_K0 (.ret, env, H) = some (.ret, env, H) := (rfl)
theorem l12_OwnFinds_K0_exit (k : Nat) (env : Env) (H : Heap) : l12_OwnFinds_K0 (.exit k, env, H) = if k = 0 then (keepE [1, 5, 6] env H).map normE else some (.exit k, env, H) := (rfl)
noncomputable def l12_OwnClear_R0 (x : Env × Heap) : Out := intoE ctx 0 [3, 5, 6, 8, 9, 10] [3, 5, 6, 8, 9] l12_OwnClear_B0 x
noncomputable def l12_OwnClear_K0 (x : Ex × Env × Heap) : Out := roundE ctx 0 [3, 5, 6, 8, 9, 10] [3, 5, 6, 8, 9] l12_OwnClear_B0 x
theorem l12_OwnClear_L0_eq (env : Env) (H : Heap) : eval ctx l12_OwnClear_L0 env H = (keepE [3, 5, 6, 8, 9, 10] env H).bind l12_OwnClear_R0 := eval_bloop' ctx env H 0 [3, 5, 6, 8, 9, 10] [3, 5, 6, 8, 9] l12_OwnClear_B0
theorem l12_OwnClear_R0_eq (env : Env) (H : Heap) : l12_OwnClear_R0 (env, H) = (eval ctx l12_OwnClear_B0 env H).bind l12_OwnClear_K0 := (rfl)
theorem l12_OwnClear_K0_norm (env : Env) (H : Heap) : l12_OwnClear_K0 (.norm, env, H) = (keepE [3, 5, 6, 8, 9, 10] env H).bind l12_OwnClear_R0 := l12_OwnClear_L0_eq env H
theorem l12_OwnClear_K0_ret (env : Env) (H : Heap) : l12_OwnClear_K0 (.ret, env, H) = some (.ret, env, H) := (rfl)
theorem l12_OwnClear_K0_exit (k : Nat) (env : Env) (H : Heap) : l12_OwnClear_K0 (.exit k, env, H) = if k = 0 then (keepE [3, 5, 6, 8, 9] env H).map normE else some (.exit k, env, H) := (rfl)
noncomputable def l12_OwnClear_R2 (x : Env × Heap) : Out := intoE ctx 2 [5, 8, 9, 11, 12] [5, 11] l12_OwnClear_B2 x
noncomputable def l12_OwnClear_K2 (x : Ex × Env × Heap) : Out := roundE ctx 2 [5, 8, 9, 11, 12] [5, 11] l12_OwnClear_B2 x
theorem l12_OwnClear_L2_eq (env : Env) (H : Heap) : eval ctx l12_OwnClear_L2 env H = (keepE [5, 8, 9, 11, 12] env H).bind l12_OwnClear_R2 := eval_bloop' ctx env H 2 [5, 8, 9, 11, 12] [5, 11] l12_OwnClear_B2
theorem l12_OwnClear_R2_eq (env : Env) (H : Heap) : l12_OwnClear_R2 (env, H) = (eval ctx l12_OwnClear_B2 env H).bind l12_OwnClear_K2 := (rfl)
theorem l12_OwnClear_K2_norm (env : Env) (H : Heap) : l12_OwnClear_K2 (.norm, env, H) = (keepE [5, 8, 9, 11, 12] env H).bind l12_OwnClear_R2 := l12_OwnClear_L2_eq env H
theorem l12_OwnClear_K2_ret (env : Env) (H : Heap) : l12_OwnClear_K2 (.ret, env, H) = some (.ret, env, H) := (rfl)
theorem l12_OwnClear_K2_exit (k : Nat) (env : Env) (H : Heap) : l12_OwnClear_K2 (.exit k, env, H) = if k = 2 then (keepE [5, 11] env H).map normE else some (.exit k, env, H) := (rfl)
noncomputable def l12_OwnStarts_R0 (x : Env × Heap) : Out := intoE ctx 0 [2, 7, 10, 11] [2] l12_OwnStarts_B0 x
noncomputable def l12_OwnStarts_K0 (x : Ex × Env × Heap) : Out := roundE ctx 0 [2, 7, 10, 11] [2] l12_OwnStarts_B0 x
theorem l12_OwnStarts_L0_eq (env : Env) (H : Heap) : eval ctx l12_OwnStarts_L0 env H = (keepE [2, 7, 10, 11] env H).bind l12_OwnStarts_R0 := eval_bloop' ctx env H 0 [2, 7, 10, 11] [2] l12_OwnStarts_B0
theorem l12_OwnStarts_R0_eq (env : Env) (H : Heap) : l12_OwnStarts_R0 (env, H) = (eval ctx l12_OwnStarts_B0 env H).bind l12_OwnStarts_K0 := (rfl)
theorem l12_OwnStarts_K0_norm (env : Env) (H : Heap) : l12_OwnStarts_K0 (.norm, env, H) = (keepE [2, 7, 10, 11] env H).bind l12_OwnStarts_R0 := l12_OwnStarts_L0_eq env H
theorem l12_OwnStarts_K0_ret (env : Env) (H : Heap) : l12_OwnStarts_K0 (.ret, env, H) = some (.ret, env, H) := (rfl)
theorem l12_OwnStarts_K0_exit (k : Nat) (env : Env) (H : Heap) : l12_OwnStarts_K0 (.exit k, env, H) = if k = 0 then (keepE [2] env H).map normE else some (.exit k, env, H) := (rfl)
noncomputable def r04_Small_R0 (x : Env × Heap) : Out := intoE ctx 0 [1, 3] [1] r04_Small_B0 x
noncomputable def r04_Small_K0 (x : Ex × Env × Heap) : Out := roundE ctx 0 [1, 3] [1] r04_Small_B0 x
theorem r04_Small_L0_eq (env : Env) (H : Heap) : eval ctx r04_Small_L0 env H = (keepE [1, 3] env H).bind r04_Small_R0 := eval_bloop' ctx env H 0 [1, 3] [1] r04_Small_B0
theorem r04_Small_R0_eq (env : Env) (H : Heap) : r04_Small_R0 (env, H) = (eval ctx r04_Small_B0 env H).bind r04_Small_K0 := (rfl)
theorem r04_Small_K0_norm (env : Env) (H : Heap) : r04_Small_K0 (.norm, env, H) = (keepE [1, 3] env H).bind r04_Small_R0 := r04_Small_L0_eq env H
theorem r04_Small_K0_ret (env : Env) (H : Heap) : r04_Small_K0 (.ret, env, H) = some (.ret, env, H) := (rfl)
theorem r04_Small_K0_exit (k : Nat) (env : Env) (H : Heap) : r04_Small_K0 (.exit k, env, H) = if k = 0 then (keepE [1] env H).map normE else some (.exit k, env, H) := (rfl)
noncomputable def l12_few_R0 (x : Env × Heap) : Out := intoE ctx 0 [1, 3] [1] l12_few_B0 x
noncomputable def l12_few_K0 (x : Ex × Env × Heap) : Out := roundE ctx 0 [1, 3] [1] l12_few_B0 x
theorem l12_few_L0_eq (env : Env) (H : Heap) : eval ctx l12_few_L0 env H = (keepE [1, 3] env H).bind l12_few_R0 := eval_bloop' ctx env H 0 [1, 3] [1] l12_few_B0
theorem l12_few_R0_eq (env : Env) (H : Heap) : l12_few_R0 (env, H) = (eval ctx l12_few_B0 env H).bind l12_few_K0 := (rfl)
theorem l12_few_K0_norm (env : Env) (H : Heap) : l12_few_K0 (.norm, env, H) = (keepE [1, 3] env H).bind l12_few_R0 := l12_few_L0_eq env H
theorem l12_few_K0_ret (env : Env) (H : Heap) : l12_few_K0 (.ret, env, H) = some (.ret, env, H) := (rfl)
theorem l12_few_K0_exit (k : Nat) (env : Env) (H : Heap) : l12_few_K0 (.exit k, env, H) = if k = 0 then (keepE [1] env H).map normE else some (.exit k, env, H) := (rfl)
noncomputable def r05_Full_R0 (x : Env × Heap) : Out := intoE ctx 0 [1, 2, 3, 4] [2, 3] r05_Full_B0 x
noncomputable def r05_Full_K0 (x : Ex × Env × Heap) : Out := roundE ctx 0 [1, 2, 3, 4] [2, 3] r05_Full_B0 x
theorem r05_Full_L0_eq (env : Env) (H : Heap) : eval ctx r05_Full_L0 env H = (keepE [1, 2, 3, 4] env H).bind r05_Full_R0 := eval_bloop' ctx env H 0 [1, 2, 3, 4] [2, 3] r05_Full_B0
theorem r05_Full_R0_eq (env : Env) (H : Heap) : r05_Full_R0 (env, H) = (eval ctx r05_Full_B0 env H).bind r05_Full_K0 := (rfl)
theorem r05_Full_K0_norm (env : Env) (H : Heap) : r05_Full_K0 (.norm, env, H) = (keepE [1, 2, 3, 4] env H).bind r05_Full_R0 := r05_Full_L0_eq env H
theorem r05_Full_K0_ret (env : Env) (H : Heap) : r05_Full_K0 (.ret, env, H) = some (.ret, env, H) := (rfl)
theorem r05_Full_K0_exit (k : Nat) (env : Env) (H : Heap) : r05_Full_K0 (.exit k, env, H) = if k = 0 then (keepE [2, 3] env H).map normE else some (.exit k, env, H) := (rfl)
noncomputable def l12_views_R2 (x : Env × Heap) : Out := intoE ctx 2 [2, 3, 6, 7, 8, 9, 12, 13] [2, 3, 6, 7, 8, 9, 12] l12_views_B2 x
noncomputable def l12_views_K2 (x : Ex × Env × Heap) : Out := roundE ctx 2 [2, 3, 6, 7, 8, 9, 12, 13] [2, 3, 6, 7, 8, 9, 12] l12_views_B2 x
theorem l12_views_L2_eq (env : Env) (H : Heap) : eval ctx l12_views_L2 env H = (keepE [2, 3, 6, 7, 8, 9, 12, 13] env H).bind l12_views_R2 := eval_bloop' ctx env H 2 [2, 3, 6, 7, 8, 9, 12, 13] [2, 3, 6, 7, 8, 9, 12] l12_views_B2
theorem l12_views_R2_eq (env : Env) (H : Heap) : l12_views_R2 (env, H) = (eval ctx l12_views_B2 env H).bind l12_views_K2 := (rfl)
theorem l12_views_K2_norm (env : Env) (H : Heap) : l12_views_K2 (.norm, env, H) = (keepE [2, 3, 6, 7, 8, 9, 12, 13] env H).bind l12_views_R2 := l12_views_L2_eq env H
theorem l12_views_K2_ret (env : Env) (H : Heap) : l12_views_K2 (.ret, env, H) = some (.ret, env, H) := (rfl)
theorem l12_views_K2_exit (k : Nat) (env : Env) (H : Heap) : l12_views_K2 (.exit k, env, H) = if k = 2 then (keepE [2, 3, 6, 7, 8, 9, 12] env H).map normE else some (.exit k, env, H) := (rfl)
noncomputable def l12_views_R0 (x : Env × Heap) : Out := intoE ctx 0 [2, 3, 6, 7, 8] [6, 7] l12_views_B0 x
noncomputable def l12_views_K0 (x : Ex × Env × Heap) : Out := roundE ctx 0 [2, 3, 6, 7, 8] [6, 7] l12_views_B0 x
theorem l12_views_L0_eq (env : Env) (H : Heap) : eval ctx l12_views_L0 env H = (keepE [2, 3, 6, 7, 8] env H).bind l12_views_R0 := eval_bloop' ctx env H 0 [2, 3, 6, 7, 8] [6, 7] l12_views_B0
theorem l12_views_R0_eq (env : Env) (H : Heap) : l12_views_R0 (env, H) = (eval ctx l12_views_B0 env H).bind l12_views_K0 := (rfl)
theorem l12_views_K0_norm (env : Env) (H : Heap) : l12_views_K0 (.norm, env, H) = (keepE [2, 3, 6, 7, 8] env H).bind l12_views_R0 := l12_views_L0_eq env H
theorem l12_views_K0_ret (env : Env) (H : Heap) : l12_views_K0 (.ret, env, H) = some (.ret, env, H) := (rfl)
theorem l12_views_K0_exit (k : Nat) (env : Env) (H : Heap) : l12_views_K0 (.exit k, env, H) = if k = 0 then (keepE [6, 7] env H).map normE else some (.exit k, env, H) := (rfl)
noncomputable def l12_owners_R0 (x : Env × Heap) : Out := intoE ctx 0 [2, 3, 5, 6] [5] l12_owners_B0 x
noncomputable def l12_owners_K0 (x : Ex × Env × Heap) : Out := roundE ctx 0 [2, 3, 5, 6] [5] l12_owners_B0 x
theorem l12_owners_L0_eq (env : Env) (H : Heap) : eval ctx l12_owners_L0 env H = (keepE [2, 3, 5, 6] env H).bind l12_owners_R0 := eval_bloop' ctx env H 0 [2, 3, 5, 6] [5] l12_owners_B0
theorem l12_owners_R0_eq (env : Env) (H : Heap) : l12_owners_R0 (env, H) = (eval ctx l12_owners_B0 env H).bind l12_owners_K0 := (rfl)
theorem l12_owners_K0_norm (env : Env) (H : Heap) : l12_owners_K0 (.norm, env, H) = (keepE [2, 3, 5, 6] env H).bind l12_owners_R0 := l12_owners_L0_eq env H
theorem l12_owners_K0_ret (env : Env) (H : Heap) : l12_owners_K0 (.ret, env, H) = some (.ret, env, H) := (rfl)
theorem l12_owners_K0_exit (k : Nat) (env : Env) (H : Heap) : l12_owners_K0 (.exit k, env, H) = if k = 0 then (keepE [5] env H).map normE else some (.exit k, env, H) := (rfl)
noncomputable def r01_Ints_R0 (x : Env × Heap) : Out := intoE ctx 0 [0, 1, 5] [] r01_Ints_B0 x
noncomputable def r01_Ints_K0 (x : Ex × Env × Heap) : Out := roundE ctx 0 [0, 1, 5] [] r01_Ints_B0 x
theorem r01_Ints_L0_eq (env : Env) (H : Heap) : eval ctx r01_Ints_L0 env H = (keepE [0, 1, 5] env H).bind r01_Ints_R0 := eval_bloop' ctx env H 0 [0, 1, 5] [] r01_Ints_B0
theorem r01_Ints_R0_eq (env : Env) (H : Heap) : r01_Ints_R0 (env, H) = (eval ctx r01_Ints_B0 env H).bind r01_Ints_K0 := (rfl)
theorem r01_Ints_K0_norm (env : Env) (H : Heap) : r01_Ints_K0 (.norm, env, H) = (keepE [0, 1, 5] env H).bind r01_Ints_R0 := r01_Ints_L0_eq env H
theorem r01_Ints_K0_ret (env : Env) (H : Heap) : r01_Ints_K0 (.ret, env, H) = some (.ret, env, H) := (rfl)
theorem r01_Ints_K0_exit (k : Nat) (env : Env) (H : Heap) : r01_Ints_K0 (.exit k, env, H) = if k = 0 then (keepE [] env H).map normE else some (.exit k, env, H) := (rfl)
noncomputable def own_Next_R0 (x : Env × Heap) : Out := intoE ctx 0 [1, 2, 3, 4, 9, 10, 18, 19] [10] own_Next_B0 x
noncomputable def own_Next_K0 (x : Ex × Env × Heap) : Out := roundE ctx 0 [1, 2, 3, 4, 9, 10, 18, 19] [10] own_Next_B0 x
theorem own_Next_L0_eq (env : Env) (H : Heap) : eval ctx own_Next_L0 env H = (keepE [1, 2, 3, 4, 9, 10, 18, 19] env H).bind own_Next_R0 := eval_bloop' ctx env H 0 [1, 2, 3, 4, 9, 10, 18, 19] [10] own_Next_B0
theorem own_Next_R0_eq (env : Env) (H : Heap) : own_Next_R0 (env, H) = (eval ctx own_Next_B0 env H).bind own_Next_K0 := (rfl)
theorem own_Next_K0_norm (env : Env) (H : Heap) : own_Next_K0 (.norm, env, H) = (keepE [1, 2, 3, 4, 9, 10, 18, 19] env H).bind own_Next_R0 := own_Next_L0_eq env H
theorem own_Next_K0_ret (env : Env) (H : Heap) : own_Next_K0 (.ret, env, H) = some (.ret, env, H) := (rfl)
theorem own_Next_K0_exit (k : Nat) (env : Env) (H : Heap) : own_Next_K0 (.exit k, env, H) = if k = 0 then (keepE [10] env H).map normE else some (.exit k, env, H) := (rfl)
noncomputable def l12_clear_R0 (x : Env × Heap) : Out := intoE ctx 0 [2, 3, 5, 6] [5] l12_clear_B0 x
noncomputable def l12_clear_K0 (x : Ex × Env × Heap) : Out := roundE ctx 0 [2, 3, 5, 6] [5] l12_clear_B0 x
theorem l12_clear_L0_eq (env : Env) (H : Heap) : eval ctx l12_clear_L0 env H = (keepE [2, 3, 5, 6] env H).bind l12_clear_R0 := eval_bloop' ctx env H 0 [2, 3, 5, 6] [5] l12_clear_B0
theorem l12_clear_R0_eq (env : Env) (H : Heap) : l12_clear_R0 (env, H) = (eval ctx l12_clear_B0 env H).bind l12_clear_K0 := (rfl)
theorem l12_clear_K0_norm (env : Env) (H : Heap) : l12_clear_K0 (.norm, env, H) = (keepE [2, 3, 5, 6] env H).bind l12_clear_R0 := l12_clear_L0_eq env H
theorem l12_clear_K0_ret (env : Env) (H : Heap) : l12_clear_K0 (.ret, env, H) = some (.ret, env, H) := (rfl)
theorem l12_clear_K0_exit (k : Nat) (env : Env) (H : Heap) : l12_clear_K0 (.exit k, env, H) = if k = 0 then (keepE [5] env H).map normE else some (.exit k, env, H) := (rfl)
noncomputable def r12_Next_R2 (x : Env × Heap) : Out := intoE ctx 2 [1, 2, 3, 4, 9, 10, 11, 12, 13] [1, 2, 3, 4, 9, 10, 11] r12_Next_B2 x
noncomputable def r12_Next_K2 (x : Ex × Env × Heap) : Out := roundE ctx 2 [1, 2, 3, 4, 9, 10, 11, 12, 13] [1, 2, 3, 4, 9, 10, 11] r12_Next_B2 x
theorem r12_Next_L2_eq (env : Env) (H : Heap) : eval ctx r12_Next_L2 env H = (keepE [1, 2, 3, 4, 9, 10, 11, 12, 13] env H).bind r12_Next_R2 := eval_bloop' ctx env H 2 [1, 2, 3, 4, 9, 10, 11, 12, 13] [1, 2, 3, 4, 9, 10, 11] r12_Next_B2
theorem r12_Next_R2_eq (env : Env) (H : Heap) : r12_Next_R2 (env, H) = (eval ctx r12_Next_B2 env H).bind r12_Next_K2 := (rfl)
theorem r12_Next_K2_norm (env : Env) (H : Heap) : r12_Next_K2 (.norm, env, H) = (keepE [1, 2, 3, 4, 9, 10, 11, 12, 13] env H).bind r12_Next_R2 := r12_Next_L2_eq env H
theorem r12_Next_K2_ret (env : Env) (H : Heap) : r12_Next_K2 (.ret, env, H) = some (.ret, env, H) := (rfl)
theorem r12_Next_K2_exit (k : Nat) (env : Env) (H : Heap) : r12_Next_K2 (.exit k, env, H) = if k = 2 then (keepE [1, 2, 3, 4, 9, 10, 11] env H).map normE else some (.exit k, env, H) := (rfl)
noncomputable def r12_Next_R0 (x : Env × Heap) : Out := intoE ctx 0 [1, 2, 3, 4, 9, 10] [9] r12_Next_B0 x
noncomputable def r12_Next_K0 (x : Ex × Env × Heap) : Out := roundE ctx 0 [1, 2, 3, 4, 9, 10] [9] r12_Next_B0 x
theorem r12_Next_L0_eq (env : Env) (H : Heap) : eval ctx r12_Next_L0 env H = (keepE [1, 2, 3, 4, 9, 10] env H).bind r12_Next_R0 := eval_bloop' ctx env H 0 [1, 2, 3, 4, 9, 10] [9] r12_Next_B0
theorem r12_Next_R0_eq (env : Env) (H : Heap) : r12_Next_R0 (env, H) = (eval ctx r12_Next_B0 env H).bind r12_Next_K0 := (rfl)
theorem r12_Next_K0_norm (env : Env) (H : Heap) : r12_Next_K0 (.norm, env, H) = (keepE [1, 2, 3, 4, 9, 10] env H).bind r12_Next_R0 := r12_Next_L0_eq env H
theorem r12_Next_K0_ret (env : Env) (H : Heap) : r12_Next_K0 (.ret, env, H) = some (.ret, env, H) := (rfl)
theorem r12_Next_K0_exit (k : Nat) (env : Env) (H : Heap) : r12_Next_K0 (.exit k, env, H) = if k = 0 then (keepE [9] env H).map normE else some (.exit k, env, H) := (rfl)
noncomputable def r12_Find_R0 (x : Env × Heap) : Out := intoE ctx 0 [0, 1, 4, 6] [4] r12_Find_B0 x
noncomputable def r12_Find_K0 (x : Ex × Env × Heap) : Out := roundE ctx 0 [0, 1, 4, 6] [4] r12_Find_B0 x
theorem r12_Find_L0_eq (env : Env) (H : Heap) : eval ctx r12_Find_L0 env H = (keepE [0, 1, 4, 6] env H).bind r12_Find_R0 := eval_bloop' ctx env H 0 [0, 1, 4, 6] [4] r12_Find_B0
theorem r12_Find_R0_eq (env : Env) (H : Heap) : r12_Find_R0 (env, H) = (eval ctx r12_Find_B0 env H).bind r12_Find_K0 := (rfl)
theorem r12_Find_K0_norm (env : Env) (H : Heap) : r12_Find_K0 (.norm, env, H) = (keepE [0, 1, 4, 6] env H).bind r12_Find_R0 := r12_Find_L0_eq env H
theorem r12_Find_K0_ret (env : Env) (H : Heap) : r12_Find_K0 (.ret, env, H) = some (.ret, env, H) := (rfl)
theorem r12_Find_K0_exit (k : Nat) (env : Env) (H : Heap) : r12_Find_K0 (.exit k, env, H) = if k = 0 then (keepE [4] env H).map normE else some (.exit k, env, H) := (rfl)
noncomputable def r05_Beside_R2 (x : Env × Heap) : Out := intoE ctx 2 [1, 2, 5, 6, 7, 8] [1, 2, 5, 6] r05_Beside_B2 x
noncomputable def r05_Beside_K2 (x : Ex × Env × Heap) : Out := roundE ctx 2 [1, 2, 5, 6, 7, 8] [1, 2, 5, 6] r05_Beside_B2 x
theorem r05_Beside_L2_eq (env : Env) (H : Heap) : eval ctx r05_Beside_L2 env H = (keepE [1, 2, 5, 6, 7, 8] env H).bind r05_Beside_R2 := eval_bloop' ctx env H 2 [1, 2, 5, 6, 7, 8] [1, 2, 5, 6] r05_Beside_B2
theorem r05_Beside_R2_eq (env : Env) (H : Heap) : r05_Beside_R2 (env, H) = (eval ctx r05_Beside_B2 env H).bind r05_Beside_K2 := (rfl)
theorem r05_Beside_K2_norm (env : Env) (H : Heap) : r05_Beside_K2 (.norm, env, H) = (keepE [1, 2, 5, 6, 7, 8] env H).bind r05_Beside_R2 := r05_Beside_L2_eq env H
theorem r05_Beside_K2_ret (env : Env) (H : Heap) : r05_Beside_K2 (.ret, env, H) = some (.ret, env, H) := (rfl)
theorem r05_Beside_K2_exit (k : Nat) (env : Env) (H : Heap) : r05_Beside_K2 (.exit k, env, H) = if k = 2 then (keepE [1, 2, 5, 6] env H).map normE else some (.exit k, env, H) := (rfl)
noncomputable def r05_Beside_R0 (x : Env × Heap) : Out := intoE ctx 0 [1, 2, 5, 6] [5] r05_Beside_B0 x
noncomputable def r05_Beside_K0 (x : Ex × Env × Heap) : Out := roundE ctx 0 [1, 2, 5, 6] [5] r05_Beside_B0 x
theorem r05_Beside_L0_eq (env : Env) (H : Heap) : eval ctx r05_Beside_L0 env H = (keepE [1, 2, 5, 6] env H).bind r05_Beside_R0 := eval_bloop' ctx env H 0 [1, 2, 5, 6] [5] r05_Beside_B0
theorem r05_Beside_R0_eq (env : Env) (H : Heap) : r05_Beside_R0 (env, H) = (eval ctx r05_Beside_B0 env H).bind r05_Beside_K0 := (rfl)
theorem r05_Beside_K0_norm (env : Env) (H : Heap) : r05_Beside_K0 (.norm, env, H) = (keepE [1, 2, 5, 6] env H).bind r05_Beside_R0 := r05_Beside_L0_eq env H
theorem r05_Beside_K0_ret (env : Env) (H : Heap) : r05_Beside_K0 (.ret, env, H) = some (.ret, env, H) := (rfl)
theorem r05_Beside_K0_exit (k : Nat) (env : Env) (H : Heap) : r05_Beside_K0 (.exit k, env, H) = if k = 0 then (keepE [5] env H).map normE else some (.exit k, env, H) := (rfl)
noncomputable def r11_Meets_R0 (x : Env × Heap) : Out := intoE ctx 0 [0, 1, 5] [] r11_Meets_B0 x
noncomputable def r11_Meets_K0 (x : Ex × Env × Heap) : Out := roundE ctx 0 [0, 1, 5] [] r11_Meets_B0 x
theorem r11_Meets_L0_eq (env : Env) (H : Heap) : eval ctx r11_Meets_L0 env H = (keepE [0, 1, 5] env H).bind r11_Meets_R0 := eval_bloop' ctx env H 0 [0, 1, 5] [] r11_Meets_B0
theorem r11_Meets_R0_eq (env : Env) (H : Heap) : r11_Meets_R0 (env, H) = (eval ctx r11_Meets_B0 env H).bind r11_Meets_K0 := (rfl)
theorem r11_Meets_K0_norm (env : Env) (H : Heap) : r11_Meets_K0 (.norm, env, H) = (keepE [0, 1, 5] env H).bind r11_Meets_R0 := r11_Meets_L0_eq env H
theorem r11_Meets_K0_ret (env : Env) (H : Heap) : r11_Meets_K0 (.ret, env, H) = some (.ret, env, H) := (rfl)
theorem r11_Meets_K0_exit (k : Nat) (env : Env) (H : Heap) : r11_Meets_K0 (.exit k, env, H) = if k = 0 then (keepE [] env H).map normE else some (.exit k, env, H) := (rfl)
noncomputable def r01_Rise_R2 (x : Env × Heap) : Out := intoE ctx 2 [0, 3, 4, 5] [0, 3, 4] r01_Rise_B2 x
noncomputable def r01_Rise_K2 (x : Ex × Env × Heap) : Out := roundE ctx 2 [0, 3, 4, 5] [0, 3, 4] r01_Rise_B2 x
theorem r01_Rise_L2_eq (env : Env) (H : Heap) : eval ctx r01_Rise_L2 env H = (keepE [0, 3, 4, 5] env H).bind r01_Rise_R2 := eval_bloop' ctx env H 2 [0, 3, 4, 5] [0, 3, 4] r01_Rise_B2
theorem r01_Rise_R2_eq (env : Env) (H : Heap) : r01_Rise_R2 (env, H) = (eval ctx r01_Rise_B2 env H).bind r01_Rise_K2 := (rfl)
theorem r01_Rise_K2_norm (env : Env) (H : Heap) : r01_Rise_K2 (.norm, env, H) = (keepE [0, 3, 4, 5] env H).bind r01_Rise_R2 := r01_Rise_L2_eq env H
theorem r01_Rise_K2_ret (env : Env) (H : Heap) : r01_Rise_K2 (.ret, env, H) = some (.ret, env, H) := (rfl)
theorem r01_Rise_K2_exit (k : Nat) (env : Env) (H : Heap) : r01_Rise_K2 (.exit k, env, H) = if k = 2 then (keepE [0, 3, 4] env H).map normE else some (.exit k, env, H) := (rfl)
noncomputable def r01_Rise_R0 (x : Env × Heap) : Out := intoE ctx 0 [0, 3] [] r01_Rise_B0 x
noncomputable def r01_Rise_K0 (x : Ex × Env × Heap) : Out := roundE ctx 0 [0, 3] [] r01_Rise_B0 x
theorem r01_Rise_L0_eq (env : Env) (H : Heap) : eval ctx r01_Rise_L0 env H = (keepE [0, 3] env H).bind r01_Rise_R0 := eval_bloop' ctx env H 0 [0, 3] [] r01_Rise_B0
theorem r01_Rise_R0_eq (env : Env) (H : Heap) : r01_Rise_R0 (env, H) = (eval ctx r01_Rise_B0 env H).bind r01_Rise_K0 := (rfl)
theorem r01_Rise_K0_norm (env : Env) (H : Heap) : r01_Rise_K0 (.norm, env, H) = (keepE [0, 3] env H).bind r01_Rise_R0 := r01_Rise_L0_eq env H
theorem r01_Rise_K0_ret (env : Env) (H : Heap) : r01_Rise_K0 (.ret, env, H) = some (.ret, env, H) := (rfl)
theorem r01_Rise_K0_exit (k : Nat) (env : Env) (H : Heap) : r01_Rise_K0 (.exit k, env, H) = if k = 0 then (keepE [] env H).map normE else some (.exit k, env, H) := (rfl)
noncomputable def r04_Make_R1 (x : Env × Heap) : Out := intoE ctx 1 [1, 2, 3, 6, 7, 8, 9] [1, 2, 3, 6, 7, 8] r04_Make_B1 x
noncomputable def r04_Make_K1 (x : Ex × Env × Heap) : Out := roundE ctx 1 [1, 2, 3, 6, 7, 8, 9] [1, 2, 3, 6, 7, 8] r04_Make_B1 x
theorem r04_Make_L1_eq (env : Env) (H : Heap) : eval ctx r04_Make_L1 env H = (keepE [1, 2, 3, 6, 7, 8, 9] env H).bind r04_Make_R1 := eval_bloop' ctx env H 1 [1, 2, 3, 6, 7, 8, 9] [1, 2, 3, 6, 7, 8] r04_Make_B1
theorem r04_Make_R1_eq (env : Env) (H : Heap) : r04_Make_R1 (env, H) = (eval ctx r04_Make_B1 env H).bind r04_Make_K1 := (rfl)
theorem r04_Make_K1_norm (env : Env) (H : Heap) : r04_Make_K1 (.norm, env, H) = (keepE [1, 2, 3, 6, 7, 8, 9] env H).bind r04_Make_R1 := r04_Make_L1_eq env H
theorem r04_Make_K1_ret (env : Env) (H : Heap) : r04_Make_K1 (.ret, env, H) = some (.ret, env, H) := (rfl)
theorem r04_Make_K1_exit (k : Nat) (env : Env) (H : Heap) : r04_Make_K1 (.exit k, env, H) = if k = 1 then (keepE [1, 2, 3, 6, 7, 8] env H).map normE else some (.exit k, env, H) := (rfl)
noncomputable def r04_Make_R3 (x : Env × Heap) : Out := intoE ctx 3 [1, 2, 3, 6, 7, 8, 10] [1, 2, 3, 6, 7] r04_Make_B3 x
noncomputable def r04_Make_K3 (x : Ex × Env × Heap) : Out := roundE ctx 3 [1, 2, 3, 6, 7, 8, 10] [1, 2, 3, 6, 7] r04_Make_B3 x
theorem r04_Make_L3_eq (env : Env) (H : Heap) : eval ctx r04_Make_L3 env H = (keepE [1, 2, 3, 6, 7, 8, 10] env H).bind r04_Make_R3 := eval_bloop' ctx env H 3 [1, 2, 3, 6, 7, 8, 10] [1, 2, 3, 6, 7] r04_Make_B3
theorem r04_Make_R3_eq (env : Env) (H : Heap) : r04_Make_R3 (env, H) = (eval ctx r04_Make_B3 env H).bind r04_Make_K3 := (rfl)
theorem r04_Make_K3_norm (env : Env) (H : Heap) : r04_Make_K3 (.norm, env, H) = (keepE [1, 2, 3, 6, 7, 8, 10] env H).bind r04_Make_R3 := r04_Make_L3_eq env H
theorem r04_Make_K3_ret (env : Env) (H : Heap) : r04_Make_K3 (.ret, env, H) = some (.ret, env, H) := (rfl)
theorem r04_Make_K3_exit (k : Nat) (env : Env) (H : Heap) : r04_Make_K3 (.exit k, env, H) = if k = 3 then (keepE [1, 2, 3, 6, 7] env H).map normE else some (.exit k, env, H) := (rfl)
noncomputable def r04_Make_R5 (x : Env × Heap) : Out := intoE ctx 5 [1, 2, 3, 6, 7, 11] [1, 2, 3, 6, 7] r04_Make_B5 x
noncomputable def r04_Make_K5 (x : Ex × Env × Heap) : Out := roundE ctx 5 [1, 2, 3, 6, 7, 11] [1, 2, 3, 6, 7] r04_Make_B5 x
theorem r04_Make_L5_eq (env : Env) (H : Heap) : eval ctx r04_Make_L5 env H = (keepE [1, 2, 3, 6, 7, 11] env H).bind r04_Make_R5 := eval_bloop' ctx env H 5 [1, 2, 3, 6, 7, 11] [1, 2, 3, 6, 7] r04_Make_B5
theorem r04_Make_R5_eq (env : Env) (H : Heap) : r04_Make_R5 (env, H) = (eval ctx r04_Make_B5 env H).bind r04_Make_K5 := (rfl)
theorem r04_Make_K5_norm (env : Env) (H : Heap) : r04_Make_K5 (.norm, env, H) = (keepE [1, 2, 3, 6, 7, 11] env H).bind r04_Make_R5 := r04_Make_L5_eq env H
theorem r04_Make_K5_ret (env : Env) (H : Heap) : r04_Make_K5 (.ret, env, H) = some (.ret, env, H) := (rfl)
theorem r04_Make_K5_exit (k : Nat) (env : Env) (H : Heap) : r04_Make_K5 (.exit k, env, H) = if k = 5 then (keepE [1, 2, 3, 6, 7] env H).map normE else some (.exit k, env, H) := (rfl)
noncomputable def r04_Make_R7 (x : Env × Heap) : Out := intoE ctx 7 [1, 2, 3, 6, 7, 12] [1, 2, 3, 6] r04_Make_B7 x
noncomputable def r04_Make_K7 (x : Ex × Env × Heap) : Out := roundE ctx 7 [1, 2, 3, 6, 7, 12] [1, 2, 3, 6] r04_Make_B7 x
theorem r04_Make_L7_eq (env : Env) (H : Heap) : eval ctx r04_Make_L7 env H = (keepE [1, 2, 3, 6, 7, 12] env H).bind r04_Make_R7 := eval_bloop' ctx env H 7 [1, 2, 3, 6, 7, 12] [1, 2, 3, 6] r04_Make_B7
theorem r04_Make_R7_eq (env : Env) (H : Heap) : r04_Make_R7 (env, H) = (eval ctx r04_Make_B7 env H).bind r04_Make_K7 := (rfl)
theorem r04_Make_K7_norm (env : Env) (H : Heap) : r04_Make_K7 (.norm, env, H) = (keepE [1, 2, 3, 6, 7, 12] env H).bind r04_Make_R7 := r04_Make_L7_eq env H
theorem r04_Make_K7_ret (env : Env) (H : Heap) : r04_Make_K7 (.ret, env, H) = some (.ret, env, H) := (rfl)
theorem r04_Make_K7_exit (k : Nat) (env : Env) (H : Heap) : r04_Make_K7 (.exit k, env, H) = if k = 7 then (keepE [1, 2, 3, 6] env H).map normE else some (.exit k, env, H) := (rfl)
noncomputable def r05_Walk_R0 (x : Env × Heap) : Out := intoE ctx 0 [3, 4, 5, 11, 12, 13] [11] r05_Walk_B0 x
noncomputable def r05_Walk_K0 (x : Ex × Env × Heap) : Out := roundE ctx 0 [3, 4, 5, 11, 12, 13] [11] r05_Walk_B0 x
theorem r05_Walk_L0_eq (env : Env) (H : Heap) : eval ctx r05_Walk_L0 env H = (keepE [3, 4, 5, 11, 12, 13] env H).bind r05_Walk_R0 := eval_bloop' ctx env H 0 [3, 4, 5, 11, 12, 13] [11] r05_Walk_B0
theorem r05_Walk_R0_eq (env : Env) (H : Heap) : r05_Walk_R0 (env, H) = (eval ctx r05_Walk_B0 env H).bind r05_Walk_K0 := (rfl)
theorem r05_Walk_K0_norm (env : Env) (H : Heap) : r05_Walk_K0 (.norm, env, H) = (keepE [3, 4, 5, 11, 12, 13] env H).bind r05_Walk_R0 := r05_Walk_L0_eq env H
theorem r05_Walk_K0_ret (env : Env) (H : Heap) : r05_Walk_K0 (.ret, env, H) = some (.ret, env, H) := (rfl)
theorem r05_Walk_K0_exit (k : Nat) (env : Env) (H : Heap) : r05_Walk_K0 (.exit k, env, H) = if k = 0 then (keepE [11] env H).map normE else some (.exit k, env, H) := (rfl)
noncomputable def r01_Has_R0 (x : Env × Heap) : Out := intoE ctx 0 [0, 1, 5] [] r01_Has_B0 x
noncomputable def r01_Has_K0 (x : Ex × Env × Heap) : Out := roundE ctx 0 [0, 1, 5] [] r01_Has_B0 x
theorem r01_Has_L0_eq (env : Env) (H : Heap) : eval ctx r01_Has_L0 env H = (keepE [0, 1, 5] env H).bind r01_Has_R0 := eval_bloop' ctx env H 0 [0, 1, 5] [] r01_Has_B0
theorem r01_Has_R0_eq (env : Env) (H : Heap) : r01_Has_R0 (env, H) = (eval ctx r01_Has_B0 env H).bind r01_Has_K0 := (rfl)
theorem r01_Has_K0_norm (env : Env) (H : Heap) : r01_Has_K0 (.norm, env, H) = (keepE [0, 1, 5] env H).bind r01_Has_R0 := r01_Has_L0_eq env H
theorem r01_Has_K0_ret (env : Env) (H : Heap) : r01_Has_K0 (.ret, env, H) = some (.ret, env, H) := (rfl)
theorem r01_Has_K0_exit (k : Nat) (env : Env) (H : Heap) : r01_Has_K0 (.exit k, env, H) = if k = 0 then (keepE [] env H).map normE else some (.exit k, env, H) := (rfl)
noncomputable def own_alone_R0 (x : Env × Heap) : Out := intoE ctx 0 [1, 7, 17, 18, 19] [7] own_alone_B0 x
noncomputable def own_alone_K0 (x : Ex × Env × Heap) : Out := roundE ctx 0 [1, 7, 17, 18, 19] [7] own_alone_B0 x
theorem own_alone_L0_eq (env : Env) (H : Heap) : eval ctx own_alone_L0 env H = (keepE [1, 7, 17, 18, 19] env H).bind own_alone_R0 := eval_bloop' ctx env H 0 [1, 7, 17, 18, 19] [7] own_alone_B0
theorem own_alone_R0_eq (env : Env) (H : Heap) : own_alone_R0 (env, H) = (eval ctx own_alone_B0 env H).bind own_alone_K0 := (rfl)
theorem own_alone_K0_norm (env : Env) (H : Heap) : own_alone_K0 (.norm, env, H) = (keepE [1, 7, 17, 18, 19] env H).bind own_alone_R0 := own_alone_L0_eq env H
theorem own_alone_K0_ret (env : Env) (H : Heap) : own_alone_K0 (.ret, env, H) = some (.ret, env, H) := (rfl)
theorem own_alone_K0_exit (k : Nat) (env : Env) (H : Heap) : own_alone_K0 (.exit k, env, H) = if k = 0 then (keepE [7] env H).map normE else some (.exit k, env, H) := (rfl)
noncomputable def r05_Near_R2 (x : Env × Heap) : Out := intoE ctx 2 [1, 2, 5, 6, 7, 8] [1, 2, 5, 6] r05_Near_B2 x
noncomputable def r05_Near_K2 (x : Ex × Env × Heap) : Out := roundE ctx 2 [1, 2, 5, 6, 7, 8] [1, 2, 5, 6] r05_Near_B2 x
theorem r05_Near_L2_eq (env : Env) (H : Heap) : eval ctx r05_Near_L2 env H = (keepE [1, 2, 5, 6, 7, 8] env H).bind r05_Near_R2 := eval_bloop' ctx env H 2 [1, 2, 5, 6, 7, 8] [1, 2, 5, 6] r05_Near_B2
theorem r05_Near_R2_eq (env : Env) (H : Heap) : r05_Near_R2 (env, H) = (eval ctx r05_Near_B2 env H).bind r05_Near_K2 := (rfl)
theorem r05_Near_K2_norm (env : Env) (H : Heap) : r05_Near_K2 (.norm, env, H) = (keepE [1, 2, 5, 6, 7, 8] env H).bind r05_Near_R2 := r05_Near_L2_eq env H
theorem r05_Near_K2_ret (env : Env) (H : Heap) : r05_Near_K2 (.ret, env, H) = some (.ret, env, H) := (rfl)
theorem r05_Near_K2_exit (k : Nat) (env : Env) (H : Heap) : r05_Near_K2 (.exit k, env, H) = if k = 2 then (keepE [1, 2, 5, 6] env H).map normE else some (.exit k, env, H) := (rfl)
noncomputable def r05_Near_R0 (x : Env × Heap) : Out := intoE ctx 0 [1, 2, 5, 6] [5] r05_Near_B0 x
noncomputable def r05_Near_K0 (x : Ex × Env × Heap) : Out := roundE ctx 0 [1, 2, 5, 6] [5] r05_Near_B0 x
theorem r05_Near_L0_eq (env : Env) (H : Heap) : eval ctx r05_Near_L0 env H = (keepE [1, 2, 5, 6] env H).bind r05_Near_R0 := eval_bloop' ctx env H 0 [1, 2, 5, 6] [5] r05_Near_B0
theorem r05_Near_R0_eq (env : Env) (H : Heap) : r05_Near_R0 (env, H) = (eval ctx r05_Near_B0 env H).bind r05_Near_K0 := (rfl)
theorem r05_Near_K0_norm (env : Env) (H : Heap) : r05_Near_K0 (.norm, env, H) = (keepE [1, 2, 5, 6] env H).bind r05_Near_R0 := r05_Near_L0_eq env H
theorem r05_Near_K0_ret (env : Env) (H : Heap) : r05_Near_K0 (.ret, env, H) = some (.ret, env, H) := (rfl)
theorem r05_Near_K0_exit (k : Nat) (env : Env) (H : Heap) : r05_Near_K0 (.exit k, env, H) = if k = 0 then (keepE [5] env H).map normE else some (.exit k, env, H) := (rfl)
noncomputable def r05_Part_R0 (x : Env × Heap) : Out := intoE ctx 0 [1, 2, 5] [] r05_Part_B0 x
noncomputable def r05_Part_K0 (x : Ex × Env × Heap) : Out := roundE ctx 0 [1, 2, 5] [] r05_Part_B0 x
theorem r05_Part_L0_eq (env : Env) (H : Heap) : eval ctx r05_Part_L0 env H = (keepE [1, 2, 5] env H).bind r05_Part_R0 := eval_bloop' ctx env H 0 [1, 2, 5] [] r05_Part_B0
theorem r05_Part_R0_eq (env : Env) (H : Heap) : r05_Part_R0 (env, H) = (eval ctx r05_Part_B0 env H).bind r05_Part_K0 := (rfl)
theorem r05_Part_K0_norm (env : Env) (H : Heap) : r05_Part_K0 (.norm, env, H) = (keepE [1, 2, 5] env H).bind r05_Part_R0 := r05_Part_L0_eq env H
theorem r05_Part_K0_ret (env : Env) (H : Heap) : r05_Part_K0 (.ret, env, H) = some (.ret, env, H) := (rfl)
theorem r05_Part_K0_exit (k : Nat) (env : Env) (H : Heap) : r05_Part_K0 (.exit k, env, H) = if k = 0 then (keepE [] env H).map normE else some (.exit k, env, H) := (rfl)
noncomputable def slices_IndexFunc_View_R0 (x : Env × Heap) : Out := intoE ctx 0 [0, 1, 7, 8] [] slices_IndexFunc_View_B0 x
noncomputable def slices_IndexFunc_View_K0 (x : Ex × Env × Heap) : Out := roundE ctx 0 [0, 1, 7, 8] [] slices_IndexFunc_View_B0 x
theorem slices_IndexFunc_View_L0_eq (env : Env) (H : Heap) : eval ctx slices_IndexFunc_View_L0 env H = (keepE [0, 1, 7, 8] env H).bind slices_IndexFunc_View_R0 := eval_bloop' ctx env H 0 [0, 1, 7, 8] [] slices_IndexFunc_View_B0
theorem slices_IndexFunc_View_R0_eq (env : Env) (H : Heap) : slices_IndexFunc_View_R0 (env, H) = (eval ctx slices_IndexFunc_View_B0 env H).bind slices_IndexFunc_View_K0 := (rfl)
theorem slices_IndexFunc_View_K0_norm (env : Env) (H : Heap) : slices_IndexFunc_View_K0 (.norm, env, H) = (keepE [0, 1, 7, 8] env H).bind slices_IndexFunc_View_R0 := slices_IndexFunc_View_L0_eq env H
theorem slices_IndexFunc_View_K0_ret (env : Env) (H : Heap) : slices_IndexFunc_View_K0 (.ret, env, H) = some (.ret, env, H) := (rfl)
theorem slices_IndexFunc_View_K0_exit (k : Nat) (env : Env) (H : Heap) : slices_IndexFunc_View_K0 (.exit k, env, H) = if k = 0 then (keepE [] env H).map normE else some (.exit k, env, H) := (rfl)
noncomputable def slices_Repeat_int_R0 (x : Env × Heap) : Out := intoE ctx 0 [7, 8] [7] slices_Repeat_int_B0 x
noncomputable def slices_Repeat_int_K0 (x : Ex × Env × Heap) : Out := roundE ctx 0 [7, 8] [7] slices_Repeat_int_B0 x
theorem slices_Repeat_int_L0_eq (env : Env) (H : Heap) : eval ctx slices_Repeat_int_L0 env H = (keepE [7, 8] env H).bind slices_Repeat_int_R0 := eval_bloop' ctx env H 0 [7, 8] [7] slices_Repeat_int_B0
theorem slices_Repeat_int_R0_eq (env : Env) (H : Heap) : slices_Repeat_int_R0 (env, H) = (eval ctx slices_Repeat_int_B0 env H).bind slices_Repeat_int_K0 := (rfl)
theorem slices_Repeat_int_K0_norm (env : Env) (H : Heap) : slices_Repeat_int_K0 (.norm, env, H) = (keepE [7, 8] env H).bind slices_Repeat_int_R0 := slices_Repeat_int_L0_eq env H
theorem slices_Repeat_int_K0_ret (env : Env) (H : Heap) : slices_Repeat_int_K0 (.ret, env, H) = some (.ret, env, H) := (rfl)
theorem slices_Repeat_int_K0_exit (k : Nat) (env : Env) (H : Heap) : slices_Repeat_int_K0 (.exit k, env, H) = if k = 0 then (keepE [7] env H).map normE else some (.exit k, env, H) := (rfl)
noncomputable def r05_Around_R0 (x : Env × Heap) : Out := intoE ctx 0 [3, 8, 10, 11] [8] r05_Around_B0 x
noncomputable def r05_Around_K0 (x : Ex × Env × Heap) : Out := roundE ctx 0 [3, 8, 10, 11] [8] r05_Around_B0 x
theorem r05_Around_L0_eq (env : Env) (H : Heap) : eval ctx r05_Around_L0 env H = (keepE [3, 8, 10, 11] env H).bind r05_Around_R0 := eval_bloop' ctx env H 0 [3, 8, 10, 11] [8] r05_Around_B0
theorem r05_Around_R0_eq (env : Env) (H : Heap) : r05_Around_R0 (env, H) = (eval ctx r05_Around_B0 env H).bind r05_Around_K0 := (rfl)
theorem r05_Around_K0_norm (env : Env) (H : Heap) : r05_Around_K0 (.norm, env, H) = (keepE [3, 8, 10, 11] env H).bind r05_Around_R0 := r05_Around_L0_eq env H
theorem r05_Around_K0_ret (env : Env) (H : Heap) : r05_Around_K0 (.ret, env, H) = some (.ret, env, H) := (rfl)
theorem r05_Around_K0_exit (k : Nat) (env : Env) (H : Heap) : r05_Around_K0 (.exit k, env, H) = if k = 0 then (keepE [8] env H).map normE else some (.exit k, env, H) := (rfl)
noncomputable def graph_Graph_Beside_R2 (x : Env × Heap) : Out := intoE ctx 2 [0, 1, 5, 34, 35, 36, 42, 43, 44] [0, 1, 5, 34, 35, 36] graph_Graph_Beside_B2 x
noncomputable def graph_Graph_Beside_K2 (x : Ex × Env × Heap) : Out := roundE ctx 2 [0, 1, 5, 34, 35, 36, 42, 43, 44] [0, 1, 5, 34, 35, 36] graph_Graph_Beside_B2 x
theorem graph_Graph_Beside_L2_eq (env : Env) (H : Heap) : eval ctx graph_Graph_Beside_L2 env H = (keepE [0, 1, 5, 34, 35, 36, 42, 43, 44] env H).bind graph_Graph_Beside_R2 := eval_bloop' ctx env H 2 [0, 1, 5, 34, 35, 36, 42, 43, 44] [0, 1, 5, 34, 35, 36] graph_Graph_Beside_B2
theorem graph_Graph_Beside_R2_eq (env : Env) (H : Heap) : graph_Graph_Beside_R2 (env, H) = (eval ctx graph_Graph_Beside_B2 env H).bind graph_Graph_Beside_K2 := (rfl)
theorem graph_Graph_Beside_K2_norm (env : Env) (H : Heap) : graph_Graph_Beside_K2 (.norm, env, H) = (keepE [0, 1, 5, 34, 35, 36, 42, 43, 44] env H).bind graph_Graph_Beside_R2 := graph_Graph_Beside_L2_eq env H
theorem graph_Graph_Beside_K2_ret (env : Env) (H : Heap) : graph_Graph_Beside_K2 (.ret, env, H) = some (.ret, env, H) := (rfl)
theorem graph_Graph_Beside_K2_exit (k : Nat) (env : Env) (H : Heap) : graph_Graph_Beside_K2 (.exit k, env, H) = if k = 2 then (keepE [0, 1, 5, 34, 35, 36] env H).map normE else some (.exit k, env, H) := (rfl)
noncomputable def graph_Graph_Beside_R0 (x : Env × Heap) : Out := intoE ctx 0 [0, 1, 5, 34, 35, 36] [5] graph_Graph_Beside_B0 x
noncomputable def graph_Graph_Beside_K0 (x : Ex × Env × Heap) : Out := roundE ctx 0 [0, 1, 5, 34, 35, 36] [5] graph_Graph_Beside_B0 x
theorem graph_Graph_Beside_L0_eq (env : Env) (H : Heap) : eval ctx graph_Graph_Beside_L0 env H = (keepE [0, 1, 5, 34, 35, 36] env H).bind graph_Graph_Beside_R0 := eval_bloop' ctx env H 0 [0, 1, 5, 34, 35, 36] [5] graph_Graph_Beside_B0
theorem graph_Graph_Beside_R0_eq (env : Env) (H : Heap) : graph_Graph_Beside_R0 (env, H) = (eval ctx graph_Graph_Beside_B0 env H).bind graph_Graph_Beside_K0 := (rfl)
theorem graph_Graph_Beside_K0_norm (env : Env) (H : Heap) : graph_Graph_Beside_K0 (.norm, env, H) = (keepE [0, 1, 5, 34, 35, 36] env H).bind graph_Graph_Beside_R0 := graph_Graph_Beside_L0_eq env H
theorem graph_Graph_Beside_K0_ret (env : Env) (H : Heap) : graph_Graph_Beside_K0 (.ret, env, H) = some (.ret, env, H) := (rfl)
theorem graph_Graph_Beside_K0_exit (k : Nat) (env : Env) (H : Heap) : graph_Graph_Beside_K0 (.exit k, env, H) = if k = 0 then (keepE [5] env H).map normE else some (.exit k, env, H) := (rfl)
noncomputable def slices_IndexFunc_End_R0 (x : Env × Heap) : Out := intoE ctx 0 [0, 1, 7, 8] [] slices_IndexFunc_End_B0 x
noncomputable def slices_IndexFunc_End_K0 (x : Ex × Env × Heap) : Out := roundE ctx 0 [0, 1, 7, 8] [] slices_IndexFunc_End_B0 x
theorem slices_IndexFunc_End_L0_eq (env : Env) (H : Heap) : eval ctx slices_IndexFunc_End_L0 env H = (keepE [0, 1, 7, 8] env H).bind slices_IndexFunc_End_R0 := eval_bloop' ctx env H 0 [0, 1, 7, 8] [] slices_IndexFunc_End_B0
theorem slices_IndexFunc_End_R0_eq (env : Env) (H : Heap) : slices_IndexFunc_End_R0 (env, H) = (eval ctx slices_IndexFunc_End_B0 env H).bind slices_IndexFunc_End_K0 := (rfl)
theorem slices_IndexFunc_End_K0_norm (env : Env) (H : Heap) : slices_IndexFunc_End_K0 (.norm, env, H) = (keepE [0, 1, 7, 8] env H).bind slices_IndexFunc_End_R0 := slices_IndexFunc_End_L0_eq env H
theorem slices_IndexFunc_End_K0_ret (env : Env) (H : Heap) : slices_IndexFunc_End_K0 (.ret, env, H) = some (.ret, env, H) := (rfl)
theorem slices_IndexFunc_End_K0_exit (k : Nat) (env : Env) (H : Heap) : slices_IndexFunc_End_K0 (.exit k, env, H) = if k = 0 then (keepE [] env H).map normE else some (.exit k, env, H) := (rfl)
noncomputable def slices_IndexFunc_Int_R0 (x : Env × Heap) : Out := intoE ctx 0 [0, 1, 7, 8] [] slices_IndexFunc_Int_B0 x
noncomputable def slices_IndexFunc_Int_K0 (x : Ex × Env × Heap) : Out := roundE ctx 0 [0, 1, 7, 8] [] slices_IndexFunc_Int_B0 x
theorem slices_IndexFunc_Int_L0_eq (env : Env) (H : Heap) : eval ctx slices_IndexFunc_Int_L0 env H = (keepE [0, 1, 7, 8] env H).bind slices_IndexFunc_Int_R0 := eval_bloop' ctx env H 0 [0, 1, 7, 8] [] slices_IndexFunc_Int_B0
theorem slices_IndexFunc_Int_R0_eq (env : Env) (H : Heap) : slices_IndexFunc_Int_R0 (env, H) = (eval ctx slices_IndexFunc_Int_B0 env H).bind slices_IndexFunc_Int_K0 := (rfl)
theorem slices_IndexFunc_Int_K0_norm (env : Env) (H : Heap) : slices_IndexFunc_Int_K0 (.norm, env, H) = (keepE [0, 1, 7, 8] env H).bind slices_IndexFunc_Int_R0 := slices_IndexFunc_Int_L0_eq env H
theorem slices_IndexFunc_Int_K0_ret (env : Env) (H : Heap) : slices_IndexFunc_Int_K0 (.ret, env, H) = some (.ret, env, H) := (rfl)
theorem slices_IndexFunc_Int_K0_exit (k : Nat) (env : Env) (H : Heap) : slices_IndexFunc_Int_K0 (.exit k, env, H) = if k = 0 then (keepE [] env H).map normE else some (.exit k, env, H) := (rfl)
noncomputable def slices_Index_int_R0 (x : Env × Heap) : Out := intoE ctx 0 [0, 1, 7, 8] [] slices_Index_int_B0 x
noncomputable def slices_Index_int_K0 (x : Ex × Env × Heap) : Out := roundE ctx 0 [0, 1, 7, 8] [] slices_Index_int_B0 x
theorem slices_Index_int_L0_eq (env : Env) (H : Heap) : eval ctx slices_Index_int_L0 env H = (keepE [0, 1, 7, 8] env H).bind slices_Index_int_R0 := eval_bloop' ctx env H 0 [0, 1, 7, 8] [] slices_Index_int_B0
theorem slices_Index_int_R0_eq (env : Env) (H : Heap) : slices_Index_int_R0 (env, H) = (eval ctx slices_Index_int_B0 env H).bind slices_Index_int_K0 := (rfl)
theorem slices_Index_int_K0_norm (env : Env) (H : Heap) : slices_Index_int_K0 (.norm, env, H) = (keepE [0, 1, 7, 8] env H).bind slices_Index_int_R0 := slices_Index_int_L0_eq env H
theorem slices_Index_int_K0_ret (env : Env) (H : Heap) : slices_Index_int_K0 (.ret, env, H) = some (.ret, env, H) := (rfl)
theorem slices_Index_int_K0_exit (k : Nat) (env : Env) (H : Heap) : slices_Index_int_K0 (.exit k, env, H) = if k = 0 then (keepE [] env H).map normE else some (.exit k, env, H) := (rfl)
noncomputable def r05_Point_R0 (x : Env × Heap) : Out := intoE ctx 0 [1, 2, 5] [] r05_Point_B0 x
noncomputable def r05_Point_K0 (x : Ex × Env × Heap) : Out := roundE ctx 0 [1, 2, 5] [] r05_Point_B0 x
theorem r05_Point_L0_eq (env : Env) (H : Heap) : eval ctx r05_Point_L0 env H = (keepE [1, 2, 5] env H).bind r05_Point_R0 := eval_bloop' ctx env H 0 [1, 2, 5] [] r05_Point_B0
theorem r05_Point_R0_eq (env : Env) (H : Heap) : r05_Point_R0 (env, H) = (eval ctx r05_Point_B0 env H).bind r05_Point_K0 := (rfl)
theorem r05_Point_K0_norm (env : Env) (H : Heap) : r05_Point_K0 (.norm, env, H) = (keepE [1, 2, 5] env H).bind r05_Point_R0 := r05_Point_L0_eq env H
theorem r05_Point_K0_ret (env : Env) (H : Heap) : r05_Point_K0 (.ret, env, H) = some (.ret, env, H) := (rfl)
theorem r05_Point_K0_exit (k : Nat) (env : Env) (H : Heap) : r05_Point_K0 (.exit k, env, H) = if k = 0 then (keepE [] env H).map normE else some (.exit k, env, H) := (rfl)
noncomputable def r05_one_R0 (x : Env × Heap) : Out := intoE ctx 0 [1, 7, 8] [] r05_one_B0 x
noncomputable def r05_one_K0 (x : Ex × Env × Heap) : Out := roundE ctx 0 [1, 7, 8] [] r05_one_B0 x
theorem r05_one_L0_eq (env : Env) (H : Heap) : eval ctx r05_one_L0 env H = (keepE [1, 7, 8] env H).bind r05_one_R0 := eval_bloop' ctx env H 0 [1, 7, 8] [] r05_one_B0
theorem r05_one_R0_eq (env : Env) (H : Heap) : r05_one_R0 (env, H) = (eval ctx r05_one_B0 env H).bind r05_one_K0 := (rfl)
theorem r05_one_K0_norm (env : Env) (H : Heap) : r05_one_K0 (.norm, env, H) = (keepE [1, 7, 8] env H).bind r05_one_R0 := r05_one_L0_eq env H
theorem r05_one_K0_ret (env : Env) (H : Heap) : r05_one_K0 (.ret, env, H) = some (.ret, env, H) := (rfl)
theorem r05_one_K0_exit (k : Nat) (env : Env) (H : Heap) : r05_one_K0 (.exit k, env, H) = if k = 0 then (keepE [] env H).map normE else some (.exit k, env, H) := (rfl)
noncomputable def r05_Ends_R0 (x : Env × Heap) : Out := intoE ctx 0 [1, 2, 5, 6] [5] r05_Ends_B0 x
noncomputable def r05_Ends_K0 (x : Ex × Env × Heap) : Out := roundE ctx 0 [1, 2, 5, 6] [5] r05_Ends_B0 x
theorem r05_Ends_L0_eq (env : Env) (H : Heap) : eval ctx r05_Ends_L0 env H = (keepE [1, 2, 5, 6] env H).bind r05_Ends_R0 := eval_bloop' ctx env H 0 [1, 2, 5, 6] [5] r05_Ends_B0
theorem r05_Ends_R0_eq (env : Env) (H : Heap) : r05_Ends_R0 (env, H) = (eval ctx r05_Ends_B0 env H).bind r05_Ends_K0 := (rfl)
theorem r05_Ends_K0_norm (env : Env) (H : Heap) : r05_Ends_K0 (.norm, env, H) = (keepE [1, 2, 5, 6] env H).bind r05_Ends_R0 := r05_Ends_L0_eq env H
theorem r05_Ends_K0_ret (env : Env) (H : Heap) : r05_Ends_K0 (.ret, env, H) = some (.ret, env, H) := (rfl)
theorem r05_Ends_K0_exit (k : Nat) (env : Env) (H : Heap) : r05_Ends_K0 (.exit k, env, H) = if k = 0 then (keepE [5] env H).map normE else some (.exit k, env, H) := (rfl)
noncomputable def graph_Graph_Near_R2 (x : Env × Heap) : Out := intoE ctx 2 [0, 1, 5, 9, 16, 17, 18] [0, 1, 5, 9] graph_Graph_Near_B2 x
noncomputable def graph_Graph_Near_K2 (x : Ex × Env × Heap) : Out := roundE ctx 2 [0, 1, 5, 9, 16, 17, 18] [0, 1, 5, 9] graph_Graph_Near_B2 x
theorem graph_Graph_Near_L2_eq (env : Env) (H : Heap) : eval ctx graph_Graph_Near_L2 env H = (keepE [0, 1, 5, 9, 16, 17, 18] env H).bind graph_Graph_Near_R2 := eval_bloop' ctx env H 2 [0, 1, 5, 9, 16, 17, 18] [0, 1, 5, 9] graph_Graph_Near_B2
theorem graph_Graph_Near_R2_eq (env : Env) (H : Heap) : graph_Graph_Near_R2 (env, H) = (eval ctx graph_Graph_Near_B2 env H).bind graph_Graph_Near_K2 := (rfl)
theorem graph_Graph_Near_K2_norm (env : Env) (H : Heap) : graph_Graph_Near_K2 (.norm, env, H) = (keepE [0, 1, 5, 9, 16, 17, 18] env H).bind graph_Graph_Near_R2 := graph_Graph_Near_L2_eq env H
theorem graph_Graph_Near_K2_ret (env : Env) (H : Heap) : graph_Graph_Near_K2 (.ret, env, H) = some (.ret, env, H) := (rfl)
theorem graph_Graph_Near_K2_exit (k : Nat) (env : Env) (H : Heap) : graph_Graph_Near_K2 (.exit k, env, H) = if k = 2 then (keepE [0, 1, 5, 9] env H).map normE else some (.exit k, env, H) := (rfl)
noncomputable def graph_Graph_Near_R0 (x : Env × Heap) : Out := intoE ctx 0 [0, 1, 5, 9] [5] graph_Graph_Near_B0 x
noncomputable def graph_Graph_Near_K0 (x : Ex × Env × Heap) : Out := roundE ctx 0 [0, 1, 5, 9] [5] graph_Graph_Near_B0 x
theorem graph_Graph_Near_L0_eq (env : Env) (H : Heap) : eval ctx graph_Graph_Near_L0 env H = (keepE [0, 1, 5, 9] env H).bind graph_Graph_Near_R0 := eval_bloop' ctx env H 0 [0, 1, 5, 9] [5] graph_Graph_Near_B0
theorem graph_Graph_Near_R0_eq (env : Env) (H : Heap) : graph_Graph_Near_R0 (env, H) = (eval ctx graph_Graph_Near_B0 env H).bind graph_Graph_Near_K0 := (rfl)
theorem graph_Graph_Near_K0_norm (env : Env) (H : Heap) : graph_Graph_Near_K0 (.norm, env, H) = (keepE [0, 1, 5, 9] env H).bind graph_Graph_Near_R0 := graph_Graph_Near_L0_eq env H
theorem graph_Graph_Near_K0_ret (env : Env) (H : Heap) : graph_Graph_Near_K0 (.ret, env, H) = some (.ret, env, H) := (rfl)
theorem graph_Graph_Near_K0_exit (k : Nat) (env : Env) (H : Heap) : graph_Graph_Near_K0 (.exit k, env, H) = if k = 0 then (keepE [5] env H).map normE else some (.exit k, env, H) := (rfl)
noncomputable def slices_Compact_int_R2 (x : Env × Heap) : Out := intoE ctx 2 [0, 3, 4, 5] [0, 3] slices_Compact_int_B2 x
noncomputable def slices_Compact_int_K2 (x : Ex × Env × Heap) : Out := roundE ctx 2 [0, 3, 4, 5] [0, 3] slices_Compact_int_B2 x
theorem slices_Compact_int_L2_eq (env : Env) (H : Heap) : eval ctx slices_Compact_int_L2 env H = (keepE [0, 3, 4, 5] env H).bind slices_Compact_int_R2 := eval_bloop' ctx env H 2 [0, 3, 4, 5] [0, 3] slices_Compact_int_B2
theorem slices_Compact_int_R2_eq (env : Env) (H : Heap) : slices_Compact_int_R2 (env, H) = (eval ctx slices_Compact_int_B2 env H).bind slices_Compact_int_K2 := (rfl)
theorem slices_Compact_int_K2_norm (env : Env) (H : Heap) : slices_Compact_int_K2 (.norm, env, H) = (keepE [0, 3, 4, 5] env H).bind slices_Compact_int_R2 := slices_Compact_int_L2_eq env H
theorem slices_Compact_int_K2_ret (env : Env) (H : Heap) : slices_Compact_int_K2 (.ret, env, H) = some (.ret, env, H) := (rfl)
theorem slices_Compact_int_K2_exit (k : Nat) (env : Env) (H : Heap) : slices_Compact_int_K2 (.exit k, env, H) = if k = 2 then (keepE [0, 3] env H).map normE else some (.exit k, env, H) := (rfl)
noncomputable def slices_Compact_int_R0 (x : Env × Heap) : Out := intoE ctx 0 [0, 3] [0] slices_Compact_int_B0 x
noncomputable def slices_Compact_int_K0 (x : Ex × Env × Heap) : Out := roundE ctx 0 [0, 3] [0] slices_Compact_int_B0 x
theorem slices_Compact_int_L0_eq (env : Env) (H : Heap) : eval ctx slices_Compact_int_L0 env H = (keepE [0, 3] env H).bind slices_Compact_int_R0 := eval_bloop' ctx env H 0 [0, 3] [0] slices_Compact_int_B0
theorem slices_Compact_int_R0_eq (env : Env) (H : Heap) : slices_Compact_int_R0 (env, H) = (eval ctx slices_Compact_int_B0 env H).bind slices_Compact_int_K0 := (rfl)
theorem slices_Compact_int_K0_norm (env : Env) (H : Heap) : slices_Compact_int_K0 (.norm, env, H) = (keepE [0, 3] env H).bind slices_Compact_int_R0 := slices_Compact_int_L0_eq env H
theorem slices_Compact_int_K0_ret (env : Env) (H : Heap) : slices_Compact_int_K0 (.ret, env, H) = some (.ret, env, H) := (rfl)
theorem slices_Compact_int_K0_exit (k : Nat) (env : Env) (H : Heap) : slices_Compact_int_K0 (.exit k, env, H) = if k = 0 then (keepE [0] env H).map normE else some (.exit k, env, H) := (rfl)
noncomputable def slices_DeleteFunc_End_R0 (x : Env × Heap) : Out := intoE ctx 0 [0, 1, 5, 6] [0, 5] slices_DeleteFunc_End_B0 x
noncomputable def slices_DeleteFunc_End_K0 (x : Ex × Env × Heap) : Out := roundE ctx 0 [0, 1, 5, 6] [0, 5] slices_DeleteFunc_End_B0 x
theorem slices_DeleteFunc_End_L0_eq (env : Env) (H : Heap) : eval ctx slices_DeleteFunc_End_L0 env H = (keepE [0, 1, 5, 6] env H).bind slices_DeleteFunc_End_R0 := eval_bloop' ctx env H 0 [0, 1, 5, 6] [0, 5] slices_DeleteFunc_End_B0
theorem slices_DeleteFunc_End_R0_eq (env : Env) (H : Heap) : slices_DeleteFunc_End_R0 (env, H) = (eval ctx slices_DeleteFunc_End_B0 env H).bind slices_DeleteFunc_End_K0 := (rfl)
theorem slices_DeleteFunc_End_K0_norm (env : Env) (H : Heap) : slices_DeleteFunc_End_K0 (.norm, env, H) = (keepE [0, 1, 5, 6] env H).bind slices_DeleteFunc_End_R0 := slices_DeleteFunc_End_L0_eq env H
theorem slices_DeleteFunc_End_K0_ret (env : Env) (H : Heap) : slices_DeleteFunc_End_K0 (.ret, env, H) = some (.ret, env, H) := (rfl)
theorem slices_DeleteFunc_End_K0_exit (k : Nat) (env : Env) (H : Heap) : slices_DeleteFunc_End_K0 (.exit k, env, H) = if k = 0 then (keepE [0, 5] env H).map normE else some (.exit k, env, H) := (rfl)
noncomputable def graph_Graph_Ends_R2 (x : Env × Heap) : Out := intoE ctx 2 [0, 1, 5, 6, 26, 27] [0, 1, 5, 6] graph_Graph_Ends_B2 x
noncomputable def graph_Graph_Ends_K2 (x : Ex × Env × Heap) : Out := roundE ctx 2 [0, 1, 5, 6, 26, 27] [0, 1, 5, 6] graph_Graph_Ends_B2 x
theorem graph_Graph_Ends_L2_eq (env : Env) (H : Heap) : eval ctx graph_Graph_Ends_L2 env H = (keepE [0, 1, 5, 6, 26, 27] env H).bind graph_Graph_Ends_R2 := eval_bloop' ctx env H 2 [0, 1, 5, 6, 26, 27] [0, 1, 5, 6] graph_Graph_Ends_B2
theorem graph_Graph_Ends_R2_eq (env : Env) (H : Heap) : graph_Graph_Ends_R2 (env, H) = (eval ctx graph_Graph_Ends_B2 env H).bind graph_Graph_Ends_K2 := (rfl)
theorem graph_Graph_Ends_K2_norm (env : Env) (H : Heap) : graph_Graph_Ends_K2 (.norm, env, H) = (keepE [0, 1, 5, 6, 26, 27] env H).bind graph_Graph_Ends_R2 := graph_Graph_Ends_L2_eq env H
theorem graph_Graph_Ends_K2_ret (env : Env) (H : Heap) : graph_Graph_Ends_K2 (.ret, env, H) = some (.ret, env, H) := (rfl)
theorem graph_Graph_Ends_K2_exit (k : Nat) (env : Env) (H : Heap) : graph_Graph_Ends_K2 (.exit k, env, H) = if k = 2 then (keepE [0, 1, 5, 6] env H).map normE else some (.exit k, env, H) := (rfl)
noncomputable def graph_Graph_Ends_R0 (x : Env × Heap) : Out := intoE ctx 0 [0, 1, 5, 6] [] graph_Graph_Ends_B0 x
noncomputable def graph_Graph_Ends_K0 (x : Ex × Env × Heap) : Out := roundE ctx 0 [0, 1, 5, 6] [] graph_Graph_Ends_B0 x
theorem graph_Graph_Ends_L0_eq (env : Env) (H : Heap) : eval ctx graph_Graph_Ends_L0 env H = (keepE [0, 1, 5, 6] env H).bind graph_Graph_Ends_R0 := eval_bloop' ctx env H 0 [0, 1, 5, 6] [] graph_Graph_Ends_B0
theorem graph_Graph_Ends_R0_eq (env : Env) (H : Heap) : graph_Graph_Ends_R0 (env, H) = (eval ctx graph_Graph_Ends_B0 env H).bind graph_Graph_Ends_K0 := (rfl)
theorem graph_Graph_Ends_K0_norm (env : Env) (H : Heap) : graph_Graph_Ends_K0 (.norm, env, H) = (keepE [0, 1, 5, 6] env H).bind graph_Graph_Ends_R0 := graph_Graph_Ends_L0_eq env H
theorem graph_Graph_Ends_K0_ret (env : Env) (H : Heap) : graph_Graph_Ends_K0 (.ret, env, H) = some (.ret, env, H) := (rfl)
theorem graph_Graph_Ends_K0_exit (k : Nat) (env : Env) (H : Heap) : graph_Graph_Ends_K0 (.exit k, env, H) = if k = 0 then (keepE [] env H).map normE else some (.exit k, env, H) := (rfl)
noncomputable def slices_Concat_End_R0 (x : Env × Heap) : Out := intoE ctx 0 [0, 3, 9, 10, 11] [0, 3] slices_Concat_End_B0 x
noncomputable def slices_Concat_End_K0 (x : Ex × Env × Heap) : Out := roundE ctx 0 [0, 3, 9, 10, 11] [0, 3] slices_Concat_End_B0 x
theorem slices_Concat_End_L0_eq (env : Env) (H : Heap) : eval ctx slices_Concat_End_L0 env H = (keepE [0, 3, 9, 10, 11] env H).bind slices_Concat_End_R0 := eval_bloop' ctx env H 0 [0, 3, 9, 10, 11] [0, 3] slices_Concat_End_B0
theorem slices_Concat_End_R0_eq (env : Env) (H : Heap) : slices_Concat_End_R0 (env, H) = (eval ctx slices_Concat_End_B0 env H).bind slices_Concat_End_K0 := (rfl)
theorem slices_Concat_End_K0_norm (env : Env) (H : Heap) : slices_Concat_End_K0 (.norm, env, H) = (keepE [0, 3, 9, 10, 11] env H).bind slices_Concat_End_R0 := slices_Concat_End_L0_eq env H
theorem slices_Concat_End_K0_ret (env : Env) (H : Heap) : slices_Concat_End_K0 (.ret, env, H) = some (.ret, env, H) := (rfl)
theorem slices_Concat_End_K0_exit (k : Nat) (env : Env) (H : Heap) : slices_Concat_End_K0 (.exit k, env, H) = if k = 0 then (keepE [0, 3] env H).map normE else some (.exit k, env, H) := (rfl)
noncomputable def slices_Concat_End_R2 (x : Env × Heap) : Out := intoE ctx 2 [6, 25, 26, 27] [6] slices_Concat_End_B2 x
noncomputable def slices_Concat_End_K2 (x : Ex × Env × Heap) : Out := roundE ctx 2 [6, 25, 26, 27] [6] slices_Concat_End_B2 x
theorem slices_Concat_End_L2_eq (env : Env) (H : Heap) : eval ctx slices_Concat_End_L2 env H = (keepE [6, 25, 26, 27] env H).bind slices_Concat_End_R2 := eval_bloop' ctx env H 2 [6, 25, 26, 27] [6] slices_Concat_End_B2
theorem slices_Concat_End_R2_eq (env : Env) (H : Heap) : slices_Concat_End_R2 (env, H) = (eval ctx slices_Concat_End_B2 env H).bind slices_Concat_End_K2 := (rfl)
theorem slices_Concat_End_K2_norm (env : Env) (H : Heap) : slices_Concat_End_K2 (.norm, env, H) = (keepE [6, 25, 26, 27] env H).bind slices_Concat_End_R2 := slices_Concat_End_L2_eq env H
theorem slices_Concat_End_K2_ret (env : Env) (H : Heap) : slices_Concat_End_K2 (.ret, env, H) = some (.ret, env, H) := (rfl)
theorem slices_Concat_End_K2_exit (k : Nat) (env : Env) (H : Heap) : slices_Concat_End_K2 (.exit k, env, H) = if k = 2 then (keepE [6] env H).map normE else some (.exit k, env, H) := (rfl)
noncomputable def graph_Graph_at_R0 (x : Env × Heap) : Out := intoE ctx 0 [1, 11, 12, 13] [] graph_Graph_at_B0 x
noncomputable def graph_Graph_at_K0 (x : Ex × Env × Heap) : Out := roundE ctx 0 [1, 11, 12, 13] [] graph_Graph_at_B0 x
theorem graph_Graph_at_L0_eq (env : Env) (H : Heap) : eval ctx graph_Graph_at_L0 env H = (keepE [1, 11, 12, 13] env H).bind graph_Graph_at_R0 := eval_bloop' ctx env H 0 [1, 11, 12, 13] [] graph_Graph_at_B0
theorem graph_Graph_at_R0_eq (env : Env) (H : Heap) : graph_Graph_at_R0 (env, H) = (eval ctx graph_Graph_at_B0 env H).bind graph_Graph_at_K0 := (rfl)
theorem graph_Graph_at_K0_norm (env : Env) (H : Heap) : graph_Graph_at_K0 (.norm, env, H) = (keepE [1, 11, 12, 13] env H).bind graph_Graph_at_R0 := graph_Graph_at_L0_eq env H
theorem graph_Graph_at_K0_ret (env : Env) (H : Heap) : graph_Graph_at_K0 (.ret, env, H) = some (.ret, env, H) := (rfl)
theorem graph_Graph_at_K0_exit (k : Nat) (env : Env) (H : Heap) : graph_Graph_at_K0 (.exit k, env, H) = if k = 0 then (keepE [] env H).map normE else some (.exit k, env, H) := (rfl)
noncomputable def slices_pdqsortOrdered_int_R0 (x : Env × Heap) : Out := intoE ctx 0 [0, 1, 2, 3, 8, 9] [] slices_pdqsortOrdered_int_B0 x
noncomputable def slices_pdqsortOrdered_int_K0 (x : Ex × Env × Heap) : Out := roundE ctx 0 [0, 1, 2, 3, 8, 9] [] slices_pdqsortOrdered_int_B0 x
theorem slices_pdqsortOrdered_int_L0_eq (env : Env) (H : Heap) : eval ctx slices_pdqsortOrdered_int_L0 env H = (keepE [0, 1, 2, 3, 8, 9] env H).bind slices_pdqsortOrdered_int_R0 := eval_bloop' ctx env H 0 [0, 1, 2, 3, 8, 9] [] slices_pdqsortOrdered_int_B0
theorem slices_pdqsortOrdered_int_R0_eq (env : Env) (H : Heap) : slices_pdqsortOrdered_int_R0 (env, H) = (eval ctx slices_pdqsortOrdered_int_B0 env H).bind slices_pdqsortOrdered_int_K0 := (rfl)
theorem slices_pdqsortOrdered_int_K0_norm (env : Env) (H : Heap) : slices_pdqsortOrdered_int_K0 (.norm, env, H) = (keepE [0, 1, 2, 3, 8, 9] env H).bind slices_pdqsortOrdered_int_R0 := slices_pdqsortOrdered_int_L0_eq env H
theorem slices_pdqsortOrdered_int_K0_ret (env : Env) (H : Heap) : slices_pdqsortOrdered_int_K0 (.ret, env, H) = some (.ret, env, H) := (rfl)
theorem slices_pdqsortOrdered_int_K0_exit (k : Nat) (env : Env) (H : Heap) : slices_pdqsortOrdered_int_K0 (.exit k, env, H) = if k = 0 then (keepE [] env H).map normE else some (.exit k, env, H) := (rfl)
noncomputable def slices_IndexFunc_int_R0 (x : Env × Heap) : Out := intoE ctx 0 [0, 1, 7, 8] [] slices_IndexFunc_int_B0 x
noncomputable def slices_IndexFunc_int_K0 (x : Ex × Env × Heap) : Out := roundE ctx 0 [0, 1, 7, 8] [] slices_IndexFunc_int_B0 x
theorem slices_IndexFunc_int_L0_eq (env : Env) (H : Heap) : eval ctx slices_IndexFunc_int_L0 env H = (keepE [0, 1, 7, 8] env H).bind slices_IndexFunc_int_R0 := eval_bloop' ctx env H 0 [0, 1, 7, 8] [] slices_IndexFunc_int_B0
theorem slices_IndexFunc_int_R0_eq (env : Env) (H : Heap) : slices_IndexFunc_int_R0 (env, H) = (eval ctx slices_IndexFunc_int_B0 env H).bind slices_IndexFunc_int_K0 := (rfl)
theorem slices_IndexFunc_int_K0_norm (env : Env) (H : Heap) : slices_IndexFunc_int_K0 (.norm, env, H) = (keepE [0, 1, 7, 8] env H).bind slices_IndexFunc_int_R0 := slices_IndexFunc_int_L0_eq env H
theorem slices_IndexFunc_int_K0_ret (env : Env) (H : Heap) : slices_IndexFunc_int_K0 (.ret, env, H) = some (.ret, env, H) := (rfl)
theorem slices_IndexFunc_int_K0_exit (k : Nat) (env : Env) (H : Heap) : slices_IndexFunc_int_K0 (.exit k, env, H) = if k = 0 then (keepE [] env H).map normE else some (.exit k, env, H) := (rfl)
noncomputable def slices_IndexFunc_Point_R0 (x : Env × Heap) : Out := intoE ctx 0 [0, 1, 7, 8] [] slices_IndexFunc_Point_B0 x
noncomputable def slices_IndexFunc_Point_K0 (x : Ex × Env × Heap) : Out := roundE ctx 0 [0, 1, 7, 8] [] slices_IndexFunc_Point_B0 x
theorem slices_IndexFunc_Point_L0_eq (env : Env) (H : Heap) : eval ctx slices_IndexFunc_Point_L0 env H = (keepE [0, 1, 7, 8] env H).bind slices_IndexFunc_Point_R0 := eval_bloop' ctx env H 0 [0, 1, 7, 8] [] slices_IndexFunc_Point_B0
theorem slices_IndexFunc_Point_R0_eq (env : Env) (H : Heap) : slices_IndexFunc_Point_R0 (env, H) = (eval ctx slices_IndexFunc_Point_B0 env H).bind slices_IndexFunc_Point_K0 := (rfl)
theorem slices_IndexFunc_Point_K0_norm (env : Env) (H : Heap) : slices_IndexFunc_Point_K0 (.norm, env, H) = (keepE [0, 1, 7, 8] env H).bind slices_IndexFunc_Point_R0 := slices_IndexFunc_Point_L0_eq env H
theorem slices_IndexFunc_Point_K0_ret (env : Env) (H : Heap) : slices_IndexFunc_Point_K0 (.ret, env, H) = some (.ret, env, H) := (rfl)
theorem slices_IndexFunc_Point_K0_exit (k : Nat) (env : Env) (H : Heap) : slices_IndexFunc_Point_K0 (.exit k, env, H) = if k = 0 then (keepE [] env H).map normE else some (.exit k, env, H) := (rfl)
noncomputable def slices_insertionSortOrdered_int_R2 (x : Env × Heap) : Out := intoE ctx 2 [0, 1, 2, 6, 7] [0, 1, 2, 6] slices_insertionSortOrdered_int_B2 x
noncomputable def slices_insertionSortOrdered_int_K2 (x : Ex × Env × Heap) : Out := roundE ctx 2 [0, 1, 2, 6, 7] [0, 1, 2, 6] slices_insertionSortOrdered_int_B2 x
theorem slices_insertionSortOrdered_int_L2_eq (env : Env) (H : Heap) : eval ctx slices_insertionSortOrdered_int_L2 env H = (keepE [0, 1, 2, 6, 7] env H).bind slices_insertionSortOrdered_int_R2 := eval_bloop' ctx env H 2 [0, 1, 2, 6, 7] [0, 1, 2, 6] slices_insertionSortOrdered_int_B2
theorem slices_insertionSortOrdered_int_R2_eq (env : Env) (H : Heap) : slices_insertionSortOrdered_int_R2 (env, H) = (eval ctx slices_insertionSortOrdered_int_B2 env H).bind slices_insertionSortOrdered_int_K2 := (rfl)
theorem slices_insertionSortOrdered_int_K2_norm (env : Env) (H : Heap) : slices_insertionSortOrdered_int_K2 (.norm, env, H) = (keepE [0, 1, 2, 6, 7] env H).bind slices_insertionSortOrdered_int_R2 := slices_insertionSortOrdered_int_L2_eq env H
theorem slices_insertionSortOrdered_int_K2_ret (env : Env) (H : Heap) : slices_insertionSortOrdered_int_K2 (.ret, env, H) = some (.ret, env, H) := (rfl)
theorem slices_insertionSortOrdered_int_K2_exit (k : Nat) (env : Env) (H : Heap) : slices_insertionSortOrdered_int_K2 (.exit k, env, H) = if k = 2 then (keepE [0, 1, 2, 6] env H).map normE else some (.exit k, env, H) := (rfl)
noncomputable def slices_insertionSortOrdered_int_R0 (x : Env × Heap) : Out := intoE ctx 0 [0, 1, 2, 6] [] slices_insertionSortOrdered_int_B0 x
noncomputable def slices_insertionSortOrdered_int_K0 (x : Ex × Env × Heap) : Out := roundE ctx 0 [0, 1, 2, 6] [] slices_insertionSortOrdered_int_B0 x
theorem slices_insertionSortOrdered_int_L0_eq (env : Env) (H : Heap) : eval ctx slices_insertionSortOrdered_int_L0 env H = (keepE [0, 1, 2, 6] env H).bind slices_insertionSortOrdered_int_R0 := eval_bloop' ctx env H 0 [0, 1, 2, 6] [] slices_insertionSortOrdered_int_B0
theorem slices_insertionSortOrdered_int_R0_eq (env : Env) (H : Heap) : slices_insertionSortOrdered_int_R0 (env, H) = (eval ctx slices_insertionSortOrdered_int_B0 env H).bind slices_insertionSortOrdered_int_K0 := (rfl)
theorem slices_insertionSortOrdered_int_K0_norm (env : Env) (H : Heap) : slices_insertionSortOrdered_int_K0 (.norm, env, H) = (keepE [0, 1, 2, 6] env H).bind slices_insertionSortOrdered_int_R0 := slices_insertionSortOrdered_int_L0_eq env H
theorem slices_insertionSortOrdered_int_K0_ret (env : Env) (H : Heap) : slices_insertionSortOrdered_int_K0 (.ret, env, H) = some (.ret, env, H) := (rfl)
theorem slices_insertionSortOrdered_int_K0_exit (k : Nat) (env : Env) (H : Heap) : slices_insertionSortOrdered_int_K0 (.exit k, env, H) = if k = 0 then (keepE [] env H).map normE else some (.exit k, env, H) := (rfl)
end Go.Proofs.Ytmjffmghkfappaa.Zt
