/- Go functions, as the interpreter runs them: written by a program of this claim's own, proved to be what the compiler makes of them. No condition. -/
import Derived.Test.YtmkdhpjidhbijaaZcT0
import Derived.Test.YtmkdhpjidhbijaaZcKt
set_option linter.all false
namespace Go.Proofs.Ytmkdhpjidhbijaa.Zt
open Go Go.Zc
set_option maxRecDepth 100000

/-- All of them. -/
def tab : List (Nat × FInfo) := [(7, l10_TrainFull_I), (8, l10_TrainSilent_I), (15, l10_behind_I), (23, train_New_I), (25, train_Register_Open_I), (36, train_Register_Close_I), (37, train_Register_All_I), (38, train_Register_Mute_I), (39, train_Register_Doubt_I), (71, train_Register_those_I), (72, train_Register_Mute_1_I), (73, train_Register_Mute_2_I), (74, train_Register_Doubt_1_I), (75, train_Register_Doubt_2_I), (70, maps_Keys_Train_I), (27, r01_Ints_I), (54, train_Join_I), (62, slices_Clone_int_I), (86, slices_Contains_int_I), (100, slices_Index_int_I), (42, r01_Has_I)]
/-- What has a contract of its own. -/
def prims : List (Nat × (List CV → List Blk → Option (CV × List Blk))) := Zk.prims
def ctx : Ctx := ⟨Zc.look tab, Zc.look prims⟩
theorem l10_TrainFull_ok : compF Try.prog (quietOf ctx) l10_TrainFull_A (.fz false) Try.f7 = some l10_TrainFull_I := by kernel_rfl
theorem l10_TrainSilent_ok : compF Try.prog (quietOf ctx) l10_TrainSilent_A (.fz false) Try.f8 = some l10_TrainSilent_I := by kernel_rfl
theorem l10_behind_ok : compF Try.prog (quietOf ctx) l10_behind_A (.fz false) Try.f15 = some l10_behind_I := by kernel_rfl
theorem train_New_ok : compF Try.prog (quietOf ctx) train_New_A .ref Try.f23 = some train_New_I := by kernel_rfl
theorem train_Register_Open_ok : compF Try.prog (quietOf ctx) train_Register_Open_A .ref Try.f25 = some train_Register_Open_I := by kernel_rfl
theorem train_Register_Close_ok : compF Try.prog (quietOf ctx) train_Register_Close_A .ref Try.f36 = some train_Register_Close_I := by kernel_rfl
theorem train_Register_All_ok : compF Try.prog (quietOf ctx) train_Register_All_A .ref Try.f37 = some train_Register_All_I := by kernel_rfl
theorem train_Register_Mute_ok : compF Try.prog (quietOf ctx) train_Register_Mute_A .ref Try.f38 = some train_Register_Mute_I := by kernel_rfl
theorem train_Register_Doubt_ok : compF Try.prog (quietOf ctx) train_Register_Doubt_A .ref Try.f39 = some train_Register_Doubt_I := by kernel_rfl
theorem train_Register_those_ok : compF Try.prog (quietOf ctx) train_Register_those_A .ref Try.f71 = some train_Register_those_I := by kernel_rfl
theorem train_Register_Mute_1_ok : compF Try.prog (quietOf ctx) train_Register_Mute_1_A .ref Try.f72 = some train_Register_Mute_1_I := by kernel_rfl
theorem train_Register_Mute_2_ok : compF Try.prog (quietOf ctx) train_Register_Mute_2_A .ref Try.f73 = some train_Register_Mute_2_I := by kernel_rfl
theorem train_Register_Doubt_1_ok : compF Try.prog (quietOf ctx) train_Register_Doubt_1_A .ref Try.f74 = some train_Register_Doubt_1_I := by kernel_rfl
theorem train_Register_Doubt_2_ok : compF Try.prog (quietOf ctx) train_Register_Doubt_2_A .ref Try.f75 = some train_Register_Doubt_2_I := by kernel_rfl
theorem maps_Keys_Train_ok : compF Try.prog (quietOf ctx) maps_Keys_Train_A .ref Try.f70 = some maps_Keys_Train_I := by kernel_rfl
theorem r01_Ints_ok : compF Try.prog (quietOf ctx) r01_Ints_A (.fz false) Try.f27 = some r01_Ints_I := by kernel_rfl
theorem train_Join_ok : compF Try.prog (quietOf ctx) train_Join_A (.fz false) Try.f54 = some train_Join_I := by kernel_rfl
theorem slices_Clone_int_ok : compF Try.prog (quietOf ctx) slices_Clone_int_A .own Try.f62 = some slices_Clone_int_I := by kernel_rfl
theorem slices_Contains_int_ok : compF Try.prog (quietOf ctx) slices_Contains_int_A (.fz false) Try.f86 = some slices_Contains_int_I := by kernel_rfl
theorem slices_Index_int_ok : compF Try.prog (quietOf ctx) slices_Index_int_A (.fz false) Try.f100 = some slices_Index_int_I := by kernel_rfl
theorem r01_Has_ok : compF Try.prog (quietOf ctx) r01_Has_A (.fz false) Try.f42 = some r01_Has_I := by kernel_rfl
theorem ctx_ok : CtxOk Try.prog ctx :=
  ctxOk_prims (by kernel_rfl) (
    .cons ⟨_, _, Try.func7, l10_TrainFull_ok⟩ (
    .cons ⟨_, _, Try.func8, l10_TrainSilent_ok⟩ (
    .cons ⟨_, _, Try.func15, l10_behind_ok⟩ (
    .cons ⟨_, _, Try.func23, train_New_ok⟩ (
    .cons ⟨_, _, Try.func25, train_Register_Open_ok⟩ (
    .cons ⟨_, _, Try.func36, train_Register_Close_ok⟩ (
    .cons ⟨_, _, Try.func37, train_Register_All_ok⟩ (
    .cons ⟨_, _, Try.func38, train_Register_Mute_ok⟩ (
    .cons ⟨_, _, Try.func39, train_Register_Doubt_ok⟩ (
    .cons ⟨_, _, Try.func71, train_Register_those_ok⟩ (
    .cons ⟨_, _, Try.func72, train_Register_Mute_1_ok⟩ (
    .cons ⟨_, _, Try.func73, train_Register_Mute_2_ok⟩ (
    .cons ⟨_, _, Try.func74, train_Register_Doubt_1_ok⟩ (
    .cons ⟨_, _, Try.func75, train_Register_Doubt_2_ok⟩ (
    .cons ⟨_, _, Try.func70, maps_Keys_Train_ok⟩ (
    .cons ⟨_, _, Try.func27, r01_Ints_ok⟩ (
    .cons ⟨_, _, Try.func54, train_Join_ok⟩ (
    .cons ⟨_, _, Try.func62, slices_Clone_int_ok⟩ (
    .cons ⟨_, _, Try.func86, slices_Contains_int_ok⟩ (
    .cons ⟨_, _, Try.func100, slices_Index_int_ok⟩ (
    .cons ⟨_, _, Try.func42, r01_Has_ok⟩ (
    .nil)))))))))))))))))))))) Zk.prims_ok
noncomputable def l10_TrainFull_F (st : Bool) (H : Heap) (xs : List CV) : Option (CV × Heap) := fzE ctx false 2 l10_TrainFull_C [.tmp 4] st H xs
theorem l10_TrainFull_F_eq (st : Bool) (H : Heap) (xs : List CV) : l10_TrainFull_F st H xs = if xs.length = 2 then (eval ctx l10_TrainFull_C (enterC 0 xs) ⟨[], []⟩).bind (fzOut [.tmp 4] st false H) else none := (rfl)
theorem l10_TrainFull_call (cap args : List CV) (H : Heap) : call ctx (.fn (.func 7) [] cap) args H = (snapL H false false (args ++ cap)).bind (l10_TrainFull_F (CV.refs (args ++ cap)) H) := fz_call rfl (show ctx.info 7 = some l10_TrainFull_I by kernel_rfl) cap args H
noncomputable def l10_TrainSilent_F (st : Bool) (H : Heap) (xs : List CV) : Option (CV × Heap) := fzE ctx false 3 l10_TrainSilent_C [.tmp 6] st H xs
theorem l10_TrainSilent_F_eq (st : Bool) (H : Heap) (xs : List CV) : l10_TrainSilent_F st H xs = if xs.length = 3 then (eval ctx l10_TrainSilent_C (enterC 0 xs) ⟨[], []⟩).bind (fzOut [.tmp 6] st false H) else none := (rfl)
theorem l10_TrainSilent_call (cap args : List CV) (H : Heap) : call ctx (.fn (.func 8) [] cap) args H = (snapL H false false (args ++ cap)).bind (l10_TrainSilent_F (CV.refs (args ++ cap)) H) := fz_call rfl (show ctx.info 8 = some l10_TrainSilent_I by kernel_rfl) cap args H
noncomputable def l10_behind_F (st : Bool) (H : Heap) (xs : List CV) : Option (CV × Heap) := fzE ctx false 0 l10_behind_C [.tmp 0] st H xs
theorem l10_behind_F_eq (st : Bool) (H : Heap) (xs : List CV) : l10_behind_F st H xs = if xs.length = 0 then (eval ctx l10_behind_C (enterC 0 xs) ⟨[], []⟩).bind (fzOut [.tmp 0] st false H) else none := (rfl)
theorem l10_behind_call (cap args : List CV) (H : Heap) : call ctx (.fn (.func 15) [] cap) args H = (snapL H false false (args ++ cap)).bind (l10_behind_F (CV.refs (args ++ cap)) H) := fz_call rfl (show ctx.info 15 = some l10_behind_I by kernel_rfl) cap args H
noncomputable def train_New_F (bx : List (Nat × List CV)) (bl : List Blk) (xs : List CV) : Option (CV × Heap) := if xs.length = 0 then (eval ctx train_New_C (enterC 0 xs) ⟨[], bl⟩).bind (refOut [.tmp 0] bx) else none
theorem train_New_F_eq (bx : List (Nat × List CV)) (bl : List Blk) (xs : List CV) : train_New_F bx bl xs = if xs.length = 0 then (eval ctx train_New_C (enterC 0 xs) ⟨[], bl⟩).bind (refOut [.tmp 0] bx) else none := (rfl)
theorem train_New_call (cap args : List CV) (bx : List (Nat × List CV)) (bl : List Blk) : call ctx (.fn (.func 23) [] cap) args ⟨bx, bl⟩ = if CV.locs (args ++ cap) then none else train_New_F bx bl (args ++ cap) := ref_call rfl (show ctx.info 23 = some train_New_I by kernel_rfl) cap args bx bl
noncomputable def train_Register_Open_F (bx : List (Nat × List CV)) (bl : List Blk) (xs : List CV) : Option (CV × Heap) := if xs.length = 3 then (eval ctx train_Register_Open_C (enterC 0 xs) ⟨[], bl⟩).bind (refOut [.tmp 6] bx) else none
theorem train_Register_Open_F_eq (bx : List (Nat × List CV)) (bl : List Blk) (xs : List CV) : train_Register_Open_F bx bl xs = if xs.length = 3 then (eval ctx train_Register_Open_C (enterC 0 xs) ⟨[], bl⟩).bind (refOut [.tmp 6] bx) else none := (rfl)
theorem train_Register_Open_call (cap args : List CV) (bx : List (Nat × List CV)) (bl : List Blk) : call ctx (.fn (.func 25) [] cap) args ⟨bx, bl⟩ = if CV.locs (args ++ cap) then none else train_Register_Open_F bx bl (args ++ cap) := ref_call rfl (show ctx.info 25 = some train_Register_Open_I by kernel_rfl) cap args bx bl
noncomputable def train_Register_Close_F (bx : List (Nat × List CV)) (bl : List Blk) (xs : List CV) : Option (CV × Heap) := if xs.length = 2 then (eval ctx train_Register_Close_C (enterC 0 xs) ⟨[], bl⟩).bind (refOut [.tmp 4] bx) else none
theorem train_Register_Close_F_eq (bx : List (Nat × List CV)) (bl : List Blk) (xs : List CV) : train_Register_Close_F bx bl xs = if xs.length = 2 then (eval ctx train_Register_Close_C (enterC 0 xs) ⟨[], bl⟩).bind (refOut [.tmp 4] bx) else none := (rfl)
theorem train_Register_Close_call (cap args : List CV) (bx : List (Nat × List CV)) (bl : List Blk) : call ctx (.fn (.func 36) [] cap) args ⟨bx, bl⟩ = if CV.locs (args ++ cap) then none else train_Register_Close_F bx bl (args ++ cap) := ref_call rfl (show ctx.info 36 = some train_Register_Close_I by kernel_rfl) cap args bx bl
noncomputable def train_Register_All_F (bx : List (Nat × List CV)) (bl : List Blk) (xs : List CV) : Option (CV × Heap) := if xs.length = 1 then (eval ctx train_Register_All_C (enterC 0 xs) ⟨[], bl⟩).bind (refOut [.tmp 2] bx) else none
theorem train_Register_All_F_eq (bx : List (Nat × List CV)) (bl : List Blk) (xs : List CV) : train_Register_All_F bx bl xs = if xs.length = 1 then (eval ctx train_Register_All_C (enterC 0 xs) ⟨[], bl⟩).bind (refOut [.tmp 2] bx) else none := (rfl)
theorem train_Register_All_call (cap args : List CV) (bx : List (Nat × List CV)) (bl : List Blk) : call ctx (.fn (.func 37) [] cap) args ⟨bx, bl⟩ = if CV.locs (args ++ cap) then none else train_Register_All_F bx bl (args ++ cap) := ref_call rfl (show ctx.info 37 = some train_Register_All_I by kernel_rfl) cap args bx bl
noncomputable def train_Register_Mute_F (bx : List (Nat × List CV)) (bl : List Blk) (xs : List CV) : Option (CV × Heap) := if xs.length = 3 then (eval ctx train_Register_Mute_C (enterC 0 xs) ⟨[], bl⟩).bind (refOut [.tmp 6] bx) else none
theorem train_Register_Mute_F_eq (bx : List (Nat × List CV)) (bl : List Blk) (xs : List CV) : train_Register_Mute_F bx bl xs = if xs.length = 3 then (eval ctx train_Register_Mute_C (enterC 0 xs) ⟨[], bl⟩).bind (refOut [.tmp 6] bx) else none := (rfl)
theorem train_Register_Mute_call (cap args : List CV) (bx : List (Nat × List CV)) (bl : List Blk) : call ctx (.fn (.func 38) [] cap) args ⟨bx, bl⟩ = if CV.locs (args ++ cap) then none else train_Register_Mute_F bx bl (args ++ cap) := ref_call rfl (show ctx.info 38 = some train_Register_Mute_I by kernel_rfl) cap args bx bl
noncomputable def train_Register_Doubt_F (bx : List (Nat × List CV)) (bl : List Blk) (xs : List CV) : Option (CV × Heap) := if xs.length = 3 then (eval ctx train_Register_Doubt_C (enterC 0 xs) ⟨[], bl⟩).bind (refOut [.tmp 6] bx) else none
theorem train_Register_Doubt_F_eq (bx : List (Nat × List CV)) (bl : List Blk) (xs : List CV) : train_Register_Doubt_F bx bl xs = if xs.length = 3 then (eval ctx train_Register_Doubt_C (enterC 0 xs) ⟨[], bl⟩).bind (refOut [.tmp 6] bx) else none := (rfl)
theorem train_Register_Doubt_call (cap args : List CV) (bx : List (Nat × List CV)) (bl : List Blk) : call ctx (.fn (.func 39) [] cap) args ⟨bx, bl⟩ = if CV.locs (args ++ cap) then none else train_Register_Doubt_F bx bl (args ++ cap) := ref_call rfl (show ctx.info 39 = some train_Register_Doubt_I by kernel_rfl) cap args bx bl
noncomputable def train_Register_those_F (bx : List (Nat × List CV)) (bl : List Blk) (xs : List CV) : Option (CV × Heap) := if xs.length = 3 then (eval ctx train_Register_those_C (enterC 0 xs) ⟨[], bl⟩).bind (refOut [.tmp 6] bx) else none
theorem train_Register_those_F_eq (bx : List (Nat × List CV)) (bl : List Blk) (xs : List CV) : train_Register_those_F bx bl xs = if xs.length = 3 then (eval ctx train_Register_those_C (enterC 0 xs) ⟨[], bl⟩).bind (refOut [.tmp 6] bx) else none := (rfl)
theorem train_Register_those_call (cap args : List CV) (bx : List (Nat × List CV)) (bl : List Blk) : call ctx (.fn (.func 71) [] cap) args ⟨bx, bl⟩ = if CV.locs (args ++ cap) then none else train_Register_those_F bx bl (args ++ cap) := ref_call rfl (show ctx.info 71 = some train_Register_those_I by kernel_rfl) cap args bx bl
noncomputable def train_Register_Mute_1_F (bx : List (Nat × List CV)) (bl : List Blk) (xs : List CV) : Option (CV × Heap) := if xs.length = 3 then (eval ctx train_Register_Mute_1_C (enterC 0 xs) ⟨[], bl⟩).bind (refOut [.tmp 4] bx) else none
theorem train_Register_Mute_1_F_eq (bx : List (Nat × List CV)) (bl : List Blk) (xs : List CV) : train_Register_Mute_1_F bx bl xs = if xs.length = 3 then (eval ctx train_Register_Mute_1_C (enterC 0 xs) ⟨[], bl⟩).bind (refOut [.tmp 4] bx) else none := (rfl)
theorem train_Register_Mute_1_call (cap args : List CV) (bx : List (Nat × List CV)) (bl : List Blk) : call ctx (.fn (.func 72) [] cap) args ⟨bx, bl⟩ = if CV.locs (args ++ cap) then none else train_Register_Mute_1_F bx bl (args ++ cap) := ref_call rfl (show ctx.info 72 = some train_Register_Mute_1_I by kernel_rfl) cap args bx bl
noncomputable def train_Register_Mute_2_F (bx : List (Nat × List CV)) (bl : List Blk) (xs : List CV) : Option (CV × Heap) := if xs.length = 2 then (eval ctx train_Register_Mute_2_C (enterC 0 xs) ⟨[], bl⟩).bind (refOut [] bx) else none
theorem train_Register_Mute_2_F_eq (bx : List (Nat × List CV)) (bl : List Blk) (xs : List CV) : train_Register_Mute_2_F bx bl xs = if xs.length = 2 then (eval ctx train_Register_Mute_2_C (enterC 0 xs) ⟨[], bl⟩).bind (refOut [] bx) else none := (rfl)
theorem train_Register_Mute_2_call (cap args : List CV) (bx : List (Nat × List CV)) (bl : List Blk) : call ctx (.fn (.func 73) [] cap) args ⟨bx, bl⟩ = if CV.locs (args ++ cap) then none else train_Register_Mute_2_F bx bl (args ++ cap) := ref_call rfl (show ctx.info 73 = some train_Register_Mute_2_I by kernel_rfl) cap args bx bl
noncomputable def train_Register_Doubt_1_F (bx : List (Nat × List CV)) (bl : List Blk) (xs : List CV) : Option (CV × Heap) := if xs.length = 3 then (eval ctx train_Register_Doubt_1_C (enterC 0 xs) ⟨[], bl⟩).bind (refOut [.tmp 4] bx) else none
theorem train_Register_Doubt_1_F_eq (bx : List (Nat × List CV)) (bl : List Blk) (xs : List CV) : train_Register_Doubt_1_F bx bl xs = if xs.length = 3 then (eval ctx train_Register_Doubt_1_C (enterC 0 xs) ⟨[], bl⟩).bind (refOut [.tmp 4] bx) else none := (rfl)
theorem train_Register_Doubt_1_call (cap args : List CV) (bx : List (Nat × List CV)) (bl : List Blk) : call ctx (.fn (.func 74) [] cap) args ⟨bx, bl⟩ = if CV.locs (args ++ cap) then none else train_Register_Doubt_1_F bx bl (args ++ cap) := ref_call rfl (show ctx.info 74 = some train_Register_Doubt_1_I by kernel_rfl) cap args bx bl
noncomputable def train_Register_Doubt_2_F (bx : List (Nat × List CV)) (bl : List Blk) (xs : List CV) : Option (CV × Heap) := if xs.length = 1 then (eval ctx train_Register_Doubt_2_C (enterC 0 xs) ⟨[], bl⟩).bind (refOut [] bx) else none
theorem train_Register_Doubt_2_F_eq (bx : List (Nat × List CV)) (bl : List Blk) (xs : List CV) : train_Register_Doubt_2_F bx bl xs = if xs.length = 1 then (eval ctx train_Register_Doubt_2_C (enterC 0 xs) ⟨[], bl⟩).bind (refOut [] bx) else none := (rfl)
theorem train_Register_Doubt_2_call (cap args : List CV) (bx : List (Nat × List CV)) (bl : List Blk) : call ctx (.fn (.func 75) [] cap) args ⟨bx, bl⟩ = if CV.locs (args ++ cap) then none else train_Register_Doubt_2_F bx bl (args ++ cap) := ref_call rfl (show ctx.info 75 = some train_Register_Doubt_2_I by kernel_rfl) cap args bx bl
noncomputable def maps_Keys_Train_F (bx : List (Nat × List CV)) (bl : List Blk) (xs : List CV) : Option (CV × Heap) := if xs.length = 1 then (eval ctx maps_Keys_Train_C (enterC 0 xs) ⟨[], bl⟩).bind (refOut [.tmp 2] bx) else none
theorem maps_Keys_Train_F_eq (bx : List (Nat × List CV)) (bl : List Blk) (xs : List CV) : maps_Keys_Train_F bx bl xs = if xs.length = 1 then (eval ctx maps_Keys_Train_C (enterC 0 xs) ⟨[], bl⟩).bind (refOut [.tmp 2] bx) else none := (rfl)
theorem maps_Keys_Train_call (cap args : List CV) (bx : List (Nat × List CV)) (bl : List Blk) : call ctx (.fn (.func 70) [] cap) args ⟨bx, bl⟩ = if CV.locs (args ++ cap) then none else maps_Keys_Train_F bx bl (args ++ cap) := ref_call rfl (show ctx.info 70 = some maps_Keys_Train_I by kernel_rfl) cap args bx bl
noncomputable def r01_Ints_F (st : Bool) (H : Heap) (xs : List CV) : Option (CV × Heap) := fzE ctx false 2 r01_Ints_C [.tmp 4] st H xs
theorem r01_Ints_F_eq (st : Bool) (H : Heap) (xs : List CV) : r01_Ints_F st H xs = if xs.length = 2 then (eval ctx r01_Ints_C (enterC 0 xs) ⟨[], []⟩).bind (fzOut [.tmp 4] st false H) else none := (rfl)
theorem r01_Ints_call (cap args : List CV) (H : Heap) : call ctx (.fn (.func 27) [] cap) args H = (snapL H false false (args ++ cap)).bind (r01_Ints_F (CV.refs (args ++ cap)) H) := fz_call rfl (show ctx.info 27 = some r01_Ints_I by kernel_rfl) cap args H
noncomputable def train_Join_F (st : Bool) (H : Heap) (xs : List CV) : Option (CV × Heap) := fzE ctx false 2 train_Join_C [.tmp 4] st H xs
theorem train_Join_F_eq (st : Bool) (H : Heap) (xs : List CV) : train_Join_F st H xs = if xs.length = 2 then (eval ctx train_Join_C (enterC 0 xs) ⟨[], []⟩).bind (fzOut [.tmp 4] st false H) else none := (rfl)
theorem train_Join_call (cap args : List CV) (H : Heap) : call ctx (.fn (.func 54) [] cap) args H = (snapL H false false (args ++ cap)).bind (train_Join_F (CV.refs (args ++ cap)) H) := fz_call rfl (show ctx.info 54 = some train_Join_I by kernel_rfl) cap args H
noncomputable def slices_Clone_int_F (st : Bool) (H : Heap) (xs : List CV) : Option (CV × Heap) := oE ctx 1 slices_Clone_int_C [.tmp 2] st H xs
theorem slices_Clone_int_F_eq (st : Bool) (H : Heap) (xs : List CV) : slices_Clone_int_F st H xs = if xs.length = 1 then (eval ctx slices_Clone_int_C (enterC 0 xs) ⟨[], []⟩).bind (ownOut [.tmp 2] st H) else none := (rfl)
theorem slices_Clone_int_call (cap args : List CV) (H : Heap) : call ctx (.fn (.func 62) [] cap) args H = (snapL H false false (args ++ cap)).bind (slices_Clone_int_F (CV.refs (args ++ cap)) H) := own_call rfl (show ctx.info 62 = some slices_Clone_int_I by kernel_rfl) cap args H
noncomputable def slices_Contains_int_F (st : Bool) (H : Heap) (xs : List CV) : Option (CV × Heap) := fzE ctx false 2 slices_Contains_int_C [.tmp 4] st H xs
theorem slices_Contains_int_F_eq (st : Bool) (H : Heap) (xs : List CV) : slices_Contains_int_F st H xs = if xs.length = 2 then (eval ctx slices_Contains_int_C (enterC 0 xs) ⟨[], []⟩).bind (fzOut [.tmp 4] st false H) else none := (rfl)
theorem slices_Contains_int_call (cap args : List CV) (H : Heap) : call ctx (.fn (.func 86) [] cap) args H = (snapL H false false (args ++ cap)).bind (slices_Contains_int_F (CV.refs (args ++ cap)) H) := fz_call rfl (show ctx.info 86 = some slices_Contains_int_I by kernel_rfl) cap args H
noncomputable def slices_Index_int_F (st : Bool) (H : Heap) (xs : List CV) : Option (CV × Heap) := fzE ctx false 2 slices_Index_int_C [.tmp 4] st H xs
theorem slices_Index_int_F_eq (st : Bool) (H : Heap) (xs : List CV) : slices_Index_int_F st H xs = if xs.length = 2 then (eval ctx slices_Index_int_C (enterC 0 xs) ⟨[], []⟩).bind (fzOut [.tmp 4] st false H) else none := (rfl)
theorem slices_Index_int_call (cap args : List CV) (H : Heap) : call ctx (.fn (.func 100) [] cap) args H = (snapL H false false (args ++ cap)).bind (slices_Index_int_F (CV.refs (args ++ cap)) H) := fz_call rfl (show ctx.info 100 = some slices_Index_int_I by kernel_rfl) cap args H
noncomputable def r01_Has_F (st : Bool) (H : Heap) (xs : List CV) : Option (CV × Heap) := fzE ctx false 2 r01_Has_C [.tmp 4] st H xs
theorem r01_Has_F_eq (st : Bool) (H : Heap) (xs : List CV) : r01_Has_F st H xs = if xs.length = 2 then (eval ctx r01_Has_C (enterC 0 xs) ⟨[], []⟩).bind (fzOut [.tmp 4] st false H) else none := (rfl)
theorem r01_Has_call (cap args : List CV) (H : Heap) : call ctx (.fn (.func 42) [] cap) args H = (snapL H false false (args ++ cap)).bind (r01_Has_F (CV.refs (args ++ cap)) H) := fz_call rfl (show ctx.info 42 = some r01_Has_I by kernel_rfl) cap args H
noncomputable def l10_TrainFull_R0 (x : Env × Heap) : Out := intoE ctx 0 [0, 1, 5, 6] [0, 5] l10_TrainFull_B0 x
noncomputable def l10_TrainFull_K0 (x : Ex × Env × Heap) : Out := roundE ctx 0 [0, 1, 5, 6] [0, 5] l10_TrainFull_B0 x
theorem l10_TrainFull_L0_eq (env : Env) (H : Heap) : eval ctx l10_TrainFull_L0 env H = (keepE [0, 1, 5, 6] env H).bind l10_TrainFull_R0 := eval_bloop' ctx env H 0 [0, 1, 5, 6] [0, 5] l10_TrainFull_B0
theorem l10_TrainFull_R0_eq (env : Env) (H : Heap) : l10_TrainFull_R0 (env, H) = (eval ctx l10_TrainFull_B0 env H).bind l10_TrainFull_K0 := (rfl)
theorem l10_TrainFull_K0_norm (env : Env) (H : Heap) : l10_TrainFull_K0 (.norm, env, H) = (keepE [0, 1, 5, 6] env H).bind l10_TrainFull_R0 := l10_TrainFull_L0_eq env H
theorem l10_TrainFull_K0_ret (env : Env) (H : Heap) : l10_TrainFull_K0 (.ret, env, H) = some (.ret, env, H) := (rfl)
theorem l10_TrainFull_K0_exit (k : Nat) (env : Env) (H : Heap) : l10_TrainFull_K0 (.exit k, env, H) = if k = 0 then (keepE [0, 5] env H).map normE else some (.exit k, env, H) := (rfl)
noncomputable def l10_TrainSilent_R0 (x : Env × Heap) : Out := intoE ctx 0 [0, 1, 2, 7, 8, 9] [0, 1, 2, 7, 8] l10_TrainSilent_B0 x
noncomputable def l10_TrainSilent_K0 (x : Ex × Env × Heap) : Out := roundE ctx 0 [0, 1, 2, 7, 8, 9] [0, 1, 2, 7, 8] l10_TrainSilent_B0 x
theorem l10_TrainSilent_L0_eq (env : Env) (H : Heap) : eval ctx l10_TrainSilent_L0 env H = (keepE [0, 1, 2, 7, 8, 9] env H).bind l10_TrainSilent_R0 := eval_bloop' ctx env H 0 [0, 1, 2, 7, 8, 9] [0, 1, 2, 7, 8] l10_TrainSilent_B0
theorem l10_TrainSilent_R0_eq (env : Env) (H : Heap) : l10_TrainSilent_R0 (env, H) = (eval ctx l10_TrainSilent_B0 env H).bind l10_TrainSilent_K0 := (rfl)
theorem l10_TrainSilent_K0_norm (env : Env) (H : Heap) : l10_TrainSilent_K0 (.norm, env, H) = (keepE [0, 1, 2, 7, 8, 9] env H).bind l10_TrainSilent_R0 := l10_TrainSilent_L0_eq env H
theorem l10_TrainSilent_K0_ret (env : Env) (H : Heap) : l10_TrainSilent_K0 (.ret, env, H) = some (.ret, env, H) := (rfl)
theorem l10_TrainSilent_K0_exit (k : Nat) (env : Env) (H : Heap) : l10_TrainSilent_K0 (.exit k, env, H) = if k = 0 then (keepE [0, 1, 2, 7, 8] env H).map normE else some (.exit k, env, H) := (rfl)
noncomputable def train_Register_those_R0 (x : Env × Heap) : Out := intoE ctx 0 [0, 1, 2, 7, 12, 13, 14] [7] train_Register_those_B0 x
noncomputable def train_Register_those_K0 (x : Ex × Env × Heap) : Out := roundE ctx 0 [0, 1, 2, 7, 12, 13, 14] [7] train_Register_those_B0 x
theorem train_Register_those_L0_eq (env : Env) (H : Heap) : eval ctx train_Register_those_L0 env H = (keepE [0, 1, 2, 7, 12, 13, 14] env H).bind train_Register_those_R0 := eval_bloop' ctx env H 0 [0, 1, 2, 7, 12, 13, 14] [7] train_Register_those_B0
theorem train_Register_those_R0_eq (env : Env) (H : Heap) : train_Register_those_R0 (env, H) = (eval ctx train_Register_those_B0 env H).bind train_Register_those_K0 := (rfl)
theorem train_Register_those_K0_norm (env : Env) (H : Heap) : train_Register_those_K0 (.norm, env, H) = (keepE [0, 1, 2, 7, 12, 13, 14] env H).bind train_Register_those_R0 := train_Register_those_L0_eq env H
theorem train_Register_those_K0_ret (env : Env) (H : Heap) : train_Register_those_K0 (.ret, env, H) = some (.ret, env, H) := (rfl)
theorem train_Register_those_K0_exit (k : Nat) (env : Env) (H : Heap) : train_Register_those_K0 (.exit k, env, H) = if k = 0 then (keepE [7] env H).map normE else some (.exit k, env, H) := (rfl)
noncomputable def r01_Ints_R0 (x : Env × Heap) : Out := intoE ctx 0 [0, 1, 5] [] r01_Ints_B0 x
noncomputable def r01_Ints_K0 (x : Ex × Env × Heap) : Out := roundE ctx 0 [0, 1, 5] [] r01_Ints_B0 x
theorem r01_Ints_L0_eq (env : Env) (H : Heap) : eval ctx r01_Ints_L0 env H = (keepE [0, 1, 5] env H).bind r01_Ints_R0 := eval_bloop' ctx env H 0 [0, 1, 5] [] r01_Ints_B0
theorem r01_Ints_R0_eq (env : Env) (H : Heap) : r01_Ints_R0 (env, H) = (eval ctx r01_Ints_B0 env H).bind r01_Ints_K0 := (rfl)
theorem r01_Ints_K0_norm (env : Env) (H : Heap) : r01_Ints_K0 (.norm, env, H) = (keepE [0, 1, 5] env H).bind r01_Ints_R0 := r01_Ints_L0_eq env H
theorem r01_Ints_K0_ret (env : Env) (H : Heap) : r01_Ints_K0 (.ret, env, H) = some (.ret, env, H) := (rfl)
theorem r01_Ints_K0_exit (k : Nat) (env : Env) (H : Heap) : r01_Ints_K0 (.exit k, env, H) = if k = 0 then (keepE [] env H).map normE else some (.exit k, env, H) := (rfl)
noncomputable def train_Join_R0 (x : Env × Heap) : Out := intoE ctx 0 [5, 28, 29, 30] [5] train_Join_B0 x
noncomputable def train_Join_K0 (x : Ex × Env × Heap) : Out := roundE ctx 0 [5, 28, 29, 30] [5] train_Join_B0 x
theorem train_Join_L0_eq (env : Env) (H : Heap) : eval ctx train_Join_L0 env H = (keepE [5, 28, 29, 30] env H).bind train_Join_R0 := eval_bloop' ctx env H 0 [5, 28, 29, 30] [5] train_Join_B0
theorem train_Join_R0_eq (env : Env) (H : Heap) : train_Join_R0 (env, H) = (eval ctx train_Join_B0 env H).bind train_Join_K0 := (rfl)
theorem train_Join_K0_norm (env : Env) (H : Heap) : train_Join_K0 (.norm, env, H) = (keepE [5, 28, 29, 30] env H).bind train_Join_R0 := train_Join_L0_eq env H
theorem train_Join_K0_ret (env : Env) (H : Heap) : train_Join_K0 (.ret, env, H) = some (.ret, env, H) := (rfl)
theorem train_Join_K0_exit (k : Nat) (env : Env) (H : Heap) : train_Join_K0 (.exit k, env, H) = if k = 0 then (keepE [5] env H).map normE else some (.exit k, env, H) := (rfl)
noncomputable def slices_Index_int_R0 (x : Env × Heap) : Out := intoE ctx 0 [0, 1, 7, 8] [] slices_Index_int_B0 x
noncomputable def slices_Index_int_K0 (x : Ex × Env × Heap) : Out := roundE ctx 0 [0, 1, 7, 8] [] slices_Index_int_B0 x
theorem slices_Index_int_L0_eq (env : Env) (H : Heap) : eval ctx slices_Index_int_L0 env H = (keepE [0, 1, 7, 8] env H).bind slices_Index_int_R0 := eval_bloop' ctx env H 0 [0, 1, 7, 8] [] slices_Index_int_B0
theorem slices_Index_int_R0_eq (env : Env) (H : Heap) : slices_Index_int_R0 (env, H) = (eval ctx slices_Index_int_B0 env H).bind slices_Index_int_K0 := (rfl)
theorem slices_Index_int_K0_norm (env : Env) (H : Heap) : slices_Index_int_K0 (.norm, env, H) = (keepE [0, 1, 7, 8] env H).bind slices_Index_int_R0 := slices_Index_int_L0_eq env H
theorem slices_Index_int_K0_ret (env : Env) (H : Heap) : slices_Index_int_K0 (.ret, env, H) = some (.ret, env, H) := (rfl)
theorem slices_Index_int_K0_exit (k : Nat) (env : Env) (H : Heap) : slices_Index_int_K0 (.exit k, env, H) = if k = 0 then (keepE [] env H).map normE else some (.exit k, env, H) := (rfl)
noncomputable def r01_Has_R0 (x : Env × Heap) : Out := intoE ctx 0 [0, 1, 5] [] r01_Has_B0 x
noncomputable def r01_Has_K0 (x : Ex × Env × Heap) : Out := roundE ctx 0 [0, 1, 5] [] r01_Has_B0 x
theorem r01_Has_L0_eq (env : Env) (H : Heap) : eval ctx r01_Has_L0 env H = (keepE [0, 1, 5] env H).bind r01_Has_R0 := eval_bloop' ctx env H 0 [0, 1, 5] [] r01_Has_B0
theorem r01_Has_R0_eq (env : Env) (H : Heap) : r01_Has_R0 (env, H) = (eval ctx r01_Has_B0 env H).bind r01_Has_K0 := (rfl)
theorem r01_Has_K0_norm (env : Env) (H : Heap) : r01_Has_K0 (.norm, env, H) = (keepE [0, 1, 5] env H).bind r01_Has_R0 := r01_Has_L0_eq env H
theorem r01_Has_K0_ret (env : Env) (H : Heap) : r01_Has_K0 (.ret, env, H) = some (.ret, env, H) := (rfl)
theorem r01_Has_K0_exit (k : Nat) (env : Env) (H : Heap) : r01_Has_K0 (.exit k, env, H) = if k = 0 then (keepE [] env H).map normE else some (.exit k, env, H) := (rfl)
end Go.Proofs.Ytmkdhpjidhbijaa.Zt
