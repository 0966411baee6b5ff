/- The rewriting lemmas, together. No condition. -/
import Derived.Test.YtfblegjbmhgepaaZcLay
set_option linter.all false
namespace Go.Zc
set_option maxRecDepth 10000

theorem y1 : (type_of% (@Go.Zc.eval_seq)) ∧
  (type_of% (@Go.Zc.eval_ops')) ∧
  (type_of% (@Go.Zc.eval_cond)) ∧
  (type_of% (@Go.Zc.eval_block)) ∧
  (type_of% (@Go.Zc.eval_skip)) ∧
  (type_of% (@Go.Zc.eval_ret)) ∧
  (type_of% (@Go.Zc.eval_exit)) ∧
  (type_of% (@Go.Zc.runOps_nil)) ∧
  (type_of% (@Go.Zc.runOps_mov)) ∧
  (type_of% (@Go.Zc.runOps_p)) ∧
  (type_of% (@Go.Zc.runOps_h)) ∧
  (type_of% (@Go.Zc.runOps_hb)) ∧
  (type_of% (@Go.Zc.runOps_hl)) ∧
  (type_of% (@Go.Zc.runOps_call)) ∧
  (type_of% (@Go.Zc.runOps_callb)) ∧
  (type_of% (@Go.Zc.runOps_callp)) ∧
  (type_of% (@Go.Zc.runOps_callv)) ∧
  (type_of% (@Go.Zc.isPre_refl)) ∧
  (type_of% (@Go.Zc.isPre_app)) ∧
  (type_of% (@Go.Zc.runOps_guard)) ∧
  (type_of% (@Go.Zc.guardE_bool)) ∧
  (type_of% (@Go.Zc.guardE_skip)) ∧
  (type_of% (@Go.Zc.restE_mk)) ∧
  (type_of% (@Go.Zc.map_bind_some)) ∧
  (type_of% (@Go.Zc.bind_some')) ∧
  (type_of% (@Go.Zc.bind_none')) ∧
  (type_of% (@Go.Zc.map_some')) ∧
  (type_of% (@Go.Zc.map_none')) ∧
  (type_of% (@Go.Zc.normE_mk)) ∧
  (type_of% (@Go.Zc.thenE_norm)) ∧
  (type_of% (@Go.Zc.thenE_exit)) ∧
  (type_of% (@Go.Zc.thenE_ret)) ∧
  (type_of% (@Go.Zc.outE_norm)) ∧
  (type_of% (@Go.Zc.outE_ret)) ∧
  (type_of% (@Go.Zc.outE_exit)) ∧
  (type_of% (@Go.Zc.fzE_eq)) ∧
  (type_of% (@Go.Zc.fzOut_norm)) ∧
  (type_of% (@Go.Zc.fzOut_ret)) ∧
  (type_of% (@Go.Zc.fzSnap_eq)) ∧
  (type_of% (@Go.Zc.oE_eq)) :=
  ⟨@Go.Zc.eval_seq, @Go.Zc.eval_ops', @Go.Zc.eval_cond, @Go.Zc.eval_block, @Go.Zc.eval_skip, @Go.Zc.eval_ret, @Go.Zc.eval_exit, @Go.Zc.runOps_nil, @Go.Zc.runOps_mov, @Go.Zc.runOps_p, @Go.Zc.runOps_h, @Go.Zc.runOps_hb, @Go.Zc.runOps_hl, @Go.Zc.runOps_call, @Go.Zc.runOps_callb, @Go.Zc.runOps_callp, @Go.Zc.runOps_callv, @Go.Zc.isPre_refl, @Go.Zc.isPre_app, @Go.Zc.runOps_guard, @Go.Zc.guardE_bool, @Go.Zc.guardE_skip, @Go.Zc.restE_mk, @Go.Zc.map_bind_some, @Go.Zc.bind_some', @Go.Zc.bind_none', @Go.Zc.map_some', @Go.Zc.map_none', @Go.Zc.normE_mk, @Go.Zc.thenE_norm, @Go.Zc.thenE_exit, @Go.Zc.thenE_ret, @Go.Zc.outE_norm, @Go.Zc.outE_ret, @Go.Zc.outE_exit, @Go.Zc.fzE_eq, @Go.Zc.fzOut_norm, @Go.Zc.fzOut_ret, @Go.Zc.fzSnap_eq, @Go.Zc.oE_eq⟩

theorem y2 : (type_of% (@Go.Zc.ownOut_norm)) ∧
  (type_of% (@Go.Zc.ownOut_ret)) ∧
  (type_of% (@Go.Zc.refOut_norm)) ∧
  (type_of% (@Go.Zc.refOut_ret)) ∧
  (type_of% (@Go.Zc.refSnap_eq)) ∧
  (type_of% (@Go.Zc.condE_bool)) ∧
  (type_of% (@Go.Zc.joinE_none)) ∧
  (type_of% (@Go.Zc.joinE_some)) ∧
  (type_of% (@Go.Zc.bind_ite)) ∧
  (type_of% (@Go.Zc.map_ite)) ∧
  (type_of% (@Go.Zc.at_hit)) ∧
  (type_of% (@Go.Zc.at_miss)) ∧
  (type_of% (@Go.Zc.ev_t)) ∧
  (type_of% (@Go.Zc.ev_c)) ∧
  (type_of% (@Go.Zc.evs_nil)) ∧
  (type_of% (@Go.Zc.evs_cons)) ∧
  (type_of% (@Go.Zc.putD_some)) ∧
  (type_of% (@Go.Zc.putD_none)) ∧
  (type_of% (@Go.Zc.keep_nil)) ∧
  (type_of% (@Go.Zc.keep_cons)) ∧
  (type_of% (@List.all_nil.{0})) ∧
  (type_of% (@List.all_cons.{0})) ∧
  (type_of% (@Go.Zc.chkV_sl)) ∧
  (type_of% (@Go.Zc.chkV_int)) ∧
  (type_of% (@Go.Zc.chkV_bool)) ∧
  (type_of% (@Go.Zc.chkV_loc)) ∧
  (type_of% (@Go.Zc.chkV_blk)) ∧
  (type_of% (@Go.Zc.chkV_agg)) ∧
  (type_of% (@Go.Zc.chkV_tup)) ∧
  (type_of% (@Go.Zc.chkV_vp)) ∧
  (type_of% (@Go.Zc.chkV_vs)) ∧
  (type_of% (@Go.Zc.chkV_os)) ∧
  (type_of% (@Go.Zc.chkV_om)) ∧
  (type_of% (@Go.Zc.chkV_und)) ∧
  (type_of% (@Go.Zc.chkV_nils)) ∧
  (type_of% (@Go.Zc.chkV_nilp)) ∧
  (type_of% (@Go.Zc.chkV_nilm)) ∧
  (type_of% (@Go.Zc.chkV_nilf)) ∧
  (type_of% (@Go.Zc.chkV_nili)) ∧
  (type_of% (@Go.Zc.chkV_float)) :=
  ⟨@Go.Zc.ownOut_norm, @Go.Zc.ownOut_ret, @Go.Zc.refOut_norm, @Go.Zc.refOut_ret, @Go.Zc.refSnap_eq, @Go.Zc.condE_bool, @Go.Zc.joinE_none, @Go.Zc.joinE_some, @Go.Zc.bind_ite, @Go.Zc.map_ite, @Go.Zc.at_hit, @Go.Zc.at_miss, @Go.Zc.ev_t, @Go.Zc.ev_c, @Go.Zc.evs_nil, @Go.Zc.evs_cons, @Go.Zc.putD_some, @Go.Zc.putD_none, @Go.Zc.keep_nil, @Go.Zc.keep_cons, @List.all_nil.{0}, @List.all_cons.{0}, @Go.Zc.chkV_sl, @Go.Zc.chkV_int, @Go.Zc.chkV_bool, @Go.Zc.chkV_loc, @Go.Zc.chkV_blk, @Go.Zc.chkV_agg, @Go.Zc.chkV_tup, @Go.Zc.chkV_vp, @Go.Zc.chkV_vs, @Go.Zc.chkV_os, @Go.Zc.chkV_om, @Go.Zc.chkV_und, @Go.Zc.chkV_nils, @Go.Zc.chkV_nilp, @Go.Zc.chkV_nilm, @Go.Zc.chkV_nilf, @Go.Zc.chkV_nili, @Go.Zc.chkV_float⟩

theorem y3 : (type_of% (@Go.Zc.chkV_cplx)) ∧
  (type_of% (@Go.Zc.chkV_str)) ∧
  (type_of% (@Go.Zc.chkV_fn)) ∧
  (type_of% (@Go.Zc.one_int)) ∧
  (type_of% (@Go.Zc.und_int)) ∧
  (type_of% (@Go.Zc.cells_int)) ∧
  (type_of% (@Go.Zc.one_bool)) ∧
  (type_of% (@Go.Zc.und_bool)) ∧
  (type_of% (@Go.Zc.cells_bool)) ∧
  (type_of% (@Go.Zc.one_op)) ∧
  (type_of% (@Go.Zc.und_op)) ∧
  (type_of% (@Go.Zc.cells_op)) ∧
  (type_of% (@Go.Zc.one_vp)) ∧
  (type_of% (@Go.Zc.und_vp)) ∧
  (type_of% (@Go.Zc.cells_vp)) ∧
  (type_of% (@Go.Zc.one_vs)) ∧
  (type_of% (@Go.Zc.und_vs)) ∧
  (type_of% (@Go.Zc.cells_vs)) ∧
  (type_of% (@Go.Zc.one_os)) ∧
  (type_of% (@Go.Zc.und_os)) ∧
  (type_of% (@Go.Zc.cells_os)) ∧
  (type_of% (@Go.Zc.one_om)) ∧
  (type_of% (@Go.Zc.und_om)) ∧
  (type_of% (@Go.Zc.cells_om)) ∧
  (type_of% (@Go.Zc.one_nils)) ∧
  (type_of% (@Go.Zc.und_nils)) ∧
  (type_of% (@Go.Zc.cells_nils)) ∧
  (type_of% (@Go.Zc.one_nilp)) ∧
  (type_of% (@Go.Zc.und_nilp)) ∧
  (type_of% (@Go.Zc.cells_nilp)) ∧
  (type_of% (@Go.Zc.one_nilm)) ∧
  (type_of% (@Go.Zc.und_nilm)) ∧
  (type_of% (@Go.Zc.cells_nilm)) ∧
  (type_of% (@Go.Zc.one_nilf)) ∧
  (type_of% (@Go.Zc.und_nilf)) ∧
  (type_of% (@Go.Zc.cells_nilf)) ∧
  (type_of% (@Go.Zc.one_nili)) ∧
  (type_of% (@Go.Zc.und_nili)) ∧
  (type_of% (@Go.Zc.cells_nili)) ∧
  (type_of% (@Go.Zc.one_float)) :=
  ⟨@Go.Zc.chkV_cplx, @Go.Zc.chkV_str, @Go.Zc.chkV_fn, @Go.Zc.one_int, @Go.Zc.und_int, @Go.Zc.cells_int, @Go.Zc.one_bool, @Go.Zc.und_bool, @Go.Zc.cells_bool, @Go.Zc.one_op, @Go.Zc.und_op, @Go.Zc.cells_op, @Go.Zc.one_vp, @Go.Zc.und_vp, @Go.Zc.cells_vp, @Go.Zc.one_vs, @Go.Zc.und_vs, @Go.Zc.cells_vs, @Go.Zc.one_os, @Go.Zc.und_os, @Go.Zc.cells_os, @Go.Zc.one_om, @Go.Zc.und_om, @Go.Zc.cells_om, @Go.Zc.one_nils, @Go.Zc.und_nils, @Go.Zc.cells_nils, @Go.Zc.one_nilp, @Go.Zc.und_nilp, @Go.Zc.cells_nilp, @Go.Zc.one_nilm, @Go.Zc.und_nilm, @Go.Zc.cells_nilm, @Go.Zc.one_nilf, @Go.Zc.und_nilf, @Go.Zc.cells_nilf, @Go.Zc.one_nili, @Go.Zc.und_nili, @Go.Zc.cells_nili, @Go.Zc.one_float⟩

theorem y4 : (type_of% (@Go.Zc.und_float)) ∧
  (type_of% (@Go.Zc.cells_float)) ∧
  (type_of% (@Go.Zc.one_cplx)) ∧
  (type_of% (@Go.Zc.und_cplx)) ∧
  (type_of% (@Go.Zc.cells_cplx)) ∧
  (type_of% (@Go.Zc.one_str)) ∧
  (type_of% (@Go.Zc.und_str)) ∧
  (type_of% (@Go.Zc.cells_str)) ∧
  (type_of% (@Go.Zc.one_fn)) ∧
  (type_of% (@Go.Zc.und_fn)) ∧
  (type_of% (@Go.Zc.cells_fn)) ∧
  (type_of% (@Go.Zc.one_ifc)) ∧
  (type_of% (@Go.Zc.und_ifc)) ∧
  (type_of% (@Go.Zc.cells_ifc)) ∧
  (type_of% (@Go.Zc.cells_agg)) ∧
  (type_of% (@Go.Zc.und_agg)) ∧
  (type_of% (@Go.Zc.loc_loc)) ∧
  (type_of% (@Go.Zc.loc_blk)) ∧
  (type_of% (@Go.Zc.lenOf_vs)) ∧
  (type_of% (@Go.Zc.lenOf_os)) ∧
  (type_of% (@Go.Zc.lenOf_nils)) ∧
  (type_of% (@Go.Zc.isSl_vs)) ∧
  (type_of% (@Go.Zc.isSl_os)) ∧
  (type_of% (@Go.Zc.isSl_nils)) ∧
  (type_of% (@Go.Zc.locv_sl)) ∧
  (type_of% (@Go.Zc.ref_sl)) ∧
  (type_of% (@Go.Zc.one_sl)) ∧
  (type_of% (@Go.Zc.cells_sl)) ∧
  (type_of% (@Go.Zc.und_sl)) ∧
  (type_of% (@Go.Zc.isSl_sl)) ∧
  (type_of% (@Go.Zc.lenOf_sl)) ∧
  (type_of% (@Go.Zc.lenC_sl)) ∧
  (type_of% (@Go.Zc.pick_bool)) ∧
  (type_of% (@Go.Zc.nchk_op)) ∧
  (type_of% (@Go.Zc.nchk_vp)) ∧
  (type_of% (@Go.Zc.nchk_fn)) ∧
  (type_of% (@Go.Zc.fld_agg)) ∧
  (type_of% (@Go.Zc.part_t)) ∧
  (type_of% (@Go.Zc.part_f)) ∧
  (type_of% (@Go.Zc.ext_tup)) :=
  ⟨@Go.Zc.und_float, @Go.Zc.cells_float, @Go.Zc.one_cplx, @Go.Zc.und_cplx, @Go.Zc.cells_cplx, @Go.Zc.one_str, @Go.Zc.und_str, @Go.Zc.cells_str, @Go.Zc.one_fn, @Go.Zc.und_fn, @Go.Zc.cells_fn, @Go.Zc.one_ifc, @Go.Zc.und_ifc, @Go.Zc.cells_ifc, @Go.Zc.cells_agg, @Go.Zc.und_agg, @Go.Zc.loc_loc, @Go.Zc.loc_blk, @Go.Zc.lenOf_vs, @Go.Zc.lenOf_os, @Go.Zc.lenOf_nils, @Go.Zc.isSl_vs, @Go.Zc.isSl_os, @Go.Zc.isSl_nils, @Go.Zc.locv_sl, @Go.Zc.ref_sl, @Go.Zc.one_sl, @Go.Zc.cells_sl, @Go.Zc.und_sl, @Go.Zc.isSl_sl, @Go.Zc.lenOf_sl, @Go.Zc.lenC_sl, @Go.Zc.pick_bool, @Go.Zc.nchk_op, @Go.Zc.nchk_vp, @Go.Zc.nchk_fn, @Go.Zc.fld_agg, @Go.Zc.part_t, @Go.Zc.part_f, @Go.Zc.ext_tup⟩

theorem y5 : (type_of% (@Go.Zc.cap_nils)) ∧
  (type_of% (@Go.Zc.lenC_nils)) ∧
  (type_of% (@Go.Zc.lenC_os)) ∧
  (type_of% (@Go.Zc.lenC_vs)) ∧
  (type_of% (@Go.Zc.un_not)) ∧
  (type_of% (@Go.Zc.wrap64)) ∧
  (type_of% (@Go.Zc.toInt_int)) ∧
  (type_of% (@Go.Zc.toFloat_int)) ∧
  (type_of% (@Go.Zc.cplx_float)) ∧
  (type_of% (@Go.Zc.bin_add)) ∧
  (type_of% (@Go.Zc.bin_sub)) ∧
  (type_of% (@Go.Zc.bin_mul)) ∧
  (type_of% (@Go.Zc.bin_quo)) ∧
  (type_of% (@Go.Zc.bin_rem)) ∧
  (type_of% (@Go.Zc.bin_eql)) ∧
  (type_of% (@Go.Zc.bin_neq)) ∧
  (type_of% (@Go.Zc.bin_lss)) ∧
  (type_of% (@Go.Zc.bin_leq)) ∧
  (type_of% (@Go.Zc.bin_gtr)) ∧
  (type_of% (@Go.Zc.bin_geq)) ∧
  (type_of% (@Go.Zc.bin_eqlb)) ∧
  (type_of% (@Go.Zc.bin_neqb)) ∧
  (type_of% (@Go.Zc.bin_eqla)) ∧
  (type_of% (@Go.Zc.bin_neqa)) ∧
  (type_of% (@Go.Zc.hop_appz)) ∧
  (type_of% (@Go.Zc.hop_mksl)) ∧
  (type_of% (@Go.Zc.hop_mkslF)) ∧
  (type_of% (@Go.Zc.hop_clear)) ∧
  (type_of% (@Go.Zc.hl_one)) ∧
  (type_of% (@Go.Zc.hl_two)) ∧
  (type_of% (@Go.Zc.hb_eq)) ∧
  (type_of% (@Go.Zc.iaddrA_int)) ∧
  (type_of% (@Go.Zc.hop_load)) ∧
  (type_of% (@Go.Zc.hop_store)) ∧
  (type_of% (@Go.Zc.hop_box)) ∧
  (type_of% (@Go.Zc.hop_newl)) ∧
  (type_of% (@Go.Zc.hop_boxh)) ∧
  (type_of% (@Go.Zc.hop_newh)) ∧
  (type_of% (@Go.Zc.hop_bslF)) ∧
  (type_of% (@Go.Zc.hop_bslO)) :=
  ⟨@Go.Zc.cap_nils, @Go.Zc.lenC_nils, @Go.Zc.lenC_os, @Go.Zc.lenC_vs, @Go.Zc.un_not, @Go.Zc.wrap64, @Go.Zc.toInt_int, @Go.Zc.toFloat_int, @Go.Zc.cplx_float, @Go.Zc.bin_add, @Go.Zc.bin_sub, @Go.Zc.bin_mul, @Go.Zc.bin_quo, @Go.Zc.bin_rem, @Go.Zc.bin_eql, @Go.Zc.bin_neq, @Go.Zc.bin_lss, @Go.Zc.bin_leq, @Go.Zc.bin_gtr, @Go.Zc.bin_geq, @Go.Zc.bin_eqlb, @Go.Zc.bin_neqb, @Go.Zc.bin_eqla, @Go.Zc.bin_neqa, @Go.Zc.hop_appz, @Go.Zc.hop_mksl, @Go.Zc.hop_mkslF, @Go.Zc.hop_clear, @Go.Zc.hl_one, @Go.Zc.hl_two, @Go.Zc.hb_eq, @Go.Zc.iaddrA_int, @Go.Zc.hop_load, @Go.Zc.hop_store, @Go.Zc.hop_box, @Go.Zc.hop_newl, @Go.Zc.hop_boxh, @Go.Zc.hop_newh, @Go.Zc.hop_bslF, @Go.Zc.hop_bslO⟩

theorem y6 : (type_of% (@Go.Zc.frzE_eq)) ∧
  (type_of% (@Go.Zc.ownE_eq)) ∧
  (type_of% (@Go.Zc.push_eq)) ∧
  (type_of% (@Go.Zc.fillC_nil)) ∧
  (type_of% (@Go.Zc.fillC_cons)) ∧
  (type_of% (@Go.Zc.pure_bld)) ∧
  (type_of% (@Go.Zc.setMany_nil)) ∧
  (type_of% (@Go.Zc.setMany_cons)) ∧
  (type_of% (@Go.Zc.unitH_mk)) ∧
  (type_of% (@Go.Zc.load_vp_t)) ∧
  (type_of% (@Go.Zc.load_vp_f)) ∧
  (type_of% (@Go.Zc.load_op)) ∧
  (type_of% (@Go.Zc.ldE_t)) ∧
  (type_of% (@Go.Zc.ldE_f)) ∧
  (type_of% (@Go.Zc.headO_cons)) ∧
  (type_of% (@Go.Zc.faddr_vp)) ∧
  (type_of% (@Go.Zc.faddr_op)) ∧
  (type_of% (@Go.Zc.get_loc)) ∧
  (type_of% (@Go.Zc.get_b0)) ∧
  (type_of% (@Go.Zc.get_b1)) ∧
  (type_of% (@Go.Zc.get_b2)) ∧
  (type_of% (@Go.Zc.look_hit)) ∧
  (type_of% (@Go.Zc.look_miss)) ∧
  (type_of% (@Go.Zc.look_nil)) ∧
  (type_of% (@Go.Zc.setBx_hit)) ∧
  (type_of% (@Go.Zc.setBx_miss)) ∧
  (type_of% (@Go.Zc.setBx_nil)) ∧
  (type_of% (@Go.Zc.storeC_op)) ∧
  (type_of% (@Go.Zc.stE_loc)) ∧
  (type_of% (@Go.Zc.put_loc)) ∧
  (type_of% (@Go.Zc.put_blk)) ∧
  (type_of% (@Go.Zc.ones_nil)) ∧
  (type_of% (@Go.Zc.ones_cons)) ∧
  (type_of% (@Go.Zc.snap_eq)) ∧
  (type_of% (@Go.Zc.snapN_succ)) ∧
  (type_of% (@Go.Zc.mapC_nil)) ∧
  (type_of% (@Go.Zc.mapC_cons)) ∧
  (type_of% (@Go.Zc.snapL_nil)) ∧
  (type_of% (@Go.Zc.snapL_cons)) ∧
  (type_of% (@Go.Zc.consO_some)) :=
  ⟨@Go.Zc.frzE_eq, @Go.Zc.ownE_eq, @Go.Zc.push_eq, @Go.Zc.fillC_nil, @Go.Zc.fillC_cons, @Go.Zc.pure_bld, @Go.Zc.setMany_nil, @Go.Zc.setMany_cons, @Go.Zc.unitH_mk, @Go.Zc.load_vp_t, @Go.Zc.load_vp_f, @Go.Zc.load_op, @Go.Zc.ldE_t, @Go.Zc.ldE_f, @Go.Zc.headO_cons, @Go.Zc.faddr_vp, @Go.Zc.faddr_op, @Go.Zc.get_loc, @Go.Zc.get_b0, @Go.Zc.get_b1, @Go.Zc.get_b2, @Go.Zc.look_hit, @Go.Zc.look_miss, @Go.Zc.look_nil, @Go.Zc.setBx_hit, @Go.Zc.setBx_miss, @Go.Zc.setBx_nil, @Go.Zc.storeC_op, @Go.Zc.stE_loc, @Go.Zc.put_loc, @Go.Zc.put_blk, @Go.Zc.ones_nil, @Go.Zc.ones_cons, @Go.Zc.snap_eq, @Go.Zc.snapN_succ, @Go.Zc.mapC_nil, @Go.Zc.mapC_cons, @Go.Zc.snapL_nil, @Go.Zc.snapL_cons, @Go.Zc.consO_some⟩

theorem y7 : (type_of% (@Go.Zc.snapV_sl)) ∧
  (type_of% (@Go.Zc.snapV_int)) ∧
  (type_of% (@Go.Zc.snapV_bool)) ∧
  (type_of% (@Go.Zc.snapV_str)) ∧
  (type_of% (@Go.Zc.snapV_cplx)) ∧
  (type_of% (@Go.Zc.snapV_float)) ∧
  (type_of% (@Go.Zc.snapV_nilp)) ∧
  (type_of% (@Go.Zc.snapV_nils)) ∧
  (type_of% (@Go.Zc.snapV_nilsk)) ∧
  (type_of% (@Go.Zc.snapV_vp)) ∧
  (type_of% (@Go.Zc.snapV_vs)) ∧
  (type_of% (@Go.Zc.snapVs_nil)) ∧
  (type_of% (@Go.Zc.snapVs_cons)) ∧
  (type_of% (@Go.Zc.snapV_agg)) ∧
  (type_of% (@Go.Zc.snapV_tup)) ∧
  (type_of% (@Go.Zc.snapV_op)) ∧
  (type_of% (@Go.Zc.snapP_eq)) ∧
  (type_of% (@Go.Zc.snapV_fn)) ∧
  (type_of% (@Go.Zc.fnO_some)) ∧
  (type_of% (@Go.Zc.resAll_nil)) ∧
  (type_of% (@Go.Zc.resAll_cons)) ∧
  (type_of% (@Go.Zc.resOne_tmp)) ∧
  (type_of% (@Go.Zc.resOne_cell)) ∧
  (type_of% (@List.set_cons_zero.{0})) ∧
  (type_of% (@List.set_cons_succ.{0})) ∧
  (type_of% (@List.drop_succ_cons.{0})) ∧
  (type_of% (@List.drop_zero.{0})) ∧
  (type_of% (@List.take_succ_cons.{0})) ∧
  (type_of% (@List.take_zero.{0})) ∧
  (type_of% (@List.cons_append.{0})) ∧
  (type_of% (@List.nil_append.{0})) ∧
  (type_of% (@List.append_nil.{0})) ∧
  (type_of% (@List.length_cons.{0})) ∧
  (type_of% (@List.length_nil.{0})) ∧
  (type_of% (@List.zip_cons_cons.{0, 0})) ∧
  (type_of% (@List.zip_nil_left.{0, 0})) ∧
  (type_of% (@List.zip_nil_right.{0, 0})) ∧
  (type_of% (@List.contains_cons.{0})) ∧
  (type_of% (@List.contains_nil.{0})) ∧
  (type_of% (@List.getElem?_cons_zero.{0})) :=
  ⟨@Go.Zc.snapV_sl, @Go.Zc.snapV_int, @Go.Zc.snapV_bool, @Go.Zc.snapV_str, @Go.Zc.snapV_cplx, @Go.Zc.snapV_float, @Go.Zc.snapV_nilp, @Go.Zc.snapV_nils, @Go.Zc.snapV_nilsk, @Go.Zc.snapV_vp, @Go.Zc.snapV_vs, @Go.Zc.snapVs_nil, @Go.Zc.snapVs_cons, @Go.Zc.snapV_agg, @Go.Zc.snapV_tup, @Go.Zc.snapV_op, @Go.Zc.snapP_eq, @Go.Zc.snapV_fn, @Go.Zc.fnO_some, @Go.Zc.resAll_nil, @Go.Zc.resAll_cons, @Go.Zc.resOne_tmp, @Go.Zc.resOne_cell, @List.set_cons_zero.{0}, @List.set_cons_succ.{0}, @List.drop_succ_cons.{0}, @List.drop_zero.{0}, @List.take_succ_cons.{0}, @List.take_zero.{0}, @List.cons_append.{0}, @List.nil_append.{0}, @List.append_nil.{0}, @List.length_cons.{0}, @List.length_nil.{0}, @List.zip_cons_cons.{0, 0}, @List.zip_nil_left.{0, 0}, @List.zip_nil_right.{0, 0}, @List.contains_cons.{0}, @List.contains_nil.{0}, @List.getElem?_cons_zero.{0}⟩

theorem y8 : (type_of% (@List.getElem?_cons_succ.{0})) ∧
  (type_of% (@Option.isNone_none.{0})) ∧
  (type_of% (@Option.isNone_some.{0})) ∧
  (type_of% (@Option.isSome_none.{0})) ∧
  (type_of% (@Option.isSome_some.{0})) ∧
  (type_of% (@Nat.add_zero)) ∧
  (type_of% (@Nat.zero_add)) ∧
  (type_of% (@Nat.le_refl)) ∧
  (type_of% (@Nat.zero_le)) ∧
  (type_of% (@Nat.lt_add_one)) ∧
  (type_of% (@ne_eq.{1})) ∧
  (type_of% (@not_false_eq_true)) ∧
  (type_of% (@not_true_eq_false)) ∧
  (type_of% (@and_self)) ∧
  (type_of% (@and_true)) ∧
  (type_of% (@true_and)) ∧
  (type_of% (@and_false)) ∧
  (type_of% (@false_and)) ∧
  (type_of% (@or_true)) ∧
  (type_of% (@true_or)) ∧
  (type_of% (@or_false)) ∧
  (type_of% (@false_or)) ∧
  (type_of% (@Bool.and_true)) ∧
  (type_of% (@Bool.true_and)) ∧
  (type_of% (@Bool.and_false)) ∧
  (type_of% (@Bool.false_and)) ∧
  (type_of% (@Bool.or_false)) ∧
  (type_of% (@Bool.false_or)) ∧
  (type_of% (@Bool.or_true)) ∧
  (type_of% (@Bool.true_or)) ∧
  (type_of% (@Bool.not_true)) ∧
  (type_of% (@Bool.not_false)) ∧
  (type_of% (@decide_true)) ∧
  (type_of% (@decide_false)) ∧
  (type_of% (@Go.Zc.decide_true')) ∧
  (type_of% (@Go.Zc.decide_not')) ∧
  (type_of% (@Bool.not_eq_true')) ∧
  (type_of% (@if_true.{1})) ∧
  (type_of% (@if_false.{1})) ∧
  (type_of% (@Bool.false_eq_true)) :=
  ⟨@List.getElem?_cons_succ.{0}, @Option.isNone_none.{0}, @Option.isNone_some.{0}, @Option.isSome_none.{0}, @Option.isSome_some.{0}, @Nat.add_zero, @Nat.zero_add, @Nat.le_refl, @Nat.zero_le, @Nat.lt_add_one, @ne_eq.{1}, @not_false_eq_true, @not_true_eq_false, @and_self, @and_true, @true_and, @and_false, @false_and, @or_true, @true_or, @or_false, @false_or, @Bool.and_true, @Bool.true_and, @Bool.and_false, @Bool.false_and, @Bool.or_false, @Bool.false_or, @Bool.or_true, @Bool.true_or, @Bool.not_true, @Bool.not_false, @decide_true, @decide_false, @Go.Zc.decide_true', @Go.Zc.decide_not', @Bool.not_eq_true', @if_true.{1}, @if_false.{1}, @Bool.false_eq_true⟩

theorem y9 : (type_of% (@Bool.true_eq_false)) ∧
  (type_of% (@eq_self.{1})) ∧
  (type_of% (@beq_self_eq_true.{0})) ∧
  (type_of% (@Int.lt_irrefl)) ∧
  (type_of% (@Nat.lt_irrefl)) ∧
  (type_of% (@Int.cast_ofNat_Int)) ∧
  (type_of% (@Int.toNat_zero)) ∧
  (type_of% (@Int.toNat_one)) :=
  ⟨@Bool.true_eq_false, @eq_self.{1}, @beq_self_eq_true.{0}, @Int.lt_irrefl, @Nat.lt_irrefl, @Int.cast_ofNat_Int, @Int.toNat_zero, @Int.toNat_one⟩

end Go.Zc
