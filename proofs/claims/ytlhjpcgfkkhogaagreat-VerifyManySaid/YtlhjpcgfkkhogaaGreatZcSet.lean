/- The rewriting lemmas, together. No condition. -/
import Derived.Test.YtlhjpcgfkkhogaaGreatZcSym
set_option linter.all false
section
namespace Go.Zc
set_option maxRecDepth 10000

theorem y1 : (type_of% (@Go.Zc.eval_seq)) ∧
  (type_of% (@Go.Zc.eval_frz')) ∧
  (type_of% (@Go.Zc.frzV_op)) ∧
  (type_of% (@Go.Zc.frzG_some)) ∧
  (type_of% (@Go.Zc.kill_blk)) ∧
  (type_of% (@Go.Zc.eval_ops')) ∧
  (type_of% (@Go.Zc.eval_cond)) ∧
  (type_of% (@Go.Zc.eval_block)) ∧
  (type_of% (@Go.Zc.eval_skip)) ∧
  (type_of% (@Go.Zc.eval_ret)) ∧
  (type_of% (@Go.Zc.eval_exit)) ∧
  (type_of% (@Go.Zc.runOps_nil)) ∧
  (type_of% (@Go.Zc.runOps_mov)) ∧
  (type_of% (@Go.Zc.runOps_p)) ∧
  (type_of% (@Go.Zc.runOps_h)) ∧
  (type_of% (@Go.Zc.runOps_hb)) ∧
  (type_of% (@Go.Zc.runOps_hl)) ∧
  (type_of% (@Go.Zc.runOps_call)) ∧
  (type_of% (@Go.Zc.runOps_callb)) ∧
  (type_of% (@Go.Zc.runOps_callp)) ∧
  (type_of% (@Go.Zc.runOps_callv)) ∧
  (type_of% (@Go.Zc.isPre_refl)) ∧
  (type_of% (@Go.Zc.isPre_app)) ∧
  (type_of% (@Go.Zc.runOps_guard)) ∧
  (type_of% (@Go.Zc.guardE_bool)) ∧
  (type_of% (@Go.Zc.guardE_skip)) ∧
  (type_of% (@Go.Zc.restE_mk)) ∧
  (type_of% (@Go.Zc.map_bind_some)) ∧
  (type_of% (@Go.Zc.bind_some')) ∧
  (type_of% (@Go.Zc.bind_none')) ∧
  (type_of% (@Go.Zc.map_some')) ∧
  (type_of% (@Go.Zc.map_none')) ∧
  (type_of% (@Go.Zc.normE_mk)) ∧
  (type_of% (@Go.Zc.thenE_norm)) ∧
  (type_of% (@Go.Zc.thenE_exit)) ∧
  (type_of% (@Go.Zc.thenE_ret)) ∧
  (type_of% (@Go.Zc.outE_norm)) ∧
  (type_of% (@Go.Zc.outE_ret)) ∧
  (type_of% (@Go.Zc.outE_exit)) ∧
  (type_of% (@Go.Zc.fzE_eq)) :=
  ⟨@Go.Zc.eval_seq, @Go.Zc.eval_frz', @Go.Zc.frzV_op, @Go.Zc.frzG_some, @Go.Zc.kill_blk, @Go.Zc.eval_ops', @Go.Zc.eval_cond, @Go.Zc.eval_block, @Go.Zc.eval_skip, @Go.Zc.eval_ret, @Go.Zc.eval_exit, @Go.Zc.runOps_nil, @Go.Zc.runOps_mov, @Go.Zc.runOps_p, @Go.Zc.runOps_h, @Go.Zc.runOps_hb, @Go.Zc.runOps_hl, @Go.Zc.runOps_call, @Go.Zc.runOps_callb, @Go.Zc.runOps_callp, @Go.Zc.runOps_callv, @Go.Zc.isPre_refl, @Go.Zc.isPre_app, @Go.Zc.runOps_guard, @Go.Zc.guardE_bool, @Go.Zc.guardE_skip, @Go.Zc.restE_mk, @Go.Zc.map_bind_some, @Go.Zc.bind_some', @Go.Zc.bind_none', @Go.Zc.map_some', @Go.Zc.map_none', @Go.Zc.normE_mk, @Go.Zc.thenE_norm, @Go.Zc.thenE_exit, @Go.Zc.thenE_ret, @Go.Zc.outE_norm, @Go.Zc.outE_ret, @Go.Zc.outE_exit, @Go.Zc.fzE_eq⟩

theorem y2 : (type_of% (@Go.Zc.fzOut_norm)) ∧
  (type_of% (@Go.Zc.fzOut_ret)) ∧
  (type_of% (@Go.Zc.fzSnap_eq)) ∧
  (type_of% (@Go.Zc.oE_eq)) ∧
  (type_of% (@Go.Zc.ownOut_norm)) ∧
  (type_of% (@Go.Zc.ownOut_ret)) ∧
  (type_of% (@Go.Zc.refOut_norm)) ∧
  (type_of% (@Go.Zc.refOut_ret)) ∧
  (type_of% (@Go.Zc.refSnap_eq)) ∧
  (type_of% (@Go.Zc.condE_bool)) ∧
  (type_of% (@Go.Zc.joinE_none)) ∧
  (type_of% (@Go.Zc.joinE_some)) ∧
  (type_of% (@Go.Zc.bind_ite)) ∧
  (type_of% (@Go.Zc.map_ite)) ∧
  (type_of% (@Go.Zc.at_hit)) ∧
  (type_of% (@Go.Zc.at_miss)) ∧
  (type_of% (@Go.Zc.ev_t)) ∧
  (type_of% (@Go.Zc.ev_c)) ∧
  (type_of% (@Go.Zc.evs_nil)) ∧
  (type_of% (@Go.Zc.evs_cons)) ∧
  (type_of% (@Go.Zc.putD_some)) ∧
  (type_of% (@Go.Zc.putD_none)) ∧
  (type_of% (@Go.Zc.keep_nil)) ∧
  (type_of% (@Go.Zc.keep_cons)) ∧
  (type_of% (@List.all_nil.{0})) ∧
  (type_of% (@List.all_cons.{0})) ∧
  (type_of% (@Go.Zc.chkV_sl)) ∧
  (type_of% (@Go.Zc.chkV_int)) ∧
  (type_of% (@Go.Zc.chkV_bool)) ∧
  (type_of% (@Go.Zc.chkV_loc)) ∧
  (type_of% (@Go.Zc.chkV_blk)) ∧
  (type_of% (@Go.Zc.chkV_agg)) ∧
  (type_of% (@Go.Zc.chkV_tup)) ∧
  (type_of% (@Go.Zc.chkV_vp)) ∧
  (type_of% (@Go.Zc.chkV_vs)) ∧
  (type_of% (@Go.Zc.chkV_os)) ∧
  (type_of% (@Go.Zc.chkV_om)) ∧
  (type_of% (@Go.Zc.chkV_und)) ∧
  (type_of% (@Go.Zc.chkV_nils)) ∧
  (type_of% (@Go.Zc.chkV_nilp)) :=
  ⟨@Go.Zc.fzOut_norm, @Go.Zc.fzOut_ret, @Go.Zc.fzSnap_eq, @Go.Zc.oE_eq, @Go.Zc.ownOut_norm, @Go.Zc.ownOut_ret, @Go.Zc.refOut_norm, @Go.Zc.refOut_ret, @Go.Zc.refSnap_eq, @Go.Zc.condE_bool, @Go.Zc.joinE_none, @Go.Zc.joinE_some, @Go.Zc.bind_ite, @Go.Zc.map_ite, @Go.Zc.at_hit, @Go.Zc.at_miss, @Go.Zc.ev_t, @Go.Zc.ev_c, @Go.Zc.evs_nil, @Go.Zc.evs_cons, @Go.Zc.putD_some, @Go.Zc.putD_none, @Go.Zc.keep_nil, @Go.Zc.keep_cons, @List.all_nil.{0}, @List.all_cons.{0}, @Go.Zc.chkV_sl, @Go.Zc.chkV_int, @Go.Zc.chkV_bool, @Go.Zc.chkV_loc, @Go.Zc.chkV_blk, @Go.Zc.chkV_agg, @Go.Zc.chkV_tup, @Go.Zc.chkV_vp, @Go.Zc.chkV_vs, @Go.Zc.chkV_os, @Go.Zc.chkV_om, @Go.Zc.chkV_und, @Go.Zc.chkV_nils, @Go.Zc.chkV_nilp⟩

theorem y3 : (type_of% (@Go.Zc.chkV_nilm)) ∧
  (type_of% (@Go.Zc.chkV_nilf)) ∧
  (type_of% (@Go.Zc.chkV_nili)) ∧
  (type_of% (@Go.Zc.chkV_float)) ∧
  (type_of% (@Go.Zc.chkV_cplx)) ∧
  (type_of% (@Go.Zc.chkV_str)) ∧
  (type_of% (@Go.Zc.chkV_fn)) ∧
  (type_of% (@Go.Zc.one_int)) ∧
  (type_of% (@Go.Zc.und_int)) ∧
  (type_of% (@Go.Zc.cells_int)) ∧
  (type_of% (@Go.Zc.one_bool)) ∧
  (type_of% (@Go.Zc.und_bool)) ∧
  (type_of% (@Go.Zc.cells_bool)) ∧
  (type_of% (@Go.Zc.one_op)) ∧
  (type_of% (@Go.Zc.und_op)) ∧
  (type_of% (@Go.Zc.cells_op)) ∧
  (type_of% (@Go.Zc.one_vp)) ∧
  (type_of% (@Go.Zc.und_vp)) ∧
  (type_of% (@Go.Zc.cells_vp)) ∧
  (type_of% (@Go.Zc.one_vs)) ∧
  (type_of% (@Go.Zc.und_vs)) ∧
  (type_of% (@Go.Zc.cells_vs)) ∧
  (type_of% (@Go.Zc.one_os)) ∧
  (type_of% (@Go.Zc.und_os)) ∧
  (type_of% (@Go.Zc.cells_os)) ∧
  (type_of% (@Go.Zc.one_om)) ∧
  (type_of% (@Go.Zc.und_om)) ∧
  (type_of% (@Go.Zc.cells_om)) ∧
  (type_of% (@Go.Zc.one_nils)) ∧
  (type_of% (@Go.Zc.und_nils)) ∧
  (type_of% (@Go.Zc.cells_nils)) ∧
  (type_of% (@Go.Zc.one_nilp)) ∧
  (type_of% (@Go.Zc.und_nilp)) ∧
  (type_of% (@Go.Zc.cells_nilp)) ∧
  (type_of% (@Go.Zc.one_nilm)) ∧
  (type_of% (@Go.Zc.und_nilm)) ∧
  (type_of% (@Go.Zc.cells_nilm)) ∧
  (type_of% (@Go.Zc.one_nilf)) ∧
  (type_of% (@Go.Zc.und_nilf)) ∧
  (type_of% (@Go.Zc.cells_nilf)) :=
  ⟨@Go.Zc.chkV_nilm, @Go.Zc.chkV_nilf, @Go.Zc.chkV_nili, @Go.Zc.chkV_float, @Go.Zc.chkV_cplx, @Go.Zc.chkV_str, @Go.Zc.chkV_fn, @Go.Zc.one_int, @Go.Zc.und_int, @Go.Zc.cells_int, @Go.Zc.one_bool, @Go.Zc.und_bool, @Go.Zc.cells_bool, @Go.Zc.one_op, @Go.Zc.und_op, @Go.Zc.cells_op, @Go.Zc.one_vp, @Go.Zc.und_vp, @Go.Zc.cells_vp, @Go.Zc.one_vs, @Go.Zc.und_vs, @Go.Zc.cells_vs, @Go.Zc.one_os, @Go.Zc.und_os, @Go.Zc.cells_os, @Go.Zc.one_om, @Go.Zc.und_om, @Go.Zc.cells_om, @Go.Zc.one_nils, @Go.Zc.und_nils, @Go.Zc.cells_nils, @Go.Zc.one_nilp, @Go.Zc.und_nilp, @Go.Zc.cells_nilp, @Go.Zc.one_nilm, @Go.Zc.und_nilm, @Go.Zc.cells_nilm, @Go.Zc.one_nilf, @Go.Zc.und_nilf, @Go.Zc.cells_nilf⟩

theorem y4 : (type_of% (@Go.Zc.one_nili)) ∧
  (type_of% (@Go.Zc.und_nili)) ∧
  (type_of% (@Go.Zc.cells_nili)) ∧
  (type_of% (@Go.Zc.one_float)) ∧
  (type_of% (@Go.Zc.und_float)) ∧
  (type_of% (@Go.Zc.cells_float)) ∧
  (type_of% (@Go.Zc.one_cplx)) ∧
  (type_of% (@Go.Zc.und_cplx)) ∧
  (type_of% (@Go.Zc.cells_cplx)) ∧
  (type_of% (@Go.Zc.one_str)) ∧
  (type_of% (@Go.Zc.und_str)) ∧
  (type_of% (@Go.Zc.cells_str)) ∧
  (type_of% (@Go.Zc.one_fn)) ∧
  (type_of% (@Go.Zc.und_fn)) ∧
  (type_of% (@Go.Zc.cells_fn)) ∧
  (type_of% (@Go.Zc.one_ifc)) ∧
  (type_of% (@Go.Zc.und_ifc)) ∧
  (type_of% (@Go.Zc.cells_ifc)) ∧
  (type_of% (@Go.Zc.cells_agg)) ∧
  (type_of% (@Go.Zc.und_agg)) ∧
  (type_of% (@Go.Zc.loc_loc)) ∧
  (type_of% (@Go.Zc.loc_blk)) ∧
  (type_of% (@Go.Zc.lenOf_vs)) ∧
  (type_of% (@Go.Zc.lenOf_os)) ∧
  (type_of% (@Go.Zc.lenOf_nils)) ∧
  (type_of% (@Go.Zc.isSl_vs)) ∧
  (type_of% (@Go.Zc.isSl_os)) ∧
  (type_of% (@Go.Zc.isSl_nils)) ∧
  (type_of% (@Go.Zc.locv_sl)) ∧
  (type_of% (@Go.Zc.ref_sl)) ∧
  (type_of% (@Go.Zc.one_sl)) ∧
  (type_of% (@Go.Zc.cells_sl)) ∧
  (type_of% (@Go.Zc.und_sl)) ∧
  (type_of% (@Go.Zc.isSl_sl)) ∧
  (type_of% (@Go.Zc.lenOf_sl)) ∧
  (type_of% (@Go.Zc.lenC_sl)) ∧
  (type_of% (@Go.Zc.pick_bool)) ∧
  (type_of% (@Go.Zc.nchk_op)) ∧
  (type_of% (@Go.Zc.nchk_vp)) ∧
  (type_of% (@Go.Zc.nchk_fn)) :=
  ⟨@Go.Zc.one_nili, @Go.Zc.und_nili, @Go.Zc.cells_nili, @Go.Zc.one_float, @Go.Zc.und_float, @Go.Zc.cells_float, @Go.Zc.one_cplx, @Go.Zc.und_cplx, @Go.Zc.cells_cplx, @Go.Zc.one_str, @Go.Zc.und_str, @Go.Zc.cells_str, @Go.Zc.one_fn, @Go.Zc.und_fn, @Go.Zc.cells_fn, @Go.Zc.one_ifc, @Go.Zc.und_ifc, @Go.Zc.cells_ifc, @Go.Zc.cells_agg, @Go.Zc.und_agg, @Go.Zc.loc_loc, @Go.Zc.loc_blk, @Go.Zc.lenOf_vs, @Go.Zc.lenOf_os, @Go.Zc.lenOf_nils, @Go.Zc.isSl_vs, @Go.Zc.isSl_os, @Go.Zc.isSl_nils, @Go.Zc.locv_sl, @Go.Zc.ref_sl, @Go.Zc.one_sl, @Go.Zc.cells_sl, @Go.Zc.und_sl, @Go.Zc.isSl_sl, @Go.Zc.lenOf_sl, @Go.Zc.lenC_sl, @Go.Zc.pick_bool, @Go.Zc.nchk_op, @Go.Zc.nchk_vp, @Go.Zc.nchk_fn⟩

theorem y5 : (type_of% (@Go.Zc.fld_agg)) ∧
  (type_of% (@Go.Zc.part_t)) ∧
  (type_of% (@Go.Zc.part_f)) ∧
  (type_of% (@Go.Zc.ext_tup)) ∧
  (type_of% (@Go.Zc.cap_nils)) ∧
  (type_of% (@Go.Zc.lenC_nils)) ∧
  (type_of% (@Go.Zc.lenC_os)) ∧
  (type_of% (@Go.Zc.lenC_vs)) ∧
  (type_of% (@Go.Zc.un_not)) ∧
  (type_of% (@Go.Zc.wrap64)) ∧
  (type_of% (@Go.Zc.toInt_int)) ∧
  (type_of% (@Go.Zc.toFloat_int)) ∧
  (type_of% (@Go.Zc.cplx_float)) ∧
  (type_of% (@Go.Zc.bin_add)) ∧
  (type_of% (@Go.Zc.bin_sub)) ∧
  (type_of% (@Go.Zc.bin_mul)) ∧
  (type_of% (@Go.Zc.bin_quo)) ∧
  (type_of% (@Go.Zc.bin_rem)) ∧
  (type_of% (@Go.Zc.bin_eql)) ∧
  (type_of% (@Go.Zc.bin_neq)) ∧
  (type_of% (@Go.Zc.bin_lss)) ∧
  (type_of% (@Go.Zc.bin_leq)) ∧
  (type_of% (@Go.Zc.bin_gtr)) ∧
  (type_of% (@Go.Zc.bin_geq)) ∧
  (type_of% (@Go.Zc.bin_eqlb)) ∧
  (type_of% (@Go.Zc.bin_neqb)) ∧
  (type_of% (@Go.Zc.bin_eqla)) ∧
  (type_of% (@Go.Zc.bin_neqa)) ∧
  (type_of% (@Go.Zc.hop_appz)) ∧
  (type_of% (@Go.Zc.hop_mksl)) ∧
  (type_of% (@Go.Zc.hop_mkslF)) ∧
  (type_of% (@Go.Zc.hop_clear)) ∧
  (type_of% (@Go.Zc.hl_one)) ∧
  (type_of% (@Go.Zc.hl_two)) ∧
  (type_of% (@Go.Zc.hb_eq)) ∧
  (type_of% (@Go.Zc.iaddrA_int)) ∧
  (type_of% (@Go.Zc.hop_load)) ∧
  (type_of% (@Go.Zc.hop_store)) ∧
  (type_of% (@Go.Zc.hop_box)) ∧
  (type_of% (@Go.Zc.hop_newl)) :=
  ⟨@Go.Zc.fld_agg, @Go.Zc.part_t, @Go.Zc.part_f, @Go.Zc.ext_tup, @Go.Zc.cap_nils, @Go.Zc.lenC_nils, @Go.Zc.lenC_os, @Go.Zc.lenC_vs, @Go.Zc.un_not, @Go.Zc.wrap64, @Go.Zc.toInt_int, @Go.Zc.toFloat_int, @Go.Zc.cplx_float, @Go.Zc.bin_add, @Go.Zc.bin_sub, @Go.Zc.bin_mul, @Go.Zc.bin_quo, @Go.Zc.bin_rem, @Go.Zc.bin_eql, @Go.Zc.bin_neq, @Go.Zc.bin_lss, @Go.Zc.bin_leq, @Go.Zc.bin_gtr, @Go.Zc.bin_geq, @Go.Zc.bin_eqlb, @Go.Zc.bin_neqb, @Go.Zc.bin_eqla, @Go.Zc.bin_neqa, @Go.Zc.hop_appz, @Go.Zc.hop_mksl, @Go.Zc.hop_mkslF, @Go.Zc.hop_clear, @Go.Zc.hl_one, @Go.Zc.hl_two, @Go.Zc.hb_eq, @Go.Zc.iaddrA_int, @Go.Zc.hop_load, @Go.Zc.hop_store, @Go.Zc.hop_box, @Go.Zc.hop_newl⟩

theorem y6 : (type_of% (@Go.Zc.hop_boxh)) ∧
  (type_of% (@Go.Zc.hop_newh)) ∧
  (type_of% (@Go.Zc.hop_bslF)) ∧
  (type_of% (@Go.Zc.hop_bslO)) ∧
  (type_of% (@Go.Zc.frzE_eq)) ∧
  (type_of% (@Go.Zc.ownE_eq)) ∧
  (type_of% (@Go.Zc.push_eq)) ∧
  (type_of% (@Go.Zc.fillC_nil)) ∧
  (type_of% (@Go.Zc.fillC_cons)) ∧
  (type_of% (@Go.Zc.pure_bld)) ∧
  (type_of% (@Go.Zc.setMany_nil)) ∧
  (type_of% (@Go.Zc.setMany_cons)) ∧
  (type_of% (@Go.Zc.unitH_mk)) ∧
  (type_of% (@Go.Zc.load_vp_t)) ∧
  (type_of% (@Go.Zc.load_vp_f)) ∧
  (type_of% (@Go.Zc.load_op)) ∧
  (type_of% (@Go.Zc.ldE_t)) ∧
  (type_of% (@Go.Zc.ldE_f)) ∧
  (type_of% (@Go.Zc.headO_cons)) ∧
  (type_of% (@Go.Zc.faddr_vp)) ∧
  (type_of% (@Go.Zc.faddr_op)) ∧
  (type_of% (@Go.Zc.get_loc)) ∧
  (type_of% (@Go.Zc.get_b0)) ∧
  (type_of% (@Go.Zc.get_b1)) ∧
  (type_of% (@Go.Zc.get_b2)) ∧
  (type_of% (@Go.Zc.look_hit)) ∧
  (type_of% (@Go.Zc.look_miss)) ∧
  (type_of% (@Go.Zc.look_nil)) ∧
  (type_of% (@Go.Zc.setBx_hit)) ∧
  (type_of% (@Go.Zc.setBx_miss)) ∧
  (type_of% (@Go.Zc.setBx_nil)) ∧
  (type_of% (@Go.Zc.storeC_op)) ∧
  (type_of% (@Go.Zc.stE_loc)) ∧
  (type_of% (@Go.Zc.put_loc)) ∧
  (type_of% (@Go.Zc.put_blk)) ∧
  (type_of% (@Go.Zc.ones_nil)) ∧
  (type_of% (@Go.Zc.ones_cons)) ∧
  (type_of% (@Go.Zc.snap_eq)) ∧
  (type_of% (@Go.Zc.snapN_succ)) ∧
  (type_of% (@Go.Zc.mapC_nil)) :=
  ⟨@Go.Zc.hop_boxh, @Go.Zc.hop_newh, @Go.Zc.hop_bslF, @Go.Zc.hop_bslO, @Go.Zc.frzE_eq, @Go.Zc.ownE_eq, @Go.Zc.push_eq, @Go.Zc.fillC_nil, @Go.Zc.fillC_cons, @Go.Zc.pure_bld, @Go.Zc.setMany_nil, @Go.Zc.setMany_cons, @Go.Zc.unitH_mk, @Go.Zc.load_vp_t, @Go.Zc.load_vp_f, @Go.Zc.load_op, @Go.Zc.ldE_t, @Go.Zc.ldE_f, @Go.Zc.headO_cons, @Go.Zc.faddr_vp, @Go.Zc.faddr_op, @Go.Zc.get_loc, @Go.Zc.get_b0, @Go.Zc.get_b1, @Go.Zc.get_b2, @Go.Zc.look_hit, @Go.Zc.look_miss, @Go.Zc.look_nil, @Go.Zc.setBx_hit, @Go.Zc.setBx_miss, @Go.Zc.setBx_nil, @Go.Zc.storeC_op, @Go.Zc.stE_loc, @Go.Zc.put_loc, @Go.Zc.put_blk, @Go.Zc.ones_nil, @Go.Zc.ones_cons, @Go.Zc.snap_eq, @Go.Zc.snapN_succ, @Go.Zc.mapC_nil⟩

theorem y7 : (type_of% (@Go.Zc.mapC_cons)) ∧
  (type_of% (@Go.Zc.snapL_nil)) ∧
  (type_of% (@Go.Zc.snapL_cons)) ∧
  (type_of% (@Go.Zc.consO_some)) ∧
  (type_of% (@Go.Zc.snapV_sl)) ∧
  (type_of% (@Go.Zc.snapV_int)) ∧
  (type_of% (@Go.Zc.snapV_bool)) ∧
  (type_of% (@Go.Zc.snapV_str)) ∧
  (type_of% (@Go.Zc.snapV_cplx)) ∧
  (type_of% (@Go.Zc.snapV_float)) ∧
  (type_of% (@Go.Zc.snapV_nilp)) ∧
  (type_of% (@Go.Zc.snapV_nils)) ∧
  (type_of% (@Go.Zc.snapV_nilsk)) ∧
  (type_of% (@Go.Zc.snapV_vp)) ∧
  (type_of% (@Go.Zc.snapV_vs)) ∧
  (type_of% (@Go.Zc.snapVs_nil)) ∧
  (type_of% (@Go.Zc.snapVs_cons)) ∧
  (type_of% (@Go.Zc.snapV_agg)) ∧
  (type_of% (@Go.Zc.snapV_tup)) ∧
  (type_of% (@Go.Zc.snapV_op)) ∧
  (type_of% (@Go.Zc.snapP_eq)) ∧
  (type_of% (@Go.Zc.snapV_fn)) ∧
  (type_of% (@Go.Zc.fnO_some)) ∧
  (type_of% (@Go.Zc.resAll_nil)) ∧
  (type_of% (@Go.Zc.resAll_cons)) ∧
  (type_of% (@Go.Zc.resOne_tmp)) ∧
  (type_of% (@Go.Zc.resOne_cell)) ∧
  (type_of% (@List.set_cons_zero.{0})) ∧
  (type_of% (@List.set_cons_succ.{0})) ∧
  (type_of% (@List.drop_succ_cons.{0})) ∧
  (type_of% (@List.drop_zero.{0})) ∧
  (type_of% (@List.take_succ_cons.{0})) ∧
  (type_of% (@List.take_zero.{0})) ∧
  (type_of% (@List.cons_append.{0})) ∧
  (type_of% (@List.nil_append.{0})) ∧
  (type_of% (@List.append_nil.{0})) ∧
  (type_of% (@List.length_cons.{0})) ∧
  (type_of% (@List.length_nil.{0})) ∧
  (type_of% (@List.zip_cons_cons.{0, 0})) ∧
  (type_of% (@List.zip_nil_left.{0, 0})) :=
  ⟨@Go.Zc.mapC_cons, @Go.Zc.snapL_nil, @Go.Zc.snapL_cons, @Go.Zc.consO_some, @Go.Zc.snapV_sl, @Go.Zc.snapV_int, @Go.Zc.snapV_bool, @Go.Zc.snapV_str, @Go.Zc.snapV_cplx, @Go.Zc.snapV_float, @Go.Zc.snapV_nilp, @Go.Zc.snapV_nils, @Go.Zc.snapV_nilsk, @Go.Zc.snapV_vp, @Go.Zc.snapV_vs, @Go.Zc.snapVs_nil, @Go.Zc.snapVs_cons, @Go.Zc.snapV_agg, @Go.Zc.snapV_tup, @Go.Zc.snapV_op, @Go.Zc.snapP_eq, @Go.Zc.snapV_fn, @Go.Zc.fnO_some, @Go.Zc.resAll_nil, @Go.Zc.resAll_cons, @Go.Zc.resOne_tmp, @Go.Zc.resOne_cell, @List.set_cons_zero.{0}, @List.set_cons_succ.{0}, @List.drop_succ_cons.{0}, @List.drop_zero.{0}, @List.take_succ_cons.{0}, @List.take_zero.{0}, @List.cons_append.{0}, @List.nil_append.{0}, @List.append_nil.{0}, @List.length_cons.{0}, @List.length_nil.{0}, @List.zip_cons_cons.{0, 0}, @List.zip_nil_left.{0, 0}⟩

theorem y8 : (type_of% (@List.zip_nil_right.{0, 0})) ∧
  (type_of% (@List.contains_cons.{0})) ∧
  (type_of% (@List.contains_nil.{0})) ∧
  (type_of% (@List.getElem?_cons_zero.{0})) ∧
  (type_of% (@List.getElem?_cons_succ.{0})) ∧
  (type_of% (@Option.isNone_none.{0})) ∧
  (type_of% (@Option.isNone_some.{0})) ∧
  (type_of% (@Option.isSome_none.{0})) ∧
  (type_of% (@Option.isSome_some.{0})) ∧
  (type_of% (@Nat.add_zero)) ∧
  (type_of% (@Nat.zero_add)) ∧
  (type_of% (@Nat.le_refl)) ∧
  (type_of% (@Nat.zero_le)) ∧
  (type_of% (@Nat.lt_add_one)) ∧
  (type_of% (@ne_eq.{1})) ∧
  (type_of% (@not_false_eq_true)) ∧
  (type_of% (@not_true_eq_false)) ∧
  (type_of% (@and_self)) ∧
  (type_of% (@and_true)) ∧
  (type_of% (@true_and)) ∧
  (type_of% (@and_false)) ∧
  (type_of% (@false_and)) ∧
  (type_of% (@or_true)) ∧
  (type_of% (@true_or)) ∧
  (type_of% (@or_false)) ∧
  (type_of% (@false_or)) ∧
  (type_of% (@Bool.and_true)) ∧
  (type_of% (@Bool.true_and)) ∧
  (type_of% (@Bool.and_false)) ∧
  (type_of% (@Bool.false_and)) ∧
  (type_of% (@Bool.or_false)) ∧
  (type_of% (@Bool.false_or)) ∧
  (type_of% (@Bool.or_true)) ∧
  (type_of% (@Bool.true_or)) ∧
  (type_of% (@Bool.not_true)) ∧
  (type_of% (@Bool.not_false)) ∧
  (type_of% (@decide_true)) ∧
  (type_of% (@decide_false)) ∧
  (type_of% (@Go.Zc.decide_true')) ∧
  (type_of% (@Go.Zc.decide_not')) :=
  ⟨@List.zip_nil_right.{0, 0}, @List.contains_cons.{0}, @List.contains_nil.{0}, @List.getElem?_cons_zero.{0}, @List.getElem?_cons_succ.{0}, @Option.isNone_none.{0}, @Option.isNone_some.{0}, @Option.isSome_none.{0}, @Option.isSome_some.{0}, @Nat.add_zero, @Nat.zero_add, @Nat.le_refl, @Nat.zero_le, @Nat.lt_add_one, @ne_eq.{1}, @not_false_eq_true, @not_true_eq_false, @and_self, @and_true, @true_and, @and_false, @false_and, @or_true, @true_or, @or_false, @false_or, @Bool.and_true, @Bool.true_and, @Bool.and_false, @Bool.false_and, @Bool.or_false, @Bool.false_or, @Bool.or_true, @Bool.true_or, @Bool.not_true, @Bool.not_false, @decide_true, @decide_false, @Go.Zc.decide_true', @Go.Zc.decide_not'⟩

theorem y9 : (type_of% (@Bool.not_eq_true')) ∧
  (type_of% (@if_true.{1})) ∧
  (type_of% (@if_false.{1})) ∧
  (type_of% (@Bool.false_eq_true)) ∧
  (type_of% (@Bool.true_eq_false)) ∧
  (type_of% (@eq_self.{1})) ∧
  (type_of% (@beq_self_eq_true.{0})) ∧
  (type_of% (@Int.lt_irrefl)) ∧
  (type_of% (@Nat.lt_irrefl)) ∧
  (type_of% (@Int.cast_ofNat_Int)) ∧
  (type_of% (@Int.toNat_zero)) ∧
  (type_of% (@Int.toNat_one)) ∧
  (type_of% (@Go.Zc.keepE_def)) ∧
  (type_of% (@Go.Zc.keepB.eq_1)) ∧
  (type_of% (@Go.Zc.keepB.eq_2)) ∧
  (type_of% (@Go.Zc.chk.eq_1)) ∧
  (type_of% (@Go.Zc.CV.locs.eq_1)) ∧
  (type_of% (@Go.Zc.CV.locs.eq_2)) ∧
  (type_of% (@Go.Zc.CV.locv.eq_1)) ∧
  (type_of% (@Go.Zc.CV.locv.eq_2)) ∧
  (type_of% (@Go.Zc.CV.locv.eq_3)) ∧
  (type_of% (@Go.Zc.CV.locv.eq_4)) ∧
  (type_of% (@Go.Zc.CV.locv.eq_5)) ∧
  (type_of% (@Go.Zc.CV.locv.eq_6)) ∧
  (type_of% (@Go.Zc.CV.refs.eq_1)) ∧
  (type_of% (@Go.Zc.CV.refs.eq_2)) ∧
  (type_of% (@Go.Zc.CV.ref.eq_1)) ∧
  (type_of% (@Go.Zc.CV.ref.eq_2)) ∧
  (type_of% (@Go.Zc.CV.ref.eq_3)) ∧
  (type_of% (@Go.Zc.CV.ref.eq_4)) ∧
  (type_of% (@Go.Zc.CV.ref.eq_5)) ∧
  (type_of% (@Go.Zc.CV.ref.eq_6)) ∧
  (type_of% (@Go.Zc.CV.ref.eq_7)) ∧
  (type_of% (@Go.Zc.pureOp.eq_1)) ∧
  (type_of% (@Go.Zc.pureOp.eq_2)) ∧
  (type_of% (@Go.Zc.pureOp.eq_3)) ∧
  (type_of% (@Go.Zc.pureOp.eq_4)) ∧
  (type_of% (@Go.Zc.pureOp.eq_5)) ∧
  (type_of% (@Go.Zc.pureOp.eq_6)) ∧
  (type_of% (@Go.Zc.pureOp.eq_7)) :=
  ⟨@Bool.not_eq_true', @if_true.{1}, @if_false.{1}, @Bool.false_eq_true, @Bool.true_eq_false, @eq_self.{1}, @beq_self_eq_true.{0}, @Int.lt_irrefl, @Nat.lt_irrefl, @Int.cast_ofNat_Int, @Int.toNat_zero, @Int.toNat_one, @Go.Zc.keepE_def, @Go.Zc.keepB.eq_1, @Go.Zc.keepB.eq_2, @Go.Zc.chk.eq_1, @Go.Zc.CV.locs.eq_1, @Go.Zc.CV.locs.eq_2, @Go.Zc.CV.locv.eq_1, @Go.Zc.CV.locv.eq_2, @Go.Zc.CV.locv.eq_3, @Go.Zc.CV.locv.eq_4, @Go.Zc.CV.locv.eq_5, @Go.Zc.CV.locv.eq_6, @Go.Zc.CV.refs.eq_1, @Go.Zc.CV.refs.eq_2, @Go.Zc.CV.ref.eq_1, @Go.Zc.CV.ref.eq_2, @Go.Zc.CV.ref.eq_3, @Go.Zc.CV.ref.eq_4, @Go.Zc.CV.ref.eq_5, @Go.Zc.CV.ref.eq_6, @Go.Zc.CV.ref.eq_7, @Go.Zc.pureOp.eq_1, @Go.Zc.pureOp.eq_2, @Go.Zc.pureOp.eq_3, @Go.Zc.pureOp.eq_4, @Go.Zc.pureOp.eq_5, @Go.Zc.pureOp.eq_6, @Go.Zc.pureOp.eq_7⟩

theorem y10 : (type_of% (@Go.Zc.pureOp.eq_8)) ∧
  (type_of% (@Go.Zc.pureOp.eq_9)) ∧
  (type_of% (@Go.Zc.pureOp.eq_10)) ∧
  (type_of% (@Go.Zc.pureOp.eq_11)) ∧
  (type_of% (@Go.Zc.pureOp.eq_12)) ∧
  (type_of% (@Go.Zc.pureOp.eq_13)) ∧
  (type_of% (@Go.Zc.pureOp.eq_14)) ∧
  (type_of% (@Go.Zc.pureOp.eq_15)) ∧
  (type_of% (@Go.Zc.pureOp.eq_16)) ∧
  (type_of% (@Go.Zc.pureOp.eq_17)) ∧
  (type_of% (@Go.Zc.pureOp.eq_18)) ∧
  (type_of% (@Go.Zc.pureOp.eq_19)) ∧
  (type_of% (@Go.Zc.pureOp.eq_20)) ∧
  (type_of% (@Go.Zc.pureOp.eq_21)) ∧
  (type_of% (@Go.Zc.pureOp.eq_22)) ∧
  (type_of% (@Go.Zc.pureOp.eq_23)) ∧
  (type_of% (@Go.Zc.pureOp.eq_24)) ∧
  (type_of% (@Go.Zc.pureOp.eq_25)) ∧
  (type_of% (@Go.Zc.pureOp.eq_26)) ∧
  (type_of% (@Go.Zc.pureOp.eq_27)) ∧
  (type_of% (@Go.Zc.pureOp.eq_28)) ∧
  (type_of% (@Go.Zc.pureOp.eq_29)) ∧
  (type_of% (@Go.Zc.pureOp.eq_30)) ∧
  (type_of% (@Go.Zc.repC.eq_1)) ∧
  (type_of% (@Go.Zc.repC.eq_2)) ∧
  (type_of% (@Go.Zc.takeN.eq_1)) ∧
  (type_of% (@Go.Zc.takeN.eq_2)) ∧
  (type_of% (@Go.Zc.takeN.eq_3)) ∧
  (type_of% (@Go.Zc.resV.eq_1)) ∧
  (type_of% (@Go.Zc.resV_nil)) ∧
  (type_of% (@Go.Zc.resV_two)) ∧
  (type_of% (@Go.Zc.enterC.eq_1)) ∧
  (type_of% (@Go.Zc.enterC.eq_2)) ∧
  (type_of% (@Go.Zc.locv_und)) ∧
  (type_of% (@Go.Zc.locv_bool)) ∧
  (type_of% (@Go.Zc.locv_int)) ∧
  (type_of% (@Go.Zc.locv_float)) ∧
  (type_of% (@Go.Zc.locv_cplx)) ∧
  (type_of% (@Go.Zc.locv_str)) ∧
  (type_of% (@Go.Zc.locv_nilp)) :=
  ⟨@Go.Zc.pureOp.eq_8, @Go.Zc.pureOp.eq_9, @Go.Zc.pureOp.eq_10, @Go.Zc.pureOp.eq_11, @Go.Zc.pureOp.eq_12, @Go.Zc.pureOp.eq_13, @Go.Zc.pureOp.eq_14, @Go.Zc.pureOp.eq_15, @Go.Zc.pureOp.eq_16, @Go.Zc.pureOp.eq_17, @Go.Zc.pureOp.eq_18, @Go.Zc.pureOp.eq_19, @Go.Zc.pureOp.eq_20, @Go.Zc.pureOp.eq_21, @Go.Zc.pureOp.eq_22, @Go.Zc.pureOp.eq_23, @Go.Zc.pureOp.eq_24, @Go.Zc.pureOp.eq_25, @Go.Zc.pureOp.eq_26, @Go.Zc.pureOp.eq_27, @Go.Zc.pureOp.eq_28, @Go.Zc.pureOp.eq_29, @Go.Zc.pureOp.eq_30, @Go.Zc.repC.eq_1, @Go.Zc.repC.eq_2, @Go.Zc.takeN.eq_1, @Go.Zc.takeN.eq_2, @Go.Zc.takeN.eq_3, @Go.Zc.resV.eq_1, @Go.Zc.resV_nil, @Go.Zc.resV_two, @Go.Zc.enterC.eq_1, @Go.Zc.enterC.eq_2, @Go.Zc.locv_und, @Go.Zc.locv_bool, @Go.Zc.locv_int, @Go.Zc.locv_float, @Go.Zc.locv_cplx, @Go.Zc.locv_str, @Go.Zc.locv_nilp⟩

theorem y11 : (type_of% (@Go.Zc.locv_vp)) ∧
  (type_of% (@Go.Zc.locv_nils)) ∧
  (type_of% (@Go.Zc.locv_vs)) ∧
  (type_of% (@Go.Zc.locv_nilm)) ∧
  (type_of% (@Go.Zc.locv_om)) ∧
  (type_of% (@Go.Zc.locv_nilf)) ∧
  (type_of% (@Go.Zc.locv_nili)) ∧
  (type_of% (@Go.Zc.ref_und)) ∧
  (type_of% (@Go.Zc.ref_bool)) ∧
  (type_of% (@Go.Zc.ref_int)) ∧
  (type_of% (@Go.Zc.ref_float)) ∧
  (type_of% (@Go.Zc.ref_cplx)) ∧
  (type_of% (@Go.Zc.ref_str)) ∧
  (type_of% (@Go.Zc.ref_nilp)) ∧
  (type_of% (@Go.Zc.ref_vp)) ∧
  (type_of% (@Go.Zc.ref_nils)) ∧
  (type_of% (@Go.Zc.ref_vs)) ∧
  (type_of% (@Go.Zc.ref_nilm)) ∧
  (type_of% (@Go.Zc.ref_nilf)) ∧
  (type_of% (@Go.Zc.ref_nili)) ∧
  (type_of% (@Go.Zc.runOps_sM)) ∧
  (type_of% (@Go.Zc.runOps_sP)) ∧
  (type_of% (@Go.Zc.runOps_sH)) ∧
  (type_of% (@Go.Zc.runOps_sHn)) ∧
  (type_of% (@Go.Zc.runOps_sB)) ∧
  (type_of% (@Go.Zc.runOps_sBn)) ∧
  (type_of% (@Go.Zc.runOps_sL)) ∧
  (type_of% (@Go.Zc.runOps_sLn)) ∧
  (type_of% (@Go.Zc.runOps_sC)) ∧
  (type_of% (@Go.Zc.runOps_sCb)) ∧
  (type_of% (@Go.Zc.runOps_sCp)) ∧
  (type_of% (@Go.Zc.runOps_sCv)) ∧
  (type_of% (@Go.Zc.runOps_sG)) ∧
  (type_of% (@Go.Zc.guardS_bool)) ∧
  (type_of% (@Go.Zc.guardS_skip)) ∧
  (type_of% (@Go.Zc.sM_g)) ∧
  (type_of% (@Go.Zc.sP_g)) ∧
  (type_of% (@Go.Zc.sH_g)) ∧
  (type_of% (@Go.Zc.sHn_g)) ∧
  (type_of% (@Go.Zc.sB_g)) :=
  ⟨@Go.Zc.locv_vp, @Go.Zc.locv_nils, @Go.Zc.locv_vs, @Go.Zc.locv_nilm, @Go.Zc.locv_om, @Go.Zc.locv_nilf, @Go.Zc.locv_nili, @Go.Zc.ref_und, @Go.Zc.ref_bool, @Go.Zc.ref_int, @Go.Zc.ref_float, @Go.Zc.ref_cplx, @Go.Zc.ref_str, @Go.Zc.ref_nilp, @Go.Zc.ref_vp, @Go.Zc.ref_nils, @Go.Zc.ref_vs, @Go.Zc.ref_nilm, @Go.Zc.ref_nilf, @Go.Zc.ref_nili, @Go.Zc.runOps_sM, @Go.Zc.runOps_sP, @Go.Zc.runOps_sH, @Go.Zc.runOps_sHn, @Go.Zc.runOps_sB, @Go.Zc.runOps_sBn, @Go.Zc.runOps_sL, @Go.Zc.runOps_sLn, @Go.Zc.runOps_sC, @Go.Zc.runOps_sCb, @Go.Zc.runOps_sCp, @Go.Zc.runOps_sCv, @Go.Zc.runOps_sG, @Go.Zc.guardS_bool, @Go.Zc.guardS_skip, @Go.Zc.sM_g, @Go.Zc.sP_g, @Go.Zc.sH_g, @Go.Zc.sHn_g, @Go.Zc.sB_g⟩

theorem y12 : (type_of% (@Go.Zc.sBn_g)) ∧
  (type_of% (@Go.Zc.sL_g)) ∧
  (type_of% (@Go.Zc.sLn_g)) ∧
  (type_of% (@Go.Zc.sC_g)) ∧
  (type_of% (@Go.Zc.sCb_g)) ∧
  (type_of% (@Go.Zc.sCp_g)) ∧
  (type_of% (@Go.Zc.sCv_g)) ∧
  (type_of% (@Go.Zc.sM_d)) ∧
  (type_of% (@Go.Zc.sP_d)) ∧
  (type_of% (@Go.Zc.sH_d)) ∧
  (type_of% (@Go.Zc.sHn_d)) ∧
  (type_of% (@Go.Zc.sB_d)) ∧
  (type_of% (@Go.Zc.sBn_d)) ∧
  (type_of% (@Go.Zc.sL_d)) ∧
  (type_of% (@Go.Zc.sLn_d)) ∧
  (type_of% (@Go.Zc.sC_d)) ∧
  (type_of% (@Go.Zc.sCb_d)) ∧
  (type_of% (@Go.Zc.sCp_d)) ∧
  (type_of% (@Go.Zc.sCv_d)) ∧
  (type_of% (@Go.Zc.stm_d)) ∧
  (type_of% (@Go.Zc.stm_g)) :=
  ⟨@Go.Zc.sBn_g, @Go.Zc.sL_g, @Go.Zc.sLn_g, @Go.Zc.sC_g, @Go.Zc.sCb_g, @Go.Zc.sCp_g, @Go.Zc.sCv_g, @Go.Zc.sM_d, @Go.Zc.sP_d, @Go.Zc.sH_d, @Go.Zc.sHn_d, @Go.Zc.sB_d, @Go.Zc.sBn_d, @Go.Zc.sL_d, @Go.Zc.sLn_d, @Go.Zc.sC_d, @Go.Zc.sCb_d, @Go.Zc.sCp_d, @Go.Zc.sCv_d, @Go.Zc.stm_d, @Go.Zc.stm_g⟩

theorem zy : (type_of% @y1) ∧ (type_of% @y2) ∧ (type_of% @y3) ∧ (type_of% @y4) ∧ (type_of% @y5) ∧ (type_of% @y6) ∧ (type_of% @y7) ∧ (type_of% @y8) ∧ (type_of% @y9) ∧ (type_of% @y10) ∧ (type_of% @y11) ∧ (type_of% @y12) := ⟨y1, y2, y3, y4, y5, y6, y7, y8, y9, y10, y11, y12⟩
end Go.Zc
end
section
namespace Go.Zc
section
variable {α : Type} {f : α → List CV} {sz : Nat} {bl : List Blk} {v : CV} {l : List α}

/-- An element is written over. -/
theorem Own.set (hf : Flat f sz) (h : Own f sz bl v l) {i : Nat} (hi : i < l.length) (y : α) (w : CV) (hw : w.cells = f y) :
    ∃ m, (∀ k, iaddrC sz v (.int k i) = some (.op (.blk m) (i * sz))) ∧ ∃ cs, (∀ bx, Heap.get ⟨bx, bl⟩ (.blk m) = some cs) ∧ cs.drop (i * sz) = f l[i] ++ (l.drop (i + 1)).flatMap f ∧
      ∃ bl', (∀ bx, stE sz (i * sz) w ⟨bx, bl⟩ (.blk m) cs = some ⟨bx, bl'⟩) ∧ Own f sz bl' v (l.set i y) ∧ bl'.length = bl.length ∧ (∀ (k : Nat) (b : Blk), bl[k]? = some b → blkOf v ≠ some k → bl'[k]? = some b) := by
  obtain ⟨m, h1, h2, h3⟩ := h.iaddr hf (k := .i64) hi
  have hs : l = l.take i ++ l[i] :: l.drop (i + 1) := by rw [← List.drop_eq_getElem_cons hi, List.take_append_drop]
  have hl : (l.take i).length = i := by rw [List.length_take]; omega
  have hst : l.set i y = l.take i ++ y :: l.drop (i + 1) := by
    rw [List.set_eq_take_append_cons_drop]; simp [hi]
  have hm : m < bl.length := (List.getElem?_eq_some_iff.1 h2).1
  refine ⟨m, fun k => ?_, l.flatMap f, fun bx => get_blk bx bl m _ h2, ?_, bl.set m (.cells ((l.set i y).flatMap f)), fun bx => ?_, ?_, by simp, fun k b hk hne => ?_⟩
  · rw [h3] at h1 ⊢
    exact h1
  · rw [flatMap_drop hf.len, List.drop_eq_getElem_cons hi, List.flatMap_cons]
  · have hsm := setMany_mid hf (l.take i) (l.drop (i + 1)) y l[i]
    rw [hl, ← hs, ← hst] at hsm
    have hb : (i + 1) * sz ≤ l.length * sz := Nat.mul_le_mul_right sz hi
    rw [Nat.add_mul, Nat.one_mul] at hb
    unfold stE
    rw [if_pos ⟨by rw [hw, hf.len], by rw [hf.length]; exact hb, by rw [hw]; exact hf.one y, .inr (by rw [hw]; exact hf.loc y)⟩, hw, hsm]
    rfl
  · rw [h3]
    exact .inr ⟨m, by simp, by simp [hm]⟩
  · rw [List.getElem?_set_ne (fun e => hne (by rw [h3, blkOf_os, e]))]
    exact hk

theorem repC_eq (f : α → List CV) (z : α) : ∀ n, repC (f z) n = (List.replicate n z).flatMap f
  | 0 => rfl
  | n + 1 => by simp only [repC, repC_eq f z n, List.replicate_succ, List.flatMap_cons]
/-- A slice is made, of zeros. -/
theorem Own.mk (hf : Flat f sz) (z : α) (n bytes : Nat) (hm : (n : Int) * bytes ≤ 140737488355328 ∧ (n : Int) ≤ 140737488355328) (k k' : IntKind) (bx : List (Nat × List CV)) (bl : List Blk) :
    heapOp (.mksl sz bytes (f z)) [.int k n, .int k' n] ⟨bx, bl⟩ = some (.os sz (.blk bl.length) 0 n, ⟨bx, bl ++ [.cells ((List.replicate n z).flatMap f)]⟩) ∧
    Own f sz (bl ++ [.cells ((List.replicate n z).flatMap f)]) (.os sz (.blk bl.length) 0 n) (List.replicate n z) := by
  refine ⟨?_, .inr ⟨bl.length, by simp, by simp⟩⟩
  rw [hop_mksl, if_pos (by simp [hf.len, hf.one, hf.loc]), if_pos ⟨by omega, by omega, hm.1, hm.2⟩, Int.toNat_natCast, repC_eq]

/-- Handed out of a body that makes it: the same, whatever boxes there are. -/
theorem Own.handed' (hf : Flat f sz) (h : Own f sz bl v l) (bl' : List Blk) (hg : ∀ (st : Bool) (H : Heap) (x : α), ∀ c ∈ f x, snap H st false c = some c) :
    ∃ v' bl'', (∀ st bx bx', ownSnap st ⟨bx', bl'⟩ ⟨bx, bl⟩ [v] = some (v', ⟨bx', bl''⟩)) ∧ Own f sz bl'' v' l ∧ (∀ (k : Nat) (b : Blk), bl'[k]? = some b → bl''[k]? = some b) ∧ (∀ k, blkOf v' = some k → bl'.length ≤ k) := by
  rcases h with ⟨rfl, rfl⟩ | ⟨m, rfl, h2⟩
  · exact ⟨.nils, bl', fun _ _ _ => rfl, .inl ⟨rfl, rfl⟩, fun _ _ h => h, fun k h => by cases h⟩
  · refine ⟨.os sz (.blk bl'.length) 0 l.length, bl' ++ [.cells (l.flatMap f)], fun st bx bx' => ?_, .inr ⟨bl'.length, rfl, by simp⟩, fun k b hk => ?_, fun k h => by cases h; exact Nat.le_refl _⟩
    · unfold ownSnap ownOf resV
      simp only [get_blk bx bl m _ h2, Option.bind_some, hf.length, Nat.le_refl, if_true]
      rw [mapC_id]
      · rfl
      · intro c hc
        obtain ⟨x, _, hx⟩ := List.mem_flatMap.1 hc
        exact hg st _ x c hx
    · rw [List.getElem?_append_left (List.getElem?_eq_some_iff.1 hk).1]; exact hk
end
end Go.Zc
end
section
namespace Go.Zc

/-- What a cell shows to whoever gets it by value. -/
def Shows (bl : List Blk) (c y : CV) : Prop := ∀ (bx : List (Nat × List CV)) (n : Nat), snapN ⟨bx, bl⟩ false false (n + 2) c = some y
def ShowsL (bl : List Blk) : List CV → List CV → Prop
  | [], [] => True
  | c :: cs, y :: ys => Shows bl c y ∧ ShowsL bl cs ys
  | _, _ => False
theorem ShowsL.length {bl : List Blk} : ∀ {cs ys : List CV}, ShowsL bl cs ys → cs.length = ys.length
  | [], [], _ => rfl
  | _ :: _, _ :: _, h => by simp [ShowsL.length h.2]
  | [], _ :: _, h => h.elim
  | _ :: _, [], h => h.elim
theorem ShowsL.app {bl : List Blk} : ∀ {cs ys cs' ys' : List CV}, ShowsL bl cs ys → ShowsL bl cs' ys' → ShowsL bl (cs ++ cs') (ys ++ ys')
  | [], [], _, _, _, h => h
  | _ :: _, _ :: _, _, _, h, h' => ⟨h.1, ShowsL.app h.2 h'⟩
  | [], _ :: _, _, _, h, _ => h.elim
  | _ :: _, [], _, _, h, _ => h.elim
theorem ShowsL.map {bl : List Blk} (bx : List (Nat × List CV)) (n : Nat) : ∀ {cs ys : List CV}, ShowsL bl cs ys → mapC (snapN ⟨bx, bl⟩ false false (n + 2)) cs = some ys
  | [], [], _ => rfl
  | _ :: _, _ :: _, h => by simp only [mapC, h.1 bx n, ShowsL.map bx n h.2, Option.bind_some, Option.map_some]
  | [], _ :: _, h => h.elim
  | _ :: _, [], h => h.elim
theorem shows_int (bl : List Blk) (k : IntKind) (n : Int) : Shows bl (.int k n) (.int k n) := fun _ _ => rfl
theorem shows_bool (bl : List Blk) (b : Bool) : Shows bl (.bool b) (.bool b) := fun _ _ => rfl
theorem shows_sl (bl : List Blk) {α : Type} (f : α → List CV) (l : List α) : Shows bl (sl f l) (sl f l) := fun _ _ => rfl
theorem shows_own {α : Type} {f : α → List CV} {sz : Nat} (hf : Flat f sz) {bl : List Blk} {v : CV} {l : List α} (h : Own f sz bl v l) (hg : ∀ (H : Heap) (x : α), ∀ c ∈ f x, ∀ n, snapN H false false (n + 1) c = some c) : Shows bl v (sl f l) :=
  fun bx n => h.snapV hf bx false _ fun x c hc => hg _ x c hc n
/-- Rows that show themselves. -/
theorem shows_rows {α : Type} {f : α → List CV} {bl : List Blk} (hg : ∀ x, ShowsL bl (f x) (f x)) : ∀ l : List α, ShowsL bl (l.flatMap f) (l.flatMap f)
  | [] => trivial
  | x :: l => by
    simp only [List.flatMap_cons]
    exact (hg x).app (shows_rows hg l)
/-- A slice whose cells show something. -/
theorem os_snap {bl : List Blk} {m sz n : Nat} {cs ys : List CV} (hm : bl[m]? = some (.cells cs)) (h : ShowsL bl cs ys) (hl : ys.length = n * sz) (bx : List (Nat × List CV)) :
    snapV ⟨bx, bl⟩ false false (snapN ⟨bx, bl⟩ false false 7) (.os sz (.blk m) 0 n) = some (.vs ys n) := by
  have hlen := h.length
  unfold snapV
  split
  · rename_i h0
    subst h0
    have : ys = [] := List.eq_nil_of_length_eq_zero (by simpa using hl)
    rw [this]
  · rw [get_blk bx bl m _ hm]
    simp only [Option.bind_some, Nat.zero_add, List.drop_zero]
    rw [if_pos (by omega), List.take_of_length_le (by omega), h.map bx 5]
    rfl

/-- A row more, whatever its cells: out of a literal's block. -/
theorem app_row {α : Type} {f : α → List CV} {sz : Nat} (hf : Flat f sz) {bl : List Blk} {v : CV} {l : List α} (h : Own f sz bl v l) {bytes : Nat} {zero : List CV} (hb : 0 < bytes) (hz : zero.length = sz) (hz1 : Zc.ones zero = true)
    (row : List CV) (hr : row.length = sz) (hr1 : Zc.ones row = true) (hr2 : CV.locs row = false) (hm : (l.length + 1) * bytes ≤ 140737488355328) :
    ∃ bl', (∀ bx, heapOp (.app sz bytes zero) [v, .os sz (.blk bl.length) 0 1] ⟨bx, bl ++ [.cells row]⟩ = some (.os sz (.blk (bl.length + 1)) 0 (l.length + 1), ⟨bx, bl'⟩)) ∧ bl'[bl.length + 1]? = some (.cells (l.flatMap f ++ row)) ∧
      (∀ (k : Nat) (b : Blk), bl[k]? = some b → blkOf v ≠ some k → bl'[k]? = some b) := by
  have hsh : ∀ bx, shown ⟨bx, bl ++ [Blk.cells row]⟩ sz (.os sz (.blk bl.length) 0 1) = some row := by
    intro bx
    unfold shown
    simp only [if_true]
    rw [get_blk bx _ bl.length row (by simp)]
    simp only [Option.bind_some, Nat.zero_add, Nat.one_mul, hr, Nat.le_refl, if_true, List.drop_zero]
    rw [List.take_of_length_le (by omega)]
  have hc := decide_eq_true hm
  rcases h with ⟨rfl, rfl⟩ | ⟨m, rfl, h2⟩
  · refine ⟨bl ++ [.cells row] ++ [.cells row], fun bx => ?_, ?_, fun k b hk _ => ?_⟩
    · simp only [heapOp, lenOf, Nat.one_ne_zero, if_false, hsh, Option.bind_some, hr1, hr2, hz, hz1, decide_true, hf.pos, hb, Bool.true_and, Bool.not_false, Bool.and_true, appC, Heap.push]
      rw [if_pos (by simpa [lenOf] using hm)]
      simp
    · rw [List.getElem?_append_right (by simp)]; simp
    · have := (List.getElem?_eq_some_iff.1 hk).1
      rw [List.append_assoc, List.getElem?_append_left this]; exact hk
  · have hml : m < bl.length := (List.getElem?_eq_some_iff.1 h2).1
    have hg : ∀ bx, Heap.get ⟨bx, bl ++ [Blk.cells row]⟩ (.blk m) = some (l.flatMap f) := fun bx => get_blk bx _ m _ (by rw [List.getElem?_append_left hml]; exact h2)
    refine ⟨((bl ++ [Blk.cells row]).set m .dead) ++ [Blk.cells (l.flatMap f ++ row)], fun bx => ?_, ?_, fun k b hk hne => ?_⟩
    · simp only [heapOp, lenOf, Nat.one_ne_zero, if_false, hsh, Option.bind_some, hr1, hr2, hz, hz1, decide_true, hf.pos, hb, Bool.true_and, Bool.not_false, Bool.and_true]
      rw [if_pos (by exact hc)]
      simp only [appC, if_true, hg, Option.bind_some, hf.length, Nat.le_refl, Heap.kill, Heap.push]
      rw [List.take_of_length_le (by rw [hf.length]; exact Nat.le_refl _)]
      simp
    · rw [List.getElem?_append_right (by simp)]; simp
    · have hkl := (List.getElem?_eq_some_iff.1 hk).1
      have hne' : m ≠ k := fun e => hne (by rw [e]; rfl)
      rw [List.getElem?_append_left (by simp; omega), List.getElem?_set_ne hne', List.getElem?_append_left hkl]
      exact hk

/-- One cell of a block is written over. -/
theorem st_cell (bx : List (Nat × List CV)) (bl : List Blk) (m k : Nat) (x : CV) (X : List CV) (hc : x.cells = [x]) (h1 : x.one = true) (h2 : x.locv = false) (hk : k < X.length) :
    stE 1 k x ⟨bx, bl⟩ (.blk m) X = some ⟨bx, bl.set m (.cells (X.set k x))⟩ := by
  unfold stE
  rw [if_pos ⟨by rw [hc]; rfl, by omega, by rw [hc]; simp [ones, h1], .inr (by rw [hc]; simp [CV.locs, h2])⟩, hc]
  rfl
theorem get_set (bx : List (Nat × List CV)) (B : List Blk) (a : Nat) (X : List CV) (h : a < B.length) : Heap.get ⟨bx, B.set a (.cells X)⟩ (.blk a) = some X := get_blk _ _ _ _ (by simp [h])

/-! ### Frozen slices, nil ones too -/
def Fz {α : Type} (f : α → List CV) (c : CV) (l : List α) : Prop := c = sl f l ∨ (c = .nils ∧ l = [])
section
variable {α : Type} {f : α → List CV} {c : CV} {l : List α}
theorem Fz.snapV (h : Fz f c l) (H : Heap) (g : CV → Option CV) : snapV H false false g c = some (sl f l) := by rcases h with rfl | ⟨rfl, rfl⟩ <;> rfl
theorem Fz.len (h : Fz f c l) : lenC c = some (.int .i64 l.length) := by rcases h with rfl | ⟨rfl, rfl⟩ <;> rfl
theorem Fz.locv (h : Fz f c l) : c.locv = false := by rcases h with rfl | ⟨rfl, rfl⟩ <;> rfl
theorem Fz.ref (h : Fz f c l) : c.ref = false := by rcases h with rfl | ⟨rfl, rfl⟩ <;> rfl
theorem Fz.one (h : Fz f c l) : c.one = true := by rcases h with rfl | ⟨rfl, rfl⟩ <;> rfl
theorem Fz.und (h : Fz f c l) : c.und? = false := by rcases h with rfl | ⟨rfl, rfl⟩ <;> rfl
theorem Fz.cells (h : Fz f c l) : c.cells = [c] := by rcases h with rfl | ⟨rfl, rfl⟩ <;> rfl
theorem Fz.ne (h : Fz f c l) (h0 : l ≠ []) : c = sl f l := by
  rcases h with h | ⟨_, h⟩
  · exact h
  · exact (h0 h).elim
end

/-! ### Slices, wherever they lie -/
def Held {α : Type} (f : α → List CV) (sz : Nat) (bl : List Blk) (c : CV) (l : List α) : Prop :=
  c = sl f l ∨ (c = .nils ∧ l = []) ∨ ∃ m pre rest, c = .os sz (.blk m) pre.length l.length ∧ bl[m]? = some (.cells (pre ++ l.flatMap f ++ rest))

section
variable {α : Type} {f : α → List CV} {sz : Nat} {bl : List Blk} {c : CV} {l : List α}
theorem Own.held (h : Own f sz bl c l) : Held f sz bl c l := by
  rcases h with h | ⟨m, h1, h2⟩
  · exact .inr (.inl h)
  · exact .inr (.inr ⟨m, [], [], h1, by simpa using h2⟩)
theorem Held.sl (l : List α) : Held f sz bl (Zc.sl f l) l := .inl rfl
theorem Held.locv (h : Held f sz bl c l) : c.locv = false := by rcases h with rfl | ⟨rfl, _⟩ | ⟨_, _, _, rfl, _⟩ <;> rfl
theorem Held.one (h : Held f sz bl c l) : c.one = true := by rcases h with rfl | ⟨rfl, _⟩ | ⟨_, _, _, rfl, _⟩ <;> rfl
theorem Held.und (h : Held f sz bl c l) : c.und? = false := by rcases h with rfl | ⟨rfl, _⟩ | ⟨_, _, _, rfl, _⟩ <;> rfl
theorem Held.cells (h : Held f sz bl c l) : c.cells = [c] := by rcases h with rfl | ⟨rfl, _⟩ | ⟨_, _, _, rfl, _⟩ <;> rfl
theorem Held.chkV (h : Held f sz bl c l) (s : List Nat) : chkV s c = true := chkV_of h.locv s
theorem Held.len (h : Held f sz bl c l) : lenC c = some (.int .i64 l.length) := by rcases h with rfl | ⟨rfl, rfl⟩ | ⟨_, _, _, rfl, _⟩ <;> rfl
theorem Held.lenOf (h : Held f sz bl c l) : lenOf c = l.length := by rcases h with rfl | ⟨rfl, rfl⟩ | ⟨_, _, _, rfl, _⟩ <;> rfl
theorem Held.isSl (h : Held f sz bl c l) : isSl c = true := by rcases h with rfl | ⟨rfl, rfl⟩ | ⟨_, _, _, rfl, _⟩ <;> rfl
theorem Held.lt (h : Held f sz bl c l) {k : Nat} (hk : blkOf c = some k) : k < bl.length := by
  rcases h with rfl | ⟨rfl, _⟩ | ⟨m, _, _, rfl, h2⟩
  · cases hk
  · cases hk
  · cases hk; exact (List.getElem?_eq_some_iff.1 h2).1
theorem Held.keep {bl' : List Blk} (h : Held f sz bl c l) (hk : ∀ (m : Nat) (b : Blk), bl[m]? = some b → blkOf c = some m → bl'[m]? = some b) : Held f sz bl' c l := by
  rcases h with h | h | ⟨m, pre, rest, rfl, h2⟩
  · exact .inl h
  · exact .inr (.inl h)
  · exact .inr (.inr ⟨m, pre, rest, rfl, hk m _ h2 rfl⟩)
theorem Held.snapV (hf : Flat f sz) (h : Held f sz bl c l) (bx : List (Nat × List CV)) (g : CV → Option CV) (hg : ∀ x, ∀ c ∈ f x, g c = some c) : snapV ⟨bx, bl⟩ false false g c = some (Zc.sl f l) := by
  rcases h with rfl | ⟨rfl, rfl⟩ | ⟨m, pre, rest, rfl, h2⟩
  · rfl
  · rfl
  · unfold Zc.snapV
    split
    · rename_i h0
      have : l = [] := List.eq_nil_of_length_eq_zero h0
      subst this
      rfl
    · rw [get_blk bx bl m _ h2]
      have hl := hf.length l
      simp only [Option.bind_some, List.length_append, hl]
      rw [if_pos (by omega), List.append_assoc, List.drop_left, ← hl, List.take_left, mapC_id]
      · rfl
      · intro c hc
        obtain ⟨x, _, hx⟩ := List.mem_flatMap.1 hc
        exact hg x c hx
theorem Held.shows (hf : Flat f sz) (h : Held f sz bl c l) (hg : ∀ (H : Heap) (x : α), ∀ c ∈ f x, ∀ n, snapN H false false (n + 1) c = some c) : Shows bl c (Zc.sl f l) :=
  fun bx n => h.snapV hf bx _ fun x c hc => hg _ x c hc n
theorem Held.shown (hf : Flat f sz) (h : Held f sz bl c l) (bx : List (Nat × List CV)) : shown ⟨bx, bl⟩ sz c = some (l.flatMap f) := by
  rcases h with rfl | ⟨rfl, rfl⟩ | ⟨m, pre, rest, rfl, h2⟩
  · exact shown_sl hf.len _ _
  · rfl
  · unfold Zc.shown
    have hl := hf.length l
    simp only [if_true]
    rw [get_blk bx bl m _ h2]
    simp only [Option.bind_some, List.length_append, hl]
    rw [if_pos (by omega), List.append_assoc, List.drop_left, ← hl, List.take_left]
theorem Held.take (hf : Flat f sz) (h : Held f sz bl c l) (u : Nat) (hu : u ≤ l.length) : ∃ c2, (∀ k : IntKind, slcC sz c none (some (.int k u)) = some c2) ∧ Held f sz bl c2 (l.take u) ∧ blkOf c2 = blkOf c := by
  rcases h with rfl | ⟨rfl, rfl⟩ | ⟨m, pre, rest, rfl, h2⟩
  · exact ⟨_, fun k => slc_hi hf l u hu k, .inl rfl, rfl⟩
  · have h0 : u = 0 := by simpa using hu
    subst h0
    exact ⟨.nils, fun k => by simp [slcC, sbound], .inr (.inl ⟨rfl, rfl⟩), rfl⟩
  · refine ⟨.os sz (.blk m) pre.length u, fun k => ?_, .inr (.inr ⟨m, pre, (l.drop u).flatMap f ++ rest, by rw [List.length_take, Nat.min_eq_left hu], ?_⟩), rfl⟩
    · unfold slcC
      simp only [if_true, sbound]
      rw [if_pos ⟨by omega, by omega⟩]
      simp
    · rw [h2]
      conv => lhs; rw [← List.take_append_drop u l, List.flatMap_append]
      simp
theorem Held.drop (hf : Flat f sz) (h : Held f sz bl c l) (u : Nat) (hu : u ≤ l.length) : ∃ c2, (∀ k : IntKind, slcC sz c (some (.int k u)) none = some c2) ∧ Held f sz bl c2 (l.drop u) ∧ blkOf c2 = blkOf c := by
  rcases h with rfl | ⟨rfl, rfl⟩ | ⟨m, pre, rest, rfl, h2⟩
  · exact ⟨_, fun k => slc_lo hf l u hu k, .inl rfl, rfl⟩
  · have h0 : u = 0 := by simpa using hu
    subst h0
    exact ⟨.nils, fun k => by simp [slcC, sbound], .inr (.inl ⟨rfl, rfl⟩), rfl⟩
  · have hlu := hf.length (l.take u)
    rw [List.length_take, Nat.min_eq_left hu] at hlu
    refine ⟨.os sz (.blk m) (pre.length + u * sz) (l.length - u), fun k => ?_, .inr (.inr ⟨m, pre ++ (l.take u).flatMap f, rest, ?_, ?_⟩), rfl⟩
    · unfold slcC
      simp only [if_true, sbound, Option.bind_some]
      rw [if_pos ⟨by omega, by omega⟩]
      simp
    · rw [List.length_append, hlu, List.length_drop]
    · rw [h2]
      conv => lhs; rw [← List.take_append_drop u l, List.flatMap_append]
      simp
/-- One of its elements. -/
theorem Held.at (hf : Flat f sz) (h : Held f sz bl c l) {P S : List α} {x : α} (hl : l = P ++ x :: S) :
    ∃ p, (∀ k : IntKind, iaddrC sz c (.int k P.length) = some p) ∧ p.locv = false ∧ (∀ bx, loadC true sz ⟨bx, bl⟩ p = some (.agg (f x))) ∧
      ∀ o, o < sz → ∃ p', faddrC o p = some p' ∧ p'.locv = false ∧ ∀ bx, loadC false 1 ⟨bx, bl⟩ p' = (f x)[o]? := by
  have hlx := hf.len x
  rcases h with rfl | ⟨rfl, rfl⟩ | ⟨m, pre, rest, rfl, h2⟩
  · subst hl
    refine ⟨.vp (f x ++ S.flatMap f), fun k => iaddr_mid hf k P S x, rfl, fun bx => ?_, fun o ho => ⟨.vp ((f x ++ S.flatMap f).drop o), faddr_vp _ _, rfl, fun bx => ?_⟩⟩
    · rw [load_vp_t, takeN_eq, if_pos (by simp; omega), ← hlx, List.take_left]
      rfl
    · rw [List.drop_append_of_le_length (by omega), List.drop_eq_getElem_cons (by omega), List.cons_append, load_vp_f, List.getElem?_eq_getElem (by omega)]
  · simp at hl
  · subst hl
    have hlp := hf.length P
    have hcs : pre ++ (P ++ x :: S).flatMap f ++ rest = (pre ++ P.flatMap f) ++ (f x ++ (S.flatMap f ++ rest)) := by simp
    rw [hcs] at h2
    have hpl : (pre ++ P.flatMap f).length = pre.length + P.length * sz := by rw [List.length_append, hlp]
    refine ⟨.op (.blk m) (pre.length + P.length * sz), fun k => ?_, rfl, fun bx => ?_, fun o ho => ⟨.op (.blk m) (pre.length + P.length * sz + o), faddr_op _ _ _, rfl, fun bx => ?_⟩⟩
    · unfold iaddrC iaddrN
      simp only [Int.toNat_natCast]
      rw [if_pos ⟨trivial, by omega, by simp; omega⟩]
    · rw [load_op, get_blk bx bl m _ h2, Option.bind_some, ldE_t _ _ hf.pos, ← hpl, List.drop_left, takeN_eq, if_pos (by simp; omega), ← hlx, List.take_left]
      rfl
    · rw [load_op, get_blk bx bl m _ h2, Option.bind_some, ldE_f, ← hpl, ← List.drop_drop, List.drop_left, List.drop_append_of_le_length (by omega), List.drop_eq_getElem_cons (by omega), List.cons_append, headO_cons, List.getElem?_eq_getElem (by omega)]
end

/-! ### Memory that but grows -/
def Grows (bl bl' : List Blk) : Prop := ∀ (k : Nat) (b : Blk), bl[k]? = some b → bl'[k]? = some b
theorem Grows.refl (bl : List Blk) : Grows bl bl := fun _ _ h => h
theorem Grows.trans {a b c : List Blk} (h : Grows a b) (h' : Grows b c) : Grows a c := fun k x hx => h' k x (h k x hx)
theorem Grows.app (bl X : List Blk) : Grows bl (bl ++ X) := fun k b h => by rw [List.getElem?_append_left (List.getElem?_eq_some_iff.1 h).1]; exact h
theorem Grows.le {bl bl' : List Blk} (h : Grows bl bl') : bl.length ≤ bl'.length := by
  by_cases h0 : bl.length = 0
  · omega
  · have h1 := h (bl.length - 1) _ (List.getElem?_eq_getElem (by omega))
    have := (List.getElem?_eq_some_iff.1 h1).1
    omega
theorem Grows.ex {bl bl' : List Blk} (h : Grows bl bl') : ∃ X, bl' = bl ++ X := by
  refine ⟨bl'.drop bl.length, ?_⟩
  refine List.ext_getElem? fun k => ?_
  by_cases hk : k < bl.length
  · rw [List.getElem?_append_left hk, List.getElem?_eq_getElem hk]
    exact h k _ (List.getElem?_eq_getElem hk)
  · rw [List.getElem?_append_right (by omega), List.getElem?_drop]
    congr 1
    omega
theorem Grows.fr {bl bl1 bl' : List Blk} (h : Grows bl bl1) {v : CV} (hf : Fr bl1 bl' v) (hv : ∀ k, blkOf v = some k → bl.length ≤ k) : Grows bl bl' := fun k b hb => hf k b (h k b hb) fun e => by
  have := hv k e
  have := (List.getElem?_eq_some_iff.1 hb).1
  omega
end Go.Zc
end
section
namespace Go.Zc

/-! ### Ends alone tell what is around -/
def endsG (at' : Int) : Nat → List Ed → List Ed
  | _, [] => []
  | i, s :: r => (if s.s = at' then [⟨i, 0⟩] else []) ++ (if s.e = at' then [⟨i, 1⟩] else []) ++ endsG at' (i + 1) r
def nodeG (E : List Ed) (x : Ed) : Option Int := (if 0 ≤ x.s then E[x.s.toNat]? else none).bind fun s => if x.e = 0 then some s.s else if x.e = 1 then some s.e else none
def oneG (E : List Ed) (sec at' : Int) : List Ed := match (endsG at' 0 E).find? fun x => x.s == sec with
  | some x => [x]
  | none => []
def aroundG (E : List Ed) (pts : List Pt) (x : Ed) : List Ed :=
  match nodeG E x with
  | none => []
  | some n =>
    match pts.find? fun p => p.node == n with
    | some p => if x.s = p.stem then oneG E p.left n ++ oneG E p.right n else if x.s = p.left ∨ x.s = p.right then oneG E p.stem n else []
    | none => if ((endsG n 0 E).filter fun y => y ≠ x).length = 1 then (endsG n 0 E).filter fun y => y ≠ x else []

theorem ends_mk (u at' : Int) : ∀ (i j : Nat) (E : List Ed), endsFrom at' i (mkSecs u j E) = endsG at' i E
  | _, _, [] => rfl
  | i, j, x :: E => by simp only [mkSecs, endsFrom, endsG, ends_mk u at' (i + 1) (j + 1) E]
theorem mkSecs_get (u : Int) : ∀ (E : List Ed) (j n : Nat), (mkSecs u j E)[n]? = E[n]?.map fun x => ⟨2 * u + ((j + n) % 3 : Nat), x.s, x.e⟩
  | [], _, _ => by simp [mkSecs]
  | x :: E, j, 0 => by simp [mkSecs]
  | x :: E, j, n + 1 => by
    simp only [mkSecs, List.getElem?_cons_succ, mkSecs_get u E (j + 1) n]
    rw [show j + 1 + n = j + (n + 1) by omega]
theorem around_mk (l : Lay) (u : Int) (E : List Ed) (h : l.secs = mkSecs u 0 E) (x : Ed) : around l x = aroundG E l.pts x := by
  have hn : nodeOf l x = nodeG E x := by
    unfold nodeOf nodeG
    rw [h]
    split
    · rw [mkSecs_get]
      cases E[x.s.toNat]? <;> rfl
    · rfl
  have he : ∀ n, ends l n = endsG n 0 E := fun n => by unfold ends; rw [h, ends_mk]
  have ho : ∀ s n, oneOf l s n = oneG E s n := fun s n => by unfold oneOf oneG; rw [he]; cases (endsG n 0 E).find? (fun x => x.s == s) <;> rfl
  unfold around aroundG
  rw [hn]
  simp only [he, ho]
  cases nodeG E x with
  | none => rfl
  | some n =>
    dsimp only
    cases l.pts.find? (fun p => p.node == n) <;> rfl

/-! ### The nine tracks -/
def shapes : List (List Ed × List Pt) := [0, 4, 8, 12, 16, 20, 1, 2, 3].map fun f => (mkEnds f, mkPts f)
theorem shape_mem (form : Int) : (mkEnds form, mkPts form) ∈ shapes := by
  have h4 : form % 4 = 0 ∨ form % 4 = 1 ∨ form % 4 = 2 ∨ form % 4 = 3 := by omega
  rcases h4 with h | h | h | h
  · have h6 : form / 4 % 6 = 0 ∨ form / 4 % 6 = 1 ∨ form / 4 % 6 = 2 ∨ form / 4 % 6 = 3 ∨ form / 4 % 6 = 4 ∨ form / 4 % 6 = 5 := by omega
    have hp : mkPts form = mkPts 0 := by simp [mkPts, h]
    have he : ∀ k : Int, form / 4 % 6 = k → mkEnds form = (List.range (3 + k.toNat)).map fun (i : Nat) => (⟨(i : Int), ((i + 1 : Nat) : Int)⟩ : Ed) := by
      intro k hk; simp [mkEnds, h, mkN, hk]
    rcases h6 with k | k | k | k | k | k <;> (rw [he _ k, hp]; decide)
  · have : mkEnds form = mkEnds 1 ∧ mkPts form = mkPts 1 := by simp [mkEnds, mkPts, h]
    rw [this.1, this.2]; decide
  · have : mkEnds form = mkEnds 2 ∧ mkPts form = mkPts 2 := by simp [mkEnds, mkPts, h]
    rw [this.1, this.2]; decide
  · have : mkEnds form = mkEnds 3 ∧ mkPts form = mkPts 3 := by simp [mkEnds, mkPts, h]
    rw [this.1, this.2]; decide

/-- Of all ends that there are. -/
def allEnds (E : List Ed) (p : Ed → Bool) : Bool := (List.range E.length).all fun s => p ⟨s, 0⟩ && p ⟨s, 1⟩
theorem allEnds_of {E : List Ed} {p : Ed → Bool} (h : allEnds E p = true) {x : Ed} (hx : nodeG E x ≠ none) : p x = true := by
  obtain ⟨s, e⟩ := x
  unfold nodeG at hx
  simp only at hx
  split at hx
  · rename_i h0
    obtain ⟨n, rfl⟩ := Int.eq_ofNat_of_zero_le h0
    simp only [Int.toNat_natCast] at hx
    by_cases hn : n < E.length
    · have := List.all_eq_true.1 h n (List.mem_range.2 hn)
      rw [Bool.and_eq_true] at this
      rw [List.getElem?_eq_getElem hn] at hx
      simp only [Option.bind_some] at hx
      by_cases h1 : e = 0
      · subst h1; exact this.1
      · by_cases h2 : e = 1
        · subst h2; exact this.2
        · simp [h1, h2] at hx
    · simp [List.getElem?_eq_none (Nat.le_of_not_lt hn)] at hx
  · simp at hx

/-- No section stands twice around an end. -/
def apart (E : List Ed) (pts : List Pt) : Bool := allEnds E fun x => (aroundG E pts x).all fun y => decide ((aroundG E pts x).find? (fun z => z.s == y.s) = some y)
theorem apart_all : shapes.all (fun S => apart S.1 S.2) = true := by kernel_rfl
theorem make_secs (d : Draft) : (full d).secs = mkSecs (unitOf d.len) 0 (mkEnds d.form) := rfl
theorem make_pts (d : Draft) : (full d).pts = mkPts d.form := rfl
theorem full_around (d : Draft) (x : Ed) : around (full d) x = aroundG (mkEnds d.form) (mkPts d.form) x := around_mk _ _ _ (make_secs d) x
theorem full_apart (d : Draft) (x y : Ed) (h : y ∈ around (full d) x) : (around (full d) x).find? (fun z => z.s == y.s) = some y := by
  rw [full_around] at h ⊢
  have h1 := List.all_eq_true.1 apart_all _ (shape_mem d.form)
  have hx : nodeG (mkEnds d.form) x ≠ none := by
    intro h0
    simp [aroundG, h0] at h
  have h2 := allEnds_of h1 hx
  have h3 := List.all_eq_true.1 h2 y h
  exact of_decide_eq_true h3

/-! ### A way is one -/
theorem walk_follows {l : Lay} (hap : ∀ x y, y ∈ around l x → (around l x).find? (fun z => z.s == y.s) = some y) (hin : ∀ x y, y ∈ around l x → lenAt l y.s ≠ 0) (turns : List Int) : ∀ (n i : Nat) (out : List Int) (x : Ed), out.Nodup →
    ∃ t, walkFrom l turns n i out x = out ++ t ∧ (out ++ t).Nodup ∧ (∀ s ∈ t, lenAt l s ≠ 0) ∧
      ∀ F : Ed → List Int → Bool, (∀ e, F e [] = true) → (∀ e s r, F e (s :: r) = match (around l e).find? fun x => x.s == s with | some y => F ⟨s, 1 - y.e⟩ r | none => false) → F x t = true
  | 0, _, out, x, h => ⟨[], by simp [walkFrom], by simpa using h, by simp, fun F h1 _ => h1 x⟩
  | n + 1, i, out, x, h => by
    simp only [walkFrom]
    cases hy : (around l x)[turn turns i (around l x).length]? with
    | none => exact ⟨[], by simp, by simpa using h, by simp, fun F h1 _ => h1 x⟩
    | some y =>
      have hm := List.mem_of_getElem? hy
      dsimp only
      split
      · exact ⟨[], by simp, by simpa using h, by simp, fun F h1 _ => h1 x⟩
      · rename_i hno
        obtain ⟨t, h1, h2, h3, h4⟩ := walk_follows hap hin turns n (i + 1) (out ++ [y.s]) ⟨y.s, 1 - y.e⟩ (by
          rw [List.nodup_append]
          refine ⟨h, by simp, fun a ha b hb => ?_⟩
          simp only [List.mem_singleton] at hb
          subst hb
          intro e
          exact hno (e ▸ ha))
        refine ⟨y.s :: t, by rw [h1]; simp, by simpa using h2, fun s hs => ?_, fun F f1 f2 => ?_⟩
        · rcases List.mem_cons.1 hs with rfl | hs
          · exact hin x y hm
          · exact h3 s hs
        · rw [f2, hap x y hm]
          exact h4 F f1 f2
theorem full_good (d : Draft) (hok : (full d).ok) : (full d).good := by
  refine ⟨hok, ?_, fun s hs => ?_⟩
  · rw [make_secs]
    have h1 := mkSecs_get (unitOf d.len) (mkEnds d.form) 0 0
    have hne : ∃ x, (mkEnds d.form)[0]? = some x := by
      have : 0 < (mkEnds d.form).length := by
        unfold mkEnds
        split
        · simp [mkN]; omega
        · split
          · simp
          · split <;> simp
      exact ⟨_, List.getElem?_eq_getElem this⟩
    obtain ⟨x, hx⟩ := hne
    rw [hx] at h1
    exact (List.getElem?_eq_some_iff.1 h1).1
  · rw [make_secs] at hs
    obtain ⟨n, hn, rfl⟩ := List.mem_iff_getElem.1 hs
    have h1 := mkSecs_get (unitOf d.len) (mkEnds d.form) 0 n
    rw [List.getElem?_eq_getElem hn] at h1
    cases hE : (mkEnds d.form)[n]? with
    | none => rw [hE] at h1; cases h1
    | some x =>
      rw [hE] at h1
      simp only [Option.map_some, Option.some.injEq] at h1
      rw [h1]
      have hu : unitOf d.len = 10 * (1 + d.len % 20) := rfl
      simp only
      omega
end Go.Zc
end
section
namespace Go.Zc

def nearL (l : Lay) (n : Int) : List Int := (around l ⟨n, 0⟩).map Ed.s ++ (around l ⟨n, 1⟩).map Ed.s
def near (l : Lay) (n : Int) : List Int := rise (nearL l n)
def partOf (l : Lay) (n : Int) : Int := match l.parts.findIdx? fun p => decide (n ∈ p) with
  | some i => i
  | none => -1
def besideL (l : Lay) (p : Int) (q : List Int) : List Int := q.flatMap fun s => ((near l s).map (partOf l)).filter fun k => decide (0 ≤ k) && decide (k ≠ p)
def partIx (l : Lay) (p : Int) : Option (List Int) := if 0 ≤ p then l.parts[p.toNat]? else none
def beside (l : Lay) (p : Int) : List Int := match partIx l p with
  | some q => rise (besideL l p q)
  | none => []
theorem partIx_some {l : Lay} {p : Int} {q : List Int} (h : partIx l p = some q) : ∃ n : Nat, ∃ hn : n < l.parts.length, p = n ∧ q = l.parts[n] := by
  unfold partIx at h
  split at h
  · obtain ⟨n, rfl⟩ := Int.eq_ofNat_of_zero_le ‹0 ≤ p›
    obtain ⟨hn, h⟩ := List.getElem?_eq_some_iff.1 h
    exact ⟨n, hn, rfl, h.symm⟩
  · cases h
theorem partIx_none {l : Lay} {p : Int} (h : partIx l p = none) : p < 0 ∨ (0 ≤ p ∧ (l.parts.length : Int) ≤ p) := by
  unfold partIx at h
  split at h
  · obtain ⟨n, rfl⟩ := Int.eq_ofNat_of_zero_le ‹0 ≤ p›
    have := List.getElem?_eq_none_iff.1 h
    right
    simp at this; omega
  · left; omega

theorem near_len (l : Lay) (n : Int) : (near l n).length ≤ 4 := by
  have h1 := nodup_le (rise_nodup (nearL l n)) (b := nearL l n) fun y hy => (rise_mem _ y).1 hy
  have hb0 := around_len l ⟨n, 0⟩
  have hb1 := around_len l ⟨n, 1⟩
  unfold near
  simp only [nearL, List.length_append, List.length_map] at h1 ⊢
  omega
end Go.Zc
end
section
namespace Go.Zc

/-! ### The way back -/
def backs (E : List Ed) (pts : List Pt) : Bool := allEnds E fun x => (aroundG E pts x).all fun y => decide (x ∈ aroundG E pts y)
theorem backs_all : shapes.all (fun S => backs S.1 S.2) = true := by kernel_rfl
theorem full_back (d : Draft) (x y : Ed) (h : y ∈ around (full d) x) : x ∈ around (full d) y := by
  rw [full_around] at h ⊢
  have h1 := List.all_eq_true.1 backs_all _ (shape_mem d.form)
  have hx : nodeG (mkEnds d.form) x ≠ none := by
    intro h0
    simp [aroundG, h0] at h
  have h2 := allEnds_of h1 hx
  have h3 := List.all_eq_true.1 h2 y h
  exact of_decide_eq_true h3

theorem around_ends {l : Lay} {x y : Ed} (h : y ∈ around l x) : x.e = 0 ∨ x.e = 1 := by
  unfold around nodeOf at h
  by_cases h0 : x.e = 0
  · exact .inl h0
  · by_cases h1 : x.e = 1
    · exact .inr h1
    · exfalso
      cases hs : (if 0 ≤ x.s then l.secs[x.s.toNat]? else none) <;> simp [hs, h0, h1] at h

theorem near_of {l : Lay} {x y : Ed} (h : y ∈ around l x) : y.s ∈ near l x.s := by
  unfold near nearL
  rw [rise_mem, List.mem_append, List.mem_map, List.mem_map]
  obtain ⟨s, e⟩ := x
  rcases around_ends h with h0 | h0 <;> simp only at h0 <;> subst h0
  · exact .inl ⟨y, h, rfl⟩
  · exact .inr ⟨y, h, rfl⟩
theorem near_to {l : Lay} {s n : Int} (h : n ∈ near l s) : ∃ x y, x.s = s ∧ y.s = n ∧ y ∈ around l x := by
  unfold near nearL at h
  rw [rise_mem, List.mem_append, List.mem_map, List.mem_map] at h
  rcases h with ⟨y, hy, rfl⟩ | ⟨y, hy, rfl⟩
  · exact ⟨_, y, rfl, rfl, hy⟩
  · exact ⟨_, y, rfl, rfl, hy⟩
theorem full_near (d : Draft) {s n : Int} (h : n ∈ near (full d) s) : s ∈ near (full d) n := by
  obtain ⟨x, y, rfl, rfl, h'⟩ := near_to h
  exact near_of (full_back d x y h')

/-! ### Forms -/
def forms : List Int := [0, 4, 8, 12, 16, 20, 1, 2, 3]
theorem form_in (form : Int) : ∃ f ∈ forms, mkEnds form = mkEnds f ∧ mkPts form = mkPts f ∧ ∀ u, (mkXY form u).length = (mkXY f 0).length := by
  have h4 : form % 4 = 0 ∨ form % 4 = 1 ∨ form % 4 = 2 ∨ form % 4 = 3 := by omega
  rcases h4 with h | h | h | h
  · have h6 : form / 4 % 6 = 0 ∨ form / 4 % 6 = 1 ∨ form / 4 % 6 = 2 ∨ form / 4 % 6 = 3 ∨ form / 4 % 6 = 4 ∨ form / 4 % 6 = 5 := by omega
    rcases h6 with k | k | k | k | k | k
    · exact ⟨0, by decide, by simp [mkEnds, h, mkN, k], by simp [mkPts, h], by intro u; simp [mkXY, h, mkN, k]⟩
    · exact ⟨4, by decide, by simp [mkEnds, h, mkN, k], by simp [mkPts, h], by intro u; simp [mkXY, h, mkN, k]⟩
    · exact ⟨8, by decide, by simp [mkEnds, h, mkN, k], by simp [mkPts, h], by intro u; simp [mkXY, h, mkN, k]⟩
    · exact ⟨12, by decide, by simp [mkEnds, h, mkN, k], by simp [mkPts, h], by intro u; simp [mkXY, h, mkN, k]⟩
    · exact ⟨16, by decide, by simp [mkEnds, h, mkN, k], by simp [mkPts, h], by intro u; simp [mkXY, h, mkN, k]⟩
    · exact ⟨20, by decide, by simp [mkEnds, h, mkN, k], by simp [mkPts, h], by intro u; simp [mkXY, h, mkN, k]⟩
  · exact ⟨1, by decide, by simp [mkEnds, h], by simp [mkPts, h], by intro u; simp [mkXY, h]⟩
  · exact ⟨2, by decide, by simp [mkEnds, h], by simp [mkPts, h], by intro u; simp [mkXY, h]⟩
  · exact ⟨3, by decide, by simp [mkEnds, h], by simp [mkPts, h], by intro u; simp [mkXY, h]⟩

/-! ### Each end is at one node -/
def endSum (E : List Ed) (n : Nat) : Nat := ((List.range n).map fun i => (endsG (i : Nat) 0 E).length).sum
theorem endSums : forms.all (fun f => Nat.beq (endSum (mkEnds f) (mkXY f 0).length) (2 * (mkEnds f).length)) = true := by kernel_rfl
theorem full_ends (d : Draft) (n : Int) : ends (full d) n = endsG n 0 (mkEnds d.form) := by
  unfold ends
  rw [make_secs, ends_mk]
theorem mkSecs_len (u : Int) : ∀ (E : List Ed) (j : Nat), (mkSecs u j E).length = E.length
  | [], _ => rfl
  | _ :: E, j => by simp [mkSecs, mkSecs_len u E]
theorem full_secs_len (d : Draft) : (full d).secs.length = (mkEnds d.form).length := by rw [make_secs, mkSecs_len]
theorem full_endSum (d : Draft) : ((List.range (full d).nodes.length).map fun i => (ends (full d) (i : Nat)).length).sum = 2 * (full d).secs.length := by
  obtain ⟨f, hf, h1, _, h3⟩ := form_in d.form
  have h4 := List.all_eq_true.1 endSums f hf
  rw [Nat.beq_eq] at h4
  have hn : (full d).nodes.length = (mkXY f 0).length := by
    show ((mkXY d.form (unitOf d.len)).map fl2).length = _
    rw [List.length_map, h3]
  rw [hn, full_secs_len, h1, ← h4]
  unfold endSum
  simp only [full_ends, h1]

/-! ### Parts -/
def partG (P : List (List Int)) (n : Int) : Int := match P.findIdx? fun p => decide (n ∈ p) with
  | some i => i
  | none => -1
theorem partOf_eq (l : Lay) (n : Int) : partOf l n = partG l.parts n := rfl
def nearG (E : List Ed) (pts : List Pt) (n : Int) : List Int := rise ((aroundG E pts ⟨n, 0⟩).map Ed.s ++ (aroundG E pts ⟨n, 1⟩).map Ed.s)
theorem full_nearG (d : Draft) (n : Int) : near (full d) n = nearG (mkEnds d.form) (mkPts d.form) n := by
  unfold near nearL nearG
  simp only [full_around]
def nearT (f : Int) : List (List Int) := (List.range (mkEnds f).length).map fun s => nearG (mkEnds f) (mkPts f) (s : Nat)
def nearTs : List (Int × List (List Int)) := [(0, [[1], [0, 2], [1]]), (4, [[1], [0, 2], [1, 3], [2]]), (8, [[1], [0, 2], [1, 3], [2, 4], [3]]), (12, [[1], [0, 2], [1, 3], [2, 4], [3, 5], [4]]), (16, [[1], [0, 2], [1, 3], [2, 4], [3, 5], [4, 6], [5]]), (20, [[1], [0, 2], [1, 3], [2, 4], [3, 5], [4, 6], [5, 7], [6]]), (1, [[1, 2], [0], [0]]), (2, [[1], [0, 2, 3], [1, 4], [1, 5], [2, 6], [3, 6], [4, 5, 7], [6]]), (3, [[1], [0, 2, 3], [1, 4], [1, 5], [2], [3]])]
theorem nearTs_ok : nearTs.all (fun x => decide (nearT x.1 = x.2)) = true := by kernel_rfl
theorem nearTs_all : forms = nearTs.map (·.1) := by decide
def besT (T P : List (List Int)) (k : Int) (q : List Int) : List Int := q.flatMap fun s => ((T[s.toNat]?.getD []).map (partG P)).filter fun x => decide (0 ≤ x) && decide (x ≠ k)
/-- Each section is in just one part; few parts are beside one. -/
def partsOk (T P : List (List Int)) : Bool :=
  ((List.range T.length).all fun s => (fun k : Int => decide (0 ≤ k) && decide (k.toNat < P.length) && decide ((s : Int) ∈ P[k.toNat]?.getD [])) (partG P s)) &&
  ((List.range P.length).all fun k => (P[k]?.getD []).all fun s => decide (partG P s = k) && decide (0 ≤ s) && decide (s.toNat < T.length)) &&
  (List.range P.length).all fun k => Nat.ble (besT T P k (P[k]?.getD [])).length 12
def joinsOk (n : Nat) : Bool := nearTs.all fun x => (List.range n).all fun j => partsOk x.2 (mkParts j 0 x.2.length [])
set_option maxRecDepth 100000 in
theorem joinsOk_256 : joinsOk 256 = true := by kernel_rfl
end Go.Zc
end
section
namespace Go.Zc

structure Nd where
  p : Int
  r : Bool
  deriving DecidableEq
def fN (x : Nd) : List CV := [.int .i64 x.p, .bool x.r]
theorem flatN : Flat fN 2 := ⟨fun _ => rfl, by decide, fun _ => rfl, fun _ => rfl, fun _ => rfl⟩

/-- How the point at an end must stand for a section. -/
def needAt (l : Lay) (n s t : Int) : List Nd := match ptOf l n with
  | none => []
  | some i => match l.pts[i]? with
    | none => []
    | some p => [⟨i, decide (p.right = if p.stem = t then s else t)⟩]
def needOf (l : Lay) (x : Ed) (t : Int) : List Nd := match nodeOf l x with
  | none => []
  | some n => needAt l n x.s t
def nways (l : Lay) : Ed → List Int → Option (List Nd)
  | _, [] => some []
  | x, s :: r => match (around l x).find? fun y => decide (y.s = s) with
    | none => none
    | some y => (nways l ⟨s, 1 - y.e⟩ r).map (needOf l x s ++ ·)
def npath (l : Lay) (p : List Int) : Option (List Nd) :=
  if p.length < 2 ∨ ¬ p.Nodup then none else
  match p with
  | [] => none
  | a :: r => match nways l ⟨a, 0⟩ r with
    | some n => some n
    | none => nways l ⟨a, 1⟩ r

/-- What is next, as the points stand. -/
def stand (right : List Bool) (i : Nat) : Bool := match right[i]? with
  | some b => b
  | none => false
def nextAt (l : Lay) (n : Int) (x : Ed) (right : List Bool) (ys : List Ed) : Option Ed := match ys with
  | [] => none
  | y :: _ => match ptOf l n with
    | none => some y
    | some i => match l.pts[i]? with
      | none => none
      | some p =>
        let leg := if stand right i then p.right else p.left
        if x.s = p.stem then ys.find? fun y => decide (y.s = leg) else if x.s = leg then some y else none
def next (l : Lay) (x : Ed) (right : List Bool) : Option Ed := match nodeOf l x with
  | none => none
  | some n => nextAt l n x right (around l x)
def edC : Option Ed → List CV
  | some x => fE x
  | none => fE ⟨0, 0⟩

theorem next_mem {l : Lay} {x y : Ed} {right : List Bool} (h : next l x right = some y) : y ∈ around l x := by
  unfold next at h
  cases hn : nodeOf l x with
  | none => simp [hn] at h
  | some n =>
    simp only [hn] at h
    unfold nextAt at h
    cases ha : around l x with
    | nil => simp [ha] at h
    | cons z zs =>
      simp only [ha] at h
      cases hp : ptOf l n with
      | none => simp only [hp, Option.some.injEq] at h; subst h; simp
      | some i =>
        simp only [hp] at h
        cases hq : l.pts[i]? with
        | none => simp [hq] at h
        | some q =>
          simp only [hq] at h
          generalize (if stand right i = true then q.right else q.left) = leg at h
          by_cases h1 : x.s = q.stem
          · simp only [h1, if_true] at h
            exact List.mem_of_find?_eq_some h
          · simp only [h1, if_false] at h
            by_cases h2 : x.s = leg
            · simp only [h2, if_true, Option.some.injEq] at h
              subst h; simp
            · simp only [h2, if_false] at h
              cases h

/-! ### Ways are ways -/
theorem full_lens' (d : Draft) (hok : (full d).ok) (x y : Ed) (h : y ∈ around (full d) x) : lenAt (full d) y.s ≠ 0 := by
  have := around_in h
  have := ((full_good d hok).lenAt this.1.1 this.1.2).1
  omega
theorem walk_nways (d : Draft) (hok : (full d).ok) (s e : Int) (turns : List Int) (m : Int) :
    ∃ t, walk (full d) s e turns m = s :: t ∧ (s :: t).Nodup ∧ (nways (full d) ⟨s, e⟩ t).isSome = true := by
  obtain ⟨t, e1, e2, _, e4⟩ := walk_follows (full_apart d) (full_lens' d hok) turns (m - 1).toNat 0 [s] ⟨s, e⟩ (by simp)
  refine ⟨t, e1, e2, ?_⟩
  refine e4 (fun x l => (nways (full d) x l).isSome) (fun _ => rfl) fun x s r => ?_
  simp only [nways]
  have : (fun y : Ed => y.s == s) = fun y => decide (y.s = s) := by funext y; by_cases h : y.s = s <;> simp [h]
  rw [this]
  cases (around (full d) x).find? (fun y => decide (y.s = s)) with
  | none => rfl
  | some y => simp
theorem npath_walk (d : Draft) (hok : (full d).ok) (s e : Int) (he : e = 0 ∨ e = 1) (turns : List Int) (m : Int) :
    (npath (full d) (walk (full d) s e turns m)).isSome = decide (1 < (walk (full d) s e turns m).length) := by
  obtain ⟨t, h1, h2, h3⟩ := walk_nways d hok s e turns m
  rw [h1]
  unfold npath
  by_cases hl : (s :: t).length < 2
  · have : ¬ (1 < (s :: t).length) := by omega
    simp only [hl, this, true_or, if_true, decide_false, Option.isSome_none]
  · have : 1 < (s :: t).length := by omega
    simp only [hl, h2, not_true_eq_false, or_self, if_false, this, decide_true]
    rcases he with rfl | rfl
    · cases hn : nways (full d) ⟨s, 0⟩ t with
      | none => rw [hn] at h3; cases h3
      | some x => rfl
    · cases hn : nways (full d) ⟨s, 0⟩ t with
      | none => exact h3
      | some x => rfl
end Go.Zc
end
section
namespace Go.Zc

theorem wf_u8 {n : Int} (h : (Lit.int .u8 n).wf = true) : 0 ≤ n ∧ n ≤ 255 := by
  simp only [Lit.wf, Bool.and_eq_true, decide_eq_true_eq] at h
  exact h
theorem wf_u16 {n : Int} (h : (Lit.int .u16 n).wf = true) : 0 ≤ n ∧ n ≤ 65535 := by
  simp only [Lit.wf, Bool.and_eq_true, decide_eq_true_eq] at h
  exact h
theorem wf_i64 {n : Int} (h : (Lit.int .i64 n).wf = true) : -9223372036854775808 ≤ n ∧ n ≤ 9223372036854775807 := by
  simp only [Lit.wf, Bool.and_eq_true, decide_eq_true_eq] at h
  exact h

theorem rows_of {α : Type} {f : α → List CV} {Q : α → Prop} {T : Ty} (h : ∀ r, HasTy T r → ∃ x, r = f x ∧ Q x) : ∀ rows : List (List CV), (∀ r ∈ rows, HasTy T r) → ∃ l : List α, rows = l.map f ∧ ∀ x ∈ l, Q x
  | [], _ => ⟨[], rfl, by simp⟩
  | r :: rows, hr => by
    obtain ⟨x, rfl, hx⟩ := h r (hr r (by simp))
    obtain ⟨l, rfl, hl⟩ := rows_of h rows fun r' h' => hr r' (by simp [h'])
    exact ⟨x :: l, rfl, fun y hy => by
      rcases List.mem_cons.1 hy with rfl | hy
      · exact hx
      · exact hl y hy⟩
theorem slice_of {α : Type} {f : α → List CV} {Q : α → Prop} {T : Ty} (h : ∀ r, HasTy T r → ∃ x, r = f x ∧ Q x) {cs : List CV} (hs : HasTy (.slice T) cs) : ∃ l : List α, cs = [sl f l] ∧ l.length ≤ maxLen ∧ ∀ x ∈ l, Q x := by
  simp only [HasTy] at hs
  obtain ⟨rows, rfl, hm, hr⟩ := hs
  obtain ⟨l, rfl, hl⟩ := rows_of h rows hr
  exact ⟨l, by simp [sl, List.flatMap], by simpa using hm, hl⟩

theorem u8_of (r : List CV) (h : HasTy (.int .u8) r) : ∃ x : Int, r = fU x ∧ (0 ≤ x ∧ x ≤ 255) := by
  simp only [HasTy] at h
  obtain ⟨n, rfl, hw⟩ := h
  exact ⟨n, rfl, wf_u8 hw⟩
theorem u16_of (r : List CV) (h : HasTy (.int .u16) r) : ∃ x : Int, r = [.int .u16 x] ∧ (0 ≤ x ∧ x ≤ 65535) := by
  simp only [HasTy] at h
  obtain ⟨n, rfl, hw⟩ := h
  exact ⟨n, rfl, wf_u16 hw⟩
theorem i64_of (r : List CV) (h : HasTy (.int .i64) r) : ∃ x : Int, r = fI x ∧ (-9223372036854775808 ≤ x ∧ x ≤ 9223372036854775807) := by
  simp only [HasTy] at h
  obtain ⟨n, rfl, hw⟩ := h
  exact ⟨n, rfl, wf_i64 hw⟩
theorem bool_of (r : List CV) (h : HasTy .bool r) : ∃ x : Bool, r = fB x ∧ True := by
  simp only [HasTy] at h
  obtain ⟨n, rfl⟩ := h
  exact ⟨n, rfl, trivial⟩
theorem u8s_of (r : List CV) (h : HasTy (.slice (.int .u8)) r) : ∃ l : List Int, r = fUL l ∧ (l.length ≤ maxLen ∧ ∀ t ∈ l, 0 ≤ t ∧ t ≤ 255) := by
  obtain ⟨l, h1, h2, h3⟩ := slice_of u8_of h
  exact ⟨l, h1, h2, h3⟩

def tDraft : Ty := .struct [.int .u8, .int .u8, .int .u8, .int .u16, .int .u16, .int .u8, .int .u8, .int .u8, .slice (.slice (.int .u8))]
def tDeed : Ty := .struct [.int .u8, .int .u8, .int .u8, .int .u8, .slice (.int .u8), .int .u16, .bool, .int .u8]

theorem draft_of {c : CV} (h : HasArg tDraft c) : ∃ d : Draft, c = .agg (draftC d) ∧ d.ok := by
  obtain ⟨cs, rfl, h⟩ := h
  simp only [HasTys] at h
  obtain ⟨a1, _, rfl, h1, a2, _, rfl, h2, a3, _, rfl, h3, a4, _, rfl, h4, a5, _, rfl, h5, a6, _, rfl, h6, a7, _, rfl, h7, a8, _, rfl, h8, a9, _, rfl, h9, rfl⟩ := h
  obtain ⟨x1, rfl, q1⟩ := u8_of _ h1
  obtain ⟨x2, rfl, q2⟩ := u8_of _ h2
  obtain ⟨x3, rfl, q3⟩ := u8_of _ h3
  obtain ⟨x4, rfl, q4⟩ := u16_of _ h4
  obtain ⟨x5, rfl, q5⟩ := u16_of _ h5
  obtain ⟨x6, rfl, q6⟩ := u8_of _ h6
  obtain ⟨x7, rfl, q7⟩ := u8_of _ h7
  obtain ⟨x8, rfl, q8⟩ := u8_of _ h8
  obtain ⟨l, rfl, hl, hq⟩ := slice_of u8s_of h9
  exact ⟨⟨x1, x2, x3, x4, x5, x6, x7, x8, l⟩, rfl, q1, q2, q3, q4, q5, q6, q7, q8, hl, hq⟩
theorem deed_of {c : CV} (h : HasArg tDeed c) : ∃ a : Deed, c = .agg (actC a) ∧ a.ok := by
  obtain ⟨cs, rfl, h⟩ := h
  simp only [HasTys] at h
  obtain ⟨a1, _, rfl, h1, a2, _, rfl, h2, a3, _, rfl, h3, a4, _, rfl, h4, a5, _, rfl, h5, a6, _, rfl, h6, a7, _, rfl, h7, a8, _, rfl, h8, rfl⟩ := h
  obtain ⟨x1, rfl, q1⟩ := u8_of _ h1
  obtain ⟨x2, rfl, q2⟩ := u8_of _ h2
  obtain ⟨x3, rfl, q3⟩ := u8_of _ h3
  obtain ⟨x4, rfl, q4⟩ := u8_of _ h4
  obtain ⟨l, rfl, hl, hq⟩ := u8s_of _ h5
  obtain ⟨x6, rfl, q6⟩ := u16_of _ h6
  obtain ⟨x7, rfl, _⟩ := bool_of _ h7
  obtain ⟨x8, rfl, q8⟩ := u8_of _ h8
  exact ⟨⟨x1, x2, x3, x4, l, x6, x7, x8⟩, rfl, q2, q4, hl, hq, q6, q8⟩
end Go.Zc
end
section
namespace Go.Zc

theorem fz_run {C : Ctx} {kn : Bool} {np : Nat} {code : CCode} {res : List Res} {st : Bool} {H : Heap} {xs : List CV} {r : CV × Heap} (n : Nat)
    (h : (if xs.length = np then (run C n code (enterC 0 xs) ⟨[], []⟩).bind (fzOut res st kn H) else none) = some r) : fzE C kn np code res st H xs = some r := by
  unfold fzE
  split at h
  · rename_i hl
    rw [if_pos hl]
    obtain ⟨x, hx, hr⟩ := Option.bind_eq_some_iff.1 h
    rw [run_eval C n _ _ _ _ hx]
    exact hr
  · cases h


theorem near_in {l : Lay} {s n : Int} (h : n ∈ near l s) : 0 ≤ n ∧ n < l.secs.length := by
  obtain ⟨x, y, _, rfl, h'⟩ := near_to h
  exact (around_in h').1

theorem mkParts_of (d : Draft) : (full d).parts = mkParts d.join 0 (mkEnds d.form).length [] := rfl

theorem full_partsOk (d : Draft) (hd : d.ok) : ∃ T : List (List Int), T.length = (full d).secs.length ∧ (∀ n : Nat, n < T.length → near (full d) n = T[n]?.getD []) ∧ partsOk T (full d).parts = true := by
  obtain ⟨f, hf, h1, h2, _⟩ := form_in d.form
  rw [nearTs_all, List.mem_map] at hf
  obtain ⟨⟨f', T⟩, hm, rfl⟩ := hf
  have hT := of_decide_eq_true (List.all_eq_true.1 nearTs_ok _ hm)
  simp only at hT h1 h2
  have hj := List.all_eq_true.1 joinsOk_256 _ hm
  have hjo := hd.join
  obtain ⟨j, hj'⟩ := Int.eq_ofNat_of_zero_le hjo.1
  have hj2 := List.all_eq_true.1 hj j (List.mem_range.2 (by omega))
  have hl : T.length = (mkEnds d.form).length := by
    rw [← hT, h1]
    simp [nearT]
  refine ⟨T, by rw [full_secs_len, hl], fun n hn => ?_, ?_⟩
  · rw [full_nearG, h1, h2, ← hT]
    rw [hl, h1] at hn
    simp [nearT, hn]
  · rw [mkParts_of, ← hl, hj']
    exact hj2

theorem full_part (d : Draft) (hd : d.ok) {s : Int} (h0 : 0 ≤ s) (h1 : s < (full d).secs.length) : ∃ n : Nat, ∃ hn : n < (full d).parts.length, partOf (full d) s = n ∧ s ∈ (full d).parts[n] := by
  obtain ⟨T, hT, _, h⟩ := full_partsOk d hd
  unfold partsOk at h
  simp only [Bool.and_eq_true, List.all_eq_true, List.mem_range, decide_eq_true_eq] at h
  obtain ⟨n, rfl⟩ := Int.eq_ofNat_of_zero_le h0
  obtain ⟨⟨a, b⟩, c⟩ := h.1.1 n (by omega)
  rw [← partOf_eq] at a b c
  refine ⟨(partOf (full d) n).toNat, b, by omega, ?_⟩
  rw [List.getElem?_eq_getElem b] at c
  exact c
theorem full_partIx (d : Draft) (hd : d.ok) {k : Nat} (hk : k < (full d).parts.length) {s : Int} (hs : s ∈ (full d).parts[k]) : partOf (full d) s = k ∧ 0 ≤ s ∧ s < (full d).secs.length := by
  obtain ⟨T, hT, _, h⟩ := full_partsOk d hd
  unfold partsOk at h
  simp only [Bool.and_eq_true, List.all_eq_true, List.mem_range, decide_eq_true_eq] at h
  have := h.1.2 k hk
  rw [List.getElem?_eq_getElem hk] at this
  obtain ⟨⟨a, b⟩, c⟩ := this s hs
  rw [← partOf_eq] at a
  exact ⟨a, b, by omega⟩

theorem flatMap_congr' {α β : Type} {f g : α → List β} : ∀ {l : List α}, (∀ x ∈ l, f x = g x) → l.flatMap f = l.flatMap g
  | [], _ => rfl
  | x :: l, h => by
    rw [List.flatMap_cons, List.flatMap_cons, h x (by simp), flatMap_congr' fun y hy => h y (by simp [hy])]
/-- Few parts are beside one. -/
theorem full_beside (d : Draft) (hd : d.ok) (pt : Int) : ∀ q, partIx (full d) pt = some q → (besideL (full d) pt q).length ≤ 12 := by
  intro q hq
  obtain ⟨n, hn, rfl, rfl⟩ := partIx_some hq
  have hin := fun s => full_partIx d hd hn (s := s)
  obtain ⟨T, hT, hN, h⟩ := full_partsOk d hd
  unfold partsOk at h
  simp only [Bool.and_eq_true, List.all_eq_true, List.mem_range] at h
  have h2 := Nat.le_of_ble_eq_true (h.2 n hn)
  rw [List.getElem?_eq_getElem hn] at h2
  have : besideL (full d) n (full d).parts[n] = besT T (full d).parts n (full d).parts[n] := by
    unfold besideL besT
    refine flatMap_congr' fun s hs => ?_
    obtain ⟨_, s0, s1⟩ := hin s hs
    obtain ⟨m, rfl⟩ := Int.eq_ofNat_of_zero_le s0
    rw [hN m (by omega)]
    rfl
  rw [this]
  exact h2

theorem beside_mem {l : Lay} {p b : Int} (h : b ∈ beside l p) : ∃ q, partIx l p = some q ∧ ∃ s ∈ q, ∃ n ∈ near l s, partOf l n = b ∧ 0 ≤ b ∧ b ≠ p := by
  unfold beside at h
  cases hq : partIx l p with
  | none => simp [hq] at h
  | some q =>
    simp only [hq, rise_mem, besideL, List.mem_flatMap, List.mem_filter, List.mem_map, Bool.and_eq_true, decide_eq_true_eq] at h
    obtain ⟨s, hs, ⟨n, hn, rfl⟩, h0, h1⟩ := h
    exact ⟨q, rfl, s, hs, n, hn, rfl, h0, h1⟩
/-- What is beside a part has it beside itself. -/
theorem full_besides (d : Draft) (hd : d.ok) {p b : Int} (h : b ∈ beside (full d) p) : b ≠ p ∧ p ∈ beside (full d) b ∧ 0 ≤ b ∧ b < (full d).parts.length := by
  obtain ⟨q, hq, s, hs, n, hn, hb, h0, h1⟩ := beside_mem h
  obtain ⟨k, hk, rfl, rfl⟩ := partIx_some hq
  obtain ⟨s1, s2, s3⟩ := full_partIx d hd hk hs
  obtain ⟨n1, n2⟩ := near_in hn
  obtain ⟨m, hm, m1, m2⟩ := full_part d hd n1 n2
  rw [hb] at m1
  subst m1
  refine ⟨h1, ?_, h0, by omega⟩
  have hix : partIx (full d) m = some (full d).parts[m] := by
    unfold partIx
    simp only [Int.toNat_natCast, Int.natCast_nonneg, if_true, List.getElem?_eq_getElem hm]
  unfold beside
  simp only [hix, rise_mem, besideL, List.mem_flatMap, List.mem_filter, List.mem_map, Bool.and_eq_true, decide_eq_true_eq]
  exact ⟨n, m2, ⟨s, full_near d hn, s1⟩, by omega, fun e => h1 e.symm⟩
theorem beside_len (d : Draft) (hd : d.ok) (p : Int) : (beside (full d) p).length ≤ 12 := by
  unfold beside
  cases hq : partIx (full d) p with
  | none => simp
  | some q =>
    have h1 := full_beside d hd p q hq
    have h2 := nodup_le (rise_nodup (besideL (full d) p q)) (b := besideL (full d) p q) fun y hy => (rise_mem _ y).1 hy
    simp only
    omega
end Go.Zc
end
section
namespace Go.Zc

/-- What a cell in memory shows: itself, or the numbers of a slice. -/
def CellOk (bl : List Blk) (c y : CV) : Prop :=
  (c = y ∧ blkOf c = none ∧ c.one = true ∧ c.locv = false ∧ ∀ (H : Heap) (st kn : Bool) (n : Nat), snapN H st kn (n + 1) c = some c) ∨ ∃ l : List Int, Own fI 1 bl c l ∧ y = sl fI l
theorem cell_int (bl : List Blk) (k : IntKind) (n : Int) : CellOk bl (.int k n) (.int k n) := .inl ⟨rfl, rfl, rfl, rfl, fun _ _ _ _ => rfl⟩
theorem cell_bool (bl : List Blk) (b : Bool) : CellOk bl (.bool b) (.bool b) := .inl ⟨rfl, rfl, rfl, rfl, fun _ _ _ _ => rfl⟩
theorem cell_own {bl : List Blk} {c : CV} {l : List Int} (h : Own fI 1 bl c l) : CellOk bl c (sl fI l) := .inr ⟨l, h, rfl⟩
theorem CellOk.one {bl : List Blk} {c y : CV} (h : CellOk bl c y) : c.one = true := by
  rcases h with ⟨_, _, h, _⟩ | ⟨l, h, _⟩
  · exact h
  · exact h.one
theorem CellOk.locv {bl : List Blk} {c y : CV} (h : CellOk bl c y) : c.locv = false := by
  rcases h with ⟨_, _, _, h, _⟩ | ⟨l, h, _⟩
  · exact h
  · exact h.locv
theorem CellOk.keep {bl bl' : List Blk} {c y : CV} (h : CellOk bl c y) (hk : ∀ (m : Nat) (b : Blk), bl[m]? = some b → blkOf c = some m → bl'[m]? = some b) : CellOk bl' c y := by
  rcases h with h | ⟨l, h | ⟨m, rfl, h2⟩, hy⟩
  · exact .inl h
  · exact .inr ⟨l, .inl h, hy⟩
  · exact .inr ⟨l, .inr ⟨m, rfl, hk m _ h2 rfl⟩, hy⟩
theorem CellOk.snap {bl : List Blk} {c y : CV} (h : CellOk bl c y) (bx : List (Nat × List CV)) (st : Bool) (n : Nat) : snapN ⟨bx, bl⟩ st false (n + 2) c = some y := by
  rcases h with ⟨rfl, _, _, _, h⟩ | ⟨l, h, rfl⟩
  · exact h _ _ _ _
  · exact h.snapV flatI bx st _ (fun x c hc => by
      simp only [fI, List.mem_cons, List.not_mem_nil, or_false] at hc
      subst hc
      rfl)
theorem CellOk.lt {bl : List Blk} {c y : CV} (h : CellOk bl c y) {k : Nat} (hk : blkOf c = some k) : k < bl.length := by
  rcases h with ⟨_, h, _⟩ | ⟨l, h, _⟩
  · rw [h] at hk; cases hk
  · exact h.lt hk

def Cells (bl : List Blk) : List CV → List CV → Prop
  | [], [] => True
  | c :: cs, y :: ys => CellOk bl c y ∧ Cells bl cs ys
  | _, _ => False
theorem Cells.length {bl : List Blk} : ∀ {cs ys : List CV}, Cells bl cs ys → cs.length = ys.length
  | [], [], _ => rfl
  | _ :: _, _ :: _, h => by simp [Cells.length h.2]
  | [], _ :: _, h => h.elim
  | _ :: _, [], h => h.elim
theorem Cells.app {bl : List Blk} : ∀ {cs ys cs' ys' : List CV}, Cells bl cs ys → Cells bl cs' ys' → Cells bl (cs ++ cs') (ys ++ ys')
  | [], [], _, _, _, h => h
  | _ :: _, _ :: _, _, _, h, h' => ⟨h.1, Cells.app h.2 h'⟩
  | [], _ :: _, _, _, h, _ => h.elim
  | _ :: _, [], _, _, h, _ => h.elim
theorem Cells.keep {bl bl' : List Blk} : ∀ {cs ys : List CV}, Cells bl cs ys → (∀ c ∈ cs, ∀ (m : Nat) (b : Blk), bl[m]? = some b → blkOf c = some m → bl'[m]? = some b) → Cells bl' cs ys
  | [], [], _, _ => trivial
  | c :: cs, _ :: _, h, hk => ⟨h.1.keep (hk c (by simp)), Cells.keep h.2 fun x hx => hk x (by simp [hx])⟩
  | [], _ :: _, h, _ => h.elim
  | _ :: _, [], h, _ => h.elim
theorem Cells.ones {bl : List Blk} : ∀ {cs ys : List CV}, Cells bl cs ys → Zc.ones cs = true
  | [], [], _ => rfl
  | _ :: _, _ :: _, h => by rw [ones_cons, h.1.one, Cells.ones h.2]; rfl
  | [], _ :: _, h => h.elim
  | _ :: _, [], h => h.elim
theorem Cells.locs {bl : List Blk} : ∀ {cs ys : List CV}, Cells bl cs ys → CV.locs cs = false
  | [], [], _ => rfl
  | _ :: _, _ :: _, h => by simp only [CV.locs, h.1.locv, Cells.locs h.2, Bool.or_self]
  | [], _ :: _, h => h.elim
  | _ :: _, [], h => h.elim
theorem Cells.snap {bl : List Blk} (bx : List (Nat × List CV)) (st : Bool) (n : Nat) : ∀ {cs ys : List CV}, Cells bl cs ys → mapC (snapN ⟨bx, bl⟩ st false (n + 2)) cs = some ys
  | [], [], _ => rfl
  | _ :: _, _ :: _, h => by simp only [mapC, h.1.snap bx st n, Cells.snap bx st n h.2, Option.bind_some, Option.map_some]
  | [], _ :: _, h => h.elim
  | _ :: _, [], h => h.elim
theorem Cells.lt {bl : List Blk} : ∀ {cs ys : List CV}, Cells bl cs ys → ∀ c ∈ cs, ∀ k, blkOf c = some k → k < bl.length
  | [], [], _, c, hc => by simp at hc
  | d :: cs, _ :: _, h, c, hc => by
    rcases List.mem_cons.1 hc with rfl | hc
    · exact fun k hk => h.1.lt hk
    · exact Cells.lt h.2 c hc
  | [], _ :: _, h, _, _ => h.elim
  | _ :: _, [], h, _, _ => h.elim

section
variable {α : Type} {f : α → List CV} {sz : Nat} {bl : List Blk} {v : CV} {l : List α}

def Deep (f : α → List CV) (sz : Nat) (bl : List Blk) (v : CV) (l : List α) : Prop :=
  (v = .nils ∧ l = []) ∨ ∃ m cs, v = .os sz (.blk m) 0 l.length ∧ bl[m]? = some (.cells cs) ∧ Cells bl cs (l.flatMap f) ∧ ∀ c ∈ cs, blkOf c ≠ some m
theorem Deep.nil (f : α → List CV) (sz : Nat) (bl : List Blk) : Deep f sz bl .nils [] := .inl ⟨rfl, rfl⟩
theorem Deep.len (h : Deep f sz bl v l) : lenC v = some (.int .i64 l.length) := by
  rcases h with ⟨rfl, rfl⟩ | ⟨m, cs, rfl, _⟩ <;> rfl
theorem Deep.locv (h : Deep f sz bl v l) : v.locv = false := by
  rcases h with ⟨rfl, rfl⟩ | ⟨m, cs, rfl, _⟩ <;> rfl
theorem Deep.one (h : Deep f sz bl v l) : v.one = true := by
  rcases h with ⟨rfl, rfl⟩ | ⟨m, cs, rfl, _⟩ <;> rfl
theorem Deep.cells (h : Deep f sz bl v l) : v.cells = [v] := by
  rcases h with ⟨rfl, rfl⟩ | ⟨m, cs, rfl, _⟩ <;> rfl
theorem Deep.und (h : Deep f sz bl v l) : v.und? = false := by
  rcases h with ⟨rfl, rfl⟩ | ⟨m, cs, rfl, _⟩ <;> rfl
theorem Deep.chkV (h : Deep f sz bl v l) (s : List Nat) : chkV s v = true := chkV_of h.locv s
theorem Deep.lt (h : Deep f sz bl v l) {k : Nat} (hk : blkOf v = some k) : k < bl.length := by
  rcases h with ⟨rfl, rfl⟩ | ⟨m, cs, rfl, h2, _⟩
  · cases hk
  · cases hk; exact (List.getElem?_eq_some_iff.1 h2).1
/-- The blocks that it reaches. -/
def Deep.reach (bl : List Blk) (v : CV) (k : Nat) : Prop := blkOf v = some k ∨ ∃ m cs, blkOf v = some m ∧ bl[m]? = some (.cells cs) ∧ ∃ c ∈ cs, blkOf c = some k
theorem Deep.keep {bl' : List Blk} (h : Deep f sz bl v l) (hk : ∀ (m : Nat) (b : Blk), bl[m]? = some b → Deep.reach bl v m → bl'[m]? = some b) : Deep f sz bl' v l := by
  rcases h with h | ⟨m, cs, rfl, h2, h3, h4⟩
  · exact .inl h
  · exact .inr ⟨m, cs, rfl, hk m _ h2 (.inl rfl), h3.keep fun c hc k b hb hck => hk k b hb (.inr ⟨m, cs, rfl, h2, c, hc, hck⟩), h4⟩
theorem Deep.snapV (hl : ∀ x, (f x).length = sz) (h : Deep f sz bl v l) (bx : List (Nat × List CV)) (st : Bool) : snapV ⟨bx, bl⟩ st false (snapN ⟨bx, bl⟩ st false 7) v = some (sl f l) := by
  rcases h with ⟨rfl, rfl⟩ | ⟨m, cs, rfl, h2, h3, _⟩
  · rfl
  · have hlen := h3.length
    rw [flatMap_len hl] at hlen
    by_cases h0 : l.length = 0
    · have : l = [] := List.eq_nil_of_length_eq_zero h0
      subst this
      rfl
    · unfold Zc.snapV
      rw [if_neg h0, get_blk bx bl m _ h2]
      simp only [Option.bind_some, Nat.zero_add, List.drop_zero]
      rw [if_pos (by omega), List.take_of_length_le (by omega), h3.snap bx st 5]
      rfl

/-- An append of one: a literal's, in a block of its own. -/
theorem Deep.app (hl : ∀ x, (f x).length = sz) (hp : 0 < sz) (h : Deep f sz bl v l) {bytes : Nat} {zero : List CV} (hb : 0 < bytes) (hz : zero.length = sz) (hz1 : Zc.ones zero = true) (x : α) (row : List CV)
    (hr : Cells bl row (f x)) (hrv : ∀ c ∈ row, ∀ k, blkOf c = some k → blkOf v ≠ some k) (hm : (l.length + 1) * bytes ≤ 140737488355328) :
    ∃ v' bl', (∀ bx, heapOp (.app sz bytes zero) [v, .os sz (.blk bl.length) 0 1] ⟨bx, bl ++ [.cells row]⟩ = some (v', ⟨bx, bl'⟩)) ∧ Deep f sz bl' v' (l ++ [x]) ∧
      Fr bl bl' v ∧ blkOf v' = some (bl.length + 1) ∧ (∀ k, Deep.reach bl' v' k → k = bl.length + 1 ∨ Deep.reach bl v k ∨ ∃ c ∈ row, blkOf c = some k) := by
  have hrl := hr.length
  rw [hl] at hrl
  have hsh : ∀ bx, shown ⟨bx, bl ++ [Blk.cells row]⟩ sz (.os sz (.blk bl.length) 0 1) = some row := by
    intro bx
    unfold shown
    simp only [if_true]
    rw [get_blk bx _ bl.length row (by simp)]
    simp only [Option.bind_some, Nat.zero_add, Nat.one_mul, hrl, Nat.le_refl, if_true, List.drop_zero]
    rw [List.take_of_length_le (by omega)]
  have hc := decide_eq_true hm
  rcases h with ⟨rfl, rfl⟩ | ⟨m, cs, rfl, h2, h3, h4⟩
  · refine ⟨.os sz (.blk (bl.length + 1)) 0 1, bl ++ [.cells row] ++ [.cells row], fun bx => ?_, .inr ⟨bl.length + 1, row, by simp, by simp, ?_, fun c hc e => ?_⟩, fun k b hk _ => ?_, rfl, fun k hk => ?_⟩
    · simp only [heapOp, lenOf, Nat.one_ne_zero, if_false, hsh, Option.bind_some, hr.ones, hr.locs, hz, hz1, decide_true, hp, hb, Bool.true_and, Bool.not_false, Bool.and_true, appC, Heap.push]
      rw [if_pos (by simpa [lenOf] using hm)]
      simp
    · simp only [List.nil_append, List.flatMap_cons, List.flatMap_nil, List.append_nil]
      exact hr.keep fun c hc k b hb _ => by
        have := (List.getElem?_eq_some_iff.1 hb).1
        rw [List.append_assoc, List.getElem?_append_left this]; exact hb
    · have := hr.lt c hc _ e; omega
    · have := (List.getElem?_eq_some_iff.1 hk).1
      rw [List.append_assoc, List.getElem?_append_left this]; exact hk
    · rcases hk with hk | ⟨m, cs, h1, h2, c, hc, hck⟩
      · cases hk; exact .inl rfl
      · cases h1
        have : cs = row := by simpa using h2.symm
        subst this
        exact .inr (.inr ⟨c, hc, hck⟩)
  · have hml : m < bl.length := (List.getElem?_eq_some_iff.1 h2).1
    have hlen := h3.length
    rw [flatMap_len hl] at hlen
    have h2' : (bl ++ [Blk.cells row])[m]? = some (.cells cs) := by rw [List.getElem?_append_left hml]; exact h2
    have hkeep : ∀ (k : Nat) (b : Blk), bl[k]? = some b → k ≠ m → (((bl ++ [Blk.cells row]).set m .dead) ++ [Blk.cells (cs ++ row)])[k]? = some b := fun k b hb hne => by
      have hkl := (List.getElem?_eq_some_iff.1 hb).1
      rw [List.getElem?_append_left (by simp; omega), List.getElem?_set_ne (Ne.symm hne), List.getElem?_append_left hkl]; exact hb
    refine ⟨.os sz (.blk (bl.length + 1)) 0 (l.length + 1), ((bl ++ [Blk.cells row]).set m .dead) ++ [Blk.cells (cs ++ row)], fun bx => ?_, .inr ⟨bl.length + 1, cs ++ row, by simp, ?_, ?_, fun c hc e => ?_⟩, fun k b hk hne => ?_, rfl, fun k hk => ?_⟩
    · simp only [heapOp, lenOf, Nat.one_ne_zero, if_false, hsh, Option.bind_some, hr.ones, hr.locs, hz, hz1, hc, decide_true, hp, hb, Bool.true_and, Bool.not_false, Bool.and_true, if_true, appC]
      rw [get_blk bx _ m _ h2']
      simp only [Option.bind_some, hlen, Nat.le_refl, if_true, Heap.kill, Heap.push]
      rw [List.take_of_length_le (by omega)]
      simp [hm]
    · simp
    · rw [List.flatMap_append, List.flatMap_cons, List.flatMap_nil, List.append_nil]
      refine Cells.app (h3.keep fun c hc k b hb hck => hkeep k b hb fun e => ?_) (hr.keep fun c hc k b hb hck => hkeep k b hb fun e => ?_)
      · subst e; exact h4 c hc hck
      · subst e; exact hrv c hc _ hck rfl
    · rcases List.mem_append.1 hc with hc | hc
      · have := h3.lt c hc _ e; omega
      · have := hr.lt c hc _ e; omega
    · exact hkeep k b hk fun e => hne (by rw [e]; rfl)
    · rcases hk with hk | ⟨m', cs', h1, h2', c, hc, hck⟩
      · cases hk; exact .inl rfl
      · cases h1
        have : cs' = cs ++ row := by
          rw [List.getElem?_append_right (by simp)] at h2'
          simpa using h2'.symm
        subst this
        rcases List.mem_append.1 hc with hc | hc
        · exact .inr (.inl (.inr ⟨m, cs, rfl, h2, c, hc, hck⟩))
        · exact .inr (.inr ⟨c, hc, hck⟩)
end

theorem Deep.reach_lt {α : Type} {f : α → List CV} {sz : Nat} {bl : List Blk} {v : CV} {l : List α} (h : Deep f sz bl v l) {k : Nat} (hk : Deep.reach bl v k) : k < bl.length := by
  rcases hk with hk | ⟨m, cs, h1, h2, c, hc, hck⟩
  · exact h.lt hk
  · rcases h with ⟨rfl, rfl⟩ | ⟨m', cs', rfl, h2', h3, _⟩
    · cases h1
    · cases h1
      rw [h2'] at h2
      cases h2
      exact h3.lt c hc k hck
/-- What it reaches stays, if its block does. -/
theorem Deep.reach_keep {α : Type} {f : α → List CV} {sz : Nat} {bl bl' : List Blk} {v : CV} {l : List α} (h : Deep f sz bl v l) (hk : ∀ (m : Nat) (b : Blk), bl[m]? = some b → blkOf v = some m → bl'[m]? = some b) {k : Nat} (hr : Deep.reach bl' v k) : Deep.reach bl v k := by
  rcases hr with hr | ⟨m, cs, h1, h2, c, hc, hck⟩
  · exact .inl hr
  · rcases h with ⟨rfl, rfl⟩ | ⟨m', cs', rfl, h2', h3, _⟩
    · cases h1
    · cases h1
      have := hk _ _ h2' rfl
      rw [this] at h2
      cases h2
      exact .inr ⟨_, _, rfl, h2', c, hc, hck⟩
theorem Deep.reach_nils {bl : List Blk} {k : Nat} (h : Deep.reach bl .nils k) : False := by
  rcases h with h | ⟨m, cs, h1, _⟩
  · cases h
  · cases h1
end Go.Zc
end
