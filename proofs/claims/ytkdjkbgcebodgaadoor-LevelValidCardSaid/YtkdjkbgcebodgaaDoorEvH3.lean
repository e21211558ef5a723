/-
  Functions of the layer, one after another: what each hands back, as a plain function of its arguments.
-/
import Derived.Test.YtkdjkbgcebodgaaDoorEvH2
import Derived.Test.YtkdjkbgcebodgaaDoorEvJa
set_option linter.unusedSimpArgs false
set_option linter.unusedVariables false
namespace Go.EV.Lv
open Go Go.EV Go.Proofs
set_option maxRecDepth 100000
def tacc (t : Ty) (i : Nat) : List UInt8 := accG (wordF t.kind ++ [123]) [44, 32] (t.ps.map payT) i
def keyF (t : Ty) : Bool := t.kind == 3 || t.kind == 4 || t.kind == 5
def typT (t : Ty) : List UInt8 := if keyF t = true then tacc t t.ps.length ++ [125] else wordF t.kind
theorem valR_names : ∀ (l : List Pl) (s : Option (List UInt8)), valR s l = 0 → ∀ p ∈ l, nameR p.tag = true
  | [], _, _ => by simp
  | p :: r, s, h => by
    intro q hq
    unfold valR at h
    split at h
    · simp at h
    split at h
    · simp at h
    split at h
    · simp at h
    rename_i h1 h2 h3
    simp at hq
    rcases hq with rfl | hq
    · simpa using h1
    · exact valR_names r _ h q hq
theorem valid_good {t : Ty} (h : (validF t == 0) = true) : ∀ p ∈ t.ps, Good p := by
  intro p hp
  refine good_of (valid_ranges h hp) ?_
  rw [validEq] at h
  unfold validR at h
  split at h
  · simp at h
  split at h
  · simp at h
  split at h
  · simp at h
  exact valR_names _ _ (by simpa using h) p hp
theorem tacc_len {t : Ty} (h : (validF t == 0) = true) {i : Nat} (hi : i ≤ 8) : (tacc t i).length ≤ 783 := by
  have h1 := word_len t.kind
  have := acc_len (wordF t.kind ++ [123]) [44, 32] (t.ps.map payT) 95 (by
    intro w hw
    simp only [List.mem_map] at hw
    obtain ⟨p, hp, rfl⟩ := hw
    have g := valid_good h p hp
    exact payT_len g.tag g.six g.eight) i
  unfold tacc
  simp only [List.length_append, List.length_cons, List.length_nil] at this
  omega
theorem fn24 : E.fn 24 = some Tryd.f24 := by kernel_rfl
theorem m24 : E.mode 24 = 0 := by kernel_rfl
theorem p24 (t : Ty) (ht : t.ok) : pureF (callW E) 24 [.agg [.int .i64 t.kind, .sl (t.ps.map encP)]] = some (.tup [.str (if (validF t != 0) = true then [] else typT t), .int .i64 (validF t)]) := by
  cases hv : validF t != 0 with
  | true =>
    rw [if_pos rfl]
    rw [pureF_K (pl := (fun (i : Nat) => (none : Option (List (Nat × List Nat))))) (n := 44) (rs := [.tmp 2, .tmp 3]) fn24 rfl rfl rfl (by kernel_rfl)]
    simp (implicitDefEqProofs := false) (dsimp := false) only [encT, encP, evCall_0 m13, p13' t ht, List.length_map, evCall_0 m32, p32, evCall_0 m43, hv, rCell, eq_self, cells_ms, cells_mp, cells_nils, cells_bool, sAdd, bodyK_eq, cLoop, cSkip, cRegion, cSeq, cCond, cBlock, cExit, cRet, exitK_same, exitK_other, Nat.reduceBEq, reg_none, reg_some, plan_nil, plan_cons, atO_some, then_true, safe_nil, safe_ne, safe_all, safeOp_eq, safe_load, safe_ia, av_mp, av_ip, av_sl, av_int, hoist_nil, hoist_alloc, hoist_skip, hoistT_some, kd_move, na_move, kd_assign, na_assign, kd_pick, na_pick, kd_bin, na_bin, kd_un, na_un, kd_load, na_load, kd_store, na_store, kd_fa, na_fa, kd_fld, na_fld, kd_ia, na_ia, kd_ix, na_ix, kd_ex, na_ex, kd_len, na_len, kd_box, na_box, Nat.reduceBNe, Nat.reduceEqDiff, bne_self_eq_false, kOps_nil, kOps_cons, kOps_guard, dst_mk, gvD_some, gvV_bool, gvV_tup, onG_yes, onG_no, onG_as, onB_bool, sw_true, sw_false, sw_not, bnd_some, bnd_none, vK_some, pK_some, kMove, kAssign, kPick, kBin, kUn, kConvert, kLoad, kStore, kField, kFieldAddr, kIndex, kIndexAddr, kExtract, extractT_tup, kAlloc, allocT_some, kBox, boxT_some, kMakeFunc, kCall, callV_fn, kBuiltin, onCall_some, onRes_some, oTmp, oInt, oBool, oStr, oNil, oFunc, put_some, put_none, isC_const, isC_tmp, bII, bneB, beqB, bSS, iEql, iNeq, iLss, iLeq, iGtr, iGeq, iAdd, iSub, sEql, sNeq, sLeq, uNot, load_ip, load_mp, loadT_one, loadT_agg, rowAt_row, cells_agg, cells_int, cells_str, cells_sl, fits_eq, one_int, one_bool, one_str, one_sl, one_nils, pure_int, pure_bool, pure_str, pure_sl, pure_mp, pure_ip, pure_nils, pure_nili, pure_fn, pure_agg, scalar_int, scalar_bool, natOf_nat, natOf_zero, len_call, len_sl, len_str, fa_eq, fld_ip, fld_mp, ia_sl, idxT_sl, idxSl_some, ix_str, idxT'_str, idxStr_some, sto_eq, sto_one, write_agg, write_int, write_str, write_bool, res_int, res_bool, res_str, res_sl, res_ip, res_agg, res_fn, res_mp, many_eq, depth_eq, mapO_nil, mapO_cons, consO_some, resP_eq, resPV_one, resPV_two, normO_some, n_bool, n_int, n_str, n_nils, n_z0, n_nili, n_agg, n_tup, n_sl, n_ip, n_fn, nL_nil, nL_cons, nInt, nPs, nTs, res_tup, resV_one, resV_two, rTmp, List.set_cons_succ, List.set_cons_zero, List.getD_cons_succ, List.getD_cons_zero, List.getElem?_cons_succ, List.getElem?_cons_zero, List.cons_append, List.nil_append, List.append_nil, List.length_cons, List.length_nil, Nat.reduceAdd, Nat.reduceSub, Nat.add_zero, Nat.zero_add, Nat.reduceLeDiff, Nat.lt_irrefl, Nat.le_refl, Nat.zero_le, List.replicate_succ, List.replicate_zero, List.map_cons, List.map_nil, List.all_cons, List.all_nil, List.take_succ_cons, List.take_zero, List.drop_succ_cons, List.drop_zero, List.take_nil, Bool.and_true, Bool.true_and, Bool.and_false, Bool.false_and, Bool.or_true, Bool.true_or, Bool.or_false, Bool.false_or, Option.map_some, Option.bind_some, reduceCtorEq, and_self, and_true, true_and, if_true, if_false, Bool.false_eq_true, Bool.not_true, Bool.not_false, beq_true, beq_false, Nat.lt_add_one, Nat.zero_lt_succ, Nat.reduceLT, decide_true, decide_false, ti3, ti4, ti5, ti9, ti22, ti24, ti28, ti33, ti40, ti42, ti54, fo24_0, fo24_1, fo42_0, fo42_1, fo42_2, fo42_3]
  | false =>
    rw [if_neg (by simp)]
    have hv' : (validF t == 0) = true := by simpa using hv
    have hz : validF t = 0 := by simpa using hv'
    have hr := valid_range hv'
    have w43 := p43 t.kind (by omega) (by omega)
    have h8 := valid_eight hv'
    have gd := valid_good hv'
    have lt := fun i hi => tacc_len (t := t) hv' (i := i) hi
    have l0 := word_len t.kind
    have a0 : addT (wordF t.kind) [123] = some (.str (wordF t.kind ++ [123])) := addR _ _ (by simp; omega)
    rw [hz] at hv ⊢
    cases hk2 : keyF t with
    | false =>
      have hT : typT t = wordF t.kind := by unfold typT; rw [if_neg (by simp [hk2])]
      rw [hT]
      unfold keyF at hk2
      rw [pureF_K (pl := (fun (i : Nat) => (none : Option (List (Nat × List Nat))))) (n := 44) (rs := [.tmp 2, .tmp 3]) fn24 rfl rfl rfl (by kernel_rfl)]
      simp (implicitDefEqProofs := false) (dsimp := false) only [encT, encP, evCall_0 m13, p13' t ht, List.length_map, evCall_0 m32, p32, evCall_0 m43, hv, rCell, eq_self, cells_ms, cells_mp, cells_nils, cells_bool, sAdd, hz, hk2, w43, bne_self_eq_false, bodyK_eq, cLoop, cSkip, cRegion, cSeq, cCond, cBlock, cExit, cRet, exitK_same, exitK_other, Nat.reduceBEq, reg_none, reg_some, plan_nil, plan_cons, atO_some, then_true, safe_nil, safe_ne, safe_all, safeOp_eq, safe_load, safe_ia, av_mp, av_ip, av_sl, av_int, hoist_nil, hoist_alloc, hoist_skip, hoistT_some, kd_move, na_move, kd_assign, na_assign, kd_pick, na_pick, kd_bin, na_bin, kd_un, na_un, kd_load, na_load, kd_store, na_store, kd_fa, na_fa, kd_fld, na_fld, kd_ia, na_ia, kd_ix, na_ix, kd_ex, na_ex, kd_len, na_len, kd_box, na_box, Nat.reduceBNe, Nat.reduceEqDiff, bne_self_eq_false, kOps_nil, kOps_cons, kOps_guard, dst_mk, gvD_some, gvV_bool, gvV_tup, onG_yes, onG_no, onG_as, onB_bool, sw_true, sw_false, sw_not, bnd_some, bnd_none, vK_some, pK_some, kMove, kAssign, kPick, kBin, kUn, kConvert, kLoad, kStore, kField, kFieldAddr, kIndex, kIndexAddr, kExtract, extractT_tup, kAlloc, allocT_some, kBox, boxT_some, kMakeFunc, kCall, callV_fn, kBuiltin, onCall_some, onRes_some, oTmp, oInt, oBool, oStr, oNil, oFunc, put_some, put_none, isC_const, isC_tmp, bII, bneB, beqB, bSS, iEql, iNeq, iLss, iLeq, iGtr, iGeq, iAdd, iSub, sEql, sNeq, sLeq, uNot, load_ip, load_mp, loadT_one, loadT_agg, rowAt_row, cells_agg, cells_int, cells_str, cells_sl, fits_eq, one_int, one_bool, one_str, one_sl, one_nils, pure_int, pure_bool, pure_str, pure_sl, pure_mp, pure_ip, pure_nils, pure_nili, pure_fn, pure_agg, scalar_int, scalar_bool, natOf_nat, natOf_zero, len_call, len_sl, len_str, fa_eq, fld_ip, fld_mp, ia_sl, idxT_sl, idxSl_some, ix_str, idxT'_str, idxStr_some, sto_eq, sto_one, write_agg, write_int, write_str, write_bool, res_int, res_bool, res_str, res_sl, res_ip, res_agg, res_fn, res_mp, many_eq, depth_eq, mapO_nil, mapO_cons, consO_some, resP_eq, resPV_one, resPV_two, normO_some, n_bool, n_int, n_str, n_nils, n_z0, n_nili, n_agg, n_tup, n_sl, n_ip, n_fn, nL_nil, nL_cons, nInt, nPs, nTs, res_tup, resV_one, resV_two, rTmp, List.set_cons_succ, List.set_cons_zero, List.getD_cons_succ, List.getD_cons_zero, List.getElem?_cons_succ, List.getElem?_cons_zero, List.cons_append, List.nil_append, List.append_nil, List.length_cons, List.length_nil, Nat.reduceAdd, Nat.reduceSub, Nat.add_zero, Nat.zero_add, Nat.reduceLeDiff, Nat.lt_irrefl, Nat.le_refl, Nat.zero_le, List.replicate_succ, List.replicate_zero, List.map_cons, List.map_nil, List.all_cons, List.all_nil, List.take_succ_cons, List.take_zero, List.drop_succ_cons, List.drop_zero, List.take_nil, Bool.and_true, Bool.true_and, Bool.and_false, Bool.false_and, Bool.or_true, Bool.true_or, Bool.or_false, Bool.false_or, Option.map_some, Option.bind_some, reduceCtorEq, and_self, and_true, true_and, if_true, if_false, Bool.false_eq_true, Bool.not_true, Bool.not_false, beq_true, beq_false, Nat.lt_add_one, Nat.zero_lt_succ, Nat.reduceLT, decide_true, decide_false, ti3, ti4, ti5, ti9, ti22, ti24, ti28, ti33, ti40, ti42, ti54, fo24_0, fo24_1, fo42_0, fo42_1, fo42_2, fo42_3]
    | true =>
      have hT : typT t = tacc t t.ps.length ++ [125] := by unfold typT; rw [if_pos hk2]
      rw [hT]
      unfold keyF at hk2
      rw [pureF_K (pl := (fun (i : Nat) => (none : Option (List (Nat × List Nat))))) (n := 44) (rs := [.tmp 2, .tmp 3]) fn24 rfl rfl rfl (by kernel_rfl)]
      simp (implicitDefEqProofs := false) (dsimp := false) only [encT, encP, evCall_0 m13, p13' t ht, List.length_map, evCall_0 m32, p32, evCall_0 m43, hv, rCell, eq_self, cells_ms, cells_mp, cells_nils, cells_bool, sAdd, hz, hk2, w43, a0, bne_self_eq_false, bodyK_eq, cLoop, cSkip, cRegion, cSeq, cCond, cBlock, cExit, cRet, exitK_same, exitK_other, Nat.reduceBEq, reg_none, reg_some, plan_nil, plan_cons, atO_some, then_true, safe_nil, safe_ne, safe_all, safeOp_eq, safe_load, safe_ia, av_mp, av_ip, av_sl, av_int, hoist_nil, hoist_alloc, hoist_skip, hoistT_some, kd_move, na_move, kd_assign, na_assign, kd_pick, na_pick, kd_bin, na_bin, kd_un, na_un, kd_load, na_load, kd_store, na_store, kd_fa, na_fa, kd_fld, na_fld, kd_ia, na_ia, kd_ix, na_ix, kd_ex, na_ex, kd_len, na_len, kd_box, na_box, Nat.reduceBNe, Nat.reduceEqDiff, bne_self_eq_false, kOps_nil, kOps_cons, kOps_guard, dst_mk, gvD_some, gvV_bool, gvV_tup, onG_yes, onG_no, onG_as, onB_bool, sw_true, sw_false, sw_not, bnd_some, bnd_none, vK_some, pK_some, kMove, kAssign, kPick, kBin, kUn, kConvert, kLoad, kStore, kField, kFieldAddr, kIndex, kIndexAddr, kExtract, extractT_tup, kAlloc, allocT_some, kBox, boxT_some, kMakeFunc, kCall, callV_fn, kBuiltin, onCall_some, onRes_some, oTmp, oInt, oBool, oStr, oNil, oFunc, put_some, put_none, isC_const, isC_tmp, bII, bneB, beqB, bSS, iEql, iNeq, iLss, iLeq, iGtr, iGeq, iAdd, iSub, sEql, sNeq, sLeq, uNot, load_ip, load_mp, loadT_one, loadT_agg, rowAt_row, cells_agg, cells_int, cells_str, cells_sl, fits_eq, one_int, one_bool, one_str, one_sl, one_nils, pure_int, pure_bool, pure_str, pure_sl, pure_mp, pure_ip, pure_nils, pure_nili, pure_fn, pure_agg, scalar_int, scalar_bool, natOf_nat, natOf_zero, len_call, len_sl, len_str, fa_eq, fld_ip, fld_mp, ia_sl, idxT_sl, idxSl_some, ix_str, idxT'_str, idxStr_some, sto_eq, sto_one, write_agg, write_int, write_str, write_bool, res_int, res_bool, res_str, res_sl, res_ip, res_agg, res_fn, res_mp, many_eq, depth_eq, mapO_nil, mapO_cons, consO_some, resP_eq, resPV_one, resPV_two, normO_some, n_bool, n_int, n_str, n_nils, n_z0, n_nili, n_agg, n_tup, n_sl, n_ip, n_fn, nL_nil, nL_cons, nInt, nPs, nTs, res_tup, resV_one, resV_two, rTmp, List.set_cons_succ, List.set_cons_zero, List.getD_cons_succ, List.getD_cons_zero, List.getElem?_cons_succ, List.getElem?_cons_zero, List.cons_append, List.nil_append, List.append_nil, List.length_cons, List.length_nil, Nat.reduceAdd, Nat.reduceSub, Nat.add_zero, Nat.zero_add, Nat.reduceLeDiff, Nat.lt_irrefl, Nat.le_refl, Nat.zero_le, List.replicate_succ, List.replicate_zero, List.map_cons, List.map_nil, List.all_cons, List.all_nil, List.take_succ_cons, List.take_zero, List.drop_succ_cons, List.drop_zero, List.take_nil, Bool.and_true, Bool.true_and, Bool.and_false, Bool.false_and, Bool.or_true, Bool.true_or, Bool.or_false, Bool.false_or, Option.map_some, Option.bind_some, reduceCtorEq, and_self, and_true, true_and, if_true, if_false, Bool.false_eq_true, Bool.not_true, Bool.not_false, beq_true, beq_false, Nat.lt_add_one, Nat.zero_lt_succ, Nat.reduceLT, decide_true, decide_false, ti3, ti4, ti5, ti9, ti22, ti24, ti28, ti33, ti40, ti42, ti54, fo24_0, fo24_1, fo42_0, fo42_1, fo42_2, fo42_3]
      refine (loopAt_ind (pl := (fun (i : Nat) => (none : Option (List (Nat × List Nat))))) (an := ⟨[1, 5, 6], []⟩) rfl (by kernel_rfl) (fun i => ⟨[AV.undef, AV.mp 0 1 0 0, AV.undef, AV.undef, AV.undef, AV.str (tacc t i), AV.int .i64 (i : Int), AV.undef, AV.undef, AV.undef, AV.undef, AV.undef, AV.undef, AV.undef, AV.undef, AV.undef, AV.undef, AV.undef, AV.undef, AV.undef, AV.undef, AV.undef, AV.undef, AV.undef, AV.undef, AV.undef, AV.undef, AV.undef, AV.undef, AV.undef, AV.undef, AV.undef, AV.undef, AV.undef, AV.undef, AV.undef, AV.undef, AV.undef, AV.undef, AV.undef, AV.undef, AV.undef, AV.undef, AV.undef], [.row [.agg [.int .i64 t.kind, .sl (t.ps.map encP)]] 2 0 0]⟩) (fun i => (some (.tup [.str (tacc t t.ps.length ++ [125]), .int .i64 0]) : Option AV)) t.ps.length 1 (by rfl) (by rfl) ?_).trans ?_
      rotate_left
      · first | rfl | simp
      intro i hi kn' hk
      rcases Nat.lt_or_ge i t.ps.length with hlt | hge
      · have e1 : decide ((i : Int) < ((t.ps.length : Nat) : Int)) = true := by simpa using hlt
        obtain ⟨x, ha, d1, hx⟩ := dropAt (l := t.ps) (i := i) (by first | exact hlt | omega | simpa using hlt)
        have hw : (t.ps.map payT)[i]? = some (payT x) := by simp [ha]
        have gx := gd x hx
        have w44 := p44 x (ht.all x hx) gx
        have l1 := lt i (by omega)
        have l2 := payT_len gx.tag gx.six gx.eight
        have a1 : addT (tacc t i) [44, 32] = some (.str (tacc t i ++ [44, 32])) := addR _ _ (by simp; omega)
        have a2 : addT (tacc t i) (payT x) = some (.str (tacc t i ++ payT x)) := addR _ _ (by omega)
        have a3 : addT (tacc t i ++ [44, 32]) (payT x) = some (.str (tacc t i ++ [44, 32] ++ payT x)) := addR _ _ (by simp; omega)
        rcases acc_step (wordF t.kind ++ [123]) [44, 32] (t.ps.map payT) hw with ⟨e0, hs⟩ | ⟨e0, hs⟩
        all_goals
          have hs' := hs
          simp only [show ∀ j, accG (wordF t.kind ++ [123]) [44, 32] (t.ps.map payT) j = tacc t j from fun _ => rfl] at hs'
        all_goals
          simp (implicitDefEqProofs := false) (dsimp := false) only [e1, List.getElem?_map, List.length_map, ha, encP, evCall_0 m44, w44, a1, a2, a3, e0, hs', rCell, eq_self, cells_ms, cells_mp, cells_nils, cells_bool, sAdd, bodyK_eq, cLoop, cSkip, cRegion, cSeq, cCond, cBlock, cExit, cRet, exitK_same, exitK_other, Nat.reduceBEq, reg_none, reg_some, plan_nil, plan_cons, atO_some, then_true, safe_nil, safe_ne, safe_all, safeOp_eq, safe_load, safe_ia, av_mp, av_ip, av_sl, av_int, hoist_nil, hoist_alloc, hoist_skip, hoistT_some, kd_move, na_move, kd_assign, na_assign, kd_pick, na_pick, kd_bin, na_bin, kd_un, na_un, kd_load, na_load, kd_store, na_store, kd_fa, na_fa, kd_fld, na_fld, kd_ia, na_ia, kd_ix, na_ix, kd_ex, na_ex, kd_len, na_len, kd_box, na_box, Nat.reduceBNe, Nat.reduceEqDiff, bne_self_eq_false, kOps_nil, kOps_cons, kOps_guard, dst_mk, gvD_some, gvV_bool, gvV_tup, onG_yes, onG_no, onG_as, onB_bool, sw_true, sw_false, sw_not, bnd_some, bnd_none, vK_some, pK_some, kMove, kAssign, kPick, kBin, kUn, kConvert, kLoad, kStore, kField, kFieldAddr, kIndex, kIndexAddr, kExtract, extractT_tup, kAlloc, allocT_some, kBox, boxT_some, kMakeFunc, kCall, callV_fn, kBuiltin, onCall_some, onRes_some, oTmp, oInt, oBool, oStr, oNil, oFunc, put_some, put_none, isC_const, isC_tmp, bII, bneB, beqB, bSS, iEql, iNeq, iLss, iLeq, iGtr, iGeq, iAdd, iSub, sEql, sNeq, sLeq, uNot, load_ip, load_mp, loadT_one, loadT_agg, rowAt_row, cells_agg, cells_int, cells_str, cells_sl, fits_eq, one_int, one_bool, one_str, one_sl, one_nils, pure_int, pure_bool, pure_str, pure_sl, pure_mp, pure_ip, pure_nils, pure_nili, pure_fn, pure_agg, scalar_int, scalar_bool, natOf_nat, natOf_zero, len_call, len_sl, len_str, fa_eq, fld_ip, fld_mp, ia_sl, idxT_sl, idxSl_some, ix_str, idxT'_str, idxStr_some, sto_eq, sto_one, write_agg, write_int, write_str, write_bool, res_int, res_bool, res_str, res_sl, res_ip, res_agg, res_fn, res_mp, many_eq, depth_eq, mapO_nil, mapO_cons, consO_some, resP_eq, resPV_one, resPV_two, normO_some, n_bool, n_int, n_str, n_nils, n_z0, n_nili, n_agg, n_tup, n_sl, n_ip, n_fn, nL_nil, nL_cons, nInt, nPs, nTs, res_tup, resV_one, resV_two, rTmp, List.set_cons_succ, List.set_cons_zero, List.getD_cons_succ, List.getD_cons_zero, List.getElem?_cons_succ, List.getElem?_cons_zero, List.cons_append, List.nil_append, List.append_nil, List.length_cons, List.length_nil, Nat.reduceAdd, Nat.reduceSub, Nat.add_zero, Nat.zero_add, Nat.reduceLeDiff, Nat.lt_irrefl, Nat.le_refl, Nat.zero_le, List.replicate_succ, List.replicate_zero, List.map_cons, List.map_nil, List.all_cons, List.all_nil, List.take_succ_cons, List.take_zero, List.drop_succ_cons, List.drop_zero, List.take_nil, Bool.and_true, Bool.true_and, Bool.and_false, Bool.false_and, Bool.or_true, Bool.true_or, Bool.or_false, Bool.false_or, Option.map_some, Option.bind_some, reduceCtorEq, and_self, and_true, true_and, if_true, if_false, Bool.false_eq_true, Bool.not_true, Bool.not_false, beq_true, beq_false, Nat.lt_add_one, Nat.zero_lt_succ, Nat.reduceLT, decide_true, decide_false, ti3, ti4, ti5, ti9, ti22, ti24, ti28, ti33, ti40, ti42, ti54, fo24_0, fo24_1, fo42_0, fo42_1, fo42_2, fo42_3]
        all_goals exact hk hlt _ (normSt_mk (by simp only [wrapI hlt ht.ps]; rfl) rfl)
      · have e1 : decide ((i : Int) < ((t.ps.length : Nat) : Int)) = false := by simp; omega
        obtain rfl : i = t.ps.length := by omega
        have l1 := lt t.ps.length h8
        have b1 : addT (tacc t t.ps.length) [125] = some (.str (tacc t t.ps.length ++ [125])) := addR _ _ (by simp; omega)
        simp (implicitDefEqProofs := false) (dsimp := false) only [e1, List.length_map, b1, rCell, eq_self, cells_ms, cells_mp, cells_nils, cells_bool, sAdd, bodyK_eq, cLoop, cSkip, cRegion, cSeq, cCond, cBlock, cExit, cRet, exitK_same, exitK_other, Nat.reduceBEq, reg_none, reg_some, plan_nil, plan_cons, atO_some, then_true, safe_nil, safe_ne, safe_all, safeOp_eq, safe_load, safe_ia, av_mp, av_ip, av_sl, av_int, hoist_nil, hoist_alloc, hoist_skip, hoistT_some, kd_move, na_move, kd_assign, na_assign, kd_pick, na_pick, kd_bin, na_bin, kd_un, na_un, kd_load, na_load, kd_store, na_store, kd_fa, na_fa, kd_fld, na_fld, kd_ia, na_ia, kd_ix, na_ix, kd_ex, na_ex, kd_len, na_len, kd_box, na_box, Nat.reduceBNe, Nat.reduceEqDiff, bne_self_eq_false, kOps_nil, kOps_cons, kOps_guard, dst_mk, gvD_some, gvV_bool, gvV_tup, onG_yes, onG_no, onG_as, onB_bool, sw_true, sw_false, sw_not, bnd_some, bnd_none, vK_some, pK_some, kMove, kAssign, kPick, kBin, kUn, kConvert, kLoad, kStore, kField, kFieldAddr, kIndex, kIndexAddr, kExtract, extractT_tup, kAlloc, allocT_some, kBox, boxT_some, kMakeFunc, kCall, callV_fn, kBuiltin, onCall_some, onRes_some, oTmp, oInt, oBool, oStr, oNil, oFunc, put_some, put_none, isC_const, isC_tmp, bII, bneB, beqB, bSS, iEql, iNeq, iLss, iLeq, iGtr, iGeq, iAdd, iSub, sEql, sNeq, sLeq, uNot, load_ip, load_mp, loadT_one, loadT_agg, rowAt_row, cells_agg, cells_int, cells_str, cells_sl, fits_eq, one_int, one_bool, one_str, one_sl, one_nils, pure_int, pure_bool, pure_str, pure_sl, pure_mp, pure_ip, pure_nils, pure_nili, pure_fn, pure_agg, scalar_int, scalar_bool, natOf_nat, natOf_zero, len_call, len_sl, len_str, fa_eq, fld_ip, fld_mp, ia_sl, idxT_sl, idxSl_some, ix_str, idxT'_str, idxStr_some, sto_eq, sto_one, write_agg, write_int, write_str, write_bool, res_int, res_bool, res_str, res_sl, res_ip, res_agg, res_fn, res_mp, many_eq, depth_eq, mapO_nil, mapO_cons, consO_some, resP_eq, resPV_one, resPV_two, normO_some, n_bool, n_int, n_str, n_nils, n_z0, n_nili, n_agg, n_tup, n_sl, n_ip, n_fn, nL_nil, nL_cons, nInt, nPs, nTs, res_tup, resV_one, resV_two, rTmp, List.set_cons_succ, List.set_cons_zero, List.getD_cons_succ, List.getD_cons_zero, List.getElem?_cons_succ, List.getElem?_cons_zero, List.cons_append, List.nil_append, List.append_nil, List.length_cons, List.length_nil, Nat.reduceAdd, Nat.reduceSub, Nat.add_zero, Nat.zero_add, Nat.reduceLeDiff, Nat.lt_irrefl, Nat.le_refl, Nat.zero_le, List.replicate_succ, List.replicate_zero, List.map_cons, List.map_nil, List.all_cons, List.all_nil, List.take_succ_cons, List.take_zero, List.drop_succ_cons, List.drop_zero, List.take_nil, Bool.and_true, Bool.true_and, Bool.and_false, Bool.false_and, Bool.or_true, Bool.true_or, Bool.or_false, Bool.false_or, Option.map_some, Option.bind_some, reduceCtorEq, and_self, and_true, true_and, if_true, if_false, Bool.false_eq_true, Bool.not_true, Bool.not_false, beq_true, beq_false, Nat.lt_add_one, Nat.zero_lt_succ, Nat.reduceLT, decide_true, decide_false, ti3, ti4, ti5, ti9, ti22, ti24, ti28, ti33, ti40, ti42, ti54, fo24_0, fo24_1, fo42_0, fo42_1, fo42_2, fo42_3]
end Go.EV.Lv
