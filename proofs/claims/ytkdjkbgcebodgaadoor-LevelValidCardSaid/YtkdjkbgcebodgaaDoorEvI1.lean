/-
  Functions of the layer, one after another: what each hands back, as a plain function of its arguments.
-/
import Derived.Test.YtkdjkbgcebodgaaDoorEvH9A
import Derived.Test.YtkdjkbgcebodgaaDoorEvH9B
import Derived.Test.YtkdjkbgcebodgaaDoorEvH9C
set_option linter.unusedSimpArgs false
set_option linter.unusedVariables false
namespace Go.EV.Lv
open Go Go.EV Go.Proofs
set_option maxRecDepth 100000
theorem join_cons (sep a b : List UInt8) (l : List (List UInt8)) : Lib.join (a :: b :: l) sep = a ++ sep ++ Lib.join (b :: l) sep := by
  simp [Lib.join, List.intercalate, List.intersperse]
theorem RP_join (tl : List UInt8) : ∀ l : List Int, l ≠ [] → Lib.join (l.map wordF) [44, 32] ++ 41 :: tl = RP l tl
  | [], h => absurd rfl h
  | [k], _ => by simp [Lib.join, List.intercalate, RP]
  | k :: k' :: l, _ => by
    have ih := RP_join tl (k' :: l) (by simp)
    have e : RP (k :: k' :: l) tl = wordF k ++ 44 :: 32 :: RP (k' :: l) tl := rfl
    rw [e, ← ih, List.map_cons, List.map_cons, join_cons]
    simp
theorem RD_join (tl : List UInt8) : ∀ l : List Int, Lib.join (l.map dig) [32] ++ 93 :: tl = RD l tl
  | [] => rfl
  | [k] => by simp [Lib.join, List.intercalate, RD]
  | k :: k' :: l => by
    have ih := RD_join tl (k' :: l)
    have e : RD (k :: k' :: l) tl = dig k ++ 32 :: RD (k' :: l) tl := rfl
    rw [e, ← ih, List.map_cons, List.map_cons, join_cons]
    simp
theorem pacc_all (p : Pl) : pacc p p.parts.length = p.tag ++ [40] ++ Lib.join (p.parts.map wordF) [44, 32] := by
  have h1 := acc_all (p.tag ++ [40]) [44, 32] (pws p)
  unfold pacc
  rw [show p.parts.length = (pws p).length by simp [pws], h1]
  rfl
theorem dacc_all (p : Pl) : dacc p p.data.length = dbase p ++ Lib.join (p.data.map dig) [32] := by
  have h1 := acc_all (dbase p) [32] (dws p)
  unfold dacc
  rw [show p.data.length = (dws p).length by simp [dws], h1]
  rfl
theorem read_neg {p : Pl} (g : Good p) (h : p.goal < 0) (tl : List UInt8) : payT p ++ tl = p.tag ++ 40 :: RP p.parts tl := by
  unfold payT
  rw [if_pos h, pacc_all, ← RP_join tl p.parts (by intro e; have := g.pos; rw [e] at this; simp at this)]
  simp
theorem read_pos {p : Pl} (g : Good p) (h : 0 ≤ p.goal) (tl : List UInt8) : payT p ++ tl = p.tag ++ 40 :: RP p.parts (32 :: 35 :: (dig p.goal ++ 91 :: RD p.data tl)) := by
  unfold payT
  rw [if_neg (by omega), dacc_all, ← RP_join _ p.parts (by intro e; have := g.pos; rw [e] at this; simp at this), ← RD_join]
  unfold dbase
  rw [pacc_all]
  simp
theorem iOver (l : List Int) (n : Nat) : (l.map encInt).all (AV.over n) = true := by simp [AV.over]
theorem iPure (l : List Int) : (l.map encInt).all AV.isPure = true := by simp [AV.isPure]
theorem takeI (l : List Int) : List.take l.length (List.map encInt l) = List.map encInt l := List.take_of_length_le (by simp)
theorem frozen_eq {n : Nat} {hp : Heap} {r : AV} (h1 : r.over n = true) (h2 : (hp.drop n).all (HB.over n) = true) (h3 : (hp.take n).all (HB.under n) = true) : frozen n hp r = normO (resolve (List.replicate n (HB.sit [] 0) ++ hp.drop n) depth r) := by
  unfold frozen normO
  rw [if_pos (by simp only [h1, h2, h3, Bool.and_self])]
theorem res_nils {hp : Heap} {d : Nat} : resolve hp (d + 1) .nils = some (.sl []) := by simp [resolve]
theorem p50 (p : Pl) (hp : p.ok) (g : Good p) (nm : nameF p.tag = true) (d : UInt8) (r : List UInt8) (hd : d = 44 ∨ d = 125) (hr : asc r) (x0 x2 x3 : HB) (u0 : ∀ n, 4 ≤ n → x0.under n = true) (u2 : ∀ n, 4 ≤ n → x2.under n = true) (u3 : ∀ n, 4 ≤ n → x3.under n = true) :
    evCall E (callW E) [x0, .row [.agg [.str (payT p ++ d :: r)]] 1 1 0, x2, x3] 50 [.mp 1 1 0 0] = some (.tup [.agg [.str p.tag, .sl (p.parts.map encInt), .int .i64 p.goal, .sl (p.data.map encInt)], .bool true], [x0, .row [.agg [.str (d :: r)]] 1 1 0, x2, x3]) := by
  have i1 := iPure p.parts
  have i2 := iPure p.data
  have t1 := takeI p.parts
  have t2 := takeI p.data
  rcases (show p.goal < 0 ∨ 0 ≤ p.goal by omega) with hg | hg
  · have hdn := g.none hg
    have hgm : p.goal = -1 := by have := g.goal; omega
    have hrd := read_neg g hg (d :: r)
    have w := p50A p hp g nm hg d r hd hr x0 x2 x3 u0 u2 u3
    rw [hrd, evCall_3 m50, w]
    simp only [List.length_cons, List.length_nil, Nat.reduceAdd, Nat.zero_add]
    rw [frozen_eq (by rfl) (by simp only [List.drop_succ_cons, List.drop_zero, List.all_cons, List.all_nil, Bool.and_true, Bool.true_and]; simp only [HB.over, iOver, Bool.and_true]; rfl) (by simp only [List.take_succ_cons, List.take_zero, List.all_cons, List.all_nil, u0 4 (by decide), u2 4 (by decide), u3 4 (by decide), Bool.and_true, Bool.true_and]; rfl)]
    simp (implicitDefEqProofs := false) (dsimp := false) only [i1, i2, t1, t2, hdn, hgm, List.map_nil, res_ms, res_nils, pure_ms, eq_self, bodyK_eq, cLoop, cSkip, cRegion, cSeq, cCond, cBlock, cExit, cRet, exitK_same, exitK_other, Nat.reduceBEq, reg_none, reg_some, plan_nil, plan_cons, atO_some, then_true, safe_nil, safe_ne, safe_all, safeOp_eq, safe_load, safe_ia, av_mp, av_ip, av_sl, av_int, hoist_nil, hoist_alloc, hoist_skip, hoistT_some, kd_move, na_move, kd_assign, na_assign, kd_pick, na_pick, kd_bin, na_bin, kd_un, na_un, kd_load, na_load, kd_store, na_store, kd_fa, na_fa, kd_fld, na_fld, kd_ia, na_ia, kd_ix, na_ix, kd_ex, na_ex, kd_len, na_len, kd_box, na_box, Nat.reduceBNe, Nat.reduceEqDiff, bne_self_eq_false, kOps_nil, kOps_cons, kOps_guard, dst_mk, gvD_some, gvV_bool, gvV_tup, onG_yes, onG_no, onG_as, onB_bool, sw_true, sw_false, sw_not, bnd_some, bnd_none, vK_some, pK_some, kMove, kAssign, kPick, kBin, kUn, kConvert, kLoad, kStore, kField, kFieldAddr, kIndex, kIndexAddr, kExtract, extractT_tup, kAlloc, allocT_some, kBox, boxT_some, kMakeFunc, kCall, callV_fn, kBuiltin, onCall_some, onRes_some, oTmp, oInt, oBool, oStr, oNil, oFunc, put_some, put_none, isC_const, isC_tmp, bII, bneB, beqB, bSS, iEql, iNeq, iLss, iLeq, iGtr, iGeq, iAdd, iSub, sEql, sNeq, sLeq, uNot, load_ip, load_mp, loadT_one, loadT_agg, rowAt_row, cells_agg, cells_int, cells_str, cells_sl, fits_eq, one_int, one_bool, one_str, one_sl, one_nils, pure_int, pure_bool, pure_str, pure_sl, pure_mp, pure_ip, pure_nils, pure_nili, pure_fn, pure_agg, scalar_int, scalar_bool, natOf_nat, natOf_zero, len_call, len_sl, len_str, fa_eq, fld_ip, fld_mp, ia_sl, idxT_sl, idxSl_some, ix_str, idxT'_str, idxStr_some, sto_eq, sto_one, write_agg, write_int, write_str, write_bool, res_int, res_bool, res_str, res_sl, res_ip, res_agg, res_fn, res_mp, many_eq, depth_eq, mapO_nil, mapO_cons, consO_some, resP_eq, resPV_one, resPV_two, normO_some, n_bool, n_int, n_str, n_nils, n_z0, n_nili, n_agg, n_tup, n_sl, n_ip, n_fn, nL_nil, nL_cons, nInt, nPs, nTs, res_tup, resV_one, resV_two, rTmp, List.set_cons_succ, List.set_cons_zero, List.getD_cons_succ, List.getD_cons_zero, List.getElem?_cons_succ, List.getElem?_cons_zero, List.cons_append, List.nil_append, List.append_nil, List.length_cons, List.length_nil, Nat.reduceAdd, Nat.reduceSub, Nat.add_zero, Nat.zero_add, Nat.reduceLeDiff, Nat.lt_irrefl, Nat.le_refl, Nat.zero_le, List.replicate_succ, List.replicate_zero, List.map_cons, List.map_nil, List.all_cons, List.all_nil, List.take_succ_cons, List.take_zero, List.drop_succ_cons, List.drop_zero, List.take_nil, Bool.and_true, Bool.true_and, Bool.and_false, Bool.false_and, Bool.or_true, Bool.true_or, Bool.or_false, Bool.false_or, Option.map_some, Option.bind_some, reduceCtorEq, and_self, and_true, true_and, if_true, if_false, Bool.false_eq_true, Bool.not_true, Bool.not_false, beq_true, beq_false, Nat.lt_add_one, Nat.zero_lt_succ, Nat.reduceLT, decide_true, decide_false, ti3, ti4, ti5, ti9, ti22, ti24, ti28, ti33, ti40, ti42, ti54, fo24_0, fo24_1, fo42_0, fo42_1, fo42_2, fo42_3]
  · have hrd := read_pos g hg (d :: r)
    by_cases hdn : p.data = []
    · have w := p50B p hp g nm hg d r hd hr x0 x2 x3 u0 u2 u3
      rw [hdn] at hrd
      simp only [RD] at hrd
      rw [hrd, evCall_3 m50, w]
      simp only [List.length_cons, List.length_nil, Nat.reduceAdd, Nat.zero_add]
      rw [frozen_eq (by rfl) (by simp only [List.drop_succ_cons, List.drop_zero, List.all_cons, List.all_nil, Bool.and_true, Bool.true_and]; simp only [HB.over, iOver, Bool.and_true]; rfl) (by simp only [List.take_succ_cons, List.take_zero, List.all_cons, List.all_nil, u0 4 (by decide), u2 4 (by decide), u3 4 (by decide), Bool.and_true, Bool.true_and]; rfl)]
      simp (implicitDefEqProofs := false) (dsimp := false) only [i1, i2, t1, t2, hdn, List.map_nil, res_ms, res_nils, pure_ms, eq_self, bodyK_eq, cLoop, cSkip, cRegion, cSeq, cCond, cBlock, cExit, cRet, exitK_same, exitK_other, Nat.reduceBEq, reg_none, reg_some, plan_nil, plan_cons, atO_some, then_true, safe_nil, safe_ne, safe_all, safeOp_eq, safe_load, safe_ia, av_mp, av_ip, av_sl, av_int, hoist_nil, hoist_alloc, hoist_skip, hoistT_some, kd_move, na_move, kd_assign, na_assign, kd_pick, na_pick, kd_bin, na_bin, kd_un, na_un, kd_load, na_load, kd_store, na_store, kd_fa, na_fa, kd_fld, na_fld, kd_ia, na_ia, kd_ix, na_ix, kd_ex, na_ex, kd_len, na_len, kd_box, na_box, Nat.reduceBNe, Nat.reduceEqDiff, bne_self_eq_false, kOps_nil, kOps_cons, kOps_guard, dst_mk, gvD_some, gvV_bool, gvV_tup, onG_yes, onG_no, onG_as, onB_bool, sw_true, sw_false, sw_not, bnd_some, bnd_none, vK_some, pK_some, kMove, kAssign, kPick, kBin, kUn, kConvert, kLoad, kStore, kField, kFieldAddr, kIndex, kIndexAddr, kExtract, extractT_tup, kAlloc, allocT_some, kBox, boxT_some, kMakeFunc, kCall, callV_fn, kBuiltin, onCall_some, onRes_some, oTmp, oInt, oBool, oStr, oNil, oFunc, put_some, put_none, isC_const, isC_tmp, bII, bneB, beqB, bSS, iEql, iNeq, iLss, iLeq, iGtr, iGeq, iAdd, iSub, sEql, sNeq, sLeq, uNot, load_ip, load_mp, loadT_one, loadT_agg, rowAt_row, cells_agg, cells_int, cells_str, cells_sl, fits_eq, one_int, one_bool, one_str, one_sl, one_nils, pure_int, pure_bool, pure_str, pure_sl, pure_mp, pure_ip, pure_nils, pure_nili, pure_fn, pure_agg, scalar_int, scalar_bool, natOf_nat, natOf_zero, len_call, len_sl, len_str, fa_eq, fld_ip, fld_mp, ia_sl, idxT_sl, idxSl_some, ix_str, idxT'_str, idxStr_some, sto_eq, sto_one, write_agg, write_int, write_str, write_bool, res_int, res_bool, res_str, res_sl, res_ip, res_agg, res_fn, res_mp, many_eq, depth_eq, mapO_nil, mapO_cons, consO_some, resP_eq, resPV_one, resPV_two, normO_some, n_bool, n_int, n_str, n_nils, n_z0, n_nili, n_agg, n_tup, n_sl, n_ip, n_fn, nL_nil, nL_cons, nInt, nPs, nTs, res_tup, resV_one, resV_two, rTmp, List.set_cons_succ, List.set_cons_zero, List.getD_cons_succ, List.getD_cons_zero, List.getElem?_cons_succ, List.getElem?_cons_zero, List.cons_append, List.nil_append, List.append_nil, List.length_cons, List.length_nil, Nat.reduceAdd, Nat.reduceSub, Nat.add_zero, Nat.zero_add, Nat.reduceLeDiff, Nat.lt_irrefl, Nat.le_refl, Nat.zero_le, List.replicate_succ, List.replicate_zero, List.map_cons, List.map_nil, List.all_cons, List.all_nil, List.take_succ_cons, List.take_zero, List.drop_succ_cons, List.drop_zero, List.take_nil, Bool.and_true, Bool.true_and, Bool.and_false, Bool.false_and, Bool.or_true, Bool.true_or, Bool.or_false, Bool.false_or, Option.map_some, Option.bind_some, reduceCtorEq, and_self, and_true, true_and, if_true, if_false, Bool.false_eq_true, Bool.not_true, Bool.not_false, beq_true, beq_false, Nat.lt_add_one, Nat.zero_lt_succ, Nat.reduceLT, decide_true, decide_false, ti3, ti4, ti5, ti9, ti22, ti24, ti28, ti33, ti40, ti42, ti54, fo24_0, fo24_1, fo42_0, fo42_1, fo42_2, fo42_3]
    · have w := p50C p hp g nm hg hdn d r hd hr x0 x2 x3 u0 u2 u3
      rw [hrd, evCall_3 m50, w]
      simp only [List.length_cons, List.length_nil, Nat.reduceAdd, Nat.zero_add]
      rw [frozen_eq (by rfl) (by simp only [List.drop_succ_cons, List.drop_zero, List.all_cons, List.all_nil, Bool.and_true, Bool.true_and]; simp only [HB.over, iOver, Bool.and_true]; rfl) (by simp only [List.take_succ_cons, List.take_zero, List.all_cons, List.all_nil, u0 4 (by decide), u2 4 (by decide), u3 4 (by decide), Bool.and_true, Bool.true_and]; rfl)]
      simp (implicitDefEqProofs := false) (dsimp := false) only [i1, i2, t1, t2, List.map_nil, res_ms, res_nils, pure_ms, eq_self, bodyK_eq, cLoop, cSkip, cRegion, cSeq, cCond, cBlock, cExit, cRet, exitK_same, exitK_other, Nat.reduceBEq, reg_none, reg_some, plan_nil, plan_cons, atO_some, then_true, safe_nil, safe_ne, safe_all, safeOp_eq, safe_load, safe_ia, av_mp, av_ip, av_sl, av_int, hoist_nil, hoist_alloc, hoist_skip, hoistT_some, kd_move, na_move, kd_assign, na_assign, kd_pick, na_pick, kd_bin, na_bin, kd_un, na_un, kd_load, na_load, kd_store, na_store, kd_fa, na_fa, kd_fld, na_fld, kd_ia, na_ia, kd_ix, na_ix, kd_ex, na_ex, kd_len, na_len, kd_box, na_box, Nat.reduceBNe, Nat.reduceEqDiff, bne_self_eq_false, kOps_nil, kOps_cons, kOps_guard, dst_mk, gvD_some, gvV_bool, gvV_tup, onG_yes, onG_no, onG_as, onB_bool, sw_true, sw_false, sw_not, bnd_some, bnd_none, vK_some, pK_some, kMove, kAssign, kPick, kBin, kUn, kConvert, kLoad, kStore, kField, kFieldAddr, kIndex, kIndexAddr, kExtract, extractT_tup, kAlloc, allocT_some, kBox, boxT_some, kMakeFunc, kCall, callV_fn, kBuiltin, onCall_some, onRes_some, oTmp, oInt, oBool, oStr, oNil, oFunc, put_some, put_none, isC_const, isC_tmp, bII, bneB, beqB, bSS, iEql, iNeq, iLss, iLeq, iGtr, iGeq, iAdd, iSub, sEql, sNeq, sLeq, uNot, load_ip, load_mp, loadT_one, loadT_agg, rowAt_row, cells_agg, cells_int, cells_str, cells_sl, fits_eq, one_int, one_bool, one_str, one_sl, one_nils, pure_int, pure_bool, pure_str, pure_sl, pure_mp, pure_ip, pure_nils, pure_nili, pure_fn, pure_agg, scalar_int, scalar_bool, natOf_nat, natOf_zero, len_call, len_sl, len_str, fa_eq, fld_ip, fld_mp, ia_sl, idxT_sl, idxSl_some, ix_str, idxT'_str, idxStr_some, sto_eq, sto_one, write_agg, write_int, write_str, write_bool, res_int, res_bool, res_str, res_sl, res_ip, res_agg, res_fn, res_mp, many_eq, depth_eq, mapO_nil, mapO_cons, consO_some, resP_eq, resPV_one, resPV_two, normO_some, n_bool, n_int, n_str, n_nils, n_z0, n_nili, n_agg, n_tup, n_sl, n_ip, n_fn, nL_nil, nL_cons, nInt, nPs, nTs, res_tup, resV_one, resV_two, rTmp, List.set_cons_succ, List.set_cons_zero, List.getD_cons_succ, List.getD_cons_zero, List.getElem?_cons_succ, List.getElem?_cons_zero, List.cons_append, List.nil_append, List.append_nil, List.length_cons, List.length_nil, Nat.reduceAdd, Nat.reduceSub, Nat.add_zero, Nat.zero_add, Nat.reduceLeDiff, Nat.lt_irrefl, Nat.le_refl, Nat.zero_le, List.replicate_succ, List.replicate_zero, List.map_cons, List.map_nil, List.all_cons, List.all_nil, List.take_succ_cons, List.take_zero, List.drop_succ_cons, List.drop_zero, List.take_nil, Bool.and_true, Bool.true_and, Bool.and_false, Bool.false_and, Bool.or_true, Bool.true_or, Bool.or_false, Bool.false_or, Option.map_some, Option.bind_some, reduceCtorEq, and_self, and_true, true_and, if_true, if_false, Bool.false_eq_true, Bool.not_true, Bool.not_false, beq_true, beq_false, Nat.lt_add_one, Nat.zero_lt_succ, Nat.reduceLT, decide_true, decide_false, ti3, ti4, ti5, ti9, ti22, ti24, ti28, ti33, ti40, ti42, ti54, fo24_0, fo24_1, fo42_0, fo42_1, fo42_2, fo42_3]
end Go.EV.Lv
