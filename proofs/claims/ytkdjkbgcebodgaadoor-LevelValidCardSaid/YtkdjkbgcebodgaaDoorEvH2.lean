/-
  Functions of the layer, one after another: what each hands back, as a plain function of its arguments.
-/
import Derived.Test.YtkdjkbgcebodgaaDoorEvH1
set_option linter.unusedSimpArgs false
set_option linter.unusedVariables false
namespace Go.EV.Lv
open Go Go.EV Go.Proofs
set_option maxRecDepth 100000
def addT (a b : List UInt8) : Option AV := strBin .add a b
theorem sAdd {a b : List UInt8} : strBin .add a b = addT a b := rfl
theorem addR (a b : List UInt8) (h : a.length + b.length ≤ 1000000) : addT a b = some (.str (a ++ b)) := by
  unfold addT strBin
  simp only
  rw [if_pos (by omega)]
def pws (p : Pl) : List (List UInt8) := p.parts.map wordF
def pacc (p : Pl) (i : Nat) : List UInt8 := accG (p.tag ++ [40]) [44, 32] (pws p) i
def dws (p : Pl) : List (List UInt8) := p.data.map dig
def dbase (p : Pl) : List UInt8 := pacc p p.parts.length ++ [41] ++ [32, 35] ++ dig p.goal ++ [91]
def dacc (p : Pl) (i : Nat) : List UInt8 := accG (dbase p) [32] (dws p) i
def payT (p : Pl) : List UInt8 := if p.goal < 0 then pacc p p.parts.length ++ [41] else dacc p p.data.length ++ [93]
theorem pacc_len {p : Pl} (ht : p.tag.length ≤ 24) {i : Nat} (hi : i ≤ 6) : (pacc p i).length ≤ 73 := by
  have := acc_len (p.tag ++ [40]) [44, 32] (pws p) 6 (by intro w hw; simp only [pws, List.mem_map] at hw; obtain ⟨k, _, rfl⟩ := hw; exact word_len k) i
  unfold pacc
  simp only [List.length_append, List.length_cons, List.length_nil] at this
  omega
theorem dbase_len {p : Pl} (ht : p.tag.length ≤ 24) (h6 : p.parts.length ≤ 6) : (dbase p).length ≤ 78 := by
  have := pacc_len ht h6
  unfold dbase
  simp only [List.length_append, List.length_cons, List.length_nil, dig_len]
  omega
theorem dacc_len {p : Pl} (ht : p.tag.length ≤ 24) (h6 : p.parts.length ≤ 6) {i : Nat} (hi : i ≤ 8) : (dacc p i).length ≤ 94 := by
  have h1 := dbase_len ht h6
  have := acc_len (dbase p) [32] (dws p) 1 (by intro w hw; simp only [dws, List.mem_map] at hw; obtain ⟨k, _, rfl⟩ := hw; exact Nat.le_of_eq (dig_len k)) i
  unfold dacc
  simp only [List.length_cons, List.length_nil] at this
  omega
theorem payT_len {p : Pl} (ht : p.tag.length ≤ 24) (h6 : p.parts.length ≤ 6) (h8 : p.data.length ≤ 8) : (payT p).length ≤ 95 := by
  have h1 := pacc_len ht h6
  have h2 := dacc_len ht h6 h8
  unfold payT
  split <;> simp only [List.length_append, List.length_cons, List.length_nil] <;> omega
structure Good (p : Pl) : Prop where
  ne : p.tag ≠ []
  tag : p.tag.length ≤ 24
  chars : p.tag.all okR = true
  pos : 1 ≤ p.parts.length
  six : p.parts.length ≤ 6
  eight : p.data.length ≤ 8
  parts : ∀ k ∈ p.parts, k = 1 ∨ k = 2 ∨ k = 6
  data : ∀ d ∈ p.data, 0 ≤ d ∧ d ≤ 7
  goal : -1 ≤ p.goal ∧ p.goal ≤ 7
  none : p.goal < 0 → p.data = []
theorem good_of {p : Pl} (h : rangesF p = true) (hn : nameR p.tag = true) : Good p := by
  unfold rangesF at h
  simp [kindF, datF] at h
  have hn' : p.tag ≠ [] ∧ p.tag.length ≤ 24 ∧ p.tag.all okR = true := by
    cases ht : p.tag with
    | nil => rw [ht] at hn; simp [nameR] at hn
    | cons c r =>
      rw [ht] at hn
      unfold nameR at hn
      simp only [Bool.and_eq_true, Bool.not_eq_true', decide_eq_false_iff_not] at hn
      refine ⟨by simp, by have := hn.1; omega, hn.2.2⟩
  obtain ⟨⟨k1, k2, k3, k4, k5, k6⟩, k7, k8⟩ := h
  have h6 : p.parts.length ≤ 6 := by omega
  have hb : p.parts.length + 1 ≤ big := by simp [big]; omega
  have h2 : IntKind.wrap .i64 ((p.parts.length : Int) + 1) = ((p.parts.length + 1 : Nat) : Int) := wrapI (Nat.lt_succ_self _) hb
  refine ⟨hn'.1, hn'.2.1, hn'.2.2, by omega, h6, by omega, k7, fun d hd => ?_, by omega, fun hg => ?_⟩
  · have h1 := k8 d hd
    rw [h2] at h1
    omega
  · rcases k6 with k6 | k6
    · omega
    · exact k6
theorem fn44 : E.fn 44 = some Tryd.f44 := by kernel_rfl
theorem m44 : E.mode 44 = 0 := by kernel_rfl
theorem p44 (p : Pl) (hp : p.ok) (g : Good p) : pureF (callW E) 44 [.agg [.str p.tag, .sl (p.parts.map encInt), .int .i64 p.goal, .sl (p.data.map encInt)]] = some (.str (payT p)) := by
  have a0 : addT p.tag [40] = some (.str (p.tag ++ [40])) := addR _ _ (by have := g.tag; simp; omega)
  have lp := fun i hi => pacc_len (p := p) g.tag (i := i) hi
  rw [pureF_K (pl := (fun (i : Nat) => (none : Option (List (Nat × List Nat))))) (n := 62) (rs := [.tmp 2]) fn44 rfl rfl rfl (by kernel_rfl)]
  simp (implicitDefEqProofs := false) (dsimp := false) only [encP, List.length_map, a0, rCell, eq_self, cells_ms, cells_mp, cells_nils, cells_bool, sAdd, bodyK_eq, cLoop, cSkip, cRegion, cSeq, cCond, cBlock, cExit, cRet, exitK_same, exitK_other, Nat.reduceBEq, reg_none, reg_some, plan_nil, plan_cons, atO_some, then_true, safe_nil, safe_ne, safe_all, safeOp_eq, safe_load, safe_ia, av_mp, av_ip, av_sl, av_int, hoist_nil, hoist_alloc, hoist_skip, hoistT_some, kd_move, na_move, kd_assign, na_assign, kd_pick, na_pick, kd_bin, na_bin, kd_un, na_un, kd_load, na_load, kd_store, na_store, kd_fa, na_fa, kd_fld, na_fld, kd_ia, na_ia, kd_ix, na_ix, kd_ex, na_ex, kd_len, na_len, kd_box, na_box, Nat.reduceBNe, Nat.reduceEqDiff, bne_self_eq_false, kOps_nil, kOps_cons, kOps_guard, dst_mk, gvD_some, gvV_bool, gvV_tup, onG_yes, onG_no, onG_as, onB_bool, sw_true, sw_false, sw_not, bnd_some, bnd_none, vK_some, pK_some, kMove, kAssign, kPick, kBin, kUn, kConvert, kLoad, kStore, kField, kFieldAddr, kIndex, kIndexAddr, kExtract, extractT_tup, kAlloc, allocT_some, kBox, boxT_some, kMakeFunc, kCall, callV_fn, kBuiltin, onCall_some, onRes_some, oTmp, oInt, oBool, oStr, oNil, oFunc, put_some, put_none, isC_const, isC_tmp, bII, bneB, beqB, bSS, iEql, iNeq, iLss, iLeq, iGtr, iGeq, iAdd, iSub, sEql, sNeq, sLeq, uNot, load_ip, load_mp, loadT_one, loadT_agg, rowAt_row, cells_agg, cells_int, cells_str, cells_sl, fits_eq, one_int, one_bool, one_str, one_sl, one_nils, pure_int, pure_bool, pure_str, pure_sl, pure_mp, pure_ip, pure_nils, pure_nili, pure_fn, pure_agg, scalar_int, scalar_bool, natOf_nat, natOf_zero, len_call, len_sl, len_str, fa_eq, fld_ip, fld_mp, ia_sl, idxT_sl, idxSl_some, ix_str, idxT'_str, idxStr_some, sto_eq, sto_one, write_agg, write_int, write_str, write_bool, res_int, res_bool, res_str, res_sl, res_ip, res_agg, res_fn, res_mp, many_eq, depth_eq, mapO_nil, mapO_cons, consO_some, resP_eq, resPV_one, resPV_two, normO_some, n_bool, n_int, n_str, n_nils, n_z0, n_nili, n_agg, n_tup, n_sl, n_ip, n_fn, nL_nil, nL_cons, nInt, nPs, nTs, res_tup, resV_one, resV_two, rTmp, List.set_cons_succ, List.set_cons_zero, List.getD_cons_succ, List.getD_cons_zero, List.getElem?_cons_succ, List.getElem?_cons_zero, List.cons_append, List.nil_append, List.append_nil, List.length_cons, List.length_nil, Nat.reduceAdd, Nat.reduceSub, Nat.add_zero, Nat.zero_add, Nat.reduceLeDiff, Nat.lt_irrefl, Nat.le_refl, Nat.zero_le, List.replicate_succ, List.replicate_zero, List.map_cons, List.map_nil, List.all_cons, List.all_nil, List.take_succ_cons, List.take_zero, List.drop_succ_cons, List.drop_zero, List.take_nil, Bool.and_true, Bool.true_and, Bool.and_false, Bool.false_and, Bool.or_true, Bool.true_or, Bool.or_false, Bool.false_or, Option.map_some, Option.bind_some, reduceCtorEq, and_self, and_true, true_and, if_true, if_false, Bool.false_eq_true, Bool.not_true, Bool.not_false, beq_true, beq_false, Nat.lt_add_one, Nat.zero_lt_succ, Nat.reduceLT, decide_true, decide_false, ti3, ti4, ti5, ti9, ti22, ti24, ti28, ti33, ti40, ti42, ti54, fo24_0, fo24_1, fo42_0, fo42_1, fo42_2, fo42_3]

  refine (loopAt_ind (pl := (fun (i : Nat) => (none : Option (List (Nat × List Nat))))) (an := ⟨[1, 3, 4], []⟩) rfl (by kernel_rfl) (fun i => ⟨[AV.undef, AV.mp 0 1 0 0, AV.undef, AV.str (pacc p i), AV.int .i64 (i : Int), AV.undef, AV.undef, AV.undef, AV.undef, AV.undef, AV.undef, AV.undef, AV.undef, AV.undef, AV.undef, AV.undef, AV.undef, AV.undef, AV.undef, AV.undef, AV.undef, AV.undef, AV.undef, AV.undef, AV.undef, AV.undef, AV.undef, AV.undef, AV.undef, AV.undef, AV.undef, AV.undef, AV.undef, AV.undef, AV.undef, AV.undef, AV.undef, AV.undef, AV.undef, AV.undef, AV.undef, AV.undef, AV.undef, AV.undef, AV.undef, AV.undef, AV.undef, AV.undef, AV.undef, AV.undef, AV.undef, AV.undef, AV.undef, AV.undef, AV.undef, AV.undef, AV.undef, AV.undef, AV.undef, AV.undef, AV.undef, AV.undef], [.row [.agg [.str p.tag, .sl (p.parts.map encInt), .int .i64 p.goal, .sl (p.data.map encInt)]] 4 0 0]⟩) (fun i => (some (.str (payT p)) : Option AV)) p.parts.length 1 (by rfl) (by rfl) ?_).trans ?_
  rotate_left
  · first | rfl | simp
  intro i hi kn' hk
  rcases Nat.lt_or_ge i p.parts.length with hlt | hge
  · have e1 : decide ((i : Int) < ((p.parts.length : Nat) : Int)) = true := by simpa using hlt
    obtain ⟨x, ha, d1, hx⟩ := dropAt (l := p.parts) (i := i) (by first | exact hlt | omega | simpa using hlt)
    have hw : (pws p)[i]? = some (wordF x) := by simp [pws, ha]
    have k6 : 1 ≤ x ∧ x ≤ 6 := by have := g.parts x hx; omega
    have w43 := p43 x k6.1 k6.2
    have l1 := lp i (by have := g.six; omega)
    have l2 := word_len x
    have a1 : addT (pacc p i) [44, 32] = some (.str (pacc p i ++ [44, 32])) := addR _ _ (by simp; omega)
    have a2 : addT (pacc p i) (wordF x) = some (.str (pacc p i ++ wordF x)) := addR _ _ (by omega)
    have a3 : addT (pacc p i ++ [44, 32]) (wordF x) = some (.str (pacc p i ++ [44, 32] ++ wordF x)) := addR _ _ (by simp; omega)
    rcases acc_step (p.tag ++ [40]) [44, 32] (pws p) hw with ⟨e0, hs⟩ | ⟨e0, hs⟩
    all_goals
      have hs' := hs
      simp only [show ∀ j, accG (p.tag ++ [40]) [44, 32] (pws p) j = pacc p j from fun _ => rfl] at hs'
    all_goals
      simp (implicitDefEqProofs := false) (dsimp := false) only [e1, List.getElem?_map, List.length_map, ha, evCall_0 m43, w43, a1, a2, a3, e0, hs', rCell, eq_self, cells_ms, cells_mp, cells_nils, cells_bool, sAdd, bodyK_eq, cLoop, cSkip, cRegion, cSeq, cCond, cBlock, cExit, cRet, exitK_same, exitK_other, Nat.reduceBEq, reg_none, reg_some, plan_nil, plan_cons, atO_some, then_true, safe_nil, safe_ne, safe_all, safeOp_eq, safe_load, safe_ia, av_mp, av_ip, av_sl, av_int, hoist_nil, hoist_alloc, hoist_skip, hoistT_some, kd_move, na_move, kd_assign, na_assign, kd_pick, na_pick, kd_bin, na_bin, kd_un, na_un, kd_load, na_load, kd_store, na_store, kd_fa, na_fa, kd_fld, na_fld, kd_ia, na_ia, kd_ix, na_ix, kd_ex, na_ex, kd_len, na_len, kd_box, na_box, Nat.reduceBNe, Nat.reduceEqDiff, bne_self_eq_false, kOps_nil, kOps_cons, kOps_guard, dst_mk, gvD_some, gvV_bool, gvV_tup, onG_yes, onG_no, onG_as, onB_bool, sw_true, sw_false, sw_not, bnd_some, bnd_none, vK_some, pK_some, kMove, kAssign, kPick, kBin, kUn, kConvert, kLoad, kStore, kField, kFieldAddr, kIndex, kIndexAddr, kExtract, extractT_tup, kAlloc, allocT_some, kBox, boxT_some, kMakeFunc, kCall, callV_fn, kBuiltin, onCall_some, onRes_some, oTmp, oInt, oBool, oStr, oNil, oFunc, put_some, put_none, isC_const, isC_tmp, bII, bneB, beqB, bSS, iEql, iNeq, iLss, iLeq, iGtr, iGeq, iAdd, iSub, sEql, sNeq, sLeq, uNot, load_ip, load_mp, loadT_one, loadT_agg, rowAt_row, cells_agg, cells_int, cells_str, cells_sl, fits_eq, one_int, one_bool, one_str, one_sl, one_nils, pure_int, pure_bool, pure_str, pure_sl, pure_mp, pure_ip, pure_nils, pure_nili, pure_fn, pure_agg, scalar_int, scalar_bool, natOf_nat, natOf_zero, len_call, len_sl, len_str, fa_eq, fld_ip, fld_mp, ia_sl, idxT_sl, idxSl_some, ix_str, idxT'_str, idxStr_some, sto_eq, sto_one, write_agg, write_int, write_str, write_bool, res_int, res_bool, res_str, res_sl, res_ip, res_agg, res_fn, res_mp, many_eq, depth_eq, mapO_nil, mapO_cons, consO_some, resP_eq, resPV_one, resPV_two, normO_some, n_bool, n_int, n_str, n_nils, n_z0, n_nili, n_agg, n_tup, n_sl, n_ip, n_fn, nL_nil, nL_cons, nInt, nPs, nTs, res_tup, resV_one, resV_two, rTmp, List.set_cons_succ, List.set_cons_zero, List.getD_cons_succ, List.getD_cons_zero, List.getElem?_cons_succ, List.getElem?_cons_zero, List.cons_append, List.nil_append, List.append_nil, List.length_cons, List.length_nil, Nat.reduceAdd, Nat.reduceSub, Nat.add_zero, Nat.zero_add, Nat.reduceLeDiff, Nat.lt_irrefl, Nat.le_refl, Nat.zero_le, List.replicate_succ, List.replicate_zero, List.map_cons, List.map_nil, List.all_cons, List.all_nil, List.take_succ_cons, List.take_zero, List.drop_succ_cons, List.drop_zero, List.take_nil, Bool.and_true, Bool.true_and, Bool.and_false, Bool.false_and, Bool.or_true, Bool.true_or, Bool.or_false, Bool.false_or, Option.map_some, Option.bind_some, reduceCtorEq, and_self, and_true, true_and, if_true, if_false, Bool.false_eq_true, Bool.not_true, Bool.not_false, beq_true, beq_false, Nat.lt_add_one, Nat.zero_lt_succ, Nat.reduceLT, decide_true, decide_false, ti3, ti4, ti5, ti9, ti22, ti24, ti28, ti33, ti40, ti42, ti54, fo24_0, fo24_1, fo42_0, fo42_1, fo42_2, fo42_3]
    all_goals exact hk hlt _ (normSt_mk (by simp only [wrapI hlt hp.parts]; rfl) rfl)
  · have e1 : decide ((i : Int) < ((p.parts.length : Nat) : Int)) = false := by simp; omega
    obtain rfl : i = p.parts.length := by omega
    have l1 := lp p.parts.length g.six
    have b1 : addT (pacc p p.parts.length) [41] = some (.str (pacc p p.parts.length ++ [41])) := addR _ _ (by simp; omega)
    have b2 : addT (pacc p p.parts.length ++ [41]) [32, 35] = some (.str (pacc p p.parts.length ++ [41] ++ [32, 35])) := addR _ _ (by simp; omega)
    have b3 : addT (pacc p p.parts.length ++ [41] ++ [32, 35]) (dig p.goal) = some (.str (pacc p p.parts.length ++ [41] ++ [32, 35] ++ dig p.goal)) := addR _ _ (by simp [dig_len]; omega)
    have b4 : addT (pacc p p.parts.length ++ [41] ++ [32, 35] ++ dig p.goal) [91] = some (.str (pacc p p.parts.length ++ [41] ++ [32, 35] ++ dig p.goal ++ [91])) := addR _ _ (by simp [dig_len]; omega)
    clear hk
    rcases (show p.goal < 0 ∨ 0 ≤ p.goal by omega) with hg0 | hg0
    · have hg : decide (p.goal < 0) = true := by simpa using hg0
      have hT : payT p = pacc p p.parts.length ++ [41] := by unfold payT; rw [if_pos hg0]
      rw [hT]
      simp (implicitDefEqProofs := false) (dsimp := false) only [e1, List.length_map, b1, hg, rCell, eq_self, cells_ms, cells_mp, cells_nils, cells_bool, sAdd, bodyK_eq, cLoop, cSkip, cRegion, cSeq, cCond, cBlock, cExit, cRet, exitK_same, exitK_other, Nat.reduceBEq, reg_none, reg_some, plan_nil, plan_cons, atO_some, then_true, safe_nil, safe_ne, safe_all, safeOp_eq, safe_load, safe_ia, av_mp, av_ip, av_sl, av_int, hoist_nil, hoist_alloc, hoist_skip, hoistT_some, kd_move, na_move, kd_assign, na_assign, kd_pick, na_pick, kd_bin, na_bin, kd_un, na_un, kd_load, na_load, kd_store, na_store, kd_fa, na_fa, kd_fld, na_fld, kd_ia, na_ia, kd_ix, na_ix, kd_ex, na_ex, kd_len, na_len, kd_box, na_box, Nat.reduceBNe, Nat.reduceEqDiff, bne_self_eq_false, kOps_nil, kOps_cons, kOps_guard, dst_mk, gvD_some, gvV_bool, gvV_tup, onG_yes, onG_no, onG_as, onB_bool, sw_true, sw_false, sw_not, bnd_some, bnd_none, vK_some, pK_some, kMove, kAssign, kPick, kBin, kUn, kConvert, kLoad, kStore, kField, kFieldAddr, kIndex, kIndexAddr, kExtract, extractT_tup, kAlloc, allocT_some, kBox, boxT_some, kMakeFunc, kCall, callV_fn, kBuiltin, onCall_some, onRes_some, oTmp, oInt, oBool, oStr, oNil, oFunc, put_some, put_none, isC_const, isC_tmp, bII, bneB, beqB, bSS, iEql, iNeq, iLss, iLeq, iGtr, iGeq, iAdd, iSub, sEql, sNeq, sLeq, uNot, load_ip, load_mp, loadT_one, loadT_agg, rowAt_row, cells_agg, cells_int, cells_str, cells_sl, fits_eq, one_int, one_bool, one_str, one_sl, one_nils, pure_int, pure_bool, pure_str, pure_sl, pure_mp, pure_ip, pure_nils, pure_nili, pure_fn, pure_agg, scalar_int, scalar_bool, natOf_nat, natOf_zero, len_call, len_sl, len_str, fa_eq, fld_ip, fld_mp, ia_sl, idxT_sl, idxSl_some, ix_str, idxT'_str, idxStr_some, sto_eq, sto_one, write_agg, write_int, write_str, write_bool, res_int, res_bool, res_str, res_sl, res_ip, res_agg, res_fn, res_mp, many_eq, depth_eq, mapO_nil, mapO_cons, consO_some, resP_eq, resPV_one, resPV_two, normO_some, n_bool, n_int, n_str, n_nils, n_z0, n_nili, n_agg, n_tup, n_sl, n_ip, n_fn, nL_nil, nL_cons, nInt, nPs, nTs, res_tup, resV_one, resV_two, rTmp, List.set_cons_succ, List.set_cons_zero, List.getD_cons_succ, List.getD_cons_zero, List.getElem?_cons_succ, List.getElem?_cons_zero, List.cons_append, List.nil_append, List.append_nil, List.length_cons, List.length_nil, Nat.reduceAdd, Nat.reduceSub, Nat.add_zero, Nat.zero_add, Nat.reduceLeDiff, Nat.lt_irrefl, Nat.le_refl, Nat.zero_le, List.replicate_succ, List.replicate_zero, List.map_cons, List.map_nil, List.all_cons, List.all_nil, List.take_succ_cons, List.take_zero, List.drop_succ_cons, List.drop_zero, List.take_nil, Bool.and_true, Bool.true_and, Bool.and_false, Bool.false_and, Bool.or_true, Bool.true_or, Bool.or_false, Bool.false_or, Option.map_some, Option.bind_some, reduceCtorEq, and_self, and_true, true_and, if_true, if_false, Bool.false_eq_true, Bool.not_true, Bool.not_false, beq_true, beq_false, Nat.lt_add_one, Nat.zero_lt_succ, Nat.reduceLT, decide_true, decide_false, ti3, ti4, ti5, ti9, ti22, ti24, ti28, ti33, ti40, ti42, ti54, fo24_0, fo24_1, fo42_0, fo42_1, fo42_2, fo42_3]
    have hg : decide (p.goal < 0) = false := by simp; omega
    have w63 := p63 p.goal hg0 g.goal.2
    have hT : payT p = dacc p p.data.length ++ [93] := by unfold payT; rw [if_neg (by omega)]
    rw [hT]
    have ld := fun i hi => dacc_len (p := p) g.tag g.six (i := i) hi
    simp (implicitDefEqProofs := false) (dsimp := false) only [e1, List.length_map, b1, b2, b3, b4, hg, evCall_0 m63, w63, rCell, eq_self, cells_ms, cells_mp, cells_nils, cells_bool, sAdd, bodyK_eq, cLoop, cSkip, cRegion, cSeq, cCond, cBlock, cExit, cRet, exitK_same, exitK_other, Nat.reduceBEq, reg_none, reg_some, plan_nil, plan_cons, atO_some, then_true, safe_nil, safe_ne, safe_all, safeOp_eq, safe_load, safe_ia, av_mp, av_ip, av_sl, av_int, hoist_nil, hoist_alloc, hoist_skip, hoistT_some, kd_move, na_move, kd_assign, na_assign, kd_pick, na_pick, kd_bin, na_bin, kd_un, na_un, kd_load, na_load, kd_store, na_store, kd_fa, na_fa, kd_fld, na_fld, kd_ia, na_ia, kd_ix, na_ix, kd_ex, na_ex, kd_len, na_len, kd_box, na_box, Nat.reduceBNe, Nat.reduceEqDiff, bne_self_eq_false, kOps_nil, kOps_cons, kOps_guard, dst_mk, gvD_some, gvV_bool, gvV_tup, onG_yes, onG_no, onG_as, onB_bool, sw_true, sw_false, sw_not, bnd_some, bnd_none, vK_some, pK_some, kMove, kAssign, kPick, kBin, kUn, kConvert, kLoad, kStore, kField, kFieldAddr, kIndex, kIndexAddr, kExtract, extractT_tup, kAlloc, allocT_some, kBox, boxT_some, kMakeFunc, kCall, callV_fn, kBuiltin, onCall_some, onRes_some, oTmp, oInt, oBool, oStr, oNil, oFunc, put_some, put_none, isC_const, isC_tmp, bII, bneB, beqB, bSS, iEql, iNeq, iLss, iLeq, iGtr, iGeq, iAdd, iSub, sEql, sNeq, sLeq, uNot, load_ip, load_mp, loadT_one, loadT_agg, rowAt_row, cells_agg, cells_int, cells_str, cells_sl, fits_eq, one_int, one_bool, one_str, one_sl, one_nils, pure_int, pure_bool, pure_str, pure_sl, pure_mp, pure_ip, pure_nils, pure_nili, pure_fn, pure_agg, scalar_int, scalar_bool, natOf_nat, natOf_zero, len_call, len_sl, len_str, fa_eq, fld_ip, fld_mp, ia_sl, idxT_sl, idxSl_some, ix_str, idxT'_str, idxStr_some, sto_eq, sto_one, write_agg, write_int, write_str, write_bool, res_int, res_bool, res_str, res_sl, res_ip, res_agg, res_fn, res_mp, many_eq, depth_eq, mapO_nil, mapO_cons, consO_some, resP_eq, resPV_one, resPV_two, normO_some, n_bool, n_int, n_str, n_nils, n_z0, n_nili, n_agg, n_tup, n_sl, n_ip, n_fn, nL_nil, nL_cons, nInt, nPs, nTs, res_tup, resV_one, resV_two, rTmp, List.set_cons_succ, List.set_cons_zero, List.getD_cons_succ, List.getD_cons_zero, List.getElem?_cons_succ, List.getElem?_cons_zero, List.cons_append, List.nil_append, List.append_nil, List.length_cons, List.length_nil, Nat.reduceAdd, Nat.reduceSub, Nat.add_zero, Nat.zero_add, Nat.reduceLeDiff, Nat.lt_irrefl, Nat.le_refl, Nat.zero_le, List.replicate_succ, List.replicate_zero, List.map_cons, List.map_nil, List.all_cons, List.all_nil, List.take_succ_cons, List.take_zero, List.drop_succ_cons, List.drop_zero, List.take_nil, Bool.and_true, Bool.true_and, Bool.and_false, Bool.false_and, Bool.or_true, Bool.true_or, Bool.or_false, Bool.false_or, Option.map_some, Option.bind_some, reduceCtorEq, and_self, and_true, true_and, if_true, if_false, Bool.false_eq_true, Bool.not_true, Bool.not_false, beq_true, beq_false, Nat.lt_add_one, Nat.zero_lt_succ, Nat.reduceLT, decide_true, decide_false, ti3, ti4, ti5, ti9, ti22, ti24, ti28, ti33, ti40, ti42, ti54, fo24_0, fo24_1, fo42_0, fo42_1, fo42_2, fo42_3]
    refine (loopAt_ind (pl := (fun (i : Nat) => (none : Option (List (Nat × List Nat))))) (an := ⟨[1, 3, 5], []⟩) rfl (by kernel_rfl) (fun i => ⟨[AV.undef, AV.mp 0 1 0 0, AV.undef, AV.str (dacc p i), AV.undef, AV.int .i64 (i : Int), AV.undef, AV.undef, AV.undef, AV.undef, AV.undef, AV.undef, AV.undef, AV.undef, AV.undef, AV.undef, AV.undef, AV.undef, AV.undef, AV.undef, AV.undef, AV.undef, AV.undef, AV.undef, AV.undef, AV.undef, AV.undef, AV.undef, AV.undef, AV.undef, AV.undef, AV.undef, AV.undef, AV.undef, AV.undef, AV.undef, AV.undef, AV.undef, AV.undef, AV.undef, AV.undef, AV.undef, AV.undef, AV.undef, AV.undef, AV.undef, AV.undef, AV.undef, AV.undef, AV.undef, AV.undef, AV.undef, AV.undef, AV.undef, AV.undef, AV.undef, AV.undef, AV.undef, AV.undef, AV.undef, AV.undef, AV.undef], [.row [.agg [.str p.tag, .sl (p.parts.map encInt), .int .i64 p.goal, .sl (p.data.map encInt)]] 4 0 0]⟩) (fun i => (some (.str (dacc p p.data.length ++ [93])) : Option AV)) p.data.length 1 (by rfl) (by rfl) ?_).trans ?_
    rotate_left
    · first | rfl | simp
    intro i hi kn' hk
    rcases Nat.lt_or_ge i p.data.length with hlt | hge
    · have e1 : decide ((i : Int) < ((p.data.length : Nat) : Int)) = true := by simpa using hlt
      obtain ⟨x, ha, d1, hx⟩ := dropAt (l := p.data) (i := i) (by first | exact hlt | omega | simpa using hlt)
      have hw : (dws p)[i]? = some (dig x) := by simp [dws, ha]
      have w63 := p63 x (g.data x hx).1 (g.data x hx).2
      have l1 := ld i (by have := g.eight; omega)
      have l2 := dig_len x
      have a1 : addT (dacc p i) [32] = some (.str (dacc p i ++ [32])) := addR _ _ (by simp; omega)
      have a2 : addT (dacc p i) (dig x) = some (.str (dacc p i ++ dig x)) := addR _ _ (by omega)
      have a3 : addT (dacc p i ++ [32]) (dig x) = some (.str (dacc p i ++ [32] ++ dig x)) := addR _ _ (by simp; omega)
      rcases acc_step (dbase p) [32] (dws p) hw with ⟨e0, hs⟩ | ⟨e0, hs⟩
      all_goals
        have hs' := hs
        simp only [show ∀ j, accG (dbase p) [32] (dws p) j = dacc p j from fun _ => rfl] at hs'
      all_goals
        simp (implicitDefEqProofs := false) (dsimp := false) only [e1, List.getElem?_map, List.length_map, ha, evCall_0 m63, w63, a1, a2, a3, e0, hs', rCell, eq_self, cells_ms, cells_mp, cells_nils, cells_bool, sAdd, bodyK_eq, cLoop, cSkip, cRegion, cSeq, cCond, cBlock, cExit, cRet, exitK_same, exitK_other, Nat.reduceBEq, reg_none, reg_some, plan_nil, plan_cons, atO_some, then_true, safe_nil, safe_ne, safe_all, safeOp_eq, safe_load, safe_ia, av_mp, av_ip, av_sl, av_int, hoist_nil, hoist_alloc, hoist_skip, hoistT_some, kd_move, na_move, kd_assign, na_assign, kd_pick, na_pick, kd_bin, na_bin, kd_un, na_un, kd_load, na_load, kd_store, na_store, kd_fa, na_fa, kd_fld, na_fld, kd_ia, na_ia, kd_ix, na_ix, kd_ex, na_ex, kd_len, na_len, kd_box, na_box, Nat.reduceBNe, Nat.reduceEqDiff, bne_self_eq_false, kOps_nil, kOps_cons, kOps_guard, dst_mk, gvD_some, gvV_bool, gvV_tup, onG_yes, onG_no, onG_as, onB_bool, sw_true, sw_false, sw_not, bnd_some, bnd_none, vK_some, pK_some, kMove, kAssign, kPick, kBin, kUn, kConvert, kLoad, kStore, kField, kFieldAddr, kIndex, kIndexAddr, kExtract, extractT_tup, kAlloc, allocT_some, kBox, boxT_some, kMakeFunc, kCall, callV_fn, kBuiltin, onCall_some, onRes_some, oTmp, oInt, oBool, oStr, oNil, oFunc, put_some, put_none, isC_const, isC_tmp, bII, bneB, beqB, bSS, iEql, iNeq, iLss, iLeq, iGtr, iGeq, iAdd, iSub, sEql, sNeq, sLeq, uNot, load_ip, load_mp, loadT_one, loadT_agg, rowAt_row, cells_agg, cells_int, cells_str, cells_sl, fits_eq, one_int, one_bool, one_str, one_sl, one_nils, pure_int, pure_bool, pure_str, pure_sl, pure_mp, pure_ip, pure_nils, pure_nili, pure_fn, pure_agg, scalar_int, scalar_bool, natOf_nat, natOf_zero, len_call, len_sl, len_str, fa_eq, fld_ip, fld_mp, ia_sl, idxT_sl, idxSl_some, ix_str, idxT'_str, idxStr_some, sto_eq, sto_one, write_agg, write_int, write_str, write_bool, res_int, res_bool, res_str, res_sl, res_ip, res_agg, res_fn, res_mp, many_eq, depth_eq, mapO_nil, mapO_cons, consO_some, resP_eq, resPV_one, resPV_two, normO_some, n_bool, n_int, n_str, n_nils, n_z0, n_nili, n_agg, n_tup, n_sl, n_ip, n_fn, nL_nil, nL_cons, nInt, nPs, nTs, res_tup, resV_one, resV_two, rTmp, List.set_cons_succ, List.set_cons_zero, List.getD_cons_succ, List.getD_cons_zero, List.getElem?_cons_succ, List.getElem?_cons_zero, List.cons_append, List.nil_append, List.append_nil, List.length_cons, List.length_nil, Nat.reduceAdd, Nat.reduceSub, Nat.add_zero, Nat.zero_add, Nat.reduceLeDiff, Nat.lt_irrefl, Nat.le_refl, Nat.zero_le, List.replicate_succ, List.replicate_zero, List.map_cons, List.map_nil, List.all_cons, List.all_nil, List.take_succ_cons, List.take_zero, List.drop_succ_cons, List.drop_zero, List.take_nil, Bool.and_true, Bool.true_and, Bool.and_false, Bool.false_and, Bool.or_true, Bool.true_or, Bool.or_false, Bool.false_or, Option.map_some, Option.bind_some, reduceCtorEq, and_self, and_true, true_and, if_true, if_false, Bool.false_eq_true, Bool.not_true, Bool.not_false, beq_true, beq_false, Nat.lt_add_one, Nat.zero_lt_succ, Nat.reduceLT, decide_true, decide_false, ti3, ti4, ti5, ti9, ti22, ti24, ti28, ti33, ti40, ti42, ti54, fo24_0, fo24_1, fo42_0, fo42_1, fo42_2, fo42_3]
      all_goals exact hk hlt _ (normSt_mk (by simp only [wrapI hlt hp.data]; rfl) rfl)
    · have e1 : decide ((i : Int) < ((p.data.length : Nat) : Int)) = false := by simp; omega
      obtain rfl : i = p.data.length := by omega
      have l1 := ld p.data.length g.eight
      have b5 : addT (dacc p p.data.length) [93] = some (.str (dacc p p.data.length ++ [93])) := addR _ _ (by simp; omega)
      simp (implicitDefEqProofs := false) (dsimp := false) only [e1, List.length_map, b5, rCell, eq_self, cells_ms, cells_mp, cells_nils, cells_bool, sAdd, bodyK_eq, cLoop, cSkip, cRegion, cSeq, cCond, cBlock, cExit, cRet, exitK_same, exitK_other, Nat.reduceBEq, reg_none, reg_some, plan_nil, plan_cons, atO_some, then_true, safe_nil, safe_ne, safe_all, safeOp_eq, safe_load, safe_ia, av_mp, av_ip, av_sl, av_int, hoist_nil, hoist_alloc, hoist_skip, hoistT_some, kd_move, na_move, kd_assign, na_assign, kd_pick, na_pick, kd_bin, na_bin, kd_un, na_un, kd_load, na_load, kd_store, na_store, kd_fa, na_fa, kd_fld, na_fld, kd_ia, na_ia, kd_ix, na_ix, kd_ex, na_ex, kd_len, na_len, kd_box, na_box, Nat.reduceBNe, Nat.reduceEqDiff, bne_self_eq_false, kOps_nil, kOps_cons, kOps_guard, dst_mk, gvD_some, gvV_bool, gvV_tup, onG_yes, onG_no, onG_as, onB_bool, sw_true, sw_false, sw_not, bnd_some, bnd_none, vK_some, pK_some, kMove, kAssign, kPick, kBin, kUn, kConvert, kLoad, kStore, kField, kFieldAddr, kIndex, kIndexAddr, kExtract, extractT_tup, kAlloc, allocT_some, kBox, boxT_some, kMakeFunc, kCall, callV_fn, kBuiltin, onCall_some, onRes_some, oTmp, oInt, oBool, oStr, oNil, oFunc, put_some, put_none, isC_const, isC_tmp, bII, bneB, beqB, bSS, iEql, iNeq, iLss, iLeq, iGtr, iGeq, iAdd, iSub, sEql, sNeq, sLeq, uNot, load_ip, load_mp, loadT_one, loadT_agg, rowAt_row, cells_agg, cells_int, cells_str, cells_sl, fits_eq, one_int, one_bool, one_str, one_sl, one_nils, pure_int, pure_bool, pure_str, pure_sl, pure_mp, pure_ip, pure_nils, pure_nili, pure_fn, pure_agg, scalar_int, scalar_bool, natOf_nat, natOf_zero, len_call, len_sl, len_str, fa_eq, fld_ip, fld_mp, ia_sl, idxT_sl, idxSl_some, ix_str, idxT'_str, idxStr_some, sto_eq, sto_one, write_agg, write_int, write_str, write_bool, res_int, res_bool, res_str, res_sl, res_ip, res_agg, res_fn, res_mp, many_eq, depth_eq, mapO_nil, mapO_cons, consO_some, resP_eq, resPV_one, resPV_two, normO_some, n_bool, n_int, n_str, n_nils, n_z0, n_nili, n_agg, n_tup, n_sl, n_ip, n_fn, nL_nil, nL_cons, nInt, nPs, nTs, res_tup, resV_one, resV_two, rTmp, List.set_cons_succ, List.set_cons_zero, List.getD_cons_succ, List.getD_cons_zero, List.getElem?_cons_succ, List.getElem?_cons_zero, List.cons_append, List.nil_append, List.append_nil, List.length_cons, List.length_nil, Nat.reduceAdd, Nat.reduceSub, Nat.add_zero, Nat.zero_add, Nat.reduceLeDiff, Nat.lt_irrefl, Nat.le_refl, Nat.zero_le, List.replicate_succ, List.replicate_zero, List.map_cons, List.map_nil, List.all_cons, List.all_nil, List.take_succ_cons, List.take_zero, List.drop_succ_cons, List.drop_zero, List.take_nil, Bool.and_true, Bool.true_and, Bool.and_false, Bool.false_and, Bool.or_true, Bool.true_or, Bool.or_false, Bool.false_or, Option.map_some, Option.bind_some, reduceCtorEq, and_self, and_true, true_and, if_true, if_false, Bool.false_eq_true, Bool.not_true, Bool.not_false, beq_true, beq_false, Nat.lt_add_one, Nat.zero_lt_succ, Nat.reduceLT, decide_true, decide_false, ti3, ti4, ti5, ti9, ti22, ti24, ti28, ti33, ti40, ti42, ti54, fo24_0, fo24_1, fo42_0, fo42_1, fo42_2, fo42_3]
end Go.EV.Lv
