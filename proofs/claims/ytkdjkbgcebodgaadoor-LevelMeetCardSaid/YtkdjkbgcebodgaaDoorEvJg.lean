/-
  The row and the card of LevelMeet.
-/
import Derived.Test.YtkdjkbgcebodgaaDoorEvJe
import Derived.Test.YtkdjkbgcebodgaaDoorEvR7b
import Derived.Test.YtkdjkbgcebodgaaDoorEvRs
import Derived.ProofKit
import Derived.Test.YtkdjkbgcebodgaaDoorCards
import Derived.SevenTiedAt
set_option linter.unusedSimpArgs false
set_option linter.unusedVariables false
namespace Go.EV.Lv
open Go Go.EV Go.Proofs Go.Proofs.YtkdjkbgcebodgaaDoor Go.ChangeShapes Go.WideShapes Go.RowKit
set_option maxRecDepth 100000
theorem levelMeet_calls {W : World} (h : laidMetH Tryd.prog Go.Proofs.YtkdjkbgcebodgaaDoor.Rows.levelMeetRow.laid W) {a : Ty} {b : Ty} {c : Ty} {va vb vc : Value} (ha : a.ok) (hb : b.ok) (hc : c.ok) (ra : PRel (All W) W (encT a) va) (rb : PRel (All W) W (encT b) vb) (rc : PRel (All W) W (encT c) vc) :
    Calls Tryd.prog 5 #[va, vb, vc] W fun e W' => e = .returned (.bool true) ∧ Below W.heap.size W W' := by
  have hp := (pureF_ok (callW_ok (envOk h)) (p5 a b c ha hb hc)).2
  refine (hp (All W) W #[va, vb, vc] (.refl _ _) (fun c j h => h) (fun c j h => h) ⟨rfl, fun i hi => ?_⟩).mono ?_
  · match i, hi with
    | 0, _ => exact ra
    | 1, _ => exact rb
    | 2, _ => exact rc
  · rintro e W' ⟨v, Z', rfl, hb, _, _, _, hr⟩
    cases hr
    exact ⟨rfl, hb⟩
theorem levelMeet_own : ownKnob Tryd.prog.godebug = none := by kernel_rfl
theorem levelMeet_laidOut : laidOutB Tryd.prog = true := by kernel_rfl
theorem levelMeet_read24 : Tryd.prog.readableRec 24 = true := by kernel_rfl
theorem levelMeet_lt24 : 24 < Tryd.prog.types.size := of_decide_eq_true (by kernel_rfl)
theorem levelMeet_lifted (os : Os) (started : os.Started) (H : Type) (enc : TypeId × Value → H) :
    ReturnsInHanded {} Tryd.checked os 5 .any (fun w args => (Rows.levelMeetSpec.pre enc Tryd.prog Tryd.f5 [] false w args ∧ laidMetH Tryd.prog Rows.levelMeetRow.laid w) ∧ sizedMet enc Tryd.prog Tryd.f5 (OpenSpec.ofChange Rows.levelMeetSpec) false w args)
      (Rows.levelMeetSpec.post enc Tryd.prog Tryd.f5 false true false false) := by
  refine returnsInHanded_of_change_and (C := Tryd.checked) (X := fun w _ => laidMetH Tryd.prog Rows.levelMeetRow.laid w) (fun _ _ _ hh h => h.of_heap hh) levelMeet_own started (by kernel_rfl) Tryd.func5
    ⟨laidWorld os, fun _ _ => 0, ⟨#[], #[.agg #[.int .i64 0, .slice none 0 0], .agg #[.int .i64 0, .slice none 0 0], .agg #[.int .i64 0, .slice none 0 0]], []⟩, rfl, laid_shaped os _, rfl, (Input.okWide_of_okWideB (by kernel_rfl)).2, ⟨⟨ChangeSpec.pre_of_preB (fuel := 8) (by kernel_rfl), laid_met os _⟩, sizedMet_of_sizedB (fuel := 8) (by kernel_rfl)⟩, by
      simp only [Assume.holds]
      exact ⟨by simp, by simp, fun _ => Modest.zero, by simp, by simp⟩⟩ ?_
  intro W base args ds gs before hval0 hW _ _ hL _
  have hval : ∀ (j : Nat) t v, Tryd.f5.params[j]? = some t → args[j]? = some v → Value.okWide Tryd.prog W .any base t v := hval0
  have hW' := hW
  obtain ⟨p, q, hA0, hV, rfl, hfz, hnd⟩ := hW
  have hA : DataW.TrodAll enc Tryd.prog W 0 (fun _ => true) true Tryd.f5.params.toList args.toList ds p := hA0
  rw [Tryd.params5] at hA hval
  obtain ⟨va, vb, vc, da, db, dc, pa, pb, pc, rfl, rfl, rfl, ha, hb, hc⟩ := trodAll_three hA
  obtain ⟨rfl, rfl⟩ := trodVars_none hV
  have agg : ∀ (j : Nat) (v : Value), (#[24, 24, 24] : Array TypeId)[j]? = some 24 → (#[va, vb, vc] : Array Value)[j]? = some v → ∃ cs, v = .agg cs := by
    intro j v h1 h2
    have h := hval j 24 v h1 h2
    unfold Value.okWide at h
    rw [Tryd.underlying24] at h
    obtain ⟨cs, h, _⟩ := h
    exact ⟨cs, h⟩
  obtain ⟨a, oa, ra⟩ := openT (agg 0 va rfl rfl) ha
  obtain ⟨b, ob, rb⟩ := openT (agg 1 vb rfl rfl) hb
  obtain ⟨c, oc, rc⟩ := openT (agg 2 vc rfl rfl) hc
  clear hA0 hval0
  refine (levelMeet_calls hL oa ob oc ra rb rc).mono fun e W' ⟨he, hw⟩ => ?_
  subst he
  have hlt : ∀ x ∈ pa ++ pb ++ pc, x.block < W.heap.size := fun x hx => hW'.lt x (by simpa using hx)
  have e1 : Rows.levelMeetSpec.fn H ([da, db, dc] ++ []) = { results := [.lit (.bool true)], args := [da, db, dc] } := by simp [Rows.levelMeetSpec]
  refine ⟨_, rfl, _, _, _, [], pa ++ (pb ++ pc), [], hW', ?_, ?_, ?_, hw.frame _, fun h => by cases h⟩
  · rw [e1]; exact trodAll_mk1 (shut_bool Tryd.underlying4 true)
  · rw [e1]
    exact trodAll_mk3 (Below.trod levelMeet_laidOut levelMeet_read24 levelMeet_lt24 ha hw fun x hx => hlt x (by simp [hx])) (Below.trod levelMeet_laidOut levelMeet_read24 levelMeet_lt24 hb hw fun x hx => hlt x (by simp [hx])) (Below.trod levelMeet_laidOut levelMeet_read24 levelMeet_lt24 hc hw fun x hx => hlt x (by simp [hx]))
  · rw [e1]; rfl
theorem levelMeet_holds : Rows.LevelMeetSaid :=
  OpenClaim.holds_of_wide 5 Tryd.f5 rfl rfl rfl rfl rfl rfl rfl ⟨rfl, rfl, rfl, rfl, rfl⟩ rfl rfl rfl rfl rfl (by kernel_rfl) Tryd.func5 (by kernel_rfl)
    (of_decide_eq_true (by kernel_rfl)) (by unfold Func.isWrapper; first | (rw [if_pos (by decide +kernel)]; kernel_rfl) | (rw [if_neg (by decide +kernel)]; exact ⟨rfl, rfl⟩))
    (fun os started H enc _ => levelMeet_lifted os started H enc)
theorem levelMeet_card : Rows.LevelMeetCardSaid :=
  Claim7.holds_tied_plain_at .later [] [.data, .data, .data, .sentinel, .sentinel, .widerDeep] true (true, "3fe4795ac424d474b1ec7c377f5d720d95ad94c5c48fd264f854cc913967dab0") true
    levelMeet_holds (fun _ h => by cases h) (by kernel_rfl) (fun _ h => by cases h) levelMeet_row_tie rfl ⟨rfl, rfl⟩ (by kernel_rfl) rfl
    (fun f fn hf hfn => by
      obtain rfl : f = 5 := Option.some.inj ((show Tryd.prog.funcNamed "sealring/sealringlaw49.LevelMeet" = some 5 by kernel_rfl).symm.trans hf) |>.symm
      obtain rfl : fn = Tryd.f5 := (Option.some.inj (Tryd.func5.symm.trans hfn)).symm
      exact ⟨by kernel_rfl, fun j t ht => by
        rw [Tryd.params5] at ht
        have h3 : t = 24 := by
          rcases j with _ | _ | _ | j <;> simp at ht <;> simp [← ht]
        rcases h3 with rfl
        all_goals first | exact (show Tryd.prog.wantsStandIn 24 = false by kernel_rfl) | exact (show Tryd.prog.wantsStandIn 9 = false by kernel_rfl)⟩)
    (by kernel_rfl)
end Go.EV.Lv
