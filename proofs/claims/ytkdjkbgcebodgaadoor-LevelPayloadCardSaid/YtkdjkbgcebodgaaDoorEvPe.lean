/-
  The row and the card of LevelPayload.
-/
import Derived.Test.YtkdjkbgcebodgaaDoorEvPd
import Derived.Test.YtkdjkbgcebodgaaDoorEvR7b
import Derived.Test.YtkdjkbgcebodgaaDoorEvRs
import Derived.ProofKit
import Derived.Test.YtkdjkbgcebodgaaDoorCards
import Derived.SevenTiedAt
set_option linter.unusedSimpArgs false
set_option linter.unusedVariables false
namespace Go.EV.Lv
open Go Go.EV Go.Proofs Go.Proofs.YtkdjkbgcebodgaaDoor Go.ChangeShapes Go.WideShapes Go.RowKit
set_option maxRecDepth 100000
theorem levelPayload_calls {W : World} (h : laidMetH Tryd.prog Go.Proofs.YtkdjkbgcebodgaaDoor.Rows.levelPayloadRow.laid W) {a : Ty} {b : List UInt8} {va vb : Value} (ha : a.ok) (hb : b.length ≤ big) (ra : PRel (All W) W (encT a) va) (rb : PRel (All W) W (.str b) vb) :
    Calls Tryd.prog 7 #[va, vb] W fun e W' => e = .returned (.bool true) ∧ Below W.heap.size W W' := by
  have hp := (pureF_ok (callW_ok (envOk h)) (p7 a b ha hb)).2
  refine (hp (All W) W #[va, vb] (.refl _ _) (fun c j h => h) (fun c j h => h) ⟨rfl, fun i hi => ?_⟩).mono ?_
  · match i, hi with
    | 0, _ => exact ra
    | 1, _ => exact rb
  · rintro e W' ⟨v, Z', rfl, hb, _, _, _, hr⟩
    cases hr
    exact ⟨rfl, hb⟩
theorem levelPayload_own : ownKnob Tryd.prog.godebug = none := by kernel_rfl
theorem levelPayload_laidOut : laidOutB Tryd.prog = true := by kernel_rfl
theorem levelPayload_read9 : Tryd.prog.readableRec 9 = true := by kernel_rfl
theorem levelPayload_lt9 : 9 < Tryd.prog.types.size := of_decide_eq_true (by kernel_rfl)
theorem levelPayload_read24 : Tryd.prog.readableRec 24 = true := by kernel_rfl
theorem levelPayload_lt24 : 24 < Tryd.prog.types.size := of_decide_eq_true (by kernel_rfl)
theorem levelPayload_lifted (os : Os) (started : os.Started) (H : Type) (enc : TypeId × Value → H) :
    ReturnsInHanded {} Tryd.checked os 7 .any (fun w args => (Rows.levelPayloadSpec.pre enc Tryd.prog Tryd.f7 [] false w args ∧ laidMetH Tryd.prog Rows.levelPayloadRow.laid w) ∧ sizedMet enc Tryd.prog Tryd.f7 (OpenSpec.ofChange Rows.levelPayloadSpec) false w args)
      (Rows.levelPayloadSpec.post enc Tryd.prog Tryd.f7 false true false false) := by
  refine returnsInHanded_of_change_and (C := Tryd.checked) (X := fun w _ => laidMetH Tryd.prog Rows.levelPayloadRow.laid w) (fun _ _ _ hh h => h.of_heap hh) levelPayload_own started (by kernel_rfl) Tryd.func7
    ⟨laidWorld os, fun _ _ => 0, ⟨#[], #[.agg #[.int .i64 0, .slice none 0 0], .string ⟨#[]⟩], []⟩, rfl, laid_shaped os _, rfl, (Input.okWide_of_okWideB (by kernel_rfl)).2, ⟨⟨ChangeSpec.pre_of_preB (fuel := 8) (by kernel_rfl), laid_met os _⟩, sizedMet_of_sizedB (fuel := 8) (by kernel_rfl)⟩, by
      simp only [Assume.holds]
      exact ⟨by simp, by simp, fun _ => Modest.zero, by simp, by simp⟩⟩ ?_
  intro W base args ds gs before hval0 hW _ _ hL _
  have hval : ∀ (j : Nat) t v, Tryd.f7.params[j]? = some t → args[j]? = some v → Value.okWide Tryd.prog W .any base t v := hval0
  have hW' := hW
  obtain ⟨p, q, hA0, hV, rfl, hfz, hnd⟩ := hW
  have hA : DataW.TrodAll enc Tryd.prog W 0 (fun _ => true) true Tryd.f7.params.toList args.toList ds p := hA0
  rw [Tryd.params7] at hA hval
  obtain ⟨va, vb, da, db, pa, pb, rfl, rfl, rfl, ha, hb⟩ := trodAll_two hA
  obtain ⟨rfl, rfl⟩ := trodVars_none hV
  have agg : ∀ (j : Nat) (v : Value), (#[24, 9] : Array TypeId)[j]? = some 24 → (#[va, vb] : Array Value)[j]? = some v → ∃ cs, v = .agg cs := by
    intro j v h1 h2
    have h := hval j 24 v h1 h2
    unfold Value.okWide at h
    rw [Tryd.underlying24] at h
    obtain ⟨cs, h, _⟩ := h
    exact ⟨cs, h⟩
  have str : ∀ (j : Nat) (v : Value), (#[24, 9] : Array TypeId)[j]? = some 9 → (#[va, vb] : Array Value)[j]? = some v → ∃ s, v = .string s := by
    exact fun j v h1 h2 => okStr (hval j 9 v h1 h2)
  obtain ⟨a, oa, ra⟩ := openT (agg 0 va rfl rfl) ha
  obtain ⟨b, ob, rb⟩ := openS (str 1 vb rfl rfl) hb
  clear hA0 hval0
  refine (levelPayload_calls hL oa ob ra rb).mono fun e W' ⟨he, hw⟩ => ?_
  subst he
  have hlt : ∀ x ∈ pa ++ pb, x.block < W.heap.size := fun x hx => hW'.lt x (by simpa using hx)
  have e1 : Rows.levelPayloadSpec.fn H ([da, db] ++ []) = { results := [.lit (.bool true)], args := [da, db] } := by simp [Rows.levelPayloadSpec]
  refine ⟨_, rfl, _, _, _, [], pa ++ pb, [], hW', ?_, ?_, ?_, hw.frame _, fun h => by cases h⟩
  · rw [e1]; exact trodAll_mk1 (shut_bool Tryd.underlying4 true)
  · rw [e1]
    exact trodAll_mk2 (Below.trod levelPayload_laidOut levelPayload_read24 levelPayload_lt24 ha hw fun x hx => hlt x (by simp [hx])) (Below.trod levelPayload_laidOut levelPayload_read9 levelPayload_lt9 hb hw fun x hx => hlt x (by simp [hx]))
  · rw [e1]; rfl
theorem levelPayload_holds : Rows.LevelPayloadSaid :=
  OpenClaim.holds_of_wide 7 Tryd.f7 rfl rfl rfl rfl rfl rfl rfl ⟨rfl, rfl, rfl, rfl, rfl⟩ rfl rfl rfl rfl rfl (by kernel_rfl) Tryd.func7 (by kernel_rfl)
    (of_decide_eq_true (by kernel_rfl)) (by unfold Func.isWrapper; first | (rw [if_pos (by decide +kernel)]; kernel_rfl) | (rw [if_neg (by decide +kernel)]; exact ⟨rfl, rfl⟩))
    (fun os started H enc _ => levelPayload_lifted os started H enc)
theorem levelPayload_card : Rows.LevelPayloadCardSaid :=
  Claim7.holds_tied_plain_at .later [] [.data, .data, .data, .sentinel, .sentinel, .widerDeep] true (true, "3fe4795ac424d474b1ec7c377f5d720d95ad94c5c48fd264f854cc913967dab0") true
    levelPayload_holds (fun _ h => by cases h) (by kernel_rfl) (fun _ h => by cases h) levelPayload_row_tie rfl ⟨rfl, rfl⟩ (by kernel_rfl) rfl
    (fun f fn hf hfn => by
      obtain rfl : f = 7 := Option.some.inj ((show Tryd.prog.funcNamed "sealring/sealringlaw49.LevelPayload" = some 7 by kernel_rfl).symm.trans hf) |>.symm
      obtain rfl : fn = Tryd.f7 := (Option.some.inj (Tryd.func7.symm.trans hfn)).symm
      exact ⟨by kernel_rfl, fun j t ht => by
        rw [Tryd.params7] at ht
        have h3 : t = 24 ∨ t = 9 := by
          rcases j with _ | _ | j <;> simp at ht <;> simp [← ht]
        rcases h3 with rfl | rfl
        all_goals first | exact (show Tryd.prog.wantsStandIn 24 = false by kernel_rfl) | exact (show Tryd.prog.wantsStandIn 9 = false by kernel_rfl)⟩)
    (by kernel_rfl)
end Go.EV.Lv
