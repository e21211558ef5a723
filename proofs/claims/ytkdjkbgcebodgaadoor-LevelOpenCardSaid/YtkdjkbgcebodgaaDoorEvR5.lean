/-
  The layer's variable, from the row's premise; the evaluator's view of the program holds.
-/
import Derived.Test.YtkdjkbgcebodgaaDoorEvR4
set_option linter.unusedSimpArgs false
set_option linter.unusedVariables false
namespace Go.EV
variable {H : Type} {enc : TypeId × Value → H} {P : Program} {w : World} {sp : Nat → Bool} {held : Bool}
theorem laid_strs {t e : TypeId} {fuel : Nat} {cs : List Value} {L : List (List UInt8)} {rs : List (DataW H)} {ps : List MemPlace} (ht : P.underlying t = some (.slice e)) (he : P.underlying e = some .string) (hc : P.cellsOf e = 1) (hL : 0 < L.length)
    (h : DataW.trod enc P w 0 sp held fuel t cs = some (.slice (L.map fun s => .lit (.string s)) rs, ps)) : ∃ v, cs = [v] ∧ PRel (All w) w (.sl (L.map .str)) v := by
  obtain ⟨ad, cap, fuel', rfl, hle, _, hel⟩ := trod_slice_d ht h
  rw [hc] at hel
  have hlen : (L.map fun s => (DataW.lit (.string s) : DataW H)).length = L.length := by simp
  have key : ∀ i, i < L.length → w.cell? ((ad.add (i * 1)).add 0) = some (.string ⟨(L.getD i []).toArray⟩) := by
    intro i hi
    obtain ⟨ecs, q, h1, h2⟩ := hel i (by simpa using hi)
    have h3 : (L.map fun s => (DataW.lit (.string s) : DataW H))[i]'(by simpa using hi) = .lit (.string (L.getD i [])) := by simp [List.getD_eq_getElem?_getD, hi]
    rw [h3] at h2
    have h4 := trod_lit_str he h2
    subst h4
    simpa using (cells_get h1).2 0 (by omega)
  have hspot : ad.spot = none := by
    have h2 := key 0 hL
    have h3 : (ad.add (0 * 1)).add 0 = ad := rfl
    rw [h3] at h2
    unfold World.cell? at h2
    split at h2
    · split at h2
      · cases h2
      · rename_i hs; simpa using hs
    · cases h2
  have hml : (L.map AV.str).length = L.length := by simp
  have hg : ∀ i, i < L.length → (L.map AV.str).getD i .undef = .str (L.getD i []) := fun i hi => by simp [List.getD_eq_getElem?_getD, hi]
  have p := PRel.sl (Z := All w) (w := w) (L.map AV.str) 1 ad.block ad.off cap (fun i _ => .string ⟨(L.getD i []).toArray⟩) (by rw [hml]; rw [hlen] at hle; exact hle)
    (fun i hi => by rw [hml] at hi; rw [hg i hi]; rfl)
    (fun i o hi ho => by
      rw [hml] at hi
      obtain rfl : o = 0 := by omega
      have := key i hi
      rw [add_add ad hspot] at this
      exact ⟨this, cell_lt this⟩)
    (fun i o hi ho => by
      rw [hml] at hi
      obtain rfl : o = 0 := by omega
      rw [hg i hi]
      exact .str _)
  refine ⟨_, rfl, ?_⟩
  have hat : some ad = some (⟨ad.block, ad.off, none⟩ : Addr) := by
    obtain ⟨c, o, s⟩ := ad
    simp only at hspot
    rw [hspot]
  rw [hat, hlen, ← hml]
  exact p
end Go.EV
namespace Go.EV.Lv
open Go Go.EV Go.Proofs
set_option maxRecDepth 100000
theorem gWords : Tryd.prog.globalNamed "sealring/level.words" = some 0 := by kernel_rfl
theorem gType : (Tryd.prog.globals[0]?).map (·.type) = some 54 := by kernel_rfl
def wordsB : List (List UInt8) := [[], [112, 117, 98, 108, 105, 99], [115, 101, 99, 114, 101, 116], [115, 121, 109], [112, 114, 105, 118], [112, 117, 98], [97, 110, 121]]
theorem words_of_laid {w : World} (h : laidMetH Tryd.prog Go.Proofs.YtkdjkbgcebodgaaDoor.Rows.levelSubRow.laid w) : ∃ V, w.cell? ⟨0, 0, none⟩ = some V ∧ PRel (All w) w (.sl wordsL) V := by
  have h' : laidMet Tryd.prog Go.Proofs.YtkdjkbgcebodgaaDoor.Rows.levelSubRow.laid w := h
  obtain ⟨ps, hv, _⟩ := h'
  obtain ⟨_, _, _, _, _, _, _, _, _, _, hv, _⟩ := hv
  obtain ⟨_, _, _, _, _, _, _, _, _, _, hv, _⟩ := hv
  obtain ⟨_, _, _, _, _, _, _, _, _, _, hv, _⟩ := hv
  obtain ⟨_, _, _, _, _, _, _, _, _, _, hv, _⟩ := hv
  obtain ⟨_, _, _, _, _, _, _, _, _, _, hv, _⟩ := hv
  obtain ⟨g, t, cs, fuel, p, q, hg, ht, hvar, htr, _, _⟩ := hv
  obtain rfl : g = 0 := (Option.some.inj (gWords.symm.trans hg)).symm
  obtain rfl : t = 54 := (Option.some.inj (gType.symm.trans ht)).symm
  obtain ⟨v, hcs, hp⟩ := laid_strs (L := wordsB) Tryd.underlying54 Tryd.underlying9 co9 (by decide) htr
  have hcs' : cs = #[v] := Array.ext' hcs
  subst hcs'
  refine ⟨v, ?_, hp⟩
  simpa using World.var?_cell gWords hvar 0
end Go.EV.Lv
