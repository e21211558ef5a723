/-
  The layer's variable, from the row's premise; the evaluator's view of the program holds.
-/
import Derived.Test.YtkdjkbgcebodgaaDoorEvR4
import Derived.Test.YtkdjkbgcebodgaaDoorTie
import Derived.LaidLaws
import Derived.Handed
import Derived.Shaped
set_option linter.unusedSimpArgs false
set_option linter.unusedVariables false
namespace Go.EV
variable {H : Type} {enc : TypeId × Value → H} {P : Program} {w : World} {sp : Nat → Bool} {held : Bool}
theorem laid_strs {t e : TypeId} {fuel : Nat} {cs : List Value} {L : List (List UInt8)} {rs : List (DataW H)} {ps : List MemPlace} (ht : P.underlying t = some (.slice e)) (he : P.underlying e = some .string) (hc : P.cellsOf e = 1) (hL : 0 < L.length)
    (h : DataW.trod enc P w 0 sp held fuel t cs = some (.slice (L.map fun s => .lit (.string s)) rs, ps)) : ∃ v, cs = [v] ∧ PRel (All w) w (.sl (L.map .str)) v := by
  obtain ⟨ad, cap, fuel', rfl, hle, _, hel⟩ := trod_slice_d ht h
  rw [hc] at hel
  have hlen : (L.map fun s => (DataW.lit (.string s) : DataW H)).length = L.length := by simp
  have key : ∀ i, i < L.length → w.cell? ((ad.add (i * 1)).add 0) = some (.string ⟨(L.getD i []).toArray⟩) := by
    intro i hi
    obtain ⟨ecs, q, h1, h2⟩ := hel i (by simpa using hi)
    have h3 : (L.map fun s => (DataW.lit (.string s) : DataW H))[i]'(by simpa using hi) = .lit (.string (L.getD i [])) := by simp [List.getD_eq_getElem?_getD, hi]
    rw [h3] at h2
    have h4 := trod_lit_str he h2
    subst h4
    simpa using (cells_get h1).2 0 (by omega)
  have hspot : ad.spot = none := by
    have h2 := key 0 hL
    have h3 : (ad.add (0 * 1)).add 0 = ad := rfl
    rw [h3] at h2
    unfold World.cell? at h2
    split at h2
    · split at h2
      · cases h2
      · rename_i hs; simpa using hs
    · cases h2
  have hml : (L.map AV.str).length = L.length := by simp
  have hg : ∀ i, i < L.length → (L.map AV.str).getD i .undef = .str (L.getD i []) := fun i hi => by simp [List.getD_eq_getElem?_getD, hi]
  have p := PRel.sl (Z := All w) (w := w) (L.map AV.str) 1 ad.block ad.off cap (fun i _ => .string ⟨(L.getD i []).toArray⟩) (by rw [hml]; rw [hlen] at hle; exact hle)
    (fun i hi => by rw [hml] at hi; rw [hg i hi]; rfl)
    (fun i o hi ho => by
      rw [hml] at hi
      obtain rfl : o = 0 := by omega
      have := key i hi
      rw [add_add ad hspot] at this
      exact ⟨this, cell_lt this⟩)
    (fun i o hi ho => by
      rw [hml] at hi
      obtain rfl : o = 0 := by omega
      rw [hg i hi]
      exact .str _)
  refine ⟨_, rfl, ?_⟩
  have hat : some ad = some (⟨ad.block, ad.off, none⟩ : Addr) := by
    obtain ⟨c, o, s⟩ := ad
    simp only at hspot
    rw [hspot]
  rw [hat, hlen, ← hml]
  exact p
end Go.EV
namespace Go.EV.Lv
open Go Go.EV Go.Proofs
set_option maxRecDepth 100000
theorem gWords : Tryd.prog.globalNamed "sealring/level.words" = some 0 := by kernel_rfl
theorem gType : (Tryd.prog.globals[0]?).map (·.type) = some 54 := by kernel_rfl
def wordsB : List (List UInt8) := [[], [112, 117, 98, 108, 105, 99], [115, 101, 99, 114, 101, 116], [115, 121, 109], [112, 114, 105, 118], [112, 117, 98], [97, 110, 121]]
theorem words_of_laid {w : World} (h : laidMetH Tryd.prog Go.Proofs.YtkdjkbgcebodgaaDoor.Rows.levelSubRow.laid w) : ∃ V, w.cell? ⟨0, 0, none⟩ = some V ∧ PRel (All w) w (.sl wordsL) V := by
  have h' : laidMet Tryd.prog Go.Proofs.YtkdjkbgcebodgaaDoor.Rows.levelSubRow.laid w := h
  obtain ⟨ps, hv, _⟩ := h'
  obtain ⟨_, _, _, _, _, _, _, _, _, _, hv, _⟩ := hv
  obtain ⟨_, _, _, _, _, _, _, _, _, _, hv, _⟩ := hv
  obtain ⟨_, _, _, _, _, _, _, _, _, _, hv, _⟩ := hv
  obtain ⟨_, _, _, _, _, _, _, _, _, _, hv, _⟩ := hv
  obtain ⟨_, _, _, _, _, _, _, _, _, _, hv, _⟩ := hv
  obtain ⟨g, t, cs, fuel, p, q, hg, ht, hvar, htr, _, _⟩ := hv
  obtain rfl : g = 0 := (Option.some.inj (gWords.symm.trans hg)).symm
  obtain rfl : t = 54 := (Option.some.inj (gType.symm.trans ht)).symm
  obtain ⟨v, hcs, hp⟩ := laid_strs (L := wordsB) Tryd.underlying54 Tryd.underlying9 co9 (by decide) htr
  have hcs' : cs = #[v] := Array.ext' hcs
  subst hcs'
  refine ⟨v, ?_, hp⟩
  simpa using World.var?_cell gWords hvar 0
end Go.EV.Lv
/-
  The call of LevelSub.
-/
set_option linter.unusedSimpArgs false
set_option linter.unusedVariables false
namespace Go.EV.Lv
open Go Go.EV Go.Proofs Go.RowKit
set_option maxRecDepth 100000
theorem envOk {w : World} (h : laidMetH Tryd.prog Go.Proofs.YtkdjkbgcebodgaaDoor.Rows.levelSubRow.laid w) : EnvOk E Tryd.prog w where
  ti := fun t ti h => tiOf_ok h
  fn := fun f d h => by
    have h' : Tryd.prog.funcs[f]? = some d := h
    refine ⟨h', ?_⟩
    have hm : d ∈ Tryd.prog.funcs.toList := by
      have : Tryd.prog.funcs.toList[f]? = some d := by simpa using h'
      exact List.mem_of_getElem? this
    have := List.all_eq_true.1 names d hm
    simpa using this
  gl := fun g v hg => by
    have hg' : (if g = 0 then some (AV.sl wordsL) else none) = some v := hg
    split at hg'
    · rename_i h0
      injection hg' with hv
      subst h0; subst hv
      obtain ⟨V, h1, h2⟩ := words_of_laid h
      refine ⟨1, fun _ => V, by omega, rfl, fun o ho => ?_⟩
      obtain rfl : o = 0 := by omega
      exact ⟨h1, h2⟩
    · cases hg'
  lib := lib_ok
  mix := Checked.mixed Tryd.checked
theorem sub_calls {W : World} (h : laidMetH Tryd.prog Go.Proofs.YtkdjkbgcebodgaaDoor.Rows.levelSubRow.laid W) {a b c : Ty} {va vb vc : Value} (ha : a.ok) (hb : b.ok) (hc : c.ok)
    (ra : PRel (All W) W (encT a) va) (rb : PRel (All W) W (encT b) vb) (rc : PRel (All W) W (encT c) vc) :
    Calls Tryd.prog 3 #[va, vb, vc] W fun e W' => e = .returned (.bool true) ∧ Below W.heap.size W W' := by
  have hp := (pureF_ok (callW_ok (envOk h)) (p3 a b c ha hb hc)).2
  refine (hp (All W) W #[va, vb, vc] (.refl _ _) (fun c j h => h) (fun c j h => h) ⟨rfl, fun i hi => ?_⟩).mono ?_
  · match i, hi with
    | 0, _ => exact ra
    | 1, _ => exact rb
    | 2, _ => exact rc
  · rintro e W' ⟨v, Z', rfl, hb, _, _, _, hr⟩
    cases hr
    exact ⟨rfl, hb⟩
end Go.EV.Lv
/-
  A start that fits: the listed variables as their initialisers lay them.
-/
set_option linter.unusedSimpArgs false
set_option linter.unusedVariables false
namespace Go.EV.Lv
open Go Go.EV Go.Proofs Go.Proofs.YtkdjkbgcebodgaaDoor
set_option maxRecDepth 100000
def valsOf : DataW Unit → Array Value
  | .agg ds => (ds.map one).toArray
  | .slice ds _ => (ds.map one).toArray
  | _ => #[]
where
  one : DataW Unit → Value
    | .lit (.int k n) => .int k n
    | .lit (.string l) => .string ⟨l.toArray⟩
    | _ => .nilIface
def textOf : DataW Unit → Array Value
  | .iface _ (.ptr (.agg ds)) => (ds.map valsOf.one).toArray
  | _ => #[]
noncomputable def low : Nat := (World.holding Tryd.prog default ⟨#[], #[], []⟩).heap.size
def putG (cs : Array Value) : Obj → Obj
  | .cells _ t frozen => .cells cs t frozen
  | o => o
noncomputable def laidWorld (os : Os) : World :=
  let w0 := World.holding Tryd.prog os ⟨#[.cells (valsOf Rows.laid_sealring_level_words) 9, .cells (textOf Rows.laid_strconv_ErrSyntax) 123, .cells (textOf Rows.laid_strconv_ErrRange) 123], #[], []⟩
  { w0 with heap := (((((w0.heap.modify 0 (putG #[.slice (some ⟨low, 0, none⟩) 7 7])).modify 1 (putG (valsOf Rows.laid_internal_strconv_uint64pow10))).modify 3 (putG #[.iface 121 (.pointer (some ⟨low + 1, 0, none⟩))])).modify 4 (putG #[.iface 121 (.pointer (some ⟨low + 2, 0, none⟩))])).modify 5 (putG (valsOf Rows.laid_math_bits_deBruijn32tab))).modify 6 (putG (valsOf Rows.laid_math_bits_deBruijn64tab)) }
theorem laid_met (os : Os) (args : Array Value) : laidMetH Tryd.prog Rows.levelSubRow.laid ((laidWorld os).forCall (fun _ _ => 0) ⟨#[], args, []⟩).memory := by
  have h : laidMet Tryd.prog Rows.levelSubRow.laid ((laidWorld os).forCall (fun _ _ => 0) ⟨#[], args, []⟩).memory := laidMet_of_run' 8 (by kernel_rfl) (by kernel_rfl)
  exact h
end Go.EV.Lv
/-
  The start is shaped.
-/
set_option linter.unusedSimpArgs false
set_option linter.unusedVariables false
namespace Go.EV
def varB (P : Program) (w : World) (g : Nat) : Bool :=
  match ((begin P (fun _ _ => 0) default).world.heap[g]?).bind Obj.row? with
  | none => true
  | some (zero, t) => match w.heap[g]? with
    | some (.cells cs t' frozen) => decide (t' = t) && decide (frozen = (0, 0)) && cs.size == zero.size && (!P.buildable t || Row.okB P t cs)
    | _ => false
theorem shaped_but {P : Program} {w : World} {k0 : Nat} (hv : (List.range P.globals.size).all (fun g => g == k0 || varB P w g) = true)
    (hr : (w.heap.toList.drop P.globals.size).take ((begin P (fun _ _ => 0) default).world.heap.size - P.globals.size) = (begin P (fun _ _ => 0) default).world.heap.toList.drop P.globals.size)
    {z : Array Value} {t0 : TypeId} (h0 : ((begin P (fun _ _ => 0) default).world.heap[k0]?).bind Obj.row? = some (z, t0)) {cs0 : Array Value} (hw0 : w.heap[k0]? = some (.cells cs0 t0)) (hs0 : cs0.size = z.size) (hok : Row.ok P w .any 0 t0 cs0) : w.Shaped P := by
  refine ⟨fun g zero t hg hz => ?_, fun k h1 h2 => ?_⟩
  case refine_2 =>
    have := congrArg (·[k - P.globals.size]?) hr
    simp only [List.getElem?_take, List.getElem?_drop, Array.getElem?_toList] at this
    rw [if_pos (by omega), Nat.add_sub_cancel' h1] at this
    exact this
  have := List.all_eq_true.1 hv g (List.mem_range.2 hg)
  by_cases hk : g = k0
  · subst hk
    rw [h0] at hz
    injection hz with hz; injection hz with e1 e2
    subst e1; subst e2
    exact ⟨cs0, hw0, hs0, fun _ => hok⟩
  · have hk' : (g == k0) = false := by simpa using hk
    rw [hk', Bool.false_or] at this
    unfold varB at this
    rw [hz] at this
    simp only at this
    split at this
    · rename_i cs t' fr hw
      simp only [Bool.and_eq_true, decide_eq_true_eq, beq_iff_eq, Bool.or_eq_true, Bool.not_eq_true'] at this
      obtain ⟨⟨⟨rfl, rfl⟩, hs⟩, hb⟩ := this
      refine ⟨cs, hw, hs, fun hbuild => ?_⟩
      rcases hb with hb | hb
      · rw [hbuild] at hb; cases hb
      · exact Row.ok_of_okB hb
    · cases this
end Go.EV
namespace Go.EV.Lv
open Go Go.EV Go.Proofs Go.Proofs.YtkdjkbgcebodgaaDoor
set_option maxRecDepth 100000
theorem laid_shaped (os : Os) (args : Array Value) : ((laidWorld os).forCall (fun _ _ => 0) ⟨#[], args, []⟩).Shaped Tryd.prog := by
  refine shaped_but (k0 := 0) (by kernel_rfl) (by kernel_rfl) (z := #[.slice none 0 0]) (t0 := 54) (by kernel_rfl) (cs0 := #[.slice (some ⟨low, 0, none⟩) 7 7]) (by kernel_rfl) rfl ?_
  refine ⟨[54], by kernel_rfl, ⟨1, rfl⟩, fun i v hv => ?_⟩
  have hi : i = 0 := by
    rcases i with _ | i
    · rfl
    · simp at hv
  subst hi
  obtain rfl : v = .slice (some ⟨low, 0, none⟩) 7 7 := by simpa using hv.symm
  refine ⟨54, rfl, ?_⟩
  unfold Cell.ok
  rw [Tryd.underlying54]
  exact ⟨Nat.le_refl _, by decide, trivial, rfl, 9, 7, by kernel_rfl, by kernel_rfl⟩
end Go.EV.Lv
