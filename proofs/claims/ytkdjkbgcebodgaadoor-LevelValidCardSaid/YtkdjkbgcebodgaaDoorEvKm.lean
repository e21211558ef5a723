/-
  More rules: what is built, and appends to own slices.
-/
import Derived.Test.YtkdjkbgcebodgaaDoorEvLt
set_option linter.unusedSimpArgs false
set_option linter.unusedVariables false
namespace Go.EV
variable {E : Env} {callF : CallF} {hp : Heap}
def hidApp (E : Env) (hp : Heap) (t : TypeId) (b g b' : Nat) : Option (AV × Heap) := builtinAV E hp .append [t, t] [.ms b g 0 g, .ms b' 1 0 1]
def appT (hp : Heap) (b g n y : Nat) (F : Option (AV × Heap)) (r x : Option HB) : Option (AV × Heap) := match r, x with
  | some (.row es sz wg com), some (.row [v] sz' wg' _) =>
    if sz = n ∧ sz' = n ∧ wg' ≤ 1 ∧ es.length = g ∧ com ≤ g ∧ (g + 1) * y ≤ 1099511627776 ∧ g + 1 ≤ 1099511627776 then some (.ms b (g + 1) 0 (g + 1), hp.set b (.row (es ++ [v]) sz wg com)) else F
  | _, _ => F
theorem appT_row {b g n y : Nat} {F : Option (AV × Heap)} {es : List AV} {v : AV} {sz wg com sz' wg' com' : Nat} : appT hp b g n y F (some (.row es sz wg com)) (some (.row [v] sz' wg' com')) =
    if sz = n ∧ sz' = n ∧ wg' ≤ 1 ∧ es.length = g ∧ com ≤ g ∧ (g + 1) * y ≤ 1099511627776 ∧ g + 1 ≤ 1099511627776 then some (.ms b (g + 1) 0 (g + 1), hp.set b (.row (es ++ [v]) sz wg com)) else F := rfl
theorem app_eq {t e : TypeId} {a a' : Bool} {n1 b1 n y : Nat} {z1 z : AV} {d : TypeDesc} (ht : E.ti t = some ⟨.slice e, a, n1, b1, z1⟩) (he : E.ti e = some ⟨d, a', n, y, z⟩) (hz : z.fits n = true) (h0 : 0 < n) (hy : y ≤ 1073741824) {b g b' : Nat} :
    builtinAV E hp .append [t, t] [.ms b g 0 g, .ms b' 1 0 1] = appT hp b g n y (hidApp E hp t b g b') hp[b]? hp[b']? := by
  cases hb : hp[b]? with
  | none => rfl
  | some r =>
    cases hb' : hp[b']? with
    | none => cases r <;> rfl
    | some x =>
      cases r with
      | sit s p => rfl
      | row es sz wg com =>
        cases x with
        | sit s p => rfl
        | row xs sz' wg' com' =>
          rcases xs with _ | ⟨v, _ | ⟨v', xs⟩⟩
          · rfl
          · rw [appT_row]
            split
            · rename_i h
              obtain ⟨rfl, rfl, h3, rfl, h5, h6, h7⟩ := h
              simp [builtinAV, appendAV, ht, he, content, hb', hb, h3, hz, h0, hy, h5, h6, h7]
            · rfl
          · rfl
theorem res_ms {d b g off len : Nat} : resolve hp (d + 1) (.ms b g off len) = (rowAt hp[b]? g).bind fun es => (many (resolve hp d) ((es.drop off).take len)).map .sl := by
  unfold resolve rowAt
  simp only
  cases hp[b]? with
  | none => rfl
  | some h =>
    cases h with
    | sit s p => rfl
    | row es sz wg com =>
      simp only
      split <;> rfl
theorem one_ms {b g o l : Nat} : (AV.ms b g o l).one = true := rfl
theorem cells_ms {b g o l : Nat} : (AV.ms b g o l).cells = [.ms b g o l] := rfl
theorem cells_mp {b g i o : Nat} : (AV.mp b g i o).cells = [.mp b g i o] := rfl
theorem cells_nils : AV.nils.cells = [.nils] := rfl
theorem cells_bool {b : Bool} : (AV.bool b).cells = [.bool b] := rfl
theorem one_mp {b g o l : Nat} : (AV.mp b g o l).one = true := rfl
theorem pure_ms {b g o l : Nat} : (AV.ms b g o l).isPure = false := by simp [AV.isPure]
theorem pureF_args {f : FuncId} {args args' : List AV} (h : AV.norm.normL args = AV.norm.normL args') : pureF callF f args = pureF callF f args' := by unfold pureF; rw [h]
theorem letGoR {n : Nat} {vs : List AV} {hp : Heap} (h : vs.all (AV.under n) = true) (h' : (hp.take n).all (HB.under n) = true) : letGo n vs hp = hp.take n := by
  unfold letGo; rw [if_pos (by simp only [h, h', Bool.and_self])]
theorem one_fits {v : AV} (h : v.one = true) : v.fits 1 = true := by
  cases v <;> first | rfl | (simp [AV.one] at h)
end Go.EV
namespace Go.EV.Lv
open Go Go.EV Go.Proofs
set_option maxRecDepth 100000
variable {hp : Heap}
theorem bld24 (k : Int) : buildAV E 24 [(0, .int .i64 k)] = some (.agg [.int .i64 k, .nils]) := by
  simp [buildAV, ti24, ti3, ti22, fillAV, placeOf, AV.fits, AV.cells, AV.one]
theorem bld24_0 : buildAV E 24 [] = some (.agg [.int .i64 0, .nils]) := by
  simp [buildAV, ti24, ti3, ti22, fillAV, placeOf, AV.fits, AV.cells, AV.one]
theorem bld42_0 : buildAV E 42 [] = some (.agg [.str [], .nils, .int .i64 0, .nils]) := by
  simp [buildAV, ti42, ti3, ti9, ti40, fillAV, placeOf, AV.fits, AV.cells, AV.one]
theorem bsl33 (a b : AV) (ha : a.one = true) (hb : b.one = true) : buildSliceAV E hp 33 1 [(0, .agg [a, b])] = some (.ms hp.length 1 0 1, hp ++ [.row [.agg [a, b]] 2 0 0]) := by
  simp [buildSliceAV, ti33, ti24, fillEls, AV.fits, AV.cells, ha, hb, show AV.one (.int .i64 0) = true from rfl, show AV.one .nils = true from rfl, List.replicate]
theorem bsl22 (a b c d : AV) (ha : a.one = true) (hb : b.one = true) (hc : c.one = true) (hd : d.one = true) : buildSliceAV E hp 22 1 [(0, .agg [a, b, c, d])] = some (.ms hp.length 1 0 1, hp ++ [.row [.agg [a, b, c, d]] 4 0 0]) := by
  simp [buildSliceAV, ti22, ti42, fillEls, AV.fits, AV.cells, ha, hb, hc, hd, show AV.one (.int .i64 0) = true from rfl, show AV.one .nils = true from rfl, show AV.one (.str []) = true from rfl, List.replicate]
theorem bsl40 (k : Int) : buildSliceAV E hp 40 1 [(0, .int .i64 k)] = some (.ms hp.length 1 0 1, hp ++ [.row [.int .i64 k] 1 0 0]) := by
  simp [buildSliceAV, ti40, ti3, fillEls, AV.fits, AV.cells, AV.one, List.replicate]
theorem bsl54 (k : List UInt8) : buildSliceAV E hp 54 1 [(0, .str k)] = some (.ms hp.length 1 0 1, hp ++ [.row [.str k] 1 0 0]) := by
  simp [buildSliceAV, ti54, ti9, fillEls, AV.fits, AV.cells, AV.one, List.replicate]
theorem app33 {b g b' : Nat} : builtinAV E hp .append [33, 33] [.ms b g 0 g, .ms b' 1 0 1] = appT hp b g 2 32 (hidApp E hp 33 b g b') hp[b]? hp[b']? := app_eq ti33 ti24 rfl (by decide) (by decide)
theorem app22 {b g b' : Nat} : builtinAV E hp .append [22, 22] [.ms b g 0 g, .ms b' 1 0 1] = appT hp b g 4 72 (hidApp E hp 22 b g b') hp[b]? hp[b']? := app_eq ti22 ti42 rfl (by decide) (by decide)
theorem app40 {b g b' : Nat} : builtinAV E hp .append [40, 40] [.ms b g 0 g, .ms b' 1 0 1] = appT hp b g 1 8 (hidApp E hp 40 b g b') hp[b]? hp[b']? := app_eq ti40 ti3 rfl (by decide) (by decide)
theorem app54 {b g b' : Nat} : builtinAV E hp .append [54, 54] [.ms b g 0 g, .ms b' 1 0 1] = appT hp b g 1 16 (hidApp E hp 54 b g b') hp[b]? hp[b']? := app_eq ti54 ti9 rfl (by decide) (by decide)
end Go.EV.Lv
