/-
  Plain laws of types.
-/
import Derived.Test.YtkdjkbgcebodgaaDoorEvF9
set_option linter.unusedSimpArgs false
set_option linter.unusedVariables false
namespace Go.EV.Lv

theorem badF_succ (i : Nat) (c : UInt8) : (!badF (i + 1) c) = okR c := by
  have h0 : (((i + 1 : Nat) : Int) == 0) = false := by simp; omega
  simp only [badF, okR, digF, h0, Bool.false_or]
  cases letF c.toNat
  · simp only [Bool.not_false, Bool.true_and, Bool.false_or]
    by_cases h1 : (c.toNat : Int) = 95 <;> by_cases h2 : (c.toNat : Int) = 35 <;> by_cases h3 : (c.toNat : Int) < 48 <;> by_cases h4 : (c.toNat : Int) > 57 <;> simp [h1, h2, h3, h4, bne] <;> omega
  · simp
theorem goodF_succ : ∀ (s : List UInt8) (i : Nat), goodF (i + 1) s = s.all okR
  | [], i => rfl
  | c :: r, i => by
    rw [goodF, badF_succ, goodF_succ r (i + 1), List.all_cons]
theorem nameEq (s : List UInt8) : nameF s = nameR s := by
  cases s with
  | nil => rfl
  | cons c r =>
    have h0 : (!badF 0 c) = letF c.toNat := by
      simp only [badF]
      cases letF c.toNat <;> simp
    have h1 : letF c.toNat = true → okR c = true := by intro h; simp [okR, h]
    have h2 : decide ((((c :: r).length : Nat) : Int) > 0) = true := by simp
    have h3 : decide ((((c :: r).length : Nat) : Int) ≤ 24) = !decide ((((c :: r).length : Nat) : Int) > 24) := by
      rw [← decide_not]
      exact decide_eq_decide.2 (by omega)
    rw [nameF, goodF, h0, goodF_succ, h2, h3, nameR, List.all_cons]
    cases hl : letF c.toNat
    · simp
    · rw [h1 hl]
      cases r.all okR <;> cases decide ((((c :: r).length : Nat) : Int) > 24) <;> rfl
theorem numEq (p : Pl) : numF p = rangesF p := by
  have h1 : ∀ (l : List Int) (f : Int → Bool), (!l.any f) = l.all fun d => !f d := by
    intro l f
    induction l with
    | nil => rfl
    | cons d l ih => simp only [List.any_cons, List.all_cons, Bool.not_or, ih]
  unfold numF rangesF
  rw [h1]
  congr 1
  by_cases hg : p.goal < -1
  · have : decide (p.goal < -1) = true := by simpa using hg
    simp only [this, Bool.true_or, Bool.or_true]
  · have : decide (p.goal < 0) = (p.goal == -1) := by
      rw [Bool.eq_iff_iff]
      simp
      omega
    rw [this]
theorem bytesNil (s : List UInt8) (h : s ≠ []) : (Op.bytesLess s [] || s == []) = false := by
  cases s with
  | nil => exact absurd rfl h
  | cons c r => simp [Op.bytesLess]
theorem nameR_ne {s : List UInt8} (h : nameR s = true) : s ≠ [] := by
  rintro rfl
  simp [nameR] at h
theorem valEq : ∀ (l : List Pl) (s : List UInt8), valL s l = valR (some s) l
  | [], s => rfl
  | p :: r, s => by
    unfold valL valR
    rw [nameEq, numEq, valEq r p.tag]
    rfl
theorem validEq (t : Ty) : validF t = validR t := by
  unfold validF validR
  have : valL [] t.ps = valR none t.ps := by
    cases t.ps with
    | nil => rfl
    | cons p r =>
      unfold valL valR
      rw [nameEq, numEq, valEq r p.tag]
      cases hn : nameR p.tag with
      | false => rfl
      | true =>
        rw [bytesNil _ (nameR_ne hn)]
        rfl
  rw [this]
end Go.EV.Lv
