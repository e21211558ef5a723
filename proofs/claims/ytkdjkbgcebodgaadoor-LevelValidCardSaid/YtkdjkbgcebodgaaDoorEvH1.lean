/-
  Functions of the layer, one after another: what each hands back, as a plain function of its arguments.
-/
import Derived.Test.YtkdjkbgcebodgaaDoorEvPb
import Derived.Test.YtkdjkbgcebodgaaDoorEvF3
set_option linter.unusedSimpArgs false
set_option linter.unusedVariables false
namespace Go.EV.Lv
open Go Go.EV Go.Proofs
set_option maxRecDepth 100000
def dig (n : Int) : List UInt8 := [UInt8.ofNat (48 + n.toNat)]
def wordF (k : Int) : List UInt8 :=
  if k = 1 then [112, 117, 98, 108, 105, 99] else if k = 2 then [115, 101, 99, 114, 101, 116] else if k = 3 then [115, 121, 109] else if k = 4 then [112, 114, 105, 118] else if k = 5 then [112, 117, 98] else if k = 6 then [97, 110, 121] else []
theorem t63_0 : pureF (evFn E 20) 63 [.int .i64 0] = some (.str [48]) := by kernel_rfl
theorem t63_1 : pureF (evFn E 20) 63 [.int .i64 1] = some (.str [49]) := by kernel_rfl
theorem t63_2 : pureF (evFn E 20) 63 [.int .i64 2] = some (.str [50]) := by kernel_rfl
theorem t63_3 : pureF (evFn E 20) 63 [.int .i64 3] = some (.str [51]) := by kernel_rfl
theorem t63_4 : pureF (evFn E 20) 63 [.int .i64 4] = some (.str [52]) := by kernel_rfl
theorem t63_5 : pureF (evFn E 20) 63 [.int .i64 5] = some (.str [53]) := by kernel_rfl
theorem t63_6 : pureF (evFn E 20) 63 [.int .i64 6] = some (.str [54]) := by kernel_rfl
theorem t63_7 : pureF (evFn E 20) 63 [.int .i64 7] = some (.str [55]) := by kernel_rfl
theorem t41_0 : pureF (evFn E 20) 41 [.int .i64 0] = some (.str [48]) := by kernel_rfl
theorem t41_1 : pureF (evFn E 20) 41 [.int .i64 1] = some (.str [49]) := by kernel_rfl
theorem t41_2 : pureF (evFn E 20) 41 [.int .i64 2] = some (.str [50]) := by kernel_rfl
theorem t41_3 : pureF (evFn E 20) 41 [.int .i64 3] = some (.str [51]) := by kernel_rfl
theorem t41_4 : pureF (evFn E 20) 41 [.int .i64 4] = some (.str [52]) := by kernel_rfl
theorem t41_5 : pureF (evFn E 20) 41 [.int .i64 5] = some (.str [53]) := by kernel_rfl
theorem t41_6 : pureF (evFn E 20) 41 [.int .i64 6] = some (.str [54]) := by kernel_rfl
theorem t41_7 : pureF (evFn E 20) 41 [.int .i64 7] = some (.str [55]) := by kernel_rfl
theorem t74_0 : pureF (evFn E 20) 74 [.str [48]] = some (.tup [.int .i64 0, .nili]) := by kernel_rfl
theorem t74_1 : pureF (evFn E 20) 74 [.str [49]] = some (.tup [.int .i64 1, .nili]) := by kernel_rfl
theorem t74_2 : pureF (evFn E 20) 74 [.str [50]] = some (.tup [.int .i64 2, .nili]) := by kernel_rfl
theorem t74_3 : pureF (evFn E 20) 74 [.str [51]] = some (.tup [.int .i64 3, .nili]) := by kernel_rfl
theorem t74_4 : pureF (evFn E 20) 74 [.str [52]] = some (.tup [.int .i64 4, .nili]) := by kernel_rfl
theorem t74_5 : pureF (evFn E 20) 74 [.str [53]] = some (.tup [.int .i64 5, .nili]) := by kernel_rfl
theorem t74_6 : pureF (evFn E 20) 74 [.str [54]] = some (.tup [.int .i64 6, .nili]) := by kernel_rfl
theorem t74_7 : pureF (evFn E 20) 74 [.str [55]] = some (.tup [.int .i64 7, .nili]) := by kernel_rfl
theorem t43_1 : pureF (evFn E 20) 43 [.int .i64 1] = some (.str [112, 117, 98, 108, 105, 99]) := by kernel_rfl
theorem t47_1 : pureF (evFn E 20) 47 [.sl wordsL, .str [112, 117, 98, 108, 105, 99]] = some (.int .i64 1) := by kernel_rfl
theorem t43_2 : pureF (evFn E 20) 43 [.int .i64 2] = some (.str [115, 101, 99, 114, 101, 116]) := by kernel_rfl
theorem t47_2 : pureF (evFn E 20) 47 [.sl wordsL, .str [115, 101, 99, 114, 101, 116]] = some (.int .i64 2) := by kernel_rfl
theorem t43_3 : pureF (evFn E 20) 43 [.int .i64 3] = some (.str [115, 121, 109]) := by kernel_rfl
theorem t47_3 : pureF (evFn E 20) 47 [.sl wordsL, .str [115, 121, 109]] = some (.int .i64 3) := by kernel_rfl
theorem t43_4 : pureF (evFn E 20) 43 [.int .i64 4] = some (.str [112, 114, 105, 118]) := by kernel_rfl
theorem t47_4 : pureF (evFn E 20) 47 [.sl wordsL, .str [112, 114, 105, 118]] = some (.int .i64 4) := by kernel_rfl
theorem t43_5 : pureF (evFn E 20) 43 [.int .i64 5] = some (.str [112, 117, 98]) := by kernel_rfl
theorem t47_5 : pureF (evFn E 20) 47 [.sl wordsL, .str [112, 117, 98]] = some (.int .i64 5) := by kernel_rfl
theorem t43_6 : pureF (evFn E 20) 43 [.int .i64 6] = some (.str [97, 110, 121]) := by kernel_rfl
theorem t47_6 : pureF (evFn E 20) 47 [.sl wordsL, .str [97, 110, 121]] = some (.int .i64 6) := by kernel_rfl
theorem m63 : E.mode 63 = 0 := by kernel_rfl
theorem m41 : E.mode 41 = 0 := by kernel_rfl
theorem m74 : E.mode 74 = 0 := by kernel_rfl
theorem m43 : E.mode 43 = 0 := by kernel_rfl
theorem m47 : E.mode 47 = 0 := by kernel_rfl
theorem p63 (n : Int) (h0 : 0 ≤ n) (h7 : n ≤ 7) : pureF (callW E) 63 [.int .i64 n] = some (.str (dig n)) := by
  have h : n = 0 ∨ n = 1 ∨ n = 2 ∨ n = 3 ∨ n = 4 ∨ n = 5 ∨ n = 6 ∨ n = 7 := by omega
  rcases h with rfl | rfl | rfl | rfl | rfl | rfl | rfl | rfl
  · exact pureW t63_0
  · exact pureW t63_1
  · exact pureW t63_2
  · exact pureW t63_3
  · exact pureW t63_4
  · exact pureW t63_5
  · exact pureW t63_6
  · exact pureW t63_7
theorem p41 (n : Int) (h0 : 0 ≤ n) (h7 : n ≤ 7) : pureF (callW E) 41 [.int .i64 n] = some (.str (dig n)) := by
  have h : n = 0 ∨ n = 1 ∨ n = 2 ∨ n = 3 ∨ n = 4 ∨ n = 5 ∨ n = 6 ∨ n = 7 := by omega
  rcases h with rfl | rfl | rfl | rfl | rfl | rfl | rfl | rfl
  · exact pureW t41_0
  · exact pureW t41_1
  · exact pureW t41_2
  · exact pureW t41_3
  · exact pureW t41_4
  · exact pureW t41_5
  · exact pureW t41_6
  · exact pureW t41_7
theorem p74 (n : Int) (h0 : 0 ≤ n) (h7 : n ≤ 7) : pureF (callW E) 74 [.str (dig n)] = some (.tup [.int .i64 n, .nili]) := by
  have h : n = 0 ∨ n = 1 ∨ n = 2 ∨ n = 3 ∨ n = 4 ∨ n = 5 ∨ n = 6 ∨ n = 7 := by omega
  rcases h with rfl | rfl | rfl | rfl | rfl | rfl | rfl | rfl
  · exact pureW t74_0
  · exact pureW t74_1
  · exact pureW t74_2
  · exact pureW t74_3
  · exact pureW t74_4
  · exact pureW t74_5
  · exact pureW t74_6
  · exact pureW t74_7
theorem p43 (k : Int) (h0 : 1 ≤ k) (h7 : k ≤ 6) : pureF (callW E) 43 [.int .i64 k] = some (.str (wordF k)) := by
  have h : k = 1 ∨ k = 2 ∨ k = 3 ∨ k = 4 ∨ k = 5 ∨ k = 6 := by omega
  rcases h with rfl | rfl | rfl | rfl | rfl | rfl
  · exact pureW t43_1
  · exact pureW t43_2
  · exact pureW t43_3
  · exact pureW t43_4
  · exact pureW t43_5
  · exact pureW t43_6
theorem p47 (k : Int) (h0 : 1 ≤ k) (h7 : k ≤ 6) : pureF (callW E) 47 [.sl wordsL, .str (wordF k)] = some (.int .i64 k) := by
  have h : k = 1 ∨ k = 2 ∨ k = 3 ∨ k = 4 ∨ k = 5 ∨ k = 6 := by omega
  rcases h with rfl | rfl | rfl | rfl | rfl | rfl
  · exact pureW t47_1
  · exact pureW t47_2
  · exact pureW t47_3
  · exact pureW t47_4
  · exact pureW t47_5
  · exact pureW t47_6
def accG (base sep : List UInt8) (ws : List (List UInt8)) : Nat → List UInt8
  | 0 => base
  | i + 1 => (if i = 0 then accG base sep ws i else accG base sep ws i ++ sep) ++ ws.getD i []
theorem acc_step (base sep : List UInt8) (ws : List (List UInt8)) {i : Nat} {w : List UInt8} (h : ws[i]? = some w) :
    (decide ((i : Int) > 0) = false ∧ accG base sep ws i ++ w = accG base sep ws (i + 1)) ∨ (decide ((i : Int) > 0) = true ∧ accG base sep ws i ++ sep ++ w = accG base sep ws (i + 1)) := by
  have hw : ws.getD i [] = w := by simp [List.getD_eq_getElem?_getD, h]
  rcases Nat.eq_zero_or_pos i with rfl | hi
  · exact .inl ⟨rfl, by simp only [accG]; rw [hw]; rfl⟩
  · exact .inr ⟨by simp; omega, by simp only [accG]; rw [hw, if_neg (by omega)]⟩
theorem acc_len (base sep : List UInt8) (ws : List (List UInt8)) (m : Nat) (hw : ∀ w ∈ ws, w.length ≤ m) : ∀ i, (accG base sep ws i).length ≤ base.length + i * (sep.length + m)
  | 0 => by simp [accG]
  | i + 1 => by
    have ih := acc_len base sep ws m hw i
    have h1 : (ws.getD i []).length ≤ m := by
      rw [List.getD_eq_getElem?_getD]
      cases h : ws[i]? with
      | none => simp
      | some w => exact hw w (List.mem_of_getElem? h)
    unfold accG
    rw [Nat.succ_mul]
    split
    · rename_i h0; simp only [List.length_append]; omega
    · simp only [List.length_append]; omega
theorem join_snoc (sep w : List UInt8) : ∀ (ws : List (List UInt8)), ws ≠ [] → Lib.join (ws ++ [w]) sep = Lib.join ws sep ++ sep ++ w
  | [], h => absurd rfl h
  | [x], _ => by simp [Lib.join, List.intercalate]
  | x :: y :: r, _ => by
    have ih := join_snoc sep w (y :: r) (by simp)
    have c : ∀ (a b : List UInt8) (l : List (List UInt8)), Lib.join (a :: b :: l) sep = a ++ sep ++ Lib.join (b :: l) sep := by
      intro a b l; simp [Lib.join, List.intercalate, List.intersperse]
    have e1 : x :: y :: r ++ [w] = x :: (y :: (r ++ [w])) := rfl
    have e2 : y :: (r ++ [w]) = y :: r ++ [w] := rfl
    rw [e1, c, c, e2, ih]
    simp
theorem acc_join (base sep : List UInt8) (ws : List (List UInt8)) : ∀ i, i ≤ ws.length → accG base sep ws i = base ++ Lib.join (ws.take i) sep
  | 0, _ => by simp [accG, Lib.join, List.intercalate]
  | i + 1, h => by
    have ih := acc_join base sep ws i (by omega)
    have hi : i < ws.length := by omega
    have hg : ws.getD i [] = ws[i] := by simp [List.getD_eq_getElem?_getD, hi]
    have ht : ws.take (i + 1) = ws.take i ++ [ws[i]] := by rw [List.take_add_one, List.getElem?_eq_getElem hi]; rfl
    unfold accG
    rw [hg, ih, ht]
    split
    · rename_i h0; subst h0; simp [Lib.join, List.intercalate]
    · have hne : ws.take i ≠ [] := by
        intro e
        have hh : (ws.take i).length = 0 := by rw [e]; rfl
        rw [List.length_take] at hh
        omega
      rw [join_snoc sep _ _ hne]
      simp
theorem acc_all (base sep : List UInt8) (ws : List (List UInt8)) : accG base sep ws ws.length = base ++ Lib.join ws sep := by
  rw [acc_join base sep ws _ (Nat.le_refl _), List.take_length]
theorem word_len (k : Int) : (wordF k).length ≤ 6 := by
  unfold wordF
  repeat' split
  all_goals simp
theorem dig_len (n : Int) : (dig n).length = 1 := rfl
end Go.EV.Lv
