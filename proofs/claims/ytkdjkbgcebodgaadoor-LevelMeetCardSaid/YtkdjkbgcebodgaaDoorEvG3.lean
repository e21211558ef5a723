/-
  The plain law of bounds.
-/
import Derived.Test.YtkdjkbgcebodgaaDoorEvJa
set_option linter.unusedSimpArgs false
set_option linter.unusedVariables false
namespace Go.EV.Lv
open Go Go.EV Go.Proofs
set_option maxRecDepth 100000
def mt : Ty := ⟨0, []⟩
def joinF (a b : Ty) : Ty × Int :=
  if (errF a b != 0) = true then (mt, errF a b) else match (chainF a).find? fun x => subF b x with
    | some x => (x, 0)
    | none => (⟨6, []⟩, 0)
def bestR (a b : Ty) : List Ty → Ty → Ty
  | [], best => best
  | x :: r, best => bestR a b r (if (belowF a x && (belowF b x && belowF x best)) = true then x else best)
def joinR (a b : Ty) : Ty × Int :=
  if (errF a b != 0) = true then (mt, errF a b) else (bestR a b [a, b, ⟨1, []⟩, ⟨2, []⟩, ⟨6, []⟩] ⟨6, []⟩, 0)
theorem sub_valid {a b : Ty} (ha : (validF a == 0) = true) (hb : (validF b == 0) = true) : subF a b = belowF a b := by
  unfold subF
  rw [ha, hb, chain_below ha hb]
  rfl
theorem v1 : (validF ⟨1, []⟩ == 0) = true := rfl
theorem v2 : (validF ⟨2, []⟩ == 0) = true := rfl
theorem v6 : (validF ⟨6, []⟩ == 0) = true := rfl
inductive Shape : Ty → Prop
  | k1 : Shape ⟨1, []⟩
  | k2 : Shape ⟨2, []⟩
  | k3 (ps) : Shape ⟨3, ps⟩
  | k4 (ps) : Shape ⟨4, ps⟩
  | k5 (ps) : Shape ⟨5, ps⟩
  | k6 : Shape ⟨6, []⟩
theorem shape {a : Ty} (h : (validF a == 0) = true) : Shape a := by
  have hr := valid_range h
  have hp := valid_plain h
  obtain ⟨k, ps⟩ := a
  simp only at hr hp
  rcases hr with rfl | rfl | rfl | rfl | rfl | rfl
  · rw [hp (by omega) (by omega) (by omega)]; exact .k1
  · rw [hp (by omega) (by omega) (by omega)]; exact .k2
  · exact .k3 ps
  · exact .k4 ps
  · exact .k5 ps
  · rw [hp (by omega) (by omega) (by omega)]; exact .k6
theorem err_valid {a b : Ty} (ha : (validF a == 0) = true) (hb : (validF b == 0) = true) : (errF a b != 0) = false := by
  have h1 : validF a = 0 := by simpa using ha
  have h2 : validF b = 0 := by simpa using hb
  simp [errF, h1, h2]
theorem chain_valid {a : Ty} (ha : (validF a == 0) = true) : ∀ x ∈ chainF a, (validF x == 0) = true := by
  intro x hx
  cases shape ha <;> simp [chainF] at hx <;> rcases hx with rfl | rfl | rfl <;> first | exact ha | rfl
theorem find_congr {α : Type} {p q : α → Bool} : ∀ {l : List α}, (∀ x ∈ l, p x = q x) → l.find? p = l.find? q
  | [], _ => rfl
  | a :: l, h => by rw [List.find?_cons, List.find?_cons, h a (by simp), find_congr fun x hx => h x (by simp [hx])]
theorem join_valid {a b : Ty} (ha : (validF a == 0) = true) (hb : (validF b == 0) = true) : joinF a b = match (chainF a).find? fun x => belowF b x with
    | some x => (x, 0)
    | none => (⟨6, []⟩, 0) := by
  unfold joinF
  rw [err_valid ha hb, find_congr fun x hx => sub_valid hb (chain_valid ha x hx)]
  rfl
theorem join_eq {a b : Ty} (ha : (validF a == 0) = true) (hb : (validF b == 0) = true) : joinF a b = joinR a b ∧ joinF b a = joinF a b := by
  rw [join_valid ha hb, join_valid hb ha]
  unfold joinR
  rw [err_valid ha hb]
  cases shape ha <;> cases shape hb
  all_goals try (simp [chainF, bestR, belowF]; done)
  all_goals
    rename_i ps qs
    by_cases e : ps = qs
    · simp [chainF, bestR, belowF, e]
    · have e' : ¬ qs = ps := fun h => e h.symm
      simp [chainF, bestR, belowF, e, e']
theorem join_facts {a b : Ty} (ha : (validF a == 0) = true) (hb : (validF b == 0) = true) : (joinF a b).2 = 0 ∧ (validF (joinF a b).1 == 0) = true ∧ belowF a (joinF a b).1 = true ∧ belowF b (joinF a b).1 = true ∧ belowF a b = decide ((joinF a b).1 = b) := by
  rw [join_valid ha hb]
  cases shape ha <;> cases shape hb
  all_goals try (simp [chainF, belowF, ha, hb, v1, v2, v6, -beq_iff_eq]; done)
  all_goals
    rename_i ps qs
    by_cases e : ps = qs
    · subst e; simp [chainF, belowF, ha, hb, v1, v2, v6, -beq_iff_eq]
    · have e' : ¬ qs = ps := fun h => e h.symm
      simp [chainF, belowF, e, e', ha, hb, v1, v2, v6, -beq_iff_eq]
theorem mem_chain {a c : Ty} (ha : (validF a == 0) = true) (hc : (validF c == 0) = true) (h : belowF a c = true) : c ∈ chainF a := by
  rw [← chain_below ha hc, List.any_eq_true] at h
  obtain ⟨d, hd, he⟩ := h
  have : d = c := by simpa using he
  exact this ▸ hd
theorem join_least {a b c : Ty} (ha : (validF a == 0) = true) (hb : (validF b == 0) = true) (hc : (validF c == 0) = true) (h1 : belowF a c = true) (h2 : belowF b c = true) : belowF (joinF a b).1 c = true := by
  have hm := mem_chain ha hc h1
  clear h1
  revert h2
  rw [join_valid ha hb]
  cases shape ha <;> simp only [chainF, Nat.reduceEqDiff, Int.reduceEq, reduceIte, or_self, or_true, true_or, or_false, false_or, List.mem_cons, List.not_mem_nil] at hm <;> rcases hm with rfl | rfl | rfl <;> cases shape hb
  all_goals try (simp [chainF, belowF]; done)
  all_goals
    rename_i ps qs
    by_cases e : ps = qs
    · subst e; simp [chainF, belowF]
    · have e' : ¬ qs = ps := fun h => e h.symm
      simp [chainF, belowF, e, e']
end Go.EV.Lv
