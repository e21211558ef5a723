/-
  The order of types.
-/
import Derived.Test.YtkdjkbgcebodgaaDoorEvF10
set_option linter.unusedSimpArgs false
set_option linter.unusedVariables false
namespace Go.EV.Lv

theorem valid_range {t : Ty} (h : (validF t == 0) = true) : t.kind = 1 ∨ t.kind = 2 ∨ t.kind = 3 ∨ t.kind = 4 ∨ t.kind = 5 ∨ t.kind = 6 := by
  have := validF_kind h
  omega
theorem valid_plain {t : Ty} (h : (validF t == 0) = true) (h3 : t.kind ≠ 3) (h4 : t.kind ≠ 4) (h5 : t.kind ≠ 5) : t.ps = [] := by
  unfold validF at h
  split at h
  · simp at h
  split at h
  · simp at h
  · rename_i _ hk
    simp [h3, h4, h5] at hk
    exact hk
theorem chain_below {a b : Ty} (ha : (validF a == 0) = true) (hb : (validF b == 0) = true) : ((chainF a).any fun d => decide (d = b)) = belowF a b := by
  have pa := fun h3 h4 h5 => valid_plain ha h3 h4 h5
  have pb := fun h3 h4 h5 => valid_plain hb h3 h4 h5
  have ra := valid_range ha
  have rb := valid_range hb
  clear ha hb
  obtain ⟨ka, qa⟩ := a
  obtain ⟨kb, qb⟩ := b
  simp only at pa pb ra rb
  rcases ra with rfl | rfl | rfl | rfl | rfl | rfl <;> rcases rb with rfl | rfl | rfl | rfl | rfl | rfl <;> simp_all [chainF, belowF]
theorem subEq (a b : Ty) : subF a b = subR a b := by
  unfold subF subR
  rw [← validEq, ← validEq]
  cases ha : (validF a == 0) with
  | false => rfl
  | true =>
    cases hb : (validF b == 0) with
    | false => rfl
    | true => rw [chain_below ha hb]
theorem subR_iff {a b : Ty} : subF a b = true ↔ (validF a == 0) = true ∧ (validF b == 0) = true ∧ belowF a b = true := by
  rw [subEq]
  unfold subR
  rw [← validEq, ← validEq]
  simp only [Bool.and_eq_true]
theorem below_refl (a : Ty) : belowF a a = true := by simp [belowF]
theorem subAA (a : Ty) : subF a a = (validF a == 0) := by
  cases h : (validF a == 0) with
  | false =>
    cases hs : subF a a with
    | false => rfl
    | true => rw [(subR_iff.1 hs).1] at h; cases h
  | true => exact subR_iff.2 ⟨h, h, below_refl a⟩
theorem below_cases {a b : Ty} (h : belowF a b = true) : a = b ∨ b.kind = 6 ∨ (b.kind = 1 ∧ a.kind = 5) ∨ (b.kind = 2 ∧ (a.kind = 3 ∨ a.kind = 4)) := by
  unfold belowF at h
  simp only [Bool.or_eq_true, decide_eq_true_eq] at h
  rcases h with (h | h) | h
  · exact .inl h
  · exact .inr (.inl (by simpa using h))
  · split at h
    · rename_i h1; exact .inr (.inr (.inl ⟨h1, by simpa using h⟩))
    · exact .inr (.inr (.inr (by simpa using h)))
theorem same {a b : Ty} (ha : a.ps = []) (hb : b.ps = []) (hk : a.kind = b.kind) : a = b := by
  cases a; cases b; simp_all
theorem sub_antisymm {a b : Ty} (h : subF a b = true) (h' : subF b a = true) : a = b := by
  obtain ⟨ha, hb, h⟩ := subR_iff.1 h
  obtain ⟨_, _, h'⟩ := subR_iff.1 h'
  have pa := fun h3 h4 h5 => valid_plain ha h3 h4 h5
  have pb := fun h3 h4 h5 => valid_plain hb h3 h4 h5
  rcases below_cases h with h | h | ⟨h, h1⟩ | ⟨h, h1⟩
  · exact h
  · rcases below_cases h' with e | e | ⟨e, e1⟩ | ⟨e, e1⟩
    · exact e.symm
    · have hpa := pa (by omega) (by omega) (by omega)
      have hpb := pb (by omega) (by omega) (by omega)
      exact same hpa hpb (by omega)
    · omega
    · omega
  · rcases below_cases h' with e | e | ⟨e, e1⟩ | ⟨e, e1⟩
    · exact e.symm
    · omega
    · omega
    · omega
  · rcases below_cases h' with e | e | ⟨e, e1⟩ | ⟨e, e1⟩
    · exact e.symm
    · omega
    · omega
    · omega
theorem sub_trans {a b c : Ty} (h : subF a b = true) (h' : subF b c = true) : subF a c = true := by
  obtain ⟨ha, hb, h⟩ := subR_iff.1 h
  obtain ⟨_, hc, h'⟩ := subR_iff.1 h'
  refine subR_iff.2 ⟨ha, hc, ?_⟩
  rcases below_cases h with e | e | ⟨e, e1⟩ | ⟨e, e1⟩
  · rw [e]; exact h'
  · rcases below_cases h' with d | d | ⟨d, d1⟩ | ⟨d, d1⟩
    · rw [← d]; exact h
    · simp [belowF, d]
    · omega
    · omega
  · rcases below_cases h' with d | d | ⟨d, d1⟩ | ⟨d, d1⟩
    · rw [← d]; exact h
    · simp [belowF, d]
    · omega
    · omega
  · rcases below_cases h' with d | d | ⟨d, d1⟩ | ⟨d, d1⟩
    · rw [← d]; exact h
    · simp [belowF, d]
    · omega
    · omega
end Go.EV.Lv
