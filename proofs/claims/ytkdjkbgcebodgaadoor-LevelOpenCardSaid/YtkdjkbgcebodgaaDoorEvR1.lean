/-
  From a row's reading to the evaluator's values.
-/
import Derived.Test.YtkdjkbgcebodgaaDoorEvF11
import GoSem.ClaimChange
set_option linter.unusedSimpArgs false
set_option linter.unusedVariables false
namespace Go.EV
variable {H : Type} {enc : TypeId × Value → H} {P : Program} {w : World} {sp : Nat → Bool} {held : Bool}

theorem mapM_some {α β : Type} {f : α → Option β} : ∀ {l : List α} {r : List β}, l.mapM f = some r → ∀ x ∈ l, ∃ y, f x = some y
  | [], r, h, x, hx => by simp at hx
  | a :: l, r, h, x, hx => by
    rw [List.mapM_cons] at h
    cases ha : f a with
    | none => rw [ha] at h; simp at h
    | some b =>
      rw [ha] at h
      cases hl : l.mapM f with
      | none => rw [hl] at h; simp at h
      | some bs =>
        rcases List.mem_cons.1 hx with rfl | hx
        · exact ⟨b, ha⟩
        · exact mapM_some hl x hx
theorem trod_slice {t e : TypeId} {fuel : Nat} {cs : List Value} {x : DataW H × List MemPlace} (ht : P.underlying t = some (.slice e)) (h : DataW.trod enc P w 0 sp held fuel t cs = some x) :
    ∃ a len cap, cs = [.slice a len cap] ∧ ((a = none ∧ len = 0 ∧ cap = 0) ∨ ∃ ad fuel', a = some ad ∧ len ≤ cap ∧ cap ≤ maxLen ∧
      ∀ i, i < len → ∃ ecs y, w.cells? 0 (ad.add (i * P.cellsOf e)) (P.cellsOf e) = some ecs ∧ DataW.trod enc P w 0 sp held fuel' e ecs = some y) := by
  cases fuel with
  | zero => simp [DataW.trod] at h
  | succ fuel =>
    unfold DataW.trod at h
    rw [ht] at h
    split at h <;> (rename_i he; try (simp at he; done))
    · exact ⟨none, 0, 0, rfl, .inl ⟨rfl, rfl, rfl⟩⟩
    · rename_i e' a len cap
      obtain rfl : e = e' := by injection he with he; injection he
      simp only at h
      split at h
      · rename_i hc
        cases hm : (List.range len).mapM fun i => (w.cells? 0 (a.add (i * P.cellsOf e)) (P.cellsOf e)).bind (DataW.trod enc P w 0 sp held fuel e) with
        | none => rw [hm] at h; simp at h
        | some els =>
          refine ⟨some a, len, cap, rfl, .inr ⟨a, fuel, rfl, hc.2.1, hc.2.2, fun i hi => ?_⟩⟩
          obtain ⟨y, hy⟩ := mapM_some hm i (List.mem_range.2 hi)
          cases hcs : w.cells? 0 (a.add (i * P.cellsOf e)) (P.cellsOf e) with
          | none => rw [hcs] at hy; simp at hy
          | some ecs => rw [hcs] at hy; exact ⟨ecs, y, rfl, hy⟩
      · cases h
    · cases h
theorem trod_int {t : TypeId} {k : IntKind} {fuel : Nat} {cs : List Value} {x : DataW H × List MemPlace} (ht : P.underlying t = some (.int k)) (h : DataW.trod enc P w 0 sp held fuel t cs = some x) : ∃ n, cs = [.int k n] := by
  cases fuel with
  | zero => simp [DataW.trod] at h
  | succ fuel =>
    unfold DataW.trod at h
    rw [ht] at h
    split at h <;> (rename_i he; try (simp at he; done))
    · rename_i k' k'' n
      obtain rfl : k = k' := by injection he with he; injection he
      split at h
      · rename_i hc; rw [hc.1]; exact ⟨n, rfl⟩
      · cases h
    · cases h
theorem trod_str {t : TypeId} {fuel : Nat} {cs : List Value} {x : DataW H × List MemPlace} (ht : P.underlying t = some .string) (h : DataW.trod enc P w 0 sp held fuel t cs = some x) : ∃ s : ByteArray, cs = [.string s] ∧ s.size ≤ maxLen := by
  cases fuel with
  | zero => simp [DataW.trod] at h
  | succ fuel =>
    unfold DataW.trod at h
    rw [ht] at h
    split at h <;> (rename_i he; try (simp at he; done))
    · rename_i s
      split at h
      · rename_i hc; exact ⟨s, rfl, hc⟩
      · cases h
    · cases h
theorem trod_struct {t : TypeId} {fs : Array Field} {fuel : Nat} {cs : List Value} {x : DataW H × List MemPlace} (ht : P.underlying t = some (.struct fs)) (h : DataW.trod enc P w 0 sp held fuel t cs = some x) :
    cs.length = P.cellsOf t ∧ ∃ fuel', ∀ f ∈ fs.toList, ∃ y, DataW.trod enc P w 0 sp held fuel' f.type ((cs.drop f.offset).take (P.cellsOf f.type)) = some y := by
  cases fuel with
  | zero => simp [DataW.trod] at h
  | succ fuel =>
    unfold DataW.trod at h
    rw [ht] at h
    split at h <;> (rename_i he; try (simp at he; done))
    · rename_i cs _ _ fs'
      obtain rfl : fs = fs' := by injection he with he; injection he
      split at h
      · rename_i hc
        refine ⟨hc, fuel, fun f hf => ?_⟩
        cases hm : fs.toList.mapM fun f => DataW.trod enc P w 0 sp held fuel f.type ((cs.drop f.offset).take (P.cellsOf f.type)) with
        | none => rw [hm] at h; simp at h
        | some els => exact mapM_some hm f hf
      · cases h
    · exact ((‹∀ fs_1 : Array Field, some (TypeDesc.struct fs) = some (TypeDesc.struct fs_1) → False›) fs rfl).elim
/-- Cells that are read one by one. -/
theorem cells_get {a : Addr} {n : Nat} {cs : List Value} (h : w.cells? 0 a n = some cs) : cs.length = n ∧ ∀ j, j < n → w.cell? (a.add j) = some (cs.getD j Go.undef) := by
  unfold World.cells? at h
  rw [if_pos (Nat.zero_le _)] at h
  have key : ∀ (l : List Nat) (r : List Value), l.mapM (fun i => w.cell? (a.add i)) = some r → r.length = l.length ∧ ∀ i (hi : i < l.length), w.cell? (a.add l[i]) = some (r.getD i Go.undef) := by
    intro l
    induction l with
    | nil => intro r h; simp at h; subst h; exact ⟨rfl, fun i hi => by simp at hi⟩
    | cons x l ih =>
      intro r h
      rw [List.mapM_cons] at h
      cases hx : w.cell? (a.add x) with
      | none => rw [hx] at h; simp at h
      | some v =>
        cases hl : l.mapM (fun i => w.cell? (a.add i)) with
        | none => rw [hx, hl] at h; simp at h
        | some vs =>
          rw [hx, hl] at h
          simp at h
          subst h
          obtain ⟨h1, h2⟩ := ih vs hl
          refine ⟨by simp [h1], fun i hi => ?_⟩
          cases i with
          | zero => simpa using hx
          | succ i => simpa using h2 i (by simpa using hi)
  obtain ⟨h1, h2⟩ := key _ _ h
  refine ⟨by simpa using h1, fun j hj => ?_⟩
  have := h2 j (by simpa using hj)
  simpa using this
end Go.EV
