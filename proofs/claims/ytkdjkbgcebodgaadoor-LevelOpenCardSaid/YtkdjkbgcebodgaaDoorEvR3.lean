/-
  The layer's types, read from a row's arguments.
-/
import Derived.Test.YtkdjkbgcebodgaaDoorEvR2
set_option linter.unusedSimpArgs false
set_option linter.unusedVariables false
namespace Go.EV.Lv
open Go Go.EV Go.Proofs
variable {H : Type} {enc : TypeId × Value → H} {w : World} {sp : Nat → Bool} {held : Bool}
theorem co3 : Tryd.prog.cellsOf 3 = 1 := by kernel_rfl
theorem co9 : Tryd.prog.cellsOf 9 = 1 := by kernel_rfl
theorem co40 : Tryd.prog.cellsOf 40 = 1 := by kernel_rfl
theorem co22 : Tryd.prog.cellsOf 22 = 1 := by kernel_rfl
theorem co42 : Tryd.prog.cellsOf 42 = 4 := by kernel_rfl
theorem co24 : Tryd.prog.cellsOf 24 = 2 := by kernel_rfl

theorem openI {fuel : Nat} {cs : List Value} {x : DataW H × List MemPlace} (h : DataW.trod enc Tryd.prog w 0 sp held fuel 40 cs = some x) :
    ∃ (v : Value) (l : List Int), cs = [v] ∧ PRel (All w) w (.sl (l.map encInt)) v ∧ l.length ≤ big := by
  obtain ⟨v, l, h1, h2, h3, _⟩ := open_list (P := Tryd.prog) encInt (fun _ => True) Tryd.underlying40 co3 (by omega) (fun b => rfl)
    (fun fuel ecs y h => by
      obtain ⟨n, rfl⟩ := trod_int Tryd.underlying3 h
      refine ⟨n, trivial, fun j hj => ?_⟩
      obtain rfl : j = 0 := by omega
      exact .int _ _) h
  exact ⟨v, l, h1, h2, h3⟩
theorem take1 {cs : List Value} {v : Value} {o : Nat} (h : (cs.drop o).take 1 = [v]) : cs.getD o Go.undef = v := by
  have h1 : ((cs.drop o).take 1)[0]? = some v := by rw [h]; rfl
  simp at h1
  simp [List.getD_eq_getElem?_getD, h1]
theorem str_eq (s : ByteArray) : (⟨s.data.toList.toArray⟩ : ByteArray) = s := by simp
theorem openP {fuel : Nat} {cs : List Value} {x : DataW H × List MemPlace} (h : DataW.trod enc Tryd.prog w 0 sp held fuel 42 cs = some x) :
    ∃ p : Pl, p.ok ∧ ∀ j, j < 4 → PRel (All w) w ((encP p).cells.getD j .undef) (cs.getD j Go.undef) := by
  obtain ⟨_, fuel', hf⟩ := trod_struct Tryd.underlying42 h
  obtain ⟨y0, h0⟩ := hf { name := "Tag", type := 9, offset := 0, embedded := false, tag := "", pkgPath := "", byteOffset := 0 } (by simp)
  obtain ⟨y1, h1⟩ := hf { name := "Parts", type := 40, offset := 1, embedded := false, tag := "", pkgPath := "", byteOffset := 16 } (by simp)
  obtain ⟨y2, h2⟩ := hf { name := "Goal", type := 3, offset := 2, embedded := false, tag := "", pkgPath := "", byteOffset := 40 } (by simp)
  obtain ⟨y3, h3⟩ := hf { name := "Data", type := 40, offset := 3, embedded := false, tag := "", pkgPath := "", byteOffset := 48 } (by simp)
  simp only [co9, co40, co3] at h0 h1 h2 h3
  obtain ⟨s, e0, l0⟩ := trod_str Tryd.underlying9 h0
  obtain ⟨v1, l1, e1, r1, b1⟩ := openI h1
  obtain ⟨n, e2⟩ := trod_int Tryd.underlying3 h2
  obtain ⟨v3, l3, e3, r3, b3⟩ := openI h3
  refine ⟨⟨s.data.toList, l1, n, l3⟩, ⟨by have hs : s.size ≤ big := l0; simpa using hs, b1, b3⟩, fun j hj => ?_⟩
  match j, hj with
  | 0, _ =>
    rw [take1 e0]
    have := PRel.str (Z := All w) (w := w) s.data.toList
    rw [str_eq] at this
    exact this
  | 1, _ => rw [take1 e1]; exact r1
  | 2, _ => rw [take1 e2]; exact .int _ _
  | 3, _ => rw [take1 e3]; exact r3
theorem openT {v : Value} {d : DataW H} {ps : List MemPlace} (hv : ∃ cs, v = .agg cs) (h : DataW.Trod enc Tryd.prog w 0 sp held 24 v d ps) :
    ∃ t : Ty, t.ok ∧ PRel (All w) w (encT t) v := by
  obtain ⟨cs, rfl⟩ := hv
  obtain ⟨fuel, h⟩ := h
  obtain ⟨hl, fuel', hf⟩ := trod_struct Tryd.underlying24 h
  obtain ⟨y0, h0⟩ := hf { name := "Kind", type := 3, offset := 0, embedded := false, tag := "", pkgPath := "", byteOffset := 0 } (by simp)
  obtain ⟨y1, h1⟩ := hf { name := "Payloads", type := 22, offset := 1, embedded := false, tag := "", pkgPath := "", byteOffset := 8 } (by simp)
  simp only [co3, co22] at h0 h1
  obtain ⟨n, e0⟩ := trod_int Tryd.underlying3 h0
  obtain ⟨v1, l, e1, r1, b1, o1⟩ := open_list (P := Tryd.prog) encP Pl.ok Tryd.underlying22 co42 (by omega) (fun b => rfl) (fun fuel ecs y h => openP h) h1
  rw [co24] at hl
  have hc : (Value.agg cs).cells.toList = cs.toList := rfl
  rw [hc] at hl e0 e1
  refine ⟨⟨n, l⟩, ⟨b1, o1⟩, .agg _ _ (by simpa using hl.symm) fun i hi => ?_⟩
  have hg : ∀ i, cs.getD i Go.undef = cs.toList.getD i Go.undef := fun i => by simp [Array.getD_eq_getD_getElem?, List.getD_eq_getElem?_getD]
  rw [hg]
  match i, hi with
  | 0, _ => rw [take1 e0]; exact .int _ _
  | 1, _ => rw [take1 e1]; exact r1
end Go.EV.Lv
