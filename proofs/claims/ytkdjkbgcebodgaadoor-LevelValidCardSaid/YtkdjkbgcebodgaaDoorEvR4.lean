/-
  From a row's reading to the evaluator's values.
-/
import Derived.Test.YtkdjkbgcebodgaaDoorEvF11
import GoSem.ClaimChange
set_option linter.unusedSimpArgs false
set_option linter.unusedVariables false
namespace Go.EV
variable {H : Type} {enc : TypeId × Value → H} {P : Program} {w : World} {sp : Nat → Bool} {held : Bool}

theorem mapM_some {α β : Type} {f : α → Option β} : ∀ {l : List α} {r : List β}, l.mapM f = some r → ∀ x ∈ l, ∃ y, f x = some y
  | [], r, h, x, hx => by simp at hx
  | a :: l, r, h, x, hx => by
    rw [List.mapM_cons] at h
    cases ha : f a with
    | none => rw [ha] at h; simp at h
    | some b =>
      rw [ha] at h
      cases hl : l.mapM f with
      | none => rw [hl] at h; simp at h
      | some bs =>
        rcases List.mem_cons.1 hx with rfl | hx
        · exact ⟨b, ha⟩
        · exact mapM_some hl x hx
theorem trod_slice {t e : TypeId} {fuel : Nat} {cs : List Value} {x : DataW H × List MemPlace} (ht : P.underlying t = some (.slice e)) (h : DataW.trod enc P w 0 sp held fuel t cs = some x) :
    ∃ a len cap, cs = [.slice a len cap] ∧ ((a = none ∧ len = 0 ∧ cap = 0) ∨ ∃ ad fuel', a = some ad ∧ len ≤ cap ∧ cap ≤ maxLen ∧
      ∀ i, i < len → ∃ ecs y, w.cells? 0 (ad.add (i * P.cellsOf e)) (P.cellsOf e) = some ecs ∧ DataW.trod enc P w 0 sp held fuel' e ecs = some y) := by
  cases fuel with
  | zero => simp [DataW.trod] at h
  | succ fuel =>
    unfold DataW.trod at h
    rw [ht] at h
    split at h <;> (rename_i he; try (simp at he; done))
    · exact ⟨none, 0, 0, rfl, .inl ⟨rfl, rfl, rfl⟩⟩
    · rename_i e' a len cap
      obtain rfl : e = e' := by injection he with he; injection he
      simp only at h
      split at h
      · rename_i hc
        cases hm : (List.range len).mapM fun i => (w.cells? 0 (a.add (i * P.cellsOf e)) (P.cellsOf e)).bind (DataW.trod enc P w 0 sp held fuel e) with
        | none => rw [hm] at h; simp at h
        | some els =>
          refine ⟨some a, len, cap, rfl, .inr ⟨a, fuel, rfl, hc.2.1, hc.2.2, fun i hi => ?_⟩⟩
          obtain ⟨y, hy⟩ := mapM_some hm i (List.mem_range.2 hi)
          cases hcs : w.cells? 0 (a.add (i * P.cellsOf e)) (P.cellsOf e) with
          | none => rw [hcs] at hy; simp at hy
          | some ecs => rw [hcs] at hy; exact ⟨ecs, y, rfl, hy⟩
      · cases h
    · cases h
theorem trod_int {t : TypeId} {k : IntKind} {fuel : Nat} {cs : List Value} {x : DataW H × List MemPlace} (ht : P.underlying t = some (.int k)) (h : DataW.trod enc P w 0 sp held fuel t cs = some x) : ∃ n, cs = [.int k n] := by
  cases fuel with
  | zero => simp [DataW.trod] at h
  | succ fuel =>
    unfold DataW.trod at h
    rw [ht] at h
    split at h <;> (rename_i he; try (simp at he; done))
    · rename_i k' k'' n
      obtain rfl : k = k' := by injection he with he; injection he
      split at h
      · rename_i hc; rw [hc.1]; exact ⟨n, rfl⟩
      · cases h
    · cases h
theorem trod_str {t : TypeId} {fuel : Nat} {cs : List Value} {x : DataW H × List MemPlace} (ht : P.underlying t = some .string) (h : DataW.trod enc P w 0 sp held fuel t cs = some x) : ∃ s : ByteArray, cs = [.string s] ∧ s.size ≤ maxLen := by
  cases fuel with
  | zero => simp [DataW.trod] at h
  | succ fuel =>
    unfold DataW.trod at h
    rw [ht] at h
    split at h <;> (rename_i he; try (simp at he; done))
    · rename_i s
      split at h
      · rename_i hc; exact ⟨s, rfl, hc⟩
      · cases h
    · cases h
theorem trod_struct {t : TypeId} {fs : Array Field} {fuel : Nat} {cs : List Value} {x : DataW H × List MemPlace} (ht : P.underlying t = some (.struct fs)) (h : DataW.trod enc P w 0 sp held fuel t cs = some x) :
    cs.length = P.cellsOf t ∧ ∃ fuel', ∀ f ∈ fs.toList, ∃ y, DataW.trod enc P w 0 sp held fuel' f.type ((cs.drop f.offset).take (P.cellsOf f.type)) = some y := by
  cases fuel with
  | zero => simp [DataW.trod] at h
  | succ fuel =>
    unfold DataW.trod at h
    rw [ht] at h
    split at h <;> (rename_i he; try (simp at he; done))
    · rename_i cs _ _ fs'
      obtain rfl : fs = fs' := by injection he with he; injection he
      split at h
      · rename_i hc
        refine ⟨hc, fuel, fun f hf => ?_⟩
        cases hm : fs.toList.mapM fun f => DataW.trod enc P w 0 sp held fuel f.type ((cs.drop f.offset).take (P.cellsOf f.type)) with
        | none => rw [hm] at h; simp at h
        | some els => exact mapM_some hm f hf
      · cases h
    · exact ((‹∀ fs_1 : Array Field, some (TypeDesc.struct fs) = some (TypeDesc.struct fs_1) → False›) fs rfl).elim
/-- Cells that are read one by one. -/
theorem cells_get {a : Addr} {n : Nat} {cs : List Value} (h : w.cells? 0 a n = some cs) : cs.length = n ∧ ∀ j, j < n → w.cell? (a.add j) = some (cs.getD j Go.undef) := by
  unfold World.cells? at h
  rw [if_pos (Nat.zero_le _)] at h
  have key : ∀ (l : List Nat) (r : List Value), l.mapM (fun i => w.cell? (a.add i)) = some r → r.length = l.length ∧ ∀ i (hi : i < l.length), w.cell? (a.add l[i]) = some (r.getD i Go.undef) := by
    intro l
    induction l with
    | nil => intro r h; simp at h; subst h; exact ⟨rfl, fun i hi => by simp at hi⟩
    | cons x l ih =>
      intro r h
      rw [List.mapM_cons] at h
      cases hx : w.cell? (a.add x) with
      | none => rw [hx] at h; simp at h
      | some v =>
        cases hl : l.mapM (fun i => w.cell? (a.add i)) with
        | none => rw [hx, hl] at h; simp at h
        | some vs =>
          rw [hx, hl] at h
          simp at h
          subst h
          obtain ⟨h1, h2⟩ := ih vs hl
          refine ⟨by simp [h1], fun i hi => ?_⟩
          cases i with
          | zero => simpa using hx
          | succ i => simpa using h2 i (by simpa using hi)
  obtain ⟨h1, h2⟩ := key _ _ h
  refine ⟨by simpa using h1, fun j hj => ?_⟩
  have := h2 j (by simpa using hj)
  simpa using this
end Go.EV
/-
  A type, read from a row's argument.
-/
set_option linter.unusedSimpArgs false
set_option linter.unusedVariables false
namespace Go.EV
variable {H : Type} {enc : TypeId × Value → H} {P : Program} {w : World} {sp : Nat → Bool} {held : Bool}

theorem choose_list {β : Type} {R : Nat → β → Prop} : ∀ n, (∀ i, i < n → ∃ y, R i y) → ∃ l : List β, l.length = n ∧ ∀ i (h : i < l.length), R i l[i]
  | 0, _ => ⟨[], rfl, fun i h => by simp at h⟩
  | n + 1, h => by
    obtain ⟨l, hl, hr⟩ := choose_list n fun i hi => h i (by omega)
    obtain ⟨y, hy⟩ := h n (by omega)
    refine ⟨l ++ [y], by simp [hl], fun i hi => ?_⟩
    rcases Nat.lt_or_ge i l.length with hlt | hge
    · rw [List.getElem_append_left hlt]; exact hr i hlt
    · have : i = n := by simp at hi; omega
      subst this
      rw [List.getElem_append_right hge]
      simpa [hl] using hy
abbrev All (w : World) : Zone := fun c _ => c < w.heap.size
theorem add_add (ad : Addr) (hs : ad.spot = none) (a b : Nat) : (ad.add a).add b = ⟨ad.block, ad.off + (a + b), none⟩ := by
  obtain ⟨c, o, s⟩ := ad
  simp only at hs
  subst hs
  rw [addr_add, addr_add, Nat.add_assoc]
theorem open_list {β : Type} (encE : β → AV) (ok : β → Prop) {t e : TypeId} {n : Nat} (ht : P.underlying t = some (.slice e)) (hn : P.cellsOf e = n) (hn0 : 0 < n) (hfit : ∀ b, (encE b).fits n = true)
    (hel : ∀ fuel ecs y, DataW.trod enc P w 0 sp held fuel e ecs = some y → ∃ b : β, ok b ∧ ∀ j, j < n → PRel (All w) w ((encE b).cells.getD j .undef) (ecs.getD j Go.undef))
    {fuel : Nat} {cs : List Value} {x : DataW H × List MemPlace} (h : DataW.trod enc P w 0 sp held fuel t cs = some x) :
    ∃ (v : Value) (l : List β), cs = [v] ∧ PRel (All w) w (.sl (l.map encE)) v ∧ l.length ≤ maxLen ∧ ∀ b ∈ l, ok b := by
  obtain ⟨a, len, cap, rfl, hh⟩ := trod_slice ht h
  rcases hh with ⟨rfl, rfl, rfl⟩ | ⟨ad, fuel', rfl, hle, hcap, hel'⟩
  · exact ⟨_, [], rfl, .sl0 _ _, Nat.zero_le _, fun b hb => by simp at hb⟩
  rw [hn] at hel'
  rcases Nat.eq_zero_or_pos len with rfl | hpos
  · exact ⟨_, [], rfl, .sl0 _ _, Nat.zero_le _, fun b hb => by simp at hb⟩
  have hspot : ad.spot = none := by
    obtain ⟨ecs, y, h1, _⟩ := hel' 0 hpos
    have h2 := (cells_get h1).2 0 hn0
    rw [Nat.zero_mul] at h2
    have h3 : (ad.add 0).add 0 = ad := rfl
    rw [h3] at h2
    unfold World.cell? at h2
    split at h2
    · split at h2
      · cases h2
      · rename_i hs; simpa using hs
    · cases h2
  have key : ∀ i, i < len → ∃ b : β, ok b ∧ ∀ o, o < n → ∃ V, w.cell? ⟨ad.block, ad.off + (i * n + o), none⟩ = some V ∧ PRel (All w) w ((encE b).cells.getD o .undef) V := by
    intro i hi
    obtain ⟨ecs, y, h1, h2⟩ := hel' i hi
    obtain ⟨b, hb, hr⟩ := hel _ _ _ h2
    refine ⟨b, hb, fun o ho => ⟨_, ?_, hr o ho⟩⟩
    have := (cells_get h1).2 o ho
    rwa [add_add ad hspot] at this
  obtain ⟨l, hl, hr⟩ := choose_list len key
  have hcell : ∀ i o, i < l.length → o < n → ∃ V, w.cell? ⟨ad.block, ad.off + (i * n + o), none⟩ = some V ∧ PRel (All w) w (((l.map encE).getD i .undef).cells.getD o .undef) V := by
    intro i o hi ho
    obtain ⟨V, h1, h2⟩ := (hr i hi).2 o ho
    refine ⟨V, h1, ?_⟩
    have : (l.map encE).getD i .undef = encE l[i] := by simp [List.getD_eq_getElem?_getD, hi]
    rw [this]; exact h2
  let V : Nat → Nat → Value := fun i o => (w.cell? ⟨ad.block, ad.off + (i * n + o), none⟩).getD Go.undef
  have hV : ∀ i o, i < l.length → o < n → w.cell? ⟨ad.block, ad.off + (i * n + o), none⟩ = some (V i o) := by
    intro i o hi ho
    obtain ⟨v, h1, _⟩ := hcell i o hi ho
    simp only [V, h1, Option.getD_some]
  have hml : (l.map encE).length = l.length := by simp
  have p := PRel.sl (Z := All w) (w := w) (l.map encE) n ad.block ad.off cap V (by rw [hml]; omega)
    (fun i hi => by
      have hi' : i < l.length := by rwa [hml] at hi
      have : (l.map encE).getD i .undef = encE l[i] := by simp [List.getD_eq_getElem?_getD, hi']
      rw [this]; exact hfit _)
    (fun i o hi ho => by
      have h1 := hV i o (by rwa [hml] at hi) ho
      exact ⟨h1, cell_lt h1⟩)
    (fun i o hi ho => by
      obtain ⟨v, h1, h2⟩ := hcell i o (by rwa [hml] at hi) ho
      have h3 := hV i o (by rwa [hml] at hi) ho
      rw [h1] at h3
      injection h3 with h3
      rw [← h3]; exact h2)
  refine ⟨_, l, rfl, ?_, by omega, fun b hb => ?_⟩
  · have hat : some ad = some (⟨ad.block, ad.off, none⟩ : Addr) := by
      obtain ⟨c, o, s⟩ := ad
      simp only at hspot
      rw [hspot]
    rw [hat, ← hl, ← hml]
    exact p
  · obtain ⟨i, hi, rfl⟩ := List.mem_iff_getElem.1 hb
    exact (hr i hi).1
end Go.EV
/-
  The layer's types, read from a row's arguments.
-/
set_option linter.unusedSimpArgs false
set_option linter.unusedVariables false
namespace Go.EV.Lv
open Go Go.EV Go.Proofs
variable {H : Type} {enc : TypeId × Value → H} {w : World} {sp : Nat → Bool} {held : Bool}
theorem co3 : Tryd.prog.cellsOf 3 = 1 := by kernel_rfl
theorem co9 : Tryd.prog.cellsOf 9 = 1 := by kernel_rfl
theorem co40 : Tryd.prog.cellsOf 40 = 1 := by kernel_rfl
theorem co22 : Tryd.prog.cellsOf 22 = 1 := by kernel_rfl
theorem co42 : Tryd.prog.cellsOf 42 = 4 := by kernel_rfl
theorem co24 : Tryd.prog.cellsOf 24 = 2 := by kernel_rfl

theorem openI {fuel : Nat} {cs : List Value} {x : DataW H × List MemPlace} (h : DataW.trod enc Tryd.prog w 0 sp held fuel 40 cs = some x) :
    ∃ (v : Value) (l : List Int), cs = [v] ∧ PRel (All w) w (.sl (l.map encInt)) v ∧ l.length ≤ big := by
  obtain ⟨v, l, h1, h2, h3, _⟩ := open_list (P := Tryd.prog) encInt (fun _ => True) Tryd.underlying40 co3 (by omega) (fun b => rfl)
    (fun fuel ecs y h => by
      obtain ⟨n, rfl⟩ := trod_int Tryd.underlying3 h
      refine ⟨n, trivial, fun j hj => ?_⟩
      obtain rfl : j = 0 := by omega
      exact .int _ _) h
  exact ⟨v, l, h1, h2, h3⟩
theorem take1 {cs : List Value} {v : Value} {o : Nat} (h : (cs.drop o).take 1 = [v]) : cs.getD o Go.undef = v := by
  have h1 : ((cs.drop o).take 1)[0]? = some v := by rw [h]; rfl
  simp at h1
  simp [List.getD_eq_getElem?_getD, h1]
theorem str_eq (s : ByteArray) : (⟨s.data.toList.toArray⟩ : ByteArray) = s := by simp
theorem openP {fuel : Nat} {cs : List Value} {x : DataW H × List MemPlace} (h : DataW.trod enc Tryd.prog w 0 sp held fuel 42 cs = some x) :
    ∃ p : Pl, p.ok ∧ ∀ j, j < 4 → PRel (All w) w ((encP p).cells.getD j .undef) (cs.getD j Go.undef) := by
  obtain ⟨_, fuel', hf⟩ := trod_struct Tryd.underlying42 h
  obtain ⟨y0, h0⟩ := hf { name := "Tag", type := 9, offset := 0, embedded := false, tag := "", pkgPath := "", byteOffset := 0 } (by simp)
  obtain ⟨y1, h1⟩ := hf { name := "Parts", type := 40, offset := 1, embedded := false, tag := "", pkgPath := "", byteOffset := 16 } (by simp)
  obtain ⟨y2, h2⟩ := hf { name := "Goal", type := 3, offset := 2, embedded := false, tag := "", pkgPath := "", byteOffset := 40 } (by simp)
  obtain ⟨y3, h3⟩ := hf { name := "Data", type := 40, offset := 3, embedded := false, tag := "", pkgPath := "", byteOffset := 48 } (by simp)
  simp only [co9, co40, co3] at h0 h1 h2 h3
  obtain ⟨s, e0, l0⟩ := trod_str Tryd.underlying9 h0
  obtain ⟨v1, l1, e1, r1, b1⟩ := openI h1
  obtain ⟨n, e2⟩ := trod_int Tryd.underlying3 h2
  obtain ⟨v3, l3, e3, r3, b3⟩ := openI h3
  refine ⟨⟨s.data.toList, l1, n, l3⟩, ⟨by have hs : s.size ≤ big := l0; simpa using hs, b1, b3⟩, fun j hj => ?_⟩
  match j, hj with
  | 0, _ =>
    rw [take1 e0]
    have := PRel.str (Z := All w) (w := w) s.data.toList
    rw [str_eq] at this
    exact this
  | 1, _ => rw [take1 e1]; exact r1
  | 2, _ => rw [take1 e2]; exact .int _ _
  | 3, _ => rw [take1 e3]; exact r3
theorem openT {v : Value} {d : DataW H} {ps : List MemPlace} (hv : ∃ cs, v = .agg cs) (h : DataW.Trod enc Tryd.prog w 0 sp held 24 v d ps) :
    ∃ t : Ty, t.ok ∧ PRel (All w) w (encT t) v := by
  obtain ⟨cs, rfl⟩ := hv
  obtain ⟨fuel, h⟩ := h
  obtain ⟨hl, fuel', hf⟩ := trod_struct Tryd.underlying24 h
  obtain ⟨y0, h0⟩ := hf { name := "Kind", type := 3, offset := 0, embedded := false, tag := "", pkgPath := "", byteOffset := 0 } (by simp)
  obtain ⟨y1, h1⟩ := hf { name := "Payloads", type := 22, offset := 1, embedded := false, tag := "", pkgPath := "", byteOffset := 8 } (by simp)
  simp only [co3, co22] at h0 h1
  obtain ⟨n, e0⟩ := trod_int Tryd.underlying3 h0
  obtain ⟨v1, l, e1, r1, b1, o1⟩ := open_list (P := Tryd.prog) encP Pl.ok Tryd.underlying22 co42 (by omega) (fun b => rfl) (fun fuel ecs y h => openP h) h1
  rw [co24] at hl
  have hc : (Value.agg cs).cells.toList = cs.toList := rfl
  rw [hc] at hl e0 e1
  refine ⟨⟨n, l⟩, ⟨b1, o1⟩, .agg _ _ (by simpa using hl.symm) fun i hi => ?_⟩
  have hg : ∀ i, cs.getD i Go.undef = cs.toList.getD i Go.undef := fun i => by simp [Array.getD_eq_getD_getElem?, List.getD_eq_getElem?_getD]
  rw [hg]
  match i, hi with
  | 0, _ => rw [take1 e0]; exact .int _ _
  | 1, _ => rw [take1 e1]; exact r1
end Go.EV.Lv
/-
  A laid variable: what a reading says, element by element.
-/
set_option linter.unusedSimpArgs false
set_option linter.unusedVariables false
namespace Go.EV
variable {H : Type} {enc : TypeId × Value → H} {P : Program} {w : World} {sp : Nat → Bool} {held : Bool}
theorem mapM_get {α β : Type} {f : α → Option β} : ∀ {l : List α} {r : List β}, l.mapM f = some r → r.length = l.length ∧ ∀ i (h : i < l.length) (h' : i < r.length), f l[i] = some r[i]
  | [], r, h => by simp at h; subst h; exact ⟨rfl, fun i h => by simp at h⟩
  | a :: l, r, h => by
    rw [List.mapM_cons] at h
    cases ha : f a with
    | none => rw [ha] at h; simp at h
    | some b =>
      rw [ha] at h
      cases hl : l.mapM f with
      | none => rw [hl] at h; simp at h
      | some bs =>
        rw [hl] at h
        simp at h
        subst h
        obtain ⟨h1, h2⟩ := mapM_get hl
        refine ⟨by simp [h1], fun i hi hi' => ?_⟩
        cases i with
        | zero => exact ha
        | succ i => exact h2 i (by simpa using hi) (by simpa using hi')
theorem trod_slice_d {t e : TypeId} {fuel : Nat} {cs : List Value} {ds rs : List (DataW H)} {ps : List MemPlace} (ht : P.underlying t = some (.slice e)) (h : DataW.trod enc P w 0 sp held fuel t cs = some (.slice ds rs, ps)) :
    ∃ ad cap fuel', cs = [.slice (some ad) ds.length cap] ∧ ds.length ≤ cap ∧ cap ≤ maxLen ∧
      ∀ i (hi : i < ds.length), ∃ ecs q, w.cells? 0 (ad.add (i * P.cellsOf e)) (P.cellsOf e) = some ecs ∧ DataW.trod enc P w 0 sp held fuel' e ecs = some (ds[i], q) := by
  cases fuel with
  | zero => simp [DataW.trod] at h
  | succ fuel =>
    unfold DataW.trod at h
    rw [ht] at h
    split at h <;> (rename_i he; try (simp at he; done))
    · cases h
    · rename_i e' a len cap
      obtain rfl : e = e' := by injection he with he; injection he
      simp only at h
      split at h
      · rename_i hc
        cases hm : (List.range len).mapM fun i => (w.cells? 0 (a.add (i * P.cellsOf e)) (P.cellsOf e)).bind (DataW.trod enc P w 0 sp held fuel e) with
        | none => rw [hm] at h; simp at h
        | some els =>
          rw [hm] at h
          obtain ⟨g1, g2⟩ := mapM_get hm
          have hl : els.length = len := by simpa using g1
          simp only [Option.bind_some, Option.map_eq_some_iff, Prod.mk.injEq, DataW.slice.injEq] at h
          obtain ⟨_, _, ⟨hds, _⟩, _⟩ := h
          subst hds
          refine ⟨a, cap, fuel, by simp [hl], by simp [hl]; exact hc.2.1, hc.2.2, fun i hi => ?_⟩
          have hi' : i < els.length := by simpa using hi
          have := g2 i (by simp; omega) hi'
          simp only [List.getElem_range] at this
          cases hcs : w.cells? 0 (a.add (i * P.cellsOf e)) (P.cellsOf e) with
          | none => rw [hcs] at this; simp at this
          | some ecs =>
            rw [hcs] at this
            exact ⟨ecs, els[i].2, rfl, by simpa using this⟩
      · cases h
    · cases h
theorem trod_lit_str {t : TypeId} {fuel : Nat} {cs : List Value} {l : List UInt8} {ps : List MemPlace} (ht : P.underlying t = some .string) (h : DataW.trod enc P w 0 sp held fuel t cs = some (.lit (.string l), ps)) : cs = [.string ⟨l.toArray⟩] := by
  cases fuel with
  | zero => simp [DataW.trod] at h
  | succ fuel =>
    unfold DataW.trod at h
    rw [ht] at h
    split at h <;> (rename_i he; try (simp at he; done))
    · rename_i s
      split at h
      · simp at h
        rw [← h.1]
      · cases h
    · cases h
end Go.EV
