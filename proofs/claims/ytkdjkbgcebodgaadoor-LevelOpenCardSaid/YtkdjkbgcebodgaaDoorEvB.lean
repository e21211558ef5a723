/-
  What an evaluator's value says of a machine's value, and what keeps it true.
-/
import Derived.Test.YtkdjkbgcebodgaaDoorEvA
import Derived.Laws.CopyRow
import Derived.Laws.Cells
import Derived.Laws.World
set_option linter.unusedSimpArgs false
set_option linter.unusedVariables false
namespace Go.EV
open Go.RowKit

abbrev Zone := Nat → Nat → Prop

/-- A value without own memory, read in world w; every cell that is read lies in Z. -/
inductive PRel (Z : Zone) (w : World) : AV → Value → Prop
  | undef (v : Value) : PRel Z w .undef v
  | int (k : IntKind) (n : Int) : PRel Z w (.int k n) (.int k n)
  | bool (b : Bool) : PRel Z w (.bool b) (.bool b)
  | str (s : List UInt8) : PRel Z w (.str s) (.string ⟨s.toArray⟩)
  | agg (cs : List AV) (vs : Array Value) (hl : cs.length = vs.size) (hr : ∀ i, i < cs.length → PRel Z w (cs.getD i .undef) (vs.getD i Go.undef)) : PRel Z w (.agg cs) (.agg vs)
  | tup (cs : List AV) (vs : Array Value) (hl : cs.length = vs.size) (hr : ∀ i, i < cs.length → PRel Z w (cs.getD i .undef) (vs.getD i Go.undef)) : PRel Z w (.tup cs) (.tuple vs)
  | sl (es : List AV) (sz c off cap : Nat) (V : Nat → Nat → Value) (hc : es.length ≤ cap) (hz : ∀ i, i < es.length → (es.getD i .undef).fits sz = true)
      (hr : ∀ i o, i < es.length → o < sz → w.cell? ⟨c, off + (i * sz + o), none⟩ = some (V i o) ∧ Z c (off + (i * sz + o)))
      (hv : ∀ i o, i < es.length → o < sz → PRel Z w ((es.getD i .undef).cells.getD o .undef) (V i o)) : PRel Z w (.sl es) (.slice (some ⟨c, off, none⟩) es.length cap)
  | sl0 (a : Option Addr) (cap : Nat) : PRel Z w (.sl []) (.slice a 0 cap)
  | ip (es : List AV) (i o sz c off : Nat) (V : Nat → Nat → Value) (hz : ∀ i, i < es.length → (es.getD i .undef).fits sz = true)
      (hr : ∀ i o, i < es.length → o < sz → w.cell? ⟨c, off + (i * sz + o), none⟩ = some (V i o) ∧ Z c (off + (i * sz + o)))
      (hv : ∀ i o, i < es.length → o < sz → PRel Z w ((es.getD i .undef).cells.getD o .undef) (V i o)) : PRel Z w (.ip es i o) (.pointer (some ⟨c, off + (i * sz + o), none⟩))
  | nils : PRel Z w .nils (.slice none 0 0)
  | z0 (a : Option Addr) : PRel Z w .z0 (.slice a 0 0)
  | nilp : PRel Z w .nilp (.pointer none)
  | nilf : PRel Z w .nilf .nilFunc
  | nili : PRel Z w .nili .nilIface
  | fn (f : FuncId) (cs : List AV) (vs : Array Value) (hl : cs.length = vs.size) (hr : ∀ i, i < cs.length → PRel Z w (cs.getD i .undef) (vs.getD i Go.undef)) : PRel Z w (.fn f cs) (.func (.func f) #[] vs)
  | iface (t : TypeId) (a : AV) (v : Value) (h : PRel Z w a v) : PRel Z w (.iface t a) (.iface t v)

/-- Where own rows lie: for a row and a length that it had, the block (none: no block yet) and the capacity; and the cells of an element. 'pend': a variable that the evaluator has made ahead of the machine, with its zero value. -/
structure Ghost where
  row : Nat → Nat → Option (Option Nat × Nat)
  sz : Nat → Nat
  pend : Nat → Option (AV × Nat)
structure Ghost.le (G G' : Ghost) : Prop where
  row : ∀ b g r, G.row b g = some r → G'.row b g = some r
  sz : ∀ b g r, G.row b g = some r → G'.sz b = G.sz b
  pend : ∀ b z, G.pend b = some z → G'.pend b = some z
theorem Ghost.le.refl (G : Ghost) : G.le G := ⟨fun _ _ _ h => h, fun _ _ _ _ => rfl, fun _ _ h => h⟩
theorem Ghost.le.trans {A B C : Ghost} (h : A.le B) (k : B.le C) : A.le C :=
  ⟨fun b g r e => k.row b g r (h.row b g r e), fun b g r e => (k.sz b g r (h.row b g r e)).trans (h.sz b g r e), fun b z e => k.pend b z (h.pend b z e)⟩
def Ghost.empty : Ghost := ⟨fun _ _ => none, fun _ => 0, fun _ => none⟩

inductive Rel (Z : Zone) (G : Ghost) (w : World) : AV → Value → Prop
  | pure {a : AV} {v : Value} (h : PRel Z w a v) : Rel Z G w a v
  | agg (cs : List AV) (vs : Array Value) (hl : cs.length = vs.size) (hr : ∀ i, i < cs.length → Rel Z G w (cs.getD i .undef) (vs.getD i Go.undef)) : Rel Z G w (.agg cs) (.agg vs)
  | tup (cs : List AV) (vs : Array Value) (hl : cs.length = vs.size) (hr : ∀ i, i < cs.length → Rel Z G w (cs.getD i .undef) (vs.getD i Go.undef)) : Rel Z G w (.tup cs) (.tuple vs)
  | fn (f : FuncId) (cs : List AV) (vs : Array Value) (hl : cs.length = vs.size) (hr : ∀ i, i < cs.length → Rel Z G w (cs.getD i .undef) (vs.getD i Go.undef)) : Rel Z G w (.fn f cs) (.func (.func f) #[] vs)
  | iface (t : TypeId) (a : AV) (v : Value) (h : Rel Z G w a v) : Rel Z G w (.iface t a) (.iface t v)
  | ms (b g off len : Nat) (oc : Option Nat) (cap : Nat) (a : Option Addr) (hg : G.row b g = some (oc, cap)) (h1 : off + len ≤ g) (h2 : g ≤ cap)
      (ha : off < cap → ∃ c, oc = some c ∧ a = some ⟨c, off * G.sz b, none⟩) (hn : g = 0 → oc = none → a = none) : Rel Z G w (.ms b g off len) (.slice a len (cap - off))
  | mp (b g i o c cap : Nat) (hg : G.row b g = some (some c, cap)) (hi : i < g) : Rel Z G w (.mp b g i o) (.pointer (some ⟨c, i * G.sz b + o, none⟩))
  | it (b c cap : Nat) (hg : G.row b 0 = some (some c, cap)) : Rel Z G w (.it b) (.pointer (some ⟨c, 0, none⟩))

theorem PRel.mono {Z Z' : Zone} {w w' : World} (hz : ∀ c j, Z c j → Z' c j) (hw : ∀ c j, Z c j → w'.cell? ⟨c, j, none⟩ = w.cell? ⟨c, j, none⟩)
    {a : AV} {v : Value} (h : PRel Z w a v) : PRel Z' w' a v := by
  induction h with
  | undef v => exact .undef v
  | int k n => exact .int k n
  | bool b => exact .bool b
  | str s => exact .str s
  | agg cs vs hl _ ih => exact .agg cs vs hl ih
  | tup cs vs hl _ ih => exact .tup cs vs hl ih
  | sl es sz c off cap V hc hzz hr _ ih =>
    exact .sl es sz c off cap V hc hzz (fun i o hi ho => ⟨(hw _ _ (hr i o hi ho).2).trans (hr i o hi ho).1, hz _ _ (hr i o hi ho).2⟩) ih
  | sl0 a cap => exact .sl0 a cap
  | ip es i o sz c off V hzz hr _ ih =>
    exact .ip es i o sz c off V hzz (fun i o hi ho => ⟨(hw _ _ (hr i o hi ho).2).trans (hr i o hi ho).1, hz _ _ (hr i o hi ho).2⟩) ih
  | nils => exact .nils
  | z0 a => exact .z0 a
  | nilp => exact .nilp
  | nilf => exact .nilf
  | nili => exact .nili
  | fn f cs vs hl _ ih => exact .fn f cs vs hl ih
  | iface t a v _ ih => exact .iface t a v ih

theorem normL_length : ∀ l : List AV, (AV.norm.normL l).length = l.length
  | [] => rfl
  | v :: l => by simp [AV.norm.normL, normL_length l]
theorem normL_getD : ∀ (l : List AV) (i : Nat), (AV.norm.normL l).getD i .undef = (l.getD i .undef).norm
  | [], i => by simp [AV.norm.normL, AV.norm]
  | v :: l, 0 => by simp [AV.norm.normL]
  | v :: l, i + 1 => by simpa [AV.norm.normL] using normL_getD l i
theorem norm_one (a : AV) : a.norm.one = a.one := by cases a <;> rfl
theorem norm_cells (a : AV) : a.norm.cells = AV.norm.normL a.cells := by cases a <;> rfl
theorem normL_all : ∀ l : List AV, (AV.norm.normL l).all AV.one = l.all AV.one
  | [] => rfl
  | v :: l => by simp [AV.norm.normL, norm_one, normL_all l]
theorem norm_fits (n : Nat) (a : AV) : a.norm.fits n = a.fits n := by
  unfold AV.fits
  rw [norm_cells, normL_length, normL_all]
theorem PRel.norm {Z : Zone} {w : World} {a : AV} {v : Value} (h : PRel Z w a v) : PRel Z w a.norm v := by
  induction h with
  | undef v => exact .undef v
  | int k n => exact .int k n
  | bool b => exact .bool b
  | str s => exact .str s
  | agg cs vs hl _ ih => exact .agg _ vs (by rw [normL_length]; exact hl) fun i hi => by rw [normL_getD]; exact ih i (by rwa [normL_length] at hi)
  | tup cs vs hl _ ih => exact .tup _ vs (by rw [normL_length]; exact hl) fun i hi => by rw [normL_getD]; exact ih i (by rwa [normL_length] at hi)
  | sl es sz c off cap V hc hz hr _ ih =>
    have := PRel.sl (Z := Z) (w := w) (AV.norm.normL es) sz c off cap V (by rw [normL_length]; exact hc)
      (fun i hi => by rw [normL_length] at hi; rw [normL_getD, norm_fits]; exact hz i hi) (fun i o hi ho => by rw [normL_length] at hi; exact hr i o hi ho)
      (fun i o hi ho => by rw [normL_length] at hi; rw [normL_getD, norm_cells, normL_getD]; exact ih i o hi ho)
    rw [normL_length] at this
    exact this
  | sl0 a cap => exact .sl0 a cap
  | ip es i o sz c off V hz hr _ ih =>
    exact PRel.ip (Z := Z) (w := w) (AV.norm.normL es) i o sz c off V
      (fun i hi => by rw [normL_length] at hi; rw [normL_getD, norm_fits]; exact hz i hi) (fun i o hi ho => by rw [normL_length] at hi; exact hr i o hi ho)
      (fun i o hi ho => by rw [normL_length] at hi; rw [normL_getD, norm_cells, normL_getD]; exact ih i o hi ho)
  | nils => exact .sl0 none 0
  | z0 a => exact .sl0 a 0
  | nilp => exact .nilp
  | nilf => exact .nilf
  | nili => exact .nili
  | fn f cs vs hl _ ih => exact .fn f _ vs (by rw [normL_length]; exact hl) fun i hi => by rw [normL_getD]; exact ih i (by rwa [normL_length] at hi)
  | iface t a v _ ih => exact .iface t _ v ih

theorem Rel.mono {Z Z' : Zone} {G G' : Ghost} {w w' : World} (hz : ∀ c j, Z c j → Z' c j) (hg : G.le G') (hw : ∀ c j, Z c j → w'.cell? ⟨c, j, none⟩ = w.cell? ⟨c, j, none⟩)
    {a : AV} {v : Value} (h : Rel Z G w a v) : Rel Z' G' w' a v := by
  induction h with
  | pure h => exact .pure (h.mono hz hw)
  | agg cs vs hl _ ih => exact .agg cs vs hl ih
  | tup cs vs hl _ ih => exact .tup cs vs hl ih
  | fn f cs vs hl _ ih => exact .fn f cs vs hl ih
  | iface t a v _ ih => exact .iface t a v ih
  | ms b g off len oc cap a h0 h1 h2 ha hn => exact .ms b g off len oc cap a (hg.row _ _ _ h0) h1 h2 (by rw [hg.sz _ _ _ h0]; exact ha) hn
  | mp b g i o c cap h0 hi => rw [← hg.sz _ _ _ h0]; exact .mp b g i o c cap (hg.row _ _ _ h0) hi
  | it b c cap h0 => exact .it b c cap (hg.row _ _ _ h0)

theorem allPure_getD : ∀ {cs : List AV}, AV.isPure.allPure cs = true → ∀ i, (cs.getD i .undef).isPure = true
  | [], _, i => by simp [AV.isPure]
  | v :: vs, h, i => by
    simp only [AV.isPure.allPure, Bool.and_eq_true] at h
    cases i with
    | zero => simpa using h.1
    | succ i => simpa using allPure_getD h.2 i

theorem Rel.toPure {Z : Zone} {G : Ghost} {w : World} {a : AV} {v : Value} (h : Rel Z G w a v) (hp : a.isPure = true) : PRel Z w a v := by
  induction h with
  | pure h => exact h
  | agg cs vs hl _ ih => exact .agg cs vs hl fun i hi => ih i hi (allPure_getD (by simpa [AV.isPure] using hp) i)
  | tup cs vs hl _ ih => exact .tup cs vs hl fun i hi => ih i hi (allPure_getD (by simpa [AV.isPure] using hp) i)
  | fn f cs vs hl _ ih => exact .fn f cs vs hl fun i hi => ih i hi (allPure_getD (by simpa [AV.isPure] using hp) i)
  | iface t a v _ ih => exact .iface t a v (ih (by simpa [AV.isPure] using hp))
  | ms => simp [AV.isPure] at hp
  | mp => simp [AV.isPure] at hp
  | it => simp [AV.isPure] at hp

theorem allScalar_getD : ∀ {cs : List AV}, AV.scalar.allScalar cs = true → ∀ i, i < cs.length → (cs.getD i .undef).scalar = true
  | [], _, i, hi => by simp at hi
  | v :: vs, h, i, hi => by
    simp only [AV.scalar.allScalar, Bool.and_eq_true] at h
    cases i with
    | zero => simpa using h.1
    | succ i => simpa using allScalar_getD h.2 i (by simpa using hi)
/-- What leads to no memory is read in every world. -/
theorem PRel.ofScalar {Z Z' : Zone} {w w' : World} {a : AV} {v : Value} (h : PRel Z w a v) (hs : a.scalar = true) : PRel Z' w' a v := by
  induction h with
  | undef v => exact .undef v
  | int k n => exact .int k n
  | bool b => exact .bool b
  | str s => exact .str s
  | agg cs vs hl _ ih => exact .agg cs vs hl fun i hi => ih i hi (allScalar_getD (by simpa [AV.scalar] using hs) i hi)
  | tup cs vs hl _ ih => exact .tup cs vs hl fun i hi => ih i hi (allScalar_getD (by simpa [AV.scalar] using hs) i hi)
  | nils => exact .nils
  | nilp => exact .nilp
  | nilf => exact .nilf
  | nili => exact .nili
  | iface t a v _ ih => exact .iface t a v (ih (by simpa [AV.scalar] using hs))
  | sl0 | sl | ip | fn | z0 => simp [AV.scalar] at hs

theorem constAV.cells_rel {Z : Zone} {w : World} : ∀ (l : List Value), (constAV.cellsAV l).length = l.length ∧ ∀ i, i < l.length → PRel Z w ((constAV.cellsAV l).getD i .undef) (l.getD i Go.undef)
  | [] => by simp [constAV.cellsAV]
  | v :: r => by
    have ih := constAV.cells_rel (Z := Z) (w := w) r
    have key : ∀ a, PRel Z w a v → (a :: constAV.cellsAV r).length = (v :: r).length ∧ ∀ i, i < (v :: r).length → PRel Z w ((a :: constAV.cellsAV r).getD i .undef) ((v :: r).getD i Go.undef) := by
      intro a ha
      refine ⟨by simp [ih.1], fun i hi => ?_⟩
      cases i with
      | zero => simpa using ha
      | succ i => simpa using ih.2 i (by simpa using hi)
    unfold constAV.cellsAV
    split <;> first
      | (injections; subst_vars; exact key _ (.int _ _))
      | (injections; subst_vars; exact key _ (.bool _))
      | (injections; subst_vars; rename_i s _; exact key _ (by have := PRel.str (Z := Z) (w := w) s.data.toList; simpa using this))
      | (injections; subst_vars; exact key _ .nili)
      | (injections; subst_vars; exact key _ .nilf)
      | (injections; subst_vars; exact key _ .nilp)
      | (injections; subst_vars; exact key _ .nils)
      | (injections; subst_vars; exact key _ (.undef _))
      | skip
    all_goals simp_all

theorem constAV_rel {Z : Zone} {w : World} (v : Value) : PRel Z w (constAV v) v := by
  unfold constAV
  split
  · exact .int _ _
  · exact .bool _
  · rename_i s; have := PRel.str (Z := Z) (w := w) s.data.toList; simpa using this
  · exact .nili
  · exact .nilf
  · exact .nilp
  · exact .nils
  · rename_i cs
    have h := constAV.cells_rel (Z := Z) (w := w) cs.toList
    refine .agg _ _ (by simp [h.1]) fun i hi => ?_
    have := h.2 i (by simpa [h.1] using hi)
    simpa [Array.getD_eq_getD_getElem?, List.getD_eq_getElem?_getD] using this
  · exact .undef _

/-- Own memory and the machine's. -/
structure HRel (base : Nat) (Z : Zone) (G : Ghost) (hp : Heap) (w : World) : Prop where
  lo : base ≤ w.heap.size
  zone : ∀ c j, Z c j → c < w.heap.size
  dom : ∀ b g r, G.row b g = some r → b < hp.length
  row : ∀ b es sz wg com, hp[b]? = some (.row es sz wg com) → (∀ i, i < es.length → (es.getD i .undef).fits sz = true) ∧
    ∀ g oc cap, G.row b g = some (oc, cap) → G.sz b = sz ∧ g ≤ es.length ∧ g ≤ cap ∧ (oc = none → cap = 0) ∧
      ∀ c, oc = some c → base ≤ c ∧ (∀ j, Z c j → j < com * sz) ∧ ∃ cs t, w.heap[c]? = some (.cells cs t (0, 0)) ∧ cs.size = cap * sz ∧
        (wg ≤ g → ∀ i o, i < g → o < sz → Rel Z G w ((es.getD i .undef).cells.getD o .undef) (cs.getD (i * sz + o) Go.undef))
  sit : ∀ b s pos, hp[b]? = some (.sit s pos) → ∀ g oc cap, G.row b g = some (oc, cap) → g = 0 ∧ ∃ c, oc = some c ∧ base ≤ c ∧ w.heap[c]? = some (.stringIter ⟨s.toArray⟩ pos)
  excl : ∀ b b' g g' c cap cap', G.row b g = some (some c, cap) → G.row b' g' = some (some c, cap') → b = b'
  pend : ∀ (b : Nat) (z : AV) (sz : Nat), G.pend b = some (z, sz) → hp[b]? = some (HB.row [z] sz 0 0) ∧ ∀ g, G.row b g = none
  wgle : ∀ (b : Nat) (es : List AV) (sz wg com : Nat), hp[b]? = some (HB.row es sz wg com) → wg ≤ es.length

/-- What a piece of the run may turn. -/
structure Ext (base : Nat) (Z : Zone) (G : Ghost) (w : World) (Z' : Zone) (G' : Ghost) (w' : World) : Prop where
  zsub : ∀ c j, Z c j → Z' c j
  gle : G.le G'
  below : Below base w w'
  keep : ∀ c j, Z c j → w'.cell? ⟨c, j, none⟩ = w.cell? ⟨c, j, none⟩
  znew : ∀ c j, Z' c j → Z c j ∨ base ≤ c
theorem Ext.refl (base : Nat) (Z : Zone) (G : Ghost) (w : World) : Ext base Z G w Z G w :=
  ⟨fun _ _ h => h, .refl G, .refl _ _, fun _ _ _ => rfl, fun _ _ h => .inl h⟩
theorem Ext.trans {base : Nat} {Z Z' Z'' : Zone} {G G' G'' : Ghost} {w w' w'' : World} (h : Ext base Z G w Z' G' w') (k : Ext base Z' G' w' Z'' G'' w'') :
    Ext base Z G w Z'' G'' w'' :=
  ⟨fun c j e => k.zsub c j (h.zsub c j e), h.gle.trans k.gle, h.below.trans k.below, fun c j e => (k.keep c j (h.zsub c j e)).trans (h.keep c j e),
   fun c j e => (k.znew c j e).elim (h.znew c j) .inr⟩
theorem Rel.ext {base : Nat} {Z Z' : Zone} {G G' : Ghost} {w w' : World} (h : Ext base Z G w Z' G' w') {a : AV} {v : Value} (r : Rel Z G w a v) : Rel Z' G' w' a v :=
  r.mono h.zsub h.gle h.keep

/-- A frame's slots. -/
structure TRel (Z : Zone) (G : Ghost) (w : World) (D : Nat → Prop) (tm : List AV) (tmps : Array Value) : Prop where
  len : tm.length = tmps.size
  rel : ∀ i, i < tm.length → ¬ D i → Rel Z G w (tm.getD i .undef) (tmps.getD i Go.undef)
theorem TRel.ext {base : Nat} {Z Z' : Zone} {G G' : Ghost} {w w' : World} {D : Nat → Prop} (h : Ext base Z G w Z' G' w') {tm : List AV} {tmps : Array Value} (r : TRel Z G w D tm tmps) :
    TRel Z' G' w' D tm tmps := ⟨r.len, fun i hi hd => (r.rel i hi hd).ext h⟩
theorem TRel.get {Z : Zone} {G : Ghost} {w : World} {D : Nat → Prop} {tm : List AV} {tmps : Array Value} (r : TRel Z G w D tm tmps) (i : Nat) (hd : ¬ D i) :
    Rel Z G w (tm.getD i .undef) (tmps.getD i Go.undef) := by
  by_cases hi : i < tm.length
  · exact r.rel i hi hd
  · have : tm.getD i .undef = .undef := by simp [List.getD_eq_getElem?_getD, List.getElem?_eq_none (Nat.le_of_not_lt hi)]
    rw [this]; exact .pure (.undef _)

theorem Rel.oneCell {Z : Zone} {G : Ghost} {w : World} {a : AV} {v : Value} (h : Rel Z G w a v) (ho : a.one = true) : v.oneCell' = true := by
  cases h with
  | pure h => cases h <;> simp_all [AV.one, Value.oneCell']
  | _ => simp_all [AV.one, Value.oneCell']
theorem Value.cells_one {v : Value} (h : v.oneCell' = true) : v.cells = #[v] := by cases v <;> simp_all [Value.oneCell', Value.cells]
theorem AV.cells_one {a : AV} (h : a.one = true) : a.cells = [a] := by cases a <;> simp_all [AV.one, AV.cells]

/-- The cells of a value that fits. -/
theorem Rel.cellsOf {Z : Zone} {G : Ghost} {w : World} {a : AV} {v : Value} (h : Rel Z G w a v) {n : Nat} (hf : a.fits n = true) :
    v.cells.size = n ∧ (∀ i, i < n → Rel Z G w (a.cells.getD i .undef) (v.cells.getD i Go.undef)) ∧ ∀ x ∈ v.cells.toList, x.oneCell' = true := by
  simp only [AV.fits, Bool.and_eq_true, beq_iff_eq, List.all_eq_true] at hf
  obtain ⟨hl, ho⟩ := hf
  have key : ∀ (cs : List AV) (vs : Array Value), a.cells = cs → v.cells = vs → cs.length = vs.size → (∀ i, i < cs.length → Rel Z G w (cs.getD i .undef) (vs.getD i Go.undef)) →
      v.cells.size = n ∧ (∀ i, i < n → Rel Z G w (a.cells.getD i .undef) (v.cells.getD i Go.undef)) ∧ ∀ x ∈ v.cells.toList, x.oneCell' = true := by
    rintro cs vs hcs hvs hlen hr
    subst hcs
    subst hvs
    refine ⟨by omega, fun i hi => hr i (by omega), fun x hx => ?_⟩
    obtain ⟨i, hi, rfl⟩ := List.mem_iff_getElem.1 hx
    have hi' : i < a.cells.length := by rw [hlen]; simpa using hi
    have h1 := hr i hi'
    have h2 : a.cells.getD i .undef = a.cells[i] := by simp [List.getD_eq_getElem?_getD, hi']
    have h3 : v.cells.getD i Go.undef = v.cells.toList[i] := by
      have : i < v.cells.size := by omega
      simp [Array.getD, this]
    rw [h2, h3] at h1
    exact h1.oneCell (ho _ (List.getElem_mem hi'))
  have single : a.cells = [a] → v.cells = #[v] → v.cells.size = n ∧ (∀ i, i < n → Rel Z G w (a.cells.getD i .undef) (v.cells.getD i Go.undef)) ∧ ∀ x ∈ v.cells.toList, x.oneCell' = true := by
    intro h1 h2
    refine key [a] #[v] h1 h2 rfl fun i hi => ?_
    have : i = 0 := by simp at hi; omega
    subst this
    simpa using h
  cases h with
  | agg cs vs hl' hr => exact key cs vs rfl rfl hl' hr
  | tup => have := ho _ (List.mem_singleton.2 rfl); simp [AV.one] at this
  | pure hp =>
    cases hp with
    | agg cs vs hl' hr => exact key cs vs rfl rfl hl' fun i hi => .pure (hr i hi)
    | tup => have := ho _ (List.mem_singleton.2 rfl); simp [AV.one] at this
    | undef => have := ho _ (List.mem_singleton.2 rfl); simp [AV.one] at this
    | _ => exact single rfl rfl
  | _ => exact single rfl rfl

theorem fits_zero_undef {n : Nat} {a : AV} (h : a.fits n = true) : ∀ i, i < n → (a.cells.getD i .undef).one = true := by
  intro i hi
  simp only [AV.fits, Bool.and_eq_true, beq_iff_eq, List.all_eq_true] at h
  have hi' : i < a.cells.length := by omega
  rw [show a.cells.getD i .undef = a.cells[i] by simp [List.getD_eq_getElem?_getD, hi']]
  exact h.2 _ (List.getElem_mem hi')
end Go.EV
