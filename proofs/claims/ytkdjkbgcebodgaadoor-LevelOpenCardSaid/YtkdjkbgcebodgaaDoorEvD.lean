/-
  Each operation of the model does what the evaluator says: slices, literals, lengths; and how own memory grows and is written.
-/
import Derived.Test.YtkdjkbgcebodgaaDoorEvC
set_option linter.unusedSimpArgs false
set_option linter.unusedVariables false
namespace Go.EV
open Go.RowKit
variable {E : Env} {P : Program}

theorem extract_mk (s : List UInt8) (l h : Nat) (hl : l ≤ h) (hh : h ≤ s.length) : (⟨s.toArray⟩ : ByteArray).extract l h = ⟨((s.drop l).take (h - l)).toArray⟩ := by
  apply ByteArray.ext
  apply Array.ext'
  simp [ByteArray.data_extract, List.extract_eq_take_drop]

/-- A bound that the evaluator knows. -/
theorem bound_ok {Z : Zone} {G : Ghost} {w : World} {d n : Nat} {x : Option AV} {a : Option Value} (hx : match x, a with | some x, some a => Rel Z G w x a | none, none => True | _, _ => False) (h : bound d x = some n) :
    (x = none ∧ a = none ∧ n = d) ∨ ∃ y k, x = some y ∧ a = some (.int k (n : Int)) := by
  unfold bound at h
  split at h
  · cases a with
    | none => injection h with h; exact .inl ⟨rfl, rfl, h.symm⟩
    | some a => exact hx.elim
  · rename_i y
    cases a with
    | none => exact hx.elim
    | some a =>
      obtain ⟨k, rfl⟩ := natOf_ok hx h
      exact .inr ⟨y, k, rfl, rfl⟩

theorem run_sliceBound (n y : Nat) (k : IntKind) (c : BoundsCode) (w : World) (h : n ≤ y) : (Instr.sliceBound (.int k (n : Int)) y c).run P w = .ok n w := by
  unfold Instr.sliceBound
  simp only [Sem.run_bind, asIntOf, Sem.run_pure, Result.andThen_ok]
  rw [if_pos ⟨by omega, by omega⟩]
  simp

/-- The bounds of a slice expression without a third index. -/
theorem run_bounds2 {Z : Zone} {G : Ghost} {w : World} {lo hi : Option AV} {a b : Option Value} {l h len cap : Nat} {isS : Bool}
    (hlo : match lo, a with | some x, some a => Rel Z G w x a | none, none => True | _, _ => False) (hhi : match hi, b with | some x, some a => Rel Z G w x a | none, none => True | _, _ => False)
    (h1 : bound 0 lo = some l) (h2 : bound len hi = some h) (hl : l ≤ h) (hh : h ≤ cap) : (Instr.sliceBounds isS len cap a b none).run P w = .ok (l, h, cap) w := by
  unfold Instr.sliceBounds
  rcases bound_ok hlo h1 with ⟨_, rfl, rfl⟩ | ⟨_, k, _, rfl⟩ <;> rcases bound_ok hhi h2 with ⟨_, rfl, rfl⟩ | ⟨_, k', _, rfl⟩
  · simp
  · simp [run_sliceBound _ _ _ _ _ hh]
  · simp [run_sliceBound _ _ _ _ _ hl]
  · simp [run_sliceBound _ _ _ _ _ hl, run_sliceBound _ _ _ _ _ hh]
theorem run_bounds3 {Z : Zone} {G : Ghost} {w : World} {lo hi : Option AV} {mx : AV} {a b : Option Value} {m : Value} {l h n len cap : Nat} {isS : Bool}
    (hlo : match lo, a with | some x, some a => Rel Z G w x a | none, none => True | _, _ => False) (hhi : Rel Z G w mx m ∧ match hi, b with | some x, some a => Rel Z G w x a | none, none => True | _, _ => False)
    (h1 : bound 0 lo = some l) (h2 : hi ≠ none ∧ bound len hi = some h) (h3 : natOf mx = some n) (hl : l ≤ h) (hh : h ≤ n) (hn : n ≤ cap) : (Instr.sliceBounds isS len cap a b (some m)).run P w = .ok (l, h, n) w := by
  unfold Instr.sliceBounds
  obtain ⟨km, rfl⟩ := natOf_ok hhi.1 h3
  rcases bound_ok hhi.2 h2.2 with ⟨h', _, _⟩ | ⟨_, k', _, rfl⟩
  · exact absurd h' h2.1
  rcases bound_ok hlo h1 with ⟨_, rfl, rfl⟩ | ⟨_, k, _, rfl⟩
  · simp [run_sliceBound _ _ _ _ _ hh, run_sliceBound _ _ _ _ _ hn]
  · simp [run_sliceBound _ _ _ _ _ hl, run_sliceBound _ _ _ _ _ hh, run_sliceBound _ _ _ _ _ hn]

theorem getD_drop_take (es : List AV) (l n i : Nat) (hi : i < ((es.drop l).take n).length) : ((es.drop l).take n).getD i .undef = es.getD (l + i) .undef := by
  simp only [List.length_take, List.length_drop] at hi
  simp only [List.getD_eq_getElem?_getD, List.getElem?_take, List.getElem?_drop]
  rw [if_pos (by omega)]

/-- A part of a slice that is written no more. -/
theorem sl_part {Z : Zone} {w : World} {es : List AV} {sz c off : Nat} {V : Nat → Nat → Value} (hz : ∀ i, i < es.length → (es.getD i .undef).fits sz = true)
    (hr : ∀ i o, i < es.length → o < sz → w.cell? ⟨c, off + (i * sz + o), none⟩ = some (V i o) ∧ Z c (off + (i * sz + o)))
    (hv : ∀ i o, i < es.length → o < sz → PRel Z w ((es.getD i .undef).cells.getD o .undef) (V i o)) (l n cap' : Nat) (hn : ((es.drop l).take n).length ≤ cap') :
    PRel Z w (.sl ((es.drop l).take n)) (.slice (some ⟨c, off + l * sz, none⟩) ((es.drop l).take n).length cap') := by
  have hlen : ∀ i, i < ((es.drop l).take n).length → l + i < es.length := by
    intro i hi; simp only [List.length_take, List.length_drop] at hi; omega
  refine .sl _ sz c (off + l * sz) cap' (fun i o => V (l + i) o) hn (fun i hi => ?_) (fun i o hi ho => ?_) (fun i o hi ho => ?_)
  · rw [getD_drop_take es l n i hi]; exact hz _ (hlen i hi)
  · have := hr (l + i) o (hlen i hi) ho
    rwa [Nat.add_mul, show off + (l * sz + i * sz + o) = off + l * sz + (i * sz + o) by omega] at this
  · rw [getD_drop_take es l n i hi]; exact hv _ _ (hlen i hi) ho


abbrev ORel (Z : Zone) (G : Ghost) (w : World) (x : Option AV) (a : Option Value) : Prop := match x, a with | some x, some a => Rel Z G w x a | none, none => True | _, _ => False

theorem sized_get {n : Nat} {es : List AV} (h : sized n es = true) {i : Nat} (hi : i < es.length) : (es.getD i .undef).cells.length = n := by
  simp only [sized, List.all_eq_true, beq_iff_eq] at h
  have := h _ (List.getElem_mem hi)
  rwa [show es.getD i .undef = es[i] by simp [List.getD_eq_getElem?_getD, hi]]
theorem fits_len {n : Nat} {a : AV} (h : a.fits n = true) : a.cells.length = n := by
  simp only [AV.fits, Bool.and_eq_true, beq_iff_eq] at h; exact h.1

theorem run_slice {t e : TypeId} {te : TI} (hu : P.underlying t = some (.slice e)) (hte : TiOk P e te) (w : World) (x : Option Addr) (len cap l h m : Nat) (a b mx : Option Value)
    (hb : (Instr.sliceBounds true len cap a b mx).run P w = .ok (l, h, m) w) :
    (Instr.sliceAt t (.slice x len cap) a b mx).run P w = .ok (.slice (if m = l then x else x.map (·.add (l * te.size))) (h - l) (m - l)) w := by
  unfold Instr.sliceAt
  simp only [Sem.run_bind, run_underlying hu, Result.andThen_ok]
  unfold Instr.slice
  simp only [Sem.run_bind, run_underlying hu, Result.andThen_ok, hb, run_sizeOf' hte, Sem.run_pure]

theorem sliceStr_ok {Z : Zone} {G : Ghost} {w : World} {t : TypeId} {s : List UInt8} {lo hi mx : Option AV} {a b m : Option Value} {r : AV} (hu : P.underlying t = some .string)
    (hlo : ORel Z G w lo a) (hhi : ORel Z G w hi b) (hmx : ORel Z G w mx m) (h : sliceStr s lo hi mx = some r) : ∃ u, (Instr.sliceAt t (.string ⟨s.toArray⟩) a b m).run P w = .ok u w ∧ Rel Z G w r u := by
  unfold sliceStr at h
  split at h
  · rename_i l hh h1 h2
    split at h
    · rename_i hc
      injection h with h; subst h
      cases m with
      | some m => exact hmx.elim
      | none =>
        have hb := run_bounds2 (P := P) (isS := false) (len := s.length) (cap := s.length) hlo hhi h1 h2 hc.1 hc.2
        refine ⟨_, ?_, .str' _⟩
        unfold Instr.sliceAt
        simp only [Sem.run_bind, run_underlying hu, Result.andThen_ok]
        unfold Instr.slice
        simp only [Sem.run_bind, run_underlying hu, Result.andThen_ok]
        have hs : (⟨s.toArray⟩ : ByteArray).size = s.length := rfl
        simp only [Option.isSome_none, Bool.false_eq_true, if_false, hs, Sem.run_bind, hb, Result.andThen_ok, Sem.run_pure, extract_mk s l hh hc.1 hc.2]
    · cases h
  · cases h

theorem sliceSl_ok {Z : Zone} {G : Ghost} {w : World} {t e : TypeId} {te : TI} {es : List AV} {v : Value} {lo hi mx : Option AV} {a b m : Option Value} {r : AV} (hu : P.underlying t = some (.slice e)) (hte : TiOk P e te)
    (hx : Rel Z G w (.sl es) v) (hlo : ORel Z G w lo a) (hhi : ORel Z G w hi b) (hmx : ORel Z G w mx m) (h : sliceSl te.size es lo hi mx = some r) : ∃ u, (Instr.sliceAt t v a b m).run P w = .ok u w ∧ Rel Z G w r u := by
  unfold sliceSl at h
  split at h
  rotate_left
  · cases h
  rename_i hsz
  -- the relation of the part
  have hpart : ∀ l hh mm x cap, v = .slice x es.length cap → l ≤ hh → hh ≤ mm → mm ≤ cap → hh ≤ es.length →
      Rel Z G w (.sl ((es.drop l).take (hh - l))) (.slice (if mm = l then x else x.map (·.add (l * te.size))) (hh - l) (mm - l)) := by
    intro l hh mm x cap hv h1 h2 h3 h4
    have hlen : ((es.drop l).take (hh - l)).length = hh - l := by simp; omega
    by_cases hemp : hh - l = 0
    · have : (es.drop l).take (hh - l) = [] := by rw [hemp]; simp
      rw [this, hemp]; exact .pure (.sl0 _ _)
    · have hne : mm ≠ l := by omega
      rw [if_neg hne]
      cases hx with
      | pure hx =>
        cases hx with
        | sl _ sz c off cap' V hc hz hr hvv =>
          injection hv with e1 e2 e3
          subst e1
          have hs : te.size = sz := by
            have h0 : l < es.length := by omega
            rw [← sized_get hsz h0, fits_len (hz l h0)]
          simp only [Option.map_some, addr_add, hs]
          have := sl_part hz hr hvv l (hh - l) (mm - l) (by omega)
          rw [hlen] at this
          exact .pure this
        | sl0 => simp at h4; omega
  obtain ⟨x, cap, hv, hcap, _⟩ := hx.sl_inv
  split at h
  · rename_i l hh h1 h2
    split at h
    · rename_i hc
      injection h with h; subst h
      cases m with
      | some m => exact hmx.elim
      | none =>
        subst hv
        have hb := run_bounds2 (P := P) (isS := true) (len := es.length) (cap := cap) hlo hhi h1 h2 hc.1 (by omega)
        exact ⟨_, run_slice hu hte w x _ _ _ _ _ _ _ _ hb, hpart l hh cap x cap rfl hc.1 (by omega) (Nat.le_refl _) hc.2⟩
    · cases h
  · rename_i l hh mm h1 h2
    split at h
    · rename_i n hn
      split at h
      · rename_i hc
        obtain ⟨hs, hc1, hc2, hc3⟩ := hc
        cases m with
        | none => exact hmx.elim
        | some m =>
          subst hv
          have hb := run_bounds3 (P := P) (isS := true) (len := es.length) (cap := cap) (mx := mm) (m := m) hlo ⟨hmx, hhi⟩ h1 ⟨(by intro e; rw [e] at hs; cases hs), h2⟩ hn hc1 hc2 (by omega)
          have hp := hpart l hh n x cap rfl hc1 hc2 (by omega) (by omega)
          refine ⟨_, run_slice hu hte w x _ _ _ _ _ _ _ _ hb, ?_⟩
          split at h
          · rename_i he
            injection h with h; subst h
            subst he
            rw [if_pos rfl, show hh - l = 0 by omega, show l - l = 0 by omega]
            exact .pure (.z0 _)
          · injection h with h; subst h
            exact hp
      · cases h
    · cases h
  · cases h

theorem sliceMs_ok {base : Nat} {Z : Zone} {G : Ghost} {hp : Heap} {w : World} (H : HRel base Z G hp w) {t e : TypeId} {te : TI} {bb g off len : Nat} {v : Value} {lo hi mx : Option AV} {a b m : Option Value} {r : AV} (hu : P.underlying t = some (.slice e)) (hte : TiOk P e te)
    (hx : Rel Z G w (.ms bb g off len) v) (hlo : ORel Z G w lo a) (hhi : ORel Z G w hi b) (hmx : ORel Z G w mx m) (h : sliceMs hp te.size bb g off len lo hi mx = some r) : ∃ u, (Instr.sliceAt t v a b m).run P w = .ok u w ∧ Rel Z G w r u := by
  unfold sliceMs at h
  split at h
  rotate_left
  · cases h
  rename_i es sz wg com hb
  split at h
  rotate_left
  · cases h
  rename_i hsz
  subst hsz
  obtain ⟨oc, cap, x, hv, hg, hl, hgc, ha, hn⟩ := hx.ms_inv
  subst hv
  have hG := ((H.row _ _ _ _ _ hb).2 g _ cap hg).1
  split at h
  · rename_i l hh h1 h2
    split at h
    · rename_i hc
      injection h with h; subst h
      cases m with
      | some m => exact hmx.elim
      | none =>
        have hb' := run_bounds2 (P := P) (isS := true) (len := len) (cap := cap - off) hlo hhi h1 h2 hc.1 (by omega)
        refine ⟨_, run_slice hu hte w x _ _ _ _ _ _ _ _ hb', ?_⟩
        rw [show cap - off - l = cap - (off + l) by omega]
        refine .ms bb g (off + l) (hh - l) oc cap _ hg (by omega) hgc (fun hlt => ?_) (fun h0 h1 => ?_)
        · obtain ⟨c, hoc, hx'⟩ := ha (by omega)
          refine ⟨c, hoc, ?_⟩
          rw [if_neg (by omega), hx']
          simp [addr_add, hG, Nat.add_mul]
        · have := hn h0 h1
          subst this; simp
    · cases h
  · rename_i l hh mm h1 h2
    split at h
    · rename_i n hn'
      split at h
      · rename_i hc
        obtain ⟨hs, hc1, hc2, hc3⟩ := hc
        injection h with h; subst h
        cases m with
        | none => exact hmx.elim
        | some m =>
          have hb' := run_bounds3 (P := P) (isS := true) (len := len) (cap := cap - off) (mx := mm) (m := m) hlo ⟨hmx, hhi⟩ h1 ⟨(by intro e; rw [e] at hs; cases hs), h2⟩ hn' (by omega) (by omega) (by omega)
          refine ⟨_, run_slice hu hte w x _ _ _ _ _ _ _ _ hb', ?_⟩
          rw [if_pos (by omega), show hh - l = 0 by omega, show n - l = 0 by omega]
          exact .pure (.z0 _)
      · cases h
    · cases h
  · cases h

theorem sliceNil_ok {Z : Zone} {G : Ghost} {w : World} {t e : TypeId} {te : TI} {y : AV} {ad : Option Addr} {lo hi mx : Option AV} {a b m : Option Value} {r : AV} (hu : P.underlying t = some (.slice e)) (hte : TiOk P e te)
    (hy : Rel Z G w y (.slice ad 0 0)) (hlo : ORel Z G w lo a) (hhi : ORel Z G w hi b) (hmx : ORel Z G w mx m) (h : sliceNil y lo hi mx = some r) : ∃ u, (Instr.sliceAt t (.slice ad 0 0) a b m).run P w = .ok u w ∧ Rel Z G w r u := by
  unfold sliceNil at h
  split at h
  · rename_i h1 h2
    injection h with h; subst h
    cases m with
    | some m => exact hmx.elim
    | none =>
      have hb' := run_bounds2 (P := P) (isS := true) (len := 0) (cap := 0) hlo hhi h1 h2 (Nat.le_refl _) (Nat.le_refl _)
      refine ⟨_, run_slice hu hte w ad _ _ _ _ _ _ _ _ hb', ?_⟩
      simpa using hy
  · rename_i mm h1 h2
    split at h
    · rename_i hn'
      split at h
      · rename_i hs
        injection h with h; subst h
        cases m with
        | none => exact hmx.elim
        | some m =>
          have hb' := run_bounds3 (P := P) (isS := true) (len := 0) (cap := 0) (mx := mm) (m := m) hlo ⟨hmx, hhi⟩ h1 ⟨(by intro e; rw [e] at hs; cases hs), h2⟩ hn' (Nat.le_refl _) (Nat.le_refl _) (Nat.le_refl _)
          refine ⟨_, run_slice hu hte w ad _ _ _ _ _ _ _ _ hb', ?_⟩
          simpa using hy
      · cases h
    · cases h
  · cases h

theorem sliceAV_ok {base : Nat} {Z : Zone} {G : Ghost} {hp : Heap} {w : World} (H : HRel base Z G hp w) (hE : ∀ t ti, E.ti t = some ti → TiOk P t ti) {t : TypeId} {x r : AV} {lo hi mx : Option AV} {v : Value} {a b m : Option Value} (hx : Rel Z G w x v)
    (hlo : ORel Z G w lo a) (hhi : ORel Z G w hi b) (hmx : ORel Z G w mx m) (h : sliceAV E hp t x lo hi mx = some r) : ∃ u, (Instr.sliceAt t v a b m).run P w = .ok u w ∧ Rel Z G w r u := by
  unfold sliceAV at h
  split at h
  · rename_i ti ht
    have hu := (hE _ _ ht).desc
    split at h
    · rename_i hd
      rw [hd] at hu
      split at h
      · cases hx.str_inv; exact sliceStr_ok hu hlo hhi hmx h
      · cases h
    · rename_i e hd
      rw [hd] at hu
      split at h
      · rename_i te hte
        split at h
        · exact sliceSl_ok hu (hE _ _ hte) hx hlo hhi hmx h
        · exact sliceMs_ok H hu (hE _ _ hte) hx hlo hhi hmx h
        · cases hx.nils_inv; exact sliceNil_ok hu (hE _ _ hte) hx hlo hhi hmx h
        · obtain ⟨ad, rfl⟩ := hx.z0_inv; exact sliceNil_ok hu (hE _ _ hte) hx hlo hhi hmx h
        · cases h
      · cases h
    · cases h
  · cases h

theorem lenAV_ok {Z : Zone} {G : Ghost} {w : World} (hE : ∀ t ti, E.ti t = some ti → TiOk P t ti) {t ty : TypeId} {x r : AV} {v : Value} (hx : Rel Z G w x v) (h : lenAV E t x = some r) :
    ∃ u, (Builtin.len_ #[t] ty #[v]).run P w = .ok u w ∧ Rel Z G w r u := by
  unfold lenAV at h
  split at h
  · rename_i ti ht
    have hu := (hE _ _ ht).desc
    split at h
    · rename_i s hd
      rw [hd] at hu
      cases hx.str_inv; injection h with h; subst h
      exact ⟨.int .i64 s.length, by simp [Builtin.len_, run_underlying hu, goInt]; rfl, .int' _ _⟩
    · rename_i e es hd
      rw [hd] at hu
      obtain ⟨a, cap, rfl, _⟩ := hx.sl_inv; injection h with h; subst h
      exact ⟨.int .i64 es.length, by simp [Builtin.len_, run_underlying hu, goInt], .int' _ _⟩
    · rename_i e b g off n hd
      rw [hd] at hu
      obtain ⟨oc, cap, a, rfl, _⟩ := hx.ms_inv; injection h with h; subst h
      exact ⟨.int .i64 n, by simp [Builtin.len_, run_underlying hu, goInt], .int' _ _⟩
    · rename_i e hd
      rw [hd] at hu
      cases hx.nils_inv; injection h with h; subst h
      exact ⟨.int .i64 0, by simp [Builtin.len_, run_underlying hu, goInt], .int' _ _⟩
    · rename_i e hd
      rw [hd] at hu
      obtain ⟨a, rfl⟩ := hx.z0_inv; injection h with h; subst h
      exact ⟨.int .i64 0, by simp [Builtin.len_, run_underlying hu, goInt], .int' _ _⟩
    · rename_i n e hd
      rw [hd] at hu
      injection h with h; subst h
      exact ⟨.int .i64 n, by simp [Builtin.len_, run_underlying hu, goInt], .int' _ _⟩
    · cases h
  · cases h

theorem minAV_ok {Z : Zone} {G : Ghost} {w : World} {ts : Array TypeId} {ty : TypeId} {x y r : AV} {a b : Value} (hx : Rel Z G w x a) (hy : Rel Z G w y b) (h : minAV x y = some r) :
    ∃ u, (Builtin.min_ ts ty #[a, b]).run P w = .ok u w ∧ Rel Z G w r u := by
  unfold minAV at h
  split at h
  · cases hx.int_inv; cases hy.int_inv; injection h with h; subst h
    exact ⟨_, by simp [Builtin.min_, Builtin.min2], .int' _ _⟩
  · cases h
theorem maxAV_ok {Z : Zone} {G : Ghost} {w : World} {ts : Array TypeId} {ty : TypeId} {x y r : AV} {a b : Value} (hx : Rel Z G w x a) (hy : Rel Z G w y b) (h : maxAV x y = some r) :
    ∃ u, (Builtin.max_ ts ty #[a, b]).run P w = .ok u w ∧ Rel Z G w r u := by
  unfold maxAV at h
  split at h
  · cases hx.int_inv; cases hy.int_inv; injection h with h; subst h
    exact ⟨_, by simp [Builtin.max_, Builtin.max2], .int' _ _⟩
  · cases h
end Go.EV
