/-
  Each operation of the model does what the evaluator says: operations that leave memory alone.
-/
import Derived.Test.YtkdjkbgcebodgaaDoorEvB
import Derived.Laws.Strings
set_option linter.unusedSimpArgs false
set_option linter.unusedVariables false
namespace Go.EV
open Go.RowKit

def isAggD : TypeDesc → Bool
  | .struct _ | .array _ _ => true
  | _ => false
structure TiOk (P : Program) (t : TypeId) (ti : TI) : Prop where
  desc : P.underlying t = some ti.desc
  agg : ti.agg = isAggD ti.desc
  info : ∃ inf, P.info? t = some inf ∧ inf.size = ti.size ∧ inf.bytes = ti.bytes ∧ ∃ z, inf.zero = some z ∧ ∀ Z w, PRel Z w ti.zero z

variable {E : Env} {P : Program}

theorem run_isAgg {t : TypeId} {ti : TI} (h : TiOk P t ti) (w : World) : (isAgg t).run P w = .ok ti.agg w := by
  rw [h.agg]
  unfold isAgg isAggD
  simp only [Sem.run_bind, run_underlying h.desc, Result.andThen_ok]
  split <;> simp_all
theorem run_sizeOf' {t : TypeId} {ti : TI} (h : TiOk P t ti) (w : World) : (sizeOf t).run P w = .ok ti.size w := by
  obtain ⟨inf, hi, hs, _⟩ := h.info
  simp [sizeOf, typeInfo, hi, hs]

theorem addr_add (c o n : Nat) : (⟨c, o, none⟩ : Addr).add n = ⟨c, o + n, none⟩ := by unfold Addr.add; split <;> simp_all

/-- Cells of one element, read as a value of a type. -/
theorem readCells_ok {Z : Zone} {G : Ghost} {w : World} {t : TypeId} {ti : TI} (ht : TiOk P t ti) {e r : AV} {sz o c b : Nat} {V : Nat → Value}
    (hf : e.cells.length = sz) (hr : ∀ o, o < sz → w.cell? ⟨c, b + o, none⟩ = some (V o)) (hv : ∀ o, o < sz → Rel Z G w (e.cells.getD o .undef) (V o))
    (h : readCells ti e.cells o = some r) : ∃ x, (loadVar t ⟨c, b + o, none⟩).run P w = .ok x w ∧ Rel Z G w r x := by
  unfold readCells at h
  unfold loadVar
  split at h
  · rename_i hagg
    split at h
    · rename_i hle
      injection h with h
      subst h
      have hl := run_loadCells (P := P) w ⟨c, b + o, none⟩ ti.size (fun j => V (o + j)) (fun j hj => by rw [addr_add, Nat.add_assoc]; exact hr _ (by omega))
      refine ⟨.agg ((List.range ti.size).map fun j => V (o + j)).toArray, by simp [run_isAgg ht, run_sizeOf' ht, hagg, hl], .agg _ _ (by simp; omega) fun i hi => ?_⟩
      simp only [List.length_take, List.length_drop] at hi
      have h1 : ((e.cells.drop o).take ti.size).getD i .undef = e.cells.getD (o + i) .undef := by
        simp only [List.getD_eq_getElem?_getD, List.getElem?_take, List.getElem?_drop]
        rw [if_pos (by omega)]
      have h2 : (((List.range ti.size).map fun j => V (o + j)).toArray).getD i Go.undef = V (o + i) := by
        have : i < ti.size := by omega
        simp [Array.getD, this]
      rw [h1, h2]
      exact hv _ (by omega)
    · cases h
  · rename_i hagg
    have ho : o < sz := by
      rcases Nat.lt_or_ge o e.cells.length with h' | h'
      · omega
      · rw [List.getElem?_eq_none h'] at h; cases h
    refine ⟨V o, by simp [run_isAgg ht, hagg, hr o ho], ?_⟩
    have := hv o ho
    rw [List.getD_eq_getElem?_getD, h] at this
    simpa using this

theorem Array.getD_of_lt {α : Type} (a : Array α) (i : Nat) (d : α) (h : i < a.size) : a[i]? = some (a.getD i d) := by simp [Array.getD, h]

theorem idx_lt {i g o sz cap : Nat} (hi : i < g) (hg : g ≤ cap) (ho : o < sz) : i * sz + o < cap * sz := by
  have : (i + 1) * sz ≤ cap * sz := Nat.mul_le_mul_right _ (by omega)
  rw [Nat.add_mul] at this
  omega

/-- What an address leads to: the cells of the element. -/
theorem row_cells {base : Nat} {Z : Zone} {G : Ghost} {hp : Heap} {w : World} (H : HRel base Z G hp w) {b g c cap i : Nat} {es : List AV} {sz wg com : Nat} (hb : hp[b]? = some (.row es sz wg com))
    (hg : G.row b g = some (some c, cap)) (hw : wg ≤ g) (hi : i < g) :
    G.sz b = sz ∧ i < es.length ∧ (es.getD i .undef).fits sz = true ∧ base ≤ c ∧ (∀ j, Z c j → j < com * sz) ∧ ∃ cs t, w.heap[c]? = some (.cells cs t (0, 0)) ∧ cs.size = cap * sz ∧
      (∀ o, o < sz → w.cell? ⟨c, i * sz + o, none⟩ = some (cs.getD (i * sz + o) Go.undef)) ∧ ∀ o, o < sz → Rel Z G w ((es.getD i .undef).cells.getD o .undef) (cs.getD (i * sz + o) Go.undef) := by
  obtain ⟨hf, hrow⟩ := H.row b es sz wg com hb
  obtain ⟨hsz, hge, hgc, _, hc⟩ := hrow g _ cap hg
  obtain ⟨hbase, hz, cs, t, hh, hs, hr⟩ := hc c rfl
  refine ⟨hsz, by omega, hf i (by omega), hbase, hz, cs, t, hh, hs, fun o ho => ?_, fun o ho => hr hw i o hi ho⟩
  rw [cell_of_row w c _ cs t (0, 0) hh]
  exact Array.getD_of_lt cs _ _ (by rw [hs]; exact idx_lt hi hgc ho)

theorem getD_of_get {es : List AV} {i : Nat} {e : AV} (h : es[i]? = some e) : es.getD i .undef = e ∧ i < es.length := by
  refine ⟨by simp [List.getD_eq_getElem?_getD, h], ?_⟩
  rcases Nat.lt_or_ge i es.length with h' | h'
  · exact h'
  · rw [List.getElem?_eq_none h'] at h; cases h

theorem load_ok {base : Nat} {Z : Zone} {G : Ghost} {hp : Heap} {w : World} (H : HRel base Z G hp w) (hE : ∀ t ti, E.ti t = some ti → TiOk P t ti) {t : TypeId} {a r : AV} {v : Value}
    (ha : Rel Z G w a v) (h : loadAV E hp t a = some r) : ∃ x, (Instr.loadAt t v).run P w = .ok x w ∧ Rel Z G w r x := by
  unfold loadAV at h
  split at h
  · rename_i ti es i o hti
    split at h
    · rename_i e he
      obtain ⟨hed, hil⟩ := getD_of_get he
      cases ha with
      | pure ha =>
        cases ha with
        | ip _ _ _ sz c off V hz hr hv =>
          have hf := hz i hil
          rw [hed] at hf
          simp only [AV.fits, Bool.and_eq_true, beq_iff_eq] at hf
          have := readCells_ok (P := P) (Z := Z) (G := G) (w := w) (hE t ti hti) (e := e) (r := r) (sz := sz) (o := o) (c := c) (b := off + i * sz) (V := V i) hf.1
            (fun o ho => by rw [Nat.add_assoc]; exact (hr i o hil ho).1) (fun o ho => by have := hv i o hil ho; rw [hed] at this; exact .pure this) h
          rw [Nat.add_assoc] at this
          simpa [Instr.loadAt, Instr.sureAddr] using this
    · cases h
  · rename_i ti b g i o hti
    split at h
    · rename_i es sz wg com hb
      split at h
      · rename_i hw
        split at h
        · rename_i e he
          obtain ⟨hed, hil⟩ := getD_of_get he
          cases ha with
          | pure ha => cases ha
          | mp _ _ _ _ c cap hg hi =>
            obtain ⟨hsz, _, hf, _, _, cs, t', hh, hs, hcell, hrel⟩ := row_cells H hb hg hw hi
            rw [hed] at hf hrel
            simp only [AV.fits, Bool.and_eq_true, beq_iff_eq] at hf
            have := readCells_ok (P := P) (Z := Z) (G := G) (w := w) (hE t ti hti) (e := e) (r := r) (sz := sz) (o := o) (c := c) (b := i * sz) (V := fun o => cs.getD (i * sz + o) Go.undef) hf.1 hcell hrel h
            rw [hsz]
            simpa [Instr.loadAt, Instr.sureAddr] using this
        · cases h
      · cases h
    · cases h
  · cases h

/-- Inversions. -/
theorem Rel.int_inv {Z : Zone} {G : Ghost} {w : World} {k : IntKind} {n : Int} {v : Value} (h : Rel Z G w (.int k n) v) : v = .int k n := by cases h with | pure h => cases h; rfl
theorem Rel.bool_inv {Z : Zone} {G : Ghost} {w : World} {b : Bool} {v : Value} (h : Rel Z G w (.bool b) v) : v = .bool b := by cases h with | pure h => cases h; rfl
theorem Rel.str_inv {Z : Zone} {G : Ghost} {w : World} {s : List UInt8} {v : Value} (h : Rel Z G w (.str s) v) : v = .string ⟨s.toArray⟩ := by cases h with | pure h => cases h; rfl
theorem Rel.nili_inv {Z : Zone} {G : Ghost} {w : World} {v : Value} (h : Rel Z G w .nili v) : v = .nilIface := by cases h with | pure h => cases h; rfl
theorem Rel.nilp_inv {Z : Zone} {G : Ghost} {w : World} {v : Value} (h : Rel Z G w .nilp v) : v = .pointer none := by cases h with | pure h => cases h; rfl
theorem Rel.nils_inv {Z : Zone} {G : Ghost} {w : World} {v : Value} (h : Rel Z G w .nils v) : v = .slice none 0 0 := by cases h with | pure h => cases h; rfl
theorem Rel.z0_inv {Z : Zone} {G : Ghost} {w : World} {v : Value} (h : Rel Z G w .z0 v) : ∃ a, v = .slice a 0 0 := by cases h with | pure h => cases h; exact ⟨_, rfl⟩
theorem Rel.iface_inv {Z : Zone} {G : Ghost} {w : World} {t : TypeId} {a : AV} {v : Value} (h : Rel Z G w (.iface t a) v) : ∃ x, v = .iface t x ∧ Rel Z G w a x := by
  cases h with
  | pure h => cases h with | iface _ _ x h => exact ⟨x, rfl, .pure h⟩
  | iface _ _ x h => exact ⟨x, rfl, h⟩
theorem Rel.ip_inv {Z : Zone} {G : Ghost} {w : World} {es : List AV} {i o : Nat} {v : Value} (h : Rel Z G w (.ip es i o) v) : ∃ a, v = .pointer (some a) := by cases h with | pure h => cases h; exact ⟨_, rfl⟩
theorem Rel.mp_inv {Z : Zone} {G : Ghost} {w : World} {b g i o : Nat} {v : Value} (h : Rel Z G w (.mp b g i o) v) : ∃ a, v = .pointer (some a) := by
  cases h with
  | pure h => cases h
  | mp => exact ⟨_, rfl⟩
theorem Rel.sl_inv {Z : Zone} {G : Ghost} {w : World} {es : List AV} {v : Value} (h : Rel Z G w (.sl es) v) : ∃ a cap, v = .slice a es.length cap ∧ es.length ≤ cap ∧ (es ≠ [] → a ≠ none) := by
  cases h with
  | pure h =>
    cases h with
    | sl _ sz c off cap V hc => exact ⟨_, cap, rfl, hc, by simp⟩
    | sl0 a cap => exact ⟨a, cap, rfl, Nat.zero_le _, by simp⟩
theorem Rel.ms_inv {Z : Zone} {G : Ghost} {w : World} {b g off len : Nat} {v : Value} (h : Rel Z G w (.ms b g off len) v) : ∃ oc cap a, v = .slice a len (cap - off) ∧ G.row b g = some (oc, cap) ∧ off + len ≤ g ∧ g ≤ cap ∧
    (off < cap → ∃ c, oc = some c ∧ a = some ⟨c, off * G.sz b, none⟩) ∧ (g = 0 → oc = none → a = none) := by
  cases h with
  | pure h => cases h
  | ms _ _ _ _ oc cap a hg h1 h2 ha hn => exact ⟨oc, cap, a, rfl, hg, h1, h2, ha, hn⟩
theorem Rel.tup_inv {Z : Zone} {G : Ghost} {w : World} {cs : List AV} {v : Value} (h : Rel Z G w (.tup cs) v) : ∃ vs, v = .tuple vs ∧ cs.length = vs.size ∧ ∀ i, i < cs.length → Rel Z G w (cs.getD i .undef) (vs.getD i Go.undef) := by
  cases h with
  | pure h => cases h with | tup _ vs hl hr => exact ⟨vs, rfl, hl, fun i hi => .pure (hr i hi)⟩
  | tup _ vs hl hr => exact ⟨vs, rfl, hl, hr⟩
theorem Rel.agg_inv {Z : Zone} {G : Ghost} {w : World} {cs : List AV} {v : Value} (h : Rel Z G w (.agg cs) v) : ∃ vs, v = .agg vs ∧ cs.length = vs.size ∧ ∀ i, i < cs.length → Rel Z G w (cs.getD i .undef) (vs.getD i Go.undef) := by
  cases h with
  | pure h => cases h with | agg _ vs hl hr => exact ⟨vs, rfl, hl, fun i hi => .pure (hr i hi)⟩
  | agg _ vs hl hr => exact ⟨vs, rfl, hl, hr⟩
theorem Rel.fn_inv {Z : Zone} {G : Ghost} {w : World} {f : FuncId} {cs : List AV} {v : Value} (h : Rel Z G w (.fn f cs) v) : ∃ vs, v = .func (.func f) #[] vs ∧ cs.length = vs.size ∧ ∀ i, i < cs.length → Rel Z G w (cs.getD i .undef) (vs.getD i Go.undef) := by
  cases h with
  | pure h => cases h with | fn _ _ vs hl hr => exact ⟨vs, rfl, hl, fun i hi => .pure (hr i hi)⟩
  | fn _ _ vs hl hr => exact ⟨vs, rfl, hl, hr⟩

theorem Rel.int' {Z : Zone} {G : Ghost} {w : World} (k : IntKind) (n : Int) : Rel Z G w (.int k n) (.int k n) := .pure (.int k n)
theorem Rel.bool' {Z : Zone} {G : Ghost} {w : World} (b : Bool) : Rel Z G w (.bool b) (.bool b) := .pure (.bool b)
theorem Rel.str' {Z : Zone} {G : Ghost} {w : World} (s : List UInt8) : Rel Z G w (.str s) (.string ⟨s.toArray⟩) := .pure (.str s)



theorem intBin_ok {Z : Zone} {G : Ghost} {w : World} {op : BinOp} {k : IntKind} {a b : Int} {r : AV} (h : intBin op k a b = some r) :
    ∃ x, (match op with
      | .add | .sub | .mul => Op.intArith op k a b
      | .quo | .rem => Op.intDiv op k a b
      | .and | .or | .xor | .andNot => Op.intBits op k a b
      | _ => Op.intCmp op a b).run P w = .ok x w ∧ Rel Z G w r x := by
  by_cases hb : b = 0
  · subst hb
    cases op <;> simp only [intBin, if_true, Option.some.injEq, reduceCtorEq] at h <;>
      first
      | (subst h; exact ⟨_, rfl, .int' _ _⟩)
      | (subst h; exact ⟨_, rfl, .bool' _⟩)
  · cases op <;> simp only [intBin, hb, if_false, Option.some.injEq, reduceCtorEq] at h <;>
      first
      | (subst h; exact ⟨_, rfl, .int' _ _⟩)
      | (subst h; exact ⟨_, rfl, .bool' _⟩)
      | (subst h; exact ⟨.int k _, by simp only [Op.intDiv, if_neg hb]; rfl, .int' _ _⟩)
theorem shiftBin_ok {Z : Zone} {G : Ghost} {w : World} {op : BinOp} {k yk : IntKind} {a b : Int} {r : AV} (h : shiftBin op k a b = some r) :
    ∃ x, (Op.shift op k a yk b).run P w = .ok x w ∧ Rel Z G w r x := by
  unfold shiftBin at h
  split at h
  · cases h
  · rename_i hb
    unfold Op.shift
    rw [if_neg hb]
    cases op <;> simp only [Option.some.injEq] at h <;> first
      | (subst h; exact ⟨_, rfl, .int' _ _⟩)
      | cases h

theorem strBin_ok {Z : Zone} {G : Ghost} {w : World} {op : BinOp} {a b : List UInt8} {r : AV} (h : strBin op a b = some r) :
    ∃ x, (Op.stringOp op ⟨a.toArray⟩ ⟨b.toArray⟩).run P w = .ok x w ∧ Rel Z G w r x := by
  have hs : ∀ l : List UInt8, (⟨l.toArray⟩ : ByteArray).size = l.length := fun l => rfl
  cases op <;> simp only [strBin, Option.some.injEq, reduceCtorEq] at h
  case add =>
    split at h
    · rename_i hb; injection h with h; subst h
      refine ⟨.string ⟨(a ++ b).toArray⟩, ?_, .str' _⟩
      have hm : ¬ ((((⟨a.toArray⟩ : ByteArray).size + (⟨b.toArray⟩ : ByteArray).size : Nat) : Int) > IntKind.i64.max) := by
        rw [hs, hs]; show ¬ (_ > (9223372036854775807 : Int)); omega
      have ha : (⟨a.toArray⟩ : ByteArray) ++ ⟨b.toArray⟩ = ⟨(a ++ b).toArray⟩ := by
        apply ByteArray.ext; simp [ByteArray.data_append]
      simp only [Op.stringOp]
      rw [if_neg hm, ha]; rfl
    · cases h
  all_goals (subst h; refine ⟨.bool _, ?_, .bool' _⟩; simp only [Op.stringOp, ByteArray.toList_mk]; rfl)

structure EqSays (t : TypeId) (c : Bool) (a b : Value) (r : Bool) (w : World) : Prop where
  eq : (Op.equal t a b).run P w = .ok r w
  guard : ∀ op p q, (c = true → ((p matches Operand.const _) || (q matches Operand.const _)) = true) → (eqGuard op t p q a b).run P w = .ok () w
  eql : binOp .eql t a b = (do pure (.bool (← Op.equal t a b)))
  neq : binOp .neq t a b = (do pure (.bool (!(← Op.equal t a b))))

theorem eqD_ok {Z : Zone} {G : Ghost} {w : World} {t : TypeId} {ti : TI} (ht : TiOk P t ti) {c : Bool} {x y : AV} {a b : Value} (hx : Rel Z G w x a) (hy : Rel Z G w y b) {r : Bool} (h : eqD ti.desc c x y = some r) :
    EqSays (P := P) t c a b r w := by
  have hu := run_underlying ht.desc w
  have he : ∀ a b, Op.equal t a b = Op.equalIn (9999 + 1) t a b := fun _ _ => rfl
  unfold eqD at h
  split at h
  all_goals (try (cases h; done))
  · rename_i a' b' hd
    have := hx.bool_inv; have := hy.bool_inv; subst_vars
    injection h with h; subst h
    refine ⟨by rw [he]; unfold Op.equalIn; simp [hu, hd], fun op p q _ => by unfold eqGuard; split <;> rfl, rfl, rfl⟩
  · rename_i ms hd
    have := hx.nili_inv; have := hy.nili_inv; subst_vars
    split at h
    · rename_i hc
      injection h with h; subst h
      refine ⟨by rw [he]; unfold Op.equalIn; simp [hu, hd], fun op p q hpq => ?_, rfl, rfl⟩
      have hpq := hpq hc
      unfold eqGuard
      simp only [hpq]
      cases op <;> first
        | rfl
        | (cases p <;> cases q <;> first
            | rfl
            | (simp at hpq; done))
    · cases h
  · rename_i ms t' a' hd
    obtain ⟨v, rfl, _⟩ := hx.iface_inv; have := hy.nili_inv; subst_vars
    injection h with h; subst h
    refine ⟨by rw [he]; unfold Op.equalIn; simp [hu, hd], fun op p q _ => by unfold eqGuard; split <;> rfl, rfl, rfl⟩
  · rename_i ms t' a' hd
    obtain ⟨v, rfl, _⟩ := hy.iface_inv; have := hx.nili_inv; subst_vars
    injection h with h; subst h
    refine ⟨by rw [he]; unfold Op.equalIn; simp [hu, hd], fun op p q _ => by unfold eqGuard; split <;> rfl, rfl, rfl⟩
  · rename_i el hd
    have := hx.nilp_inv; have := hy.nilp_inv; subst_vars
    injection h with h; subst h
    refine ⟨by rw [he]; unfold Op.equalIn; simp [hu, hd], fun op p q _ => by unfold eqGuard; split <;> rfl, rfl, rfl⟩
  · rename_i el es i o hd
    obtain ⟨p, rfl⟩ := hx.ip_inv; have := hy.nilp_inv; subst_vars
    injection h with h; subst h
    refine ⟨by rw [he]; unfold Op.equalIn; simp [hu, hd], fun op p q _ => by unfold eqGuard; split <;> rfl, rfl, rfl⟩
  · rename_i el es i o hd
    obtain ⟨p, rfl⟩ := hy.ip_inv; have := hx.nilp_inv; subst_vars
    injection h with h; subst h
    refine ⟨by rw [he]; unfold Op.equalIn; simp [hu, hd], fun op p q _ => by unfold eqGuard; split <;> rfl, rfl, rfl⟩
  · rename_i el b g i o hd
    obtain ⟨p, rfl⟩ := hx.mp_inv; have := hy.nilp_inv; subst_vars
    injection h with h; subst h
    refine ⟨by rw [he]; unfold Op.equalIn; simp [hu, hd], fun op p q _ => by unfold eqGuard; split <;> rfl, rfl, rfl⟩
  · rename_i el b g i o hd
    obtain ⟨p, rfl⟩ := hy.mp_inv; have := hx.nilp_inv; subst_vars
    injection h with h; subst h
    refine ⟨by rw [he]; unfold Op.equalIn; simp [hu, hd], fun op p q _ => by unfold eqGuard; split <;> rfl, rfl, rfl⟩
  · rename_i el hd
    have := hx.nils_inv; have := hy.nils_inv; subst_vars
    injection h with h; subst h
    refine ⟨by rw [he]; unfold Op.equalIn; simp [hu, hd], fun op p q _ => by unfold eqGuard; split <;> rfl, rfl, rfl⟩
  · rename_i el e es hd
    obtain ⟨p, cap, rfl, _, hn⟩ := hx.sl_inv; have := hy.nils_inv; subst_vars
    injection h with h; subst h
    cases p with
    | none => exact absurd rfl (hn (by simp))
    | some p => refine ⟨by rw [he]; unfold Op.equalIn; simp [hu, hd], fun op p q _ => by unfold eqGuard; split <;> rfl, rfl, rfl⟩


theorem binInt_ok {Z : Zone} {G : Ghost} {w : World} {op : BinOp} {t : TypeId} {p q : Operand} {k k' : IntKind} {a b : Int} {r : AV} (h : binInt op k a k' b = some r) :
    ∃ v, (do eqGuard op t p q (.int k a) (.int k' b); binOp op t (.int k a) (.int k' b) : Sem Value).run P w = .ok v w ∧ Rel Z G w r v := by
  have hg : (eqGuard op t p q (.int k a) (.int k' b)).run P w = .ok () w := by unfold eqGuard; split <;> rfl
  simp only [Sem.run_bind, hg, Result.andThen_ok]
  unfold binInt at h
  split at h
  · rename_i hop
    have := shiftBin_ok (P := P) (Z := Z) (G := G) (w := w) (yk := k') h
    rcases hop with rfl | rfl <;> simpa [binOp] using this
  · rename_i hop
    split at h
    · rename_i hk
      subst hk
      have := intBin_ok (P := P) (Z := Z) (G := G) (w := w) h
      cases op <;> first | exact absurd (Or.inl rfl) hop | exact absurd (Or.inr rfl) hop | simpa [binOp] using this
    · cases h
theorem binStr_ok {Z : Zone} {G : Ghost} {w : World} {op : BinOp} {t : TypeId} {p q : Operand} {a b : List UInt8} {r : AV} (h : strBin op a b = some r) :
    ∃ v, (do eqGuard op t p q (.string ⟨a.toArray⟩) (.string ⟨b.toArray⟩); binOp op t (.string ⟨a.toArray⟩) (.string ⟨b.toArray⟩) : Sem Value).run P w = .ok v w ∧ Rel Z G w r v := by
  have hg : (eqGuard op t p q (.string ⟨a.toArray⟩) (.string ⟨b.toArray⟩)).run P w = .ok () w := by unfold eqGuard; split <;> rfl
  simp only [Sem.run_bind, hg, Result.andThen_ok]
  have := strBin_ok (P := P) (Z := Z) (G := G) (w := w) h
  cases op <;> simpa [binOp] using this
theorem const_or (p q : Operand) : (isConst p || isConst q) = true → ((p matches Operand.const _) || (q matches Operand.const _)) = true := by
  intro hh; cases p <;> cases q <;> simp_all [isConst]
theorem binEq_ok {Z : Zone} {G : Ghost} {w : World} (hE : ∀ t ti, E.ti t = some ti → TiOk P t ti) {op : BinOp} {t : TypeId} {p q : Operand} {x y r : AV} {a b : Value} (hx : Rel Z G w x a) (hy : Rel Z G w y b)
    (h : binEq E op t (isConst p || isConst q) x y = some r) : ∃ v, (do eqGuard op t p q a b; binOp op t a b : Sem Value).run P w = .ok v w ∧ Rel Z G w r v := by
  have hc := const_or p q
  have key : ∀ e, eqAV E t (isConst p || isConst q) x y = some e → EqSays (P := P) t (isConst p || isConst q) a b e w := by
    intro e he
    unfold eqAV at he
    split at he
    · rename_i ti hti
      exact eqD_ok (hE t ti hti) hx hy he
    · cases he
  unfold binEq at h
  split at h
  · rename_i hop
    subst hop
    cases hd : eqAV E t (isConst p || isConst q) x y with
    | none => rw [hd] at h; cases h
    | some e =>
      rw [hd] at h; injection h with h; subst h
      obtain ⟨h1, h2, h3, h4⟩ := key e hd
      refine ⟨.bool e, ?_, .bool' _⟩
      simp only [Sem.run_bind, h2 .eql p q hc, Result.andThen_ok, h3, h1, Sem.run_pure]
  · split at h
    · rename_i hop
      subst hop
      cases hd : eqAV E t (isConst p || isConst q) x y with
      | none => rw [hd] at h; cases h
      | some e =>
        rw [hd] at h; injection h with h; subst h
        obtain ⟨h1, h2, h3, h4⟩ := key e hd
        refine ⟨.bool (!e), ?_, .bool' _⟩
        simp only [Sem.run_bind, h2 .neq p q hc, Result.andThen_ok, h4, h1, Sem.run_pure]
    · cases h
theorem binAV_ok {Z : Zone} {G : Ghost} {w : World} (hE : ∀ t ti, E.ti t = some ti → TiOk P t ti) {op : BinOp} {t : TypeId} {p q : Operand} {x y r : AV} {a b : Value} (hx : Rel Z G w x a) (hy : Rel Z G w y b)
    (h : binAV E op t (isConst p || isConst q) x y = some r) : ∃ v, (do eqGuard op t p q a b; binOp op t a b : Sem Value).run P w = .ok v w ∧ Rel Z G w r v := by
  have h' := h
  unfold binAV at h'
  split at h'
  · cases hx.int_inv; cases hy.int_inv
    exact binInt_ok h'
  · cases hx.str_inv; cases hy.str_inv
    exact binStr_ok h'
  · exact binEq_ok hE hx hy h'

theorem unAV_ok {Z : Zone} {G : Ghost} {w : World} {op : UnOp} {x r : AV} {a : Value} (hx : Rel Z G w x a) (h : unAV op x = some r) : ∃ v, (Op.unary op a).run P w = .ok v w ∧ Rel Z G w r v := by
  unfold unAV at h
  split at h
  · cases hx.int_inv; injection h with h; subst h; exact ⟨_, rfl, .int' _ _⟩
  · cases hx.int_inv
    have := intBin_ok (P := P) (Z := Z) (G := G) (w := w) h
    simpa [Op.unary] using this
  · cases hx.bool_inv; injection h with h; subst h; exact ⟨_, rfl, .bool' _⟩
  · cases h

theorem convPlain_ok {Z : Zone} {G : Ghost} {w : World} (hE : ∀ t ti, E.ti t = some ti → TiOk P t ti) {s d : TypeId} {x r : AV} {a : Value} (hx : Rel Z G w x a) (h : convPlain E s d x = some r) :
    ∃ v, (convert s d a).run P w = .ok v w ∧ Rel Z G w r v := by
  unfold convPlain at h
  split at h
  · rename_i ti k _ _ _ _ k' n hs hd
    cases hx.int_inv; injection h with h; subst h
    have h1 := run_underlying (hE _ _ hs).desc w
    have h2 := run_underlying (hE _ _ hd).desc w
    refine ⟨.int k (k.wrap n), ?_, .int' _ _⟩
    unfold convert
    simp only [Sem.run_bind, h1, h2, Result.andThen_ok]
    rfl
  · rename_i ti _ _ _ _ s' hs hd
    cases hx.str_inv; injection h with h; subst h
    have h1 := run_underlying (hE _ _ hs).desc w
    have h2 := run_underlying (hE _ _ hd).desc w
    refine ⟨_, ?_, .str' _⟩
    unfold convert
    simp only [Sem.run_bind, h1, h2, Result.andThen_ok]
    rfl
  · cases h

theorem fieldOf_ok (hE : ∀ t ti, E.ti t = some ti → TiOk P t ti) {t : TypeId} {f o : Nat} {ti : TI} (h : fieldOf E t f = some (o, ti)) (w : World) :
    ∃ fs fd, P.underlying t = some (.struct fs) ∧ fs[f]? = some fd ∧ fd.offset = o ∧ TiOk P fd.type ti ∧ ti.size ≠ 0 := by
  unfold fieldOf at h
  split at h
  · rename_i fs _ _ _ _ ht
    split at h
    · rename_i fd hf
      split at h
      · rename_i ti' hti
        split at h
        · cases h
        · rename_i hs
          injection h with h; injection h with h1 h2; subst h1; subst h2
          exact ⟨fs, fd, (hE _ _ ht).desc, hf, rfl, hE _ _ hti, hs⟩
      · cases h
    · cases h
  · cases h

theorem fieldAddr_ok {Z : Zone} {G : Ghost} {w : World} (hE : ∀ t ti, E.ti t = some ti → TiOk P t ti) {t : TypeId} {f : Nat} {x r : AV} {a : Value} (hx : Rel Z G w x a) (h : fieldAddrAV E t x f = some r) :
    ∃ v, (Instr.fieldAt t a f).run P w = .ok v w ∧ Rel Z G w r v := by
  unfold fieldAddrAV at h
  have key : ∀ (o : Nat) (ti : TI) (c b : Nat), fieldOf E t f = some (o, ti) → (Instr.fieldAt t (.pointer (some ⟨c, b, none⟩)) f).run P w = .ok (.pointer (some ⟨c, b + o, none⟩)) w := by
    intro o ti c b hf
    obtain ⟨fs, fd, hu, hfd, ho, hti, hs⟩ := fieldOf_ok hE hf w
    unfold Instr.fieldAt
    simp only [Sem.run_bind, run_underlying hu, Result.andThen_ok, hfd, Instr.sureAddr, Sem.run_pure, fieldPlace, run_sizeOf' hti, if_neg hs, addr_add, ho]
  split at h
  · rename_i o ti es i o' hf
    injection h with h; subst h
    cases hx with
    | pure hx =>
      cases hx with
      | ip _ _ _ sz c off V hz hr hv =>
        refine ⟨_, key o ti _ _ hf, .pure ?_⟩
        have := PRel.ip es i (o' + o) sz c off V hz hr hv
        rwa [show off + (i * sz + (o' + o)) = off + (i * sz + o') + o by omega] at this
  · rename_i o ti b g i o' hf
    injection h with h; subst h
    cases hx with
    | pure hx => cases hx
    | mp _ _ _ _ c cap hg hi =>
      refine ⟨_, key o ti _ _ hf, ?_⟩
      have := Rel.mp (Z := Z) (w := w) b g i (o' + o) c cap hg hi
      rwa [← Nat.add_assoc] at this
  · cases h

/-- A part of a composite value. -/
theorem part_ok {Z : Zone} {G : Ghost} {w : World} {t : TypeId} {ti : TI} (ht : TiOk P t ti) {cs : List AV} {vs : Array Value} {o : Nat} {r : AV} (hl : cs.length = vs.size) (hr : ∀ i, i < cs.length → Rel Z G w (cs.getD i .undef) (vs.getD i Go.undef))
    (h : readCells ti cs o = some r) : ∃ x, (part t vs o).run P w = .ok x w ∧ Rel Z G w r x := by
  unfold readCells at h
  unfold part
  split at h
  · rename_i hagg
    split at h
    · rename_i hle
      injection h with h; subst h
      refine ⟨.agg (vs.extract o (o + ti.size)), by simp [run_isAgg ht, run_sizeOf' ht, hagg], .agg _ _ (by simp; omega) fun i hi => ?_⟩
      simp only [List.length_take, List.length_drop] at hi
      have h1 : ((cs.drop o).take ti.size).getD i .undef = cs.getD (o + i) .undef := by
        simp only [List.getD_eq_getElem?_getD, List.getElem?_take, List.getElem?_drop]
        rw [if_pos (by omega)]
      have h2 : (vs.extract o (o + ti.size)).getD i Go.undef = vs.getD (o + i) Go.undef := by
        rw [Array.getD_eq_getD_getElem?, Array.getD_eq_getD_getElem?, Array.getElem?_extract]
        rw [if_pos (by omega)]
      rw [h1, h2]
      exact hr _ (by omega)
    · cases h
  · rename_i hagg
    have ho : o < cs.length := by
      rcases Nat.lt_or_ge o cs.length with h' | h'
      · exact h'
      · rw [List.getElem?_eq_none h'] at h; cases h
    refine ⟨vs.getD o Go.undef, by simp only [Sem.run_bind, run_isAgg ht, hagg, Result.andThen_ok, Bool.false_eq_true, if_false, Array.getD_of_lt vs o Go.undef (show o < vs.size by omega), Sem.run_pure], ?_⟩
    have := hr o ho
    rw [List.getD_eq_getElem?_getD, h] at this
    simpa using this

theorem field_ok {Z : Zone} {G : Ghost} {w : World} (hE : ∀ t ti, E.ti t = some ti → TiOk P t ti) {t : TypeId} {f : Nat} {x r : AV} {a : Value} (hx : Rel Z G w x a) (h : fieldAV E t x f = some r) :
    ∃ v, (Instr.field t a f).run P w = .ok v w ∧ Rel Z G w r v := by
  unfold fieldAV at h
  split at h
  · rename_i o ti cs hf
    obtain ⟨vs, rfl, hl, hr⟩ := hx.agg_inv
    obtain ⟨fs, fd, hu, hfd, ho, hti, hs⟩ := fieldOf_ok hE hf w
    obtain ⟨v, hv, hrel⟩ := part_ok (P := P) hti hl hr h
    refine ⟨v, ?_, hrel⟩
    unfold Instr.field
    simp only [Sem.run_bind, run_underlying hu, Result.andThen_ok, hfd, asAgg, Sem.run_pure, ho, hv]
  · cases h

theorem natOf_ok {Z : Zone} {G : Ghost} {w : World} {x : AV} {a : Value} (hx : Rel Z G w x a) {n : Nat} (h : natOf x = some n) : ∃ k, a = .int k (n : Int) := by
  unfold natOf at h
  split at h
  · rename_i k m
    split at h
    · rename_i hm
      injection h with h; subst h
      cases hx.int_inv
      exact ⟨k, by rw [Int.toNat_of_nonneg hm]⟩
    · cases h
  · cases h

theorem indexAddr_ok {base : Nat} {Z : Zone} {G : Ghost} {hp : Heap} {w : World} (H : HRel base Z G hp w) (hE : ∀ t ti, E.ti t = some ti → TiOk P t ti) {t : TypeId} {x ix r : AV} {a b : Value} (hx : Rel Z G w x a) (hi : Rel Z G w ix b)
    (h : indexAddrAV E hp t x ix = some r) : ∃ v, (Instr.indexAt t a b).run P w = .ok v w ∧ Rel Z G w r v := by
  unfold indexAddrAV at h
  split at h
  · rename_i ti i ht hn
    obtain ⟨k, rfl⟩ := natOf_ok hi hn
    have hu := (hE _ _ ht).desc
    split at h
    · rename_i e es hd
      rw [hd] at hu
      split at h
      · rename_i te v hte he
        obtain ⟨hed, hil⟩ := getD_of_get he
        split at h
        · rename_i hsz
          injection h with h; subst h
          cases hx with
          | pure hx =>
            cases hx with
            | sl _ sz c off cap V hc hz hr hv =>
              have hf := hz i hil
              rw [hed] at hf
              simp only [AV.fits, Bool.and_eq_true, beq_iff_eq] at hf
              have hs : te.size = sz := by omega
              refine ⟨.pointer (some ⟨c, off + (i * sz + 0), none⟩), ?_, .pure (.ip es i 0 sz c off V hz hr hv)⟩
              unfold Instr.indexAt
              simp only [Sem.run_bind, asIntOf, Sem.run_pure, Result.andThen_ok, run_underlying hu, run_sizeOf' (hE _ _ hte), Int.toNat_natCast]
              rw [if_pos ⟨by omega, by omega⟩]
              simp [addr_add, hs, run_sizeOf' (hE _ _ hte)]
            | sl0 => simp at hil
        · cases h
      · cases h
    · rename_i e b' g off len hd
      rw [hd] at hu
      split at h
      · rename_i te hte
        split at h
        · rename_i es sz wg com hb
          split at h
          · rename_i hc
            obtain ⟨hlt, hsz⟩ := hc
            injection h with h; subst h
            obtain ⟨oc, cap, ad, rfl, hg, h1, h2, ha, _⟩ := hx.ms_inv
            obtain ⟨c, rfl, rfl⟩ := ha (by omega)
            have hG := ((H.row _ _ _ _ _ hb).2 g _ cap hg).1
            refine ⟨.pointer (some ⟨c, (off + i) * G.sz b' + 0, none⟩), ?_, .mp b' g (off + i) 0 c cap hg (by omega)⟩
            unfold Instr.indexAt
            simp only [Sem.run_bind, asIntOf, Sem.run_pure, Result.andThen_ok, run_underlying hu, run_sizeOf' (hE _ _ hte), Int.toNat_natCast]
            rw [if_pos ⟨by omega, by omega⟩]
            simp [addr_add, run_sizeOf' (hE _ _ hte), hG, hsz, Nat.add_mul]
          · cases h
        · cases h
      · cases h
    · cases h
  · cases h

theorem index_ok {Z : Zone} {G : Ghost} {w : World} (hE : ∀ t ti, E.ti t = some ti → TiOk P t ti) {t : TypeId} {x ix r : AV} {a b : Value} (hx : Rel Z G w x a) (hi : Rel Z G w ix b)
    (h : indexAV E t x ix = some r) : ∃ v, (Instr.index t a b).run P w = .ok v w ∧ Rel Z G w r v := by
  unfold indexAV at h
  split at h
  · rename_i ti i ht hn
    obtain ⟨k, rfl⟩ := natOf_ok hi hn
    have hu := (hE _ _ ht).desc
    split at h
    · rename_i s hd
      rw [hd] at hu
      cases hx.str_inv
      cases hs : s[i]? with
      | none => rw [hs] at h; cases h
      | some c =>
        rw [hs] at h; injection h with h; subst h
        refine ⟨.int .u8 c.toNat, ?_, .int' _ _⟩
        have hg : (⟨s.toArray⟩ : ByteArray)[i]? = some c := by
          have hil : i < s.length := by
            rcases Nat.lt_or_ge i s.length with h' | h'
            · exact h'
            · rw [List.getElem?_eq_none h'] at hs; cases hs
          have hil' : i < (⟨s.toArray⟩ : ByteArray).size := hil
          rw [getElem?_pos (⟨s.toArray⟩ : ByteArray) i hil']
          rw [List.getElem?_eq_getElem hil] at hs
          injection hs with hs
          rw [← hs]; rfl
        unfold Instr.index
        simp only [Sem.run_bind, asIntOf, Sem.run_pure, Result.andThen_ok, run_underlying hu, Int.toNat_natCast]
        rw [if_pos (by omega), hg]; rfl
    · rename_i n e cs hd
      rw [hd] at hu
      obtain ⟨vs, rfl, hl, hr⟩ := hx.agg_inv
      split at h
      · rename_i te hte
        split at h
        · rename_i hin
          obtain ⟨v, hv, hrel⟩ := part_ok (P := P) (hE _ _ hte) hl hr h
          refine ⟨v, ?_, hrel⟩
          unfold Instr.index
          simp only [Sem.run_bind, asIntOf, Sem.run_pure, Result.andThen_ok, run_underlying hu, Int.toNat_natCast, run_sizeOf' (hE _ _ hte)]
          rw [if_pos ⟨by omega, by omega⟩]
          simp [run_sizeOf' (hE _ _ hte), hv]
        · cases h
      · cases h
    · cases h
  · cases h
end Go.EV
