/-
  append; ranging over a string; nil slices that become own rows; what is let go.
-/
import Derived.Test.YtkdjkbgcebodgaaDoorEvQ
set_option linter.unusedSimpArgs false
set_option linter.unusedVariables false
namespace Go.EV
open Go.RowKit
variable {E : Env} {P : Program}


/-- append where there is room, or nothing is added. -/
theorem run_append_in {t u e e' ty : TypeId} {te : TI} (hu : P.underlying t = some (.slice e)) (hu' : P.underlying u = some (.slice e')) (hte : TiOk P e te) {w w' : World} {base : Option Addr} {sLen sCap n : Nat} {x : Value} {arr : Array Value}
    (hn : (Builtin.lenOf x).run P w = .ok n w) (ha : (Builtin.firstCells te.size n x).run P w = .ok arr w) (hc : sLen + n ≤ sCap) (hs : (match base with | some a => storeCells (a.add (sLen * te.size)) arr.toList | none => pure ()).run P w = .ok () w') :
    (Builtin.append_ #[t, u] ty #[.slice base sLen sCap, x]).run P w = .ok (.slice base (sLen + n) sCap) w' := by
  have h0 : (#[t, u] : Array TypeId)[0]? = some t := rfl
  have h1 : (#[t, u] : Array TypeId)[1]? = some u := rfl
  have h2 : (#[Value.slice base sLen sCap, x] : Array Value)[0]? = some (Value.slice base sLen sCap) := rfl
  have h3 : (#[Value.slice base sLen sCap, x] : Array Value)[1]? = some x := rfl
  unfold Builtin.append_
  simp only [h0, h1, h2, h3, Sem.run_bind, run_underlying hu, run_underlying hu', Result.andThen_ok, run_sizeOf' hte,
    Sem.run_pure, Bool.false_eq_true, if_false, hn, Bool.not_false, if_true]
  rw [if_pos hc]
  simp only [Sem.run_bind, ha, Result.andThen_ok]
  cases base with
  | none => simp only [Sem.run_pure] at hs; injection hs with _ hs; subst hs; rfl
  | some a => simp only [Sem.run_bind] at hs ⊢; rw [hs]; rfl

theorem run_append_new {t u e e' ty : TypeId} {te : TI} (hu : P.underlying t = some (.slice e)) (hu' : P.underlying u = some (.slice e')) (hte : TiOk P e te) {w : World} {base : Option Addr} {sLen sCap n : Nat} {x : Value} {old arr : Array Value} (hz0 : te.zero.fits te.size = true)
    (hn : (Builtin.lenOf x).run P w = .ok n w) (hc : sCap < sLen + n) (hb : (2 * (sLen + n) + 768) * te.bytes ≤ 2 ^ 48) (hm : (sLen + n) ≤ 2 ^ 48)
    (ho : (Builtin.firstCells te.size sLen (.slice base sLen sCap)).run P w.drew = .ok old w.drew) (ha : (Builtin.firstCells te.size n x).run P w.drew = .ok arr w.drew) (hos : old.size = sLen * te.size) (has : arr.size = n * te.size) :
    ∃ (newCap : Nat) (rest : Array Value), sLen + n ≤ newCap ∧ (old ++ arr ++ rest).size = newCap * te.size ∧
      (Builtin.append_ #[t, u] ty #[.slice base sLen sCap, x]).run P w = .ok (.slice (some ⟨w.heap.size, 0, none⟩) (sLen + n) newCap) (w.drew.alloc (.cells (old ++ arr ++ rest) e)) := by
  obtain ⟨inf, hi, hs, hbt, z, hz, hzr⟩ := hte.info
  have hzero : ∀ w, (zeroValue e).run P w = .ok z w := by intro w; simp [zeroValue, typeInfo, hi, hz]
  have hzs : z.cells.size = te.size := ((Rel.pure (hzr (fun _ _ => False) w) : Rel (fun _ _ => False) Ghost.empty w te.zero z).cellsOf hz0).1
  have hti : ∀ w, (typeInfo e).run P w = .ok inf w := by intro w; simp [typeInfo, hi]
  let q : Question := .appendCap (sLen + n) sCap e
  have hq : q.forced = false := rfl
  have hcap : sLen + n ≤ q.cut (w.tape w.drawn q) := by show _ ≤ (sLen + n) + _ % _; omega
  refine ⟨q.cut (w.tape w.drawn q), Builtin.zeroCells z.cells (q.cut (w.tape w.drawn q) - (sLen + n)), hcap, ?_, ?_⟩
  · simp only [Array.size_append, hos, has, Builtin.zeroCells, Array.size_map, Array.size_range, hzs, ← Nat.add_mul]
    congr 1; omega
  · have hle := nextslicecap_le (sLen + n) sCap hc
    have hmul : Builtin.nextslicecap (sLen + n) sCap * te.bytes ≤ 2 ^ 48 := Nat.le_trans (Nat.mul_le_mul_right _ hle) hb
    have h0 : (#[t, u] : Array TypeId)[0]? = some t := rfl
    have h1 : (#[t, u] : Array TypeId)[1]? = some u := rfl
    have h2 : (#[Value.slice base sLen sCap, x] : Array Value)[0]? = some (Value.slice base sLen sCap) := rfl
    have h3 : (#[Value.slice base sLen sCap, x] : Array Value)[1]? = some x := rfl
    have hmax : ¬ (((sLen + n : Nat) : Int) > IntKind.i64.max ∧ (False ∨ te.bytes = 0)) := by
      intro h
      have h4 : (9223372036854775807 : Int) < ((sLen + n : Nat) : Int) := h.1
      omega
    unfold Builtin.append_
    simp only [h0, h1, h2, h3, Sem.run_bind, run_underlying hu, run_underlying hu', Result.andThen_ok, run_sizeOf' hte,
      Sem.run_pure, Bool.false_eq_true, if_false, hn, Bool.not_false, if_true, Sem.run_ite, hti, hbt]
    rw [if_neg (by omega), if_neg hmax, if_neg (by omega)]
    simp only [Sem.run_bind, run_choose, Result.andThen_ok, hti, run_askRoom]
    rw [if_neg (by rw [show (Question.appendCap (sLen + n) sCap e).forced = false from rfl]; exact Bool.false_ne_true)]
    have hdrew : ({ w with drawn := w.drawn + 1 } : World) = w.drew := rfl
    simp only [Result.andThen_ok, hti, run_askRoom, hdrew, ho, ha, hzero, newRow, Sem.run_bind, run_newObj, Sem.run_pure]
    rfl


theorem storeNone (base : Option Addr) (k : Nat) {arr : Array Value} (h : arr.size = 0) (w : World) : (match base with | some a => storeCells (a.add k) arr.toList | none => pure () : Sem Unit).run P w = .ok () w := by
  have : arr = #[] := Array.eq_empty_of_size_eq_zero h
  subst this
  cases base <;> rfl

theorem OpPost.trans {base : Nat} {Z Z' : Zone} {G G' : Ghost} {hp : Heap} {w w' w'' : World} {r : AV} {v : Value} (h : Ext base Z G w Z' G' w') (k : OpPost base Z' G' hp w' r v w'') : OpPost base Z G hp w r v w'' := by
  obtain ⟨Z2, G2, e, H, hr⟩ := k
  exact ⟨Z2, G2, h.trans e, H, hr⟩

theorem append_fresh {base : Nat} {Z : Zone} {G : Ghost} {hp : Heap} {w : World} (H : HRel base Z G hp w) {t u e e' ty : TypeId} {te : TI} (hu : P.underlying t = some (.slice e)) (hu' : P.underlying u = some (.slice e')) (hte : TiOk P e te)
    {x : AV} {v : Value} {xs : List AV} (hx : Rel Z G w x v) (hcont : content hp te.size x = some xs) (a : Option Addr) (h0 : xs.length ≠ 0) (hc : xs.length * te.bytes ≤ 1099511627776 ∧ xs.length ≤ 1099511627776 ∧ 0 < te.size ∧ te.bytes ≤ 1073741824 ∧ te.zero.fits te.size = true) :
    ∃ r w', (Builtin.append_ #[t, u] ty #[.slice a 0 0, v]).run P w = .ok r w' ∧ OpPost base Z G (hp ++ [.row xs te.size 0 0]) w (.ms hp.length xs.length 0 xs.length) r w' := by
  obtain ⟨c1, c2, c3, c4, c5⟩ := hc
  obtain ⟨hn, _⟩ := content_ok (P := P) H hx hcont
  obtain ⟨_, arr, ha, hs, hrow⟩ := content_ok (P := P) H.drew (hx.ext (Ext.drew base Z G w)) hcont
  have hold : (Builtin.firstCells te.size 0 (.slice a 0 0)).run P w.drew = .ok #[] w.drew := by cases a <;> simp [Builtin.firstCells, loadCells, loadCellsFrom]
  have hb : (2 * (0 + xs.length) + 768) * te.bytes ≤ 2 ^ 48 := by
    have : (2 * (0 + xs.length) + 768) * te.bytes = 2 * (xs.length * te.bytes) + 768 * te.bytes := by rw [Nat.add_mul, Nat.mul_assoc]; simp
    omega
  obtain ⟨newCap, rest, h1, h2, h3⟩ := run_append_new (ty := ty) hu hu' hte c5 (base := a) (sLen := 0) (sCap := 0) hn (by omega) hb (by omega) hold ha (by simp) hs
  simp only [Array.empty_append, Nat.zero_add] at h1 h2 h3
  refine ⟨_, _, h3, OpPost.trans (Ext.drew base Z G w) ?_⟩
  have hrow' : RowRel Z G w.drew xs te.size (arr ++ rest) := by
    refine ⟨hrow.fits, by simp; omega, fun i o hi ho => ?_⟩
    have hbnd := mul_le_of_lt (sz := te.size) hi
    have : (arr ++ rest).getD (i * te.size + o) Go.undef = arr.getD (i * te.size + o) Go.undef := by
      rw [Array.getD_eq_getD_getElem?, Array.getD_eq_getD_getElem?, Array.getElem?_append_left (by omega)]
    rw [this]; exact hrow.rel i o hi ho
  exact newRow_ok H.drew e hrow' h2 (by omega)

theorem append_ok {base : Nat} {Z : Zone} {G : Ghost} {hp hp' : Heap} {w : World} (H : HRel base Z G hp w) (hE : ∀ t ti, E.ti t = some ti → TiOk P t ti) {t u ty : TypeId} {s x r : AV} {sv xv : Value} (hs : Rel Z G w s sv) (hx : Rel Z G w x xv)
    (h : appendAV E hp t u s x = some (r, hp')) : ∃ v w', (Builtin.append_ #[t, u] ty #[sv, xv]).run P w = .ok v w' ∧ OpPost base Z G hp' w r v w' := by
  unfold appendAV at h
  split at h
  rotate_left
  · cases h
  rename_i ti tu ht htu
  have hu := (hE _ _ ht).desc
  have hu' := (hE _ _ htu).desc
  split at h
  rotate_left
  · cases h
  rename_i e e' hd hd'
  rw [hd] at hu; rw [hd'] at hu'
  split at h
  rotate_left
  · cases h
  rename_i te hte
  have hT := hE _ _ hte
  split at h
  rotate_left
  · cases h
  rename_i xs hcont
  obtain ⟨hn, arr, ha, has, hrow⟩ := content_ok (P := P) H hx hcont
  have same : ∀ a len cap, sv = .slice a len cap → len ≤ cap → xs.length = 0 → some (s, hp) = some (r, hp') → ∃ v w', (Builtin.append_ #[t, u] ty #[sv, xv]).run P w = .ok v w' ∧ OpPost base Z G hp' w r v w' := by
    intro a len cap hsv hle h0 he
    injection he with he; injection he with h1 h2; subst h1; subst h2; subst hsv
    rw [h0] at hn ha has
    have := run_append_in (P := P) (ty := ty) hu hu' hT (sLen := len) (sCap := cap) hn ha (by omega) (storeNone a (len * te.size) (by simpa using has) w)
    exact ⟨_, _, this, OpPost.same H hs⟩
  split at h
  · -- nil
    cases hs.nils_inv
    split at h
    · rename_i h0; exact same _ _ _ rfl (Nat.le_refl _) h0 h
    · rename_i h0
      split at h
      · rename_i hc
        injection h with h; injection h with h1 h2; subst h1; subst h2
        exact append_fresh H hu hu' hT hx hcont none h0 hc
      · cases h
  · obtain ⟨a, rfl⟩ := hs.z0_inv
    split at h
    · rename_i h0; exact same _ _ _ rfl (Nat.le_refl _) h0 h
    · rename_i h0
      split at h
      · rename_i hc
        injection h with h; injection h with h1 h2; subst h1; subst h2
        exact append_fresh H hu hu' hT hx hcont a h0 hc
      · cases h
  · rename_i es
    obtain ⟨a, cap, rfl, hle, _⟩ := hs.sl_inv
    split at h
    · rename_i h0; exact same _ _ _ rfl hle h0 h
    · cases h
  · rename_i b g off len
    obtain ⟨oc, cap, a, rfl, hg, hl1, hl2, hla, _⟩ := hs.ms_inv
    split at h
    · rename_i h0; exact same _ _ _ rfl (by omega) h0 h
    · rename_i h0
      split at h
      rotate_left
      · cases h
      rename_i es sz wg com hb
      split at h
      rotate_left
      · cases h
      rename_i hc
      obtain ⟨c1, c2, c3, c4, c5, c6, c7, c8, c9, c10⟩ := hc
      subst c1; subst c2; subst c3; subst c4
      injection h with h; injection h with h1 h2; subst h1; subst h2
      obtain ⟨hf, hrows⟩ := H.row b es te.size wg com hb
      obtain ⟨hG, _, hgc, hnone, hcc⟩ := hrows _ _ cap hg
      have hlx : (es ++ xs).length = es.length + xs.length := by simp
      simp only [Nat.sub_zero]
      by_cases hroom : es.length + xs.length ≤ cap
      · -- in its own block
        obtain ⟨c, rfl, rfl⟩ := hla (by omega)
        obtain ⟨hbase, hz, cs, t', hh, hcs, hcell⟩ := hcc c rfl
        have hm1 : (es.length + xs.length) * te.size ≤ cap * te.size := Nat.mul_le_mul_right _ hroom
        rw [Nat.add_mul] at hm1
        have hone : ∀ v ∈ arr.toList, v.oneCell' = true := by
          intro v hv
          obtain ⟨j, hj, rfl⟩ := List.mem_iff_getElem.1 hv
          have hj' : j < xs.length * te.size := by rw [← has]; simpa using hj
          have h1 : j / te.size < xs.length := Nat.div_lt_of_lt_mul (by rwa [Nat.mul_comm])
          have h2 : j % te.size < te.size := Nat.mod_lt _ c6
          have h3 : j / te.size * te.size + j % te.size = j := by rw [Nat.mul_comm]; exact Nat.div_add_mod j te.size
          have hr := hrow.rel _ _ h1 h2
          rw [h3] at hr
          have h4 := hr.oneCell (fits_zero_undef (hrow.fits _ h1) _ h2)
          have h5 : arr.getD j Go.undef = arr.toList[j] := by
            have : j < arr.size := by omega
            simp [Array.getD, this]
          rwa [h5] at h4
        have hst := run_storeCells_at P c (es.length * te.size) t' arr.toList 0 cs w hh (by simp; omega) hone
        simp only [Nat.add_zero, Array.length_toList] at hst
        have hrun := run_append_in (P := P) (ty := ty) hu hu' hT (base := some ⟨c, 0 * G.sz b, none⟩) (sLen := es.length) (sCap := cap) (w' := w.setRow c (cs.toList.take (es.length * te.size) ++ arr.toList ++ cs.toList.drop (es.length * te.size + arr.size)).toArray) hn ha hroom
          (by simp only [Nat.zero_mul, addr_add, Nat.zero_add]; exact hst)
        refine ⟨_, _, hrun, ?_⟩
        have hcs' : ((cs.toList.take (es.length * te.size) ++ arr.toList ++ cs.toList.drop (es.length * te.size + arr.size)).toArray).size = cs.size := by simp; omega
        have hget : ∀ k, ((cs.toList.take (es.length * te.size) ++ arr.toList ++ cs.toList.drop (es.length * te.size + arr.size)).toArray).getD k Go.undef = if k < es.length * te.size then cs.getD k Go.undef else if k < es.length * te.size + arr.size then arr.getD (k - es.length * te.size) Go.undef else cs.getD k Go.undef := by
          intro k
          have := splice_getD cs.toList arr.toList (es.length * te.size) Go.undef (by simp; omega) k
          simp only [Array.length_toList] at this
          rw [list_getD, this, arr_getD, arr_getD]
        have hrow2 : RowRel Z G w (es ++ xs) te.size ((cs.toList.take (es.length * te.size) ++ arr.toList ++ cs.toList.drop (es.length * te.size + arr.size)).toArray) := by
          refine ⟨fun i hi => ?_, by rw [hcs', hlx, Nat.add_mul]; omega, fun i o hi ho => ?_⟩
          · rw [append_getD]; split
            · rename_i hlt; exact hf i hlt
            · exact hrow.fits _ (by omega)
          · rw [append_getD, hget]
            by_cases hlt : i < es.length
            · have hbnd := mul_le_of_lt (sz := te.size) hlt
              rw [if_pos hlt, if_pos (by omega)]
              exact hcell (H.wgle _ _ _ _ _ hb) i o hlt ho
            · have hbnd := mul_le_of_lt (sz := te.size) (show i - es.length < xs.length by omega)
              have e1 : i * te.size = es.length * te.size + (i - es.length) * te.size := by rw [← Nat.add_mul]; congr 1; omega
              rw [if_neg hlt, if_neg (by omega), if_pos (by omega), show i * te.size + o - es.length * te.size = (i - es.length) * te.size + o by omega]
              exact hrow.rel _ o (by omega) ho
        obtain ⟨H', E'⟩ := HRel.growIn H hb (by omega) hg hh hcs' (fun j hj => by
            have hjl : j < cs.size := by omega
            simp only [List.getElem?_toArray, List.append_assoc]
            rw [List.getElem?_append_left (by simp; omega), List.getElem?_take, if_pos (by omega)]
            simp) c5 hrow2 (by omega)
        refine ⟨_, _, E', H', ?_⟩
        rw [hlx] at *
        have := Rel.ms_new (Z := Z) (w := w.setRow c (cs.toList.take (es.length * te.size) ++ arr.toList ++ cs.toList.drop (es.length * te.size + arr.size)).toArray) (sz := te.size) (Ghost.put_same G b (es.length + xs.length) (some c, cap) te.size) hroom
        simpa using this
      · -- in a new block
        obtain ⟨hn', arr', ha', has', hrow'⟩ := content_ok (P := P) H.drew (hx.ext (Ext.drew base Z G w)) hcont
        have hself : content hp te.size (.ms b es.length 0 es.length) = some es := by
          simp only [content, hb]; simp [H.wgle _ _ _ _ _ hb]
        obtain ⟨_, old, hold, hos, horow⟩ := content_ok (P := P) H.drew (hs.ext (Ext.drew base Z G w)) hself
        have hbb : (2 * (es.length + xs.length) + 768) * te.bytes ≤ 2 ^ 48 := by
          have : (2 * (es.length + xs.length) + 768) * te.bytes = 2 * ((es.length + xs.length) * te.bytes) + 768 * te.bytes := by rw [Nat.add_mul, Nat.mul_assoc]
          omega
        simp only [Nat.sub_zero] at hold
        obtain ⟨newCap, rest, h1, h2, h3⟩ := run_append_new (P := P) (ty := ty) hu hu' hT c10 (base := a) (sLen := es.length) (sCap := cap) hn (by omega) hbb (by omega) hold ha' hos has'
        refine ⟨_, _, h3, OpPost.trans (Ext.drew base Z G w) ?_⟩
        have hr2 := RowRel.append horow hos hrow' rest
        obtain ⟨H', E'⟩ := HRel.growNew H.drew (xs := xs) (cap := newCap) (cs := old ++ arr' ++ rest) e hb (by omega) hg (fun g r hr => ((H.row b es te.size wg com hb).2 g r.1 r.2 hr).1) hr2 h2 (by omega)
        refine ⟨_, _, E', H', ?_⟩
        rw [hlx] at *
        have := Rel.ms_new (Z := Z) (w := w.drew.alloc (.cells (old ++ arr' ++ rest) e)) (sz := te.size) (Ghost.put_same G b (es.length + xs.length) (some w.drew.heap.size, newCap) te.size) h1
        simpa using this
  · cases h

/-- Ranging over a string. -/
theorem range_ok {base : Nat} {Z : Zone} {G : Ghost} {hp : Heap} {w : World} (H : HRel base Z G hp w) {t : TypeId} {s : List UInt8} (hu : P.underlying t = some .string) :
    ∃ v w', (Instr.range t (.string ⟨s.toArray⟩)).run P w = .ok v w' ∧ OpPost base Z G (hp ++ [.sit s 0]) w (.it hp.length) v w' := by
  obtain ⟨H', E'⟩ := H.pushSit s 0
  refine ⟨.pointer (some ⟨w.heap.size, 0, none⟩), _, ?_, _, _, E', H', .it hp.length w.heap.size 0 (Ghost.put_same G _ _ _ _)⟩
  unfold Instr.range
  simp [run_underlying hu]

theorem next_ok {base : Nat} {Z : Zone} {G : Ghost} {hp hp' : Heap} {w : World} (H : HRel base Z G hp w) {a r : AV} {v : Value} (ha : Rel Z G w a v) (ty : TypeId) (h : nextAV hp a = some (r, hp')) :
    ∃ u w', (Instr.next v true ty).run P w = .ok u w' ∧ OpPost base Z G hp' w r u w' := by
  unfold nextAV at h
  split at h
  rotate_left
  · cases h
  rename_i b
  split at h
  rotate_left
  · cases h
  rename_i s pos hb
  cases ha with
  | pure ha => cases ha
  | it _ c cap hg =>
    obtain ⟨_, c', hc', hbase, hh⟩ := H.sit b s pos hb 0 _ cap hg
    injection hc' with hc'; subst hc'
    have hs : (⟨s.toArray⟩ : ByteArray).size = s.length := rfl
    have hget : (getObj c).run P w = .ok (.stringIter ⟨s.toArray⟩ pos) w := by simp [getObj, Sem.run, hh]
    split at h
    · rename_i hlt
      injection h with h; injection h with h1 h2; subst h1; subst h2
      have hset : ∀ o, (setObj c o).run P w = .ok () { w with heap := w.heap.setIfInBounds c o } := by intro o; simp [setObj, Sem.run, hh]
      refine ⟨.tuple #[.bool true, goInt pos, .int .i32 (Utf8.decode ⟨s.toArray⟩ pos).1], { w with heap := w.heap.setIfInBounds c (.stringIter ⟨s.toArray⟩ (pos + (Utf8.decode ⟨s.toArray⟩ pos).2)) }, ?_, Z, G, ?_⟩
      · unfold Instr.next
        simp only [Sem.run_bind, hget, Result.andThen_ok, hs]
        rw [if_pos hlt]
        simp only [Sem.run_bind, hset, Result.andThen_ok]
        rfl
      · let w' : World := { w with heap := w.heap.setIfInBounds c (.stringIter ⟨s.toArray⟩ (pos + (Utf8.decode ⟨s.toArray⟩ pos).2)) }
        have hheap : ∀ k, k ≠ c → w'.heap[k]? = w.heap[k]? := by
          intro k hk
          show (w.heap.setIfInBounds c _)[k]? = _
          rw [Array.getElem?_setIfInBounds_ne (fun e => hk e.symm)]
        have hcl : c < w.heap.size := H.old hg
        have hself : w'.heap[c]? = some (.stringIter ⟨s.toArray⟩ (pos + (Utf8.decode ⟨s.toArray⟩ pos).2)) := by
          show (w.heap.setIfInBounds c _)[c]? = _
          simp [hcl]
        have hcell : ∀ k j, w'.cell? ⟨k, j, none⟩ = w.cell? ⟨k, j, none⟩ := by
          intro k j
          by_cases e : k = c
          · subst e; simp only [World.cell?, hself, hh]
          · exact World.cell?_of_block (w := w) (hheap k e)
        have EX : Ext base Z G w Z G w' := ⟨fun _ _ h => h, .refl G, ⟨rfl, rfl, rfl, by simp [w'], fun k hk => hheap k (by omega)⟩, fun c j _ => hcell c j, fun _ _ h => .inl h⟩
        have hbl := lt_of_get hb
        refine ⟨EX, ⟨by simpa [w'] using H.lo, fun c j h => by simpa [w'] using H.zone c j h, fun b' g r h => by simpa using H.dom b' g r h, fun b' es sz wg com he => ?_, fun b' s' pos' he g oc cap' hg' => ?_, H.excl, pend_set H.pend hg, fun b' es sz wg com he => ?_⟩, ?_⟩
        · rcases get_set hbl he with ⟨hne, he2⟩ | ⟨rfl, he2⟩
          · obtain ⟨hf, hr⟩ := H.row b' es sz wg com he2
            refine ⟨hf, fun g oc cap' hg' => ?_⟩
            obtain ⟨h1, h2, h3, h4, h5⟩ := hr g oc cap' hg'
            refine ⟨h1, h2, h3, h4, fun c2 hoc => ?_⟩
            obtain ⟨h6, h7, cs, t, h8, h9, h10⟩ := h5 c2 hoc
            subst hoc
            have : c2 ≠ c := by intro e; subst e; exact hne (H.excl _ _ _ _ _ _ _ hg' hg)
            exact ⟨h6, h7, cs, t, (hheap c2 this).trans h8, h9, fun hw i o hi ho => (h10 hw i o hi ho).ext EX⟩
          · cases he2
        · rcases get_set hbl he with ⟨hne, he2⟩ | ⟨rfl, he2⟩
          · obtain ⟨hg0, c2, hoc, h1, h2⟩ := H.sit b' s' pos' he2 g oc cap' hg'
            subst hoc
            have : c2 ≠ c := by intro e; subst e; exact hne (H.excl _ _ _ _ _ _ _ hg' hg)
            exact ⟨hg0, c2, rfl, h1, (hheap c2 this).trans h2⟩
          · injection he2 with e1 e2
            subst e1; subst e2
            obtain ⟨hg0, c2, hoc, h1, h2⟩ := H.sit _ _ _ hb g oc cap' hg'
            subst hg0
            rw [hg] at hg'
            injection hg' with hg'; injection hg' with e1 e2
            subst e1
            exact ⟨rfl, c, rfl, hbase, hself⟩
        · rcases get_set hbl he with ⟨hne, he2⟩ | ⟨rfl, he2⟩
          · exact H.wgle _ _ _ _ _ he2
          · cases he2
        · refine .tup _ _ rfl fun i hi => ?_
          match i, hi with
          | 0, _ => exact .bool' _
          | 1, _ => exact .int' _ _
          | 2, _ => exact .int' _ _
    · rename_i hge
      injection h with h; injection h with h1 h2; subst h1; subst h2
      refine ⟨.tuple #[.bool false], w, ?_, OpPost.same H ?_⟩
      · unfold Instr.next
        simp only [Sem.run_bind, hget, Result.andThen_ok, hs]
        rw [if_neg hge]; rfl
      · refine .tup _ _ rfl fun i hi => ?_
        match i, hi with
        | 0, _ => exact .bool' _
end Go.EV
