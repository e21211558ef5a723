/-
  What the two library functions hand back, as the evaluator asks for it.
-/
import Derived.Test.YtkdjkbgcebodgaaDoorEvLb
set_option linter.unusedSimpArgs false
set_option linter.unusedVariables false
namespace Go.EV.Lv
open Go Go.EV Go.Proofs Go.RowKit
set_option maxRecDepth 100000
def allI : List AV → Bool
  | [] => true
  | .int .i64 _ :: r => allI r
  | _ => false
def strsOf : List AV → Option (List (List UInt8))
  | [] => some []
  | .str s :: r => (strsOf r).map (s :: ·)
  | _ => none
def libL (f : FuncId) (args : List AV) : Option AV :=
  if f = 58 then match args with
    | [.sl es] => if allI es = true ∧ es.length * 8 ≤ 140737488355328 then some (.sl es) else none
    | _ => none
  else if f = 42 then match args with
    | [.sl es, .str sep] => match strsOf es with
      | some xs => if xs.length ≤ 140737488355328 ∧ (Lib.join xs sep).length ≤ 140737488355328 then some (.str (Lib.join xs sep)) else none
      | none => none
    | _ => none
  else none
theorem allI_get : ∀ {es : List AV}, allI es = true → ∃ zs : List Int, es = zs.map (AV.int .i64)
  | [], _ => ⟨[], rfl⟩
  | a :: r, h => by
    unfold allI at h
    split at h
    · rename_i e; cases e
    · rename_i n r' e
      injection e with e1 e2
      subst e1; subst e2
      obtain ⟨zs, rfl⟩ := allI_get h
      exact ⟨n :: zs, rfl⟩
    · cases h
theorem strsOf_get : ∀ {es : List AV} {xs : List (List UInt8)}, strsOf es = some xs → es = xs.map AV.str
  | [], xs, h => by simp [strsOf] at h; subst h; rfl
  | a :: r, xs, h => by
    unfold strsOf at h
    split at h
    · rename_i e; cases e
    · rename_i s r' e
      injection e with e1 e2
      subst e1; subst e2
      rw [Option.map_eq_some_iff] at h
      obtain ⟨ys, hy, rfl⟩ := h
      rw [strsOf_get hy]; rfl
    · cases h
theorem one_arg {Z : Zone} {w : World} {a : AV} {vs : Array Value} (h : LPRel Z w [a] vs) : ∃ v, vs = #[v] ∧ PRel Z w a v := by
  obtain ⟨h1, h2⟩ := h
  have h0 := h2 0 (by simp)
  have hs : vs.size = 1 := by simpa using h1.symm
  refine ⟨vs.getD 0 Go.undef, ?_, h0⟩
  apply Array.ext (by simp [hs])
  intro i hi hi'
  have : i = 0 := by simp at hi'; omega
  subst this
  simp [Array.getD, hs]
theorem two_args {Z : Zone} {w : World} {a b : AV} {vs : Array Value} (h : LPRel Z w [a, b] vs) : ∃ v u, vs = #[v, u] ∧ PRel Z w a v ∧ PRel Z w b u := by
  obtain ⟨h1, h2⟩ := h
  have h0 := h2 0 (by simp)
  have h0' := h2 1 (by simp)
  have hs : vs.size = 2 := by simpa using h1.symm
  refine ⟨vs.getD 0 Go.undef, vs.getD 1 Go.undef, ?_, h0, h0'⟩
  apply Array.ext (by simp [hs])
  intro i hi hi'
  have : i = 0 ∨ i = 1 := by simp at hi'; omega
  rcases this with rfl | rfl <;> simp [Array.getD, hs]
theorem sl_cases {Z : Zone} {w : World} {es : List AV} {v : Value} (h : PRel Z w (.sl es) v) : (∃ a cap, es = [] ∧ v = .slice a 0 cap) ∨
    ∃ (sz c off cap : Nat) (V : Nat → Nat → Value), v = .slice (some ⟨c, off, none⟩) es.length cap ∧ es.length ≤ cap ∧ (∀ i, i < es.length → (es.getD i .undef).fits sz = true) ∧
      (∀ i o, i < es.length → o < sz → w.cell? ⟨c, off + (i * sz + o), none⟩ = some (V i o) ∧ Z c (off + (i * sz + o))) ∧ (∀ i o, i < es.length → o < sz → PRel Z w ((es.getD i .undef).cells.getD o .undef) (V i o)) := by
  cases h with
  | sl0 a cap => exact .inl ⟨a, cap, rfl, rfl⟩
  | sl _ sz c off cap V hc hzz hr hvv => exact .inr ⟨sz, c, off, cap, V, rfl, hc, hzz, hr, hvv⟩
theorem int_inv' {Z : Zone} {w : World} {k : IntKind} {n : Int} {u : Value} (h : PRel Z w (.int k n) u) : u = .int k n := by cases h; rfl
theorem str_inv' {Z : Zone} {w : World} {s : List UInt8} {u : Value} (h : PRel Z w (.str s) u) : u = .string ⟨s.toArray⟩ := by cases h; rfl
theorem clone_ok {w0 : World} {es : List AV} (h : allI es = true) (hb : es.length * 8 ≤ 140737488355328) : PureOk Tryd.prog w0 58 [.sl es] (.sl es) := by
  obtain ⟨zs, rfl⟩ := allI_get h
  intro Z w vs hbel ho hz hl
  obtain ⟨v, rfl, hv⟩ := one_arg hl
  have zero : ∀ (a : Option Addr) (cap : Nat), zs = [] → Calls Tryd.prog 58 #[.slice a 0 cap] w fun e w' => ∃ v Z', e = .returned v ∧ Below w.heap.size w w' ∧ (∀ c j, Z c j → Z' c j) ∧ (∀ c j, Z' c j → Z c j ∨ w.heap.size ≤ c) ∧ (∀ c j, Z' c j → c < w'.heap.size) ∧ PRel Z' w' (.sl (zs.map (AV.int .i64))) v := by
    intro a cap he
    subst he
    cases a with
    | none =>
      refine (Any.slices_Clone_int_nil layC 0 cap w).mono ?_
      rintro e w' ⟨rfl, rfl⟩
      exact ⟨_, Z, rfl, .refl _ _, fun _ _ h => h, fun _ _ h => .inl h, hz, .sl0 none 0⟩
    | some a =>
      refine (Any.slices_Clone_int_zero layC a cap w).mono ?_
      rintro e w' ⟨v', rfl, hown, _, hbw⟩
      refine ⟨v', Z, rfl, hbw, fun _ _ h => h, fun _ _ h => .inl h, fun c j h => Nat.lt_of_lt_of_le (hz c j h) hbw.size, ?_⟩
      obtain ⟨_, ⟨rfl, _⟩ | ⟨g, cap', cur, rfl, _⟩⟩ := hown
      · exact .sl0 none 0
      · exact .sl0 _ _
  rcases sl_cases hv with ⟨a, cap, he, rfl⟩ | ⟨sz, c, off, cap, V, rfl, hc, hzz, hr, hvv⟩
  · exact zero a cap (by simpa using he)
  · rcases Nat.eq_zero_or_pos zs.length with h0 | hpos
    · have hz0 : zs = [] := by simpa using h0
      have e : (zs.map (AV.int .i64)).length = 0 := by simpa using h0
      rw [e]
      exact zero _ cap hz0
    have hget : ∀ j, j < zs.length → (zs.map (AV.int .i64)).getD j .undef = AV.int .i64 (zs.getD j 0) := by
      intro j hj
      simp [List.getD_eq_getElem?_getD, hj]
    have hsz : sz = 1 := by
      have := hzz 0 (by simpa using hpos)
      rw [hget 0 hpos] at this
      simp [AV.fits, AV.cells] at this
      exact this.1.symm
    subst hsz
    have hcell : ∀ j, j < zs.length → w.cell? ⟨c, off + j, none⟩ = some (.int .i64 (zs.getD j 0)) := by
      intro j hj
      have h1 := (hr j 0 (by simpa using hj) (by omega)).1
      have h2 := hvv j 0 (by simpa using hj) (by omega)
      rw [hget j hj] at h2
      have h3 : V j 0 = .int .i64 (zs.getD j 0) := int_inv' h2
      rw [h3] at h1
      simpa using h1
    rw [List.length_map]
    rw [List.length_map] at hb hc
    refine (Any.slices_Clone_int layC c off zs.length cap zs w (Nat.le_refl _) hb hcell).mono ?_
    rintro e w' ⟨v', rfl, hown, hnn, hbw⟩
    obtain ⟨hlen, ⟨rfl, _⟩ | ⟨g, cap', cur, rfl, hg, hh, hcap, _, hcs, htake⟩⟩ := hown
    · exact absurd rfl hnn
    refine ⟨_, fun c j => Z c j ∨ c = g, rfl, hbw, fun c j h => .inl h, ?_, ?_, ?_⟩
    · rintro c j (h | rfl)
      · exact .inl h
      · exact .inr hg
    · rintro c j (h | rfl)
      · exact Nat.lt_of_lt_of_le (hz c j h) hbw.size
      · rcases Nat.lt_or_ge c w'.heap.size with h | h
        · exact h
        · rw [Array.getElem?_eq_none h] at hh; cases hh
    · have := PRel.sl (Z := fun c j => Z c j ∨ c = g) (w := w') (zs.map (AV.int .i64)) 1 g 0 cap' (fun i _ => .int .i64 (zs.getD i 0)) (by simpa using hcap)
        (fun i hi => by rw [hget i (by simpa using hi)]; rfl)
        (fun i o hi ho => by
          have hi' : i < zs.length := by simpa using hi
          obtain rfl : o = 0 := by omega
          refine ⟨?_, .inr rfl⟩
          rw [cell_of_row w' g _ cur _ (0, 0) hh]
          have h1 : (cur.toList.take (zs.length * 1))[i]? = some (.int .i64 (zs.getD i 0)) := by
            rw [htake]
            simp [List.getD_eq_getElem?_getD, hi']
          rw [List.getElem?_take, if_pos (by omega)] at h1
          simpa using h1)
        (fun i o hi ho => by
          have hi' : i < zs.length := by simpa using hi
          obtain rfl : o = 0 := by omega
          rw [hget i hi']
          exact .int _ _)
      simpa using this
theorem join_ok {w0 : World} {es : List AV} {xs : List (List UInt8)} {sep : List UInt8} (h : strsOf es = some xs) (hn : xs.length ≤ 140737488355328) (hb : (Lib.join xs sep).length ≤ 140737488355328) :
    PureOk Tryd.prog w0 42 [.sl es, .str sep] (.str (Lib.join xs sep)) := by
  obtain rfl := strsOf_get h
  intro Z w vs hbel ho hz hl
  obtain ⟨v, u, rfl, hv, hu⟩ := two_args hl
  have hu' : u = .string ⟨sep.toArray⟩ := str_inv' hu
  subst hu'
  have zero : ∀ (a : Option Addr) (cap : Nat), xs = [] → Calls Tryd.prog 42 #[.slice a 0 cap, .string ⟨sep.toArray⟩] w fun e w' => ∃ v Z', e = .returned v ∧ Below w.heap.size w w' ∧ (∀ c j, Z c j → Z' c j) ∧ (∀ c j, Z' c j → Z c j ∨ w.heap.size ≤ c) ∧ (∀ c j, Z' c j → c < w'.heap.size) ∧ PRel Z' w' (.str (Lib.join xs sep)) v := by
    intro a cap he
    subst he
    refine (Any.strings_Join_none layJ layX a cap ⟨sep.toArray⟩ w).mono ?_
    rintro e w' ⟨rfl, rfl⟩
    exact ⟨_, Z, rfl, .refl _ _, fun _ _ h => h, fun _ _ h => .inl h, hz, .str []⟩
  rcases sl_cases hv with ⟨a, cap, he, rfl⟩ | ⟨sz, c, off, cap, V, rfl, hc, hzz, hr, hvv⟩
  · exact zero a cap (by simpa using he)
  · rcases Nat.eq_zero_or_pos xs.length with h0 | hpos
    · have hz0 : xs = [] := by simpa using h0
      have e : (xs.map AV.str).length = 0 := by simpa using h0
      rw [e]
      exact zero _ cap hz0
    have hget : ∀ j, j < xs.length → (xs.map AV.str).getD j .undef = AV.str (xs.getD j []) := by
      intro j hj
      simp [List.getD_eq_getElem?_getD, hj]
    have hsz : sz = 1 := by
      have := hzz 0 (by simpa using hpos)
      rw [hget 0 hpos] at this
      simp [AV.fits, AV.cells] at this
      exact this.1.symm
    subst hsz
    have hcell : ∀ j (x : ByteArray), (xs.map fun s => (⟨s.toArray⟩ : ByteArray))[j]? = some x → w.cell? ⟨c, off + j, none⟩ = some (.string x) := by
      intro j x hx
      have hj : j < xs.length := by
        have := (List.getElem?_eq_some_iff.1 hx).1
        simpa using this
      have h1 := (hr j 0 (by simpa using hj) (by omega)).1
      have h2 := hvv j 0 (by simpa using hj) (by omega)
      rw [hget j hj] at h2
      have h3 : V j 0 = .string ⟨(xs.getD j []).toArray⟩ := str_inv' h2
      have h4 : x = ⟨(xs.getD j []).toArray⟩ := by
        simp [hj] at hx
        rw [← hx]
        simp [List.getD_eq_getElem?_getD, hj]
      rw [h3] at h1
      rw [h4]
      simpa using h1
    have hlt : c < w.heap.size := hz c _ (hr 0 0 (by simpa using hpos) (by omega)).2
    have hmap : (xs.map fun s => (⟨s.toArray⟩ : ByteArray)).map (·.data.toList) = xs := by rw [List.map_map]; exact (List.map_congr_left fun s _ => by simp).trans (List.map_id xs)
    have := Any.strings_Join layJ layX c off cap (xs.map fun s => (⟨s.toArray⟩ : ByteArray)) ⟨sep.toArray⟩ w hcell hlt (by simpa using hn) (by simpa using hc) (by rw [hmap]; exact hb)
    rw [hmap] at this
    rw [List.length_map] at this ⊢
    refine Calls.mono this ?_
    rintro e w' ⟨rfl, hbw⟩
    exact ⟨_, Z, rfl, hbw, fun _ _ h => h, fun _ _ h => .inl h, fun c j h => Nat.lt_of_lt_of_le (hz c j h) hbw.size, .str _⟩
theorem lib_ok {w0 : World} : ∀ f args r, libL f args = some r → PureOk Tryd.prog w0 f args r ∧ ∃ d, Tryd.prog.funcs[f]? = some d ∧ d.body.isNone = false ∧ (d.name == "runtime.NumGoroutine") = false := by
  intro f args r h
  unfold libL at h
  split at h
  · rename_i hf
    subst hf
    split at h
    · split at h
      · rename_i hc
        injection h with h; subst h
        exact ⟨clone_ok hc.1 hc.2, _, Tryd.func58, by kernel_rfl, by kernel_rfl⟩
      · cases h
    · cases h
  split at h
  · rename_i hf
    subst hf
    split at h
    · split at h
      · rename_i xs hx
        split at h
        · rename_i hc
          injection h with h; subst h
          exact ⟨join_ok hx hc.1 hc.2, _, Tryd.func42, by kernel_rfl, by kernel_rfl⟩
        · cases h
      · cases h
    · cases h
  · cases h
end Go.EV.Lv
