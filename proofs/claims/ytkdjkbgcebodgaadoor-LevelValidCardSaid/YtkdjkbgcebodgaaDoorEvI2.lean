/-
  Functions of the layer, one after another: what each hands back, as a plain function of its arguments.
-/
import Derived.Test.YtkdjkbgcebodgaaDoorEvI1
set_option linter.unusedSimpArgs false
set_option linter.unusedVariables false
namespace Go.EV.Lv
open Go Go.EV Go.Proofs
set_option maxRecDepth 100000
theorem bld60 (s : List UInt8) : buildAV E 60 [(0, .str s)] = some (.agg [.str s]) := by
  simp [buildAV, ti60, ti9, fillAV, placeOf, AV.fits, AV.cells, AV.one]
theorem len_ms {e : TypeId} {a : Bool} {n b : Nat} {z : AV} {b' g' o' l : Nat} : lenT (some ⟨.slice e, a, n, b, z⟩) (.ms b' g' o' l) = some (.int .i64 l) := rfl
theorem kd_lglob {dst : Option Tmp} {ty : TypeId} {pos : String} {after : Array Edge} {g : Option (Nat × Bool)} {t : TypeId} {i : Nat} : opKind E ⟨dst, .load t (.global i), ty, pos, after, g⟩ = 0 := rfl
theorem na_lglob {dst : Option Tmp} {ty : TypeId} {pos : String} {after : Array Edge} {g : Option (Nat × Bool)} {t : TypeId} {i : Nat} : isAlloc ⟨dst, .load t (.global i), ty, pos, after, g⟩ = false := rfl
theorem kd_c48 {dst : Option Tmp} {ty : TypeId} {pos : String} {after : Array Edge} {g : Option (Nat × Bool)} {xs : Array Operand} {ts : Array TypeId} : opKind E ⟨dst, .call ⟨.value (.func 48), xs, ts⟩, ty, pos, after, g⟩ = 2 := by simp [opKind, m48]
theorem kd_c47 {dst : Option Tmp} {ty : TypeId} {pos : String} {after : Array Edge} {g : Option (Nat × Bool)} {xs : Array Operand} {ts : Array TypeId} : opKind E ⟨dst, .call ⟨.value (.func 47), xs, ts⟩, ty, pos, after, g⟩ = 1 := by simp [opKind, m47]
theorem na_call {dst : Option Tmp} {ty : TypeId} {pos : String} {after : Array Edge} {g : Option (Nat × Bool)} {c : Call} : isAlloc ⟨dst, .call c, ty, pos, after, g⟩ = false := rfl
theorem kd_build {dst : Option Tmp} {ty : TypeId} {pos : String} {after : Array Edge} {g : Option (Nat × Bool)} {t : TypeId} {ps : Array (Nat × Operand)} : opKind E ⟨dst, .build t ps, ty, pos, after, g⟩ = 2 := rfl
theorem na_build {dst : Option Tmp} {ty : TypeId} {pos : String} {after : Array Edge} {g : Option (Nat × Bool)} {t : TypeId} {ps : Array (Nat × Operand)} : isAlloc ⟨dst, .build t ps, ty, pos, after, g⟩ = false := rfl
theorem safe_call {tm : List AV} {dst : Option Tmp} {ty : TypeId} {pos : String} {after : Array Edge} {g : Option (Nat × Bool)} {f : Operand} {xs : List Operand} {ts : Array TypeId} {b i j n : Nat} : safeV E tm ⟨dst, .call ⟨.value f, xs.toArray, ts⟩, ty, pos, after, g⟩ (some (.mp b i j n)) = (xs.all fun x => (opnd E tm x).isPure) := by simp [safeV]
theorem p49e {hp : Heap} {b wg : Nat} {d : UInt8} {q : List UInt8} (hb : hp[b]? = some (.row [.agg [.str []]] 1 wg 0)) (hw : wg ≤ 1) :
    evCall E (callW E) hp 49 [.mp b 1 0 0, .str (d :: q)] = some (.bool false, hp) := by
  rw [p49 _ hb hw, if_neg (by rw [pre_nil]; simp)]
theorem word_hi (k : Int) : ∀ c ∈ wordF k, c.toNat ≤ 122 := by
  unfold wordF
  repeat' split
  all_goals simp
theorem word_cont2 (k : Int) {st : List UInt8} (h : ∀ d ∈ st, 122 < d.toNat) : ∀ c ∈ wordF k, st.contains c = false := cont_no fun c hc d hd e => by
  have h1 := word_hi k c hc
  have h2 := h d hd
  rw [e] at h1
  omega
def RT : List Pl → List UInt8
  | [] => [125]
  | [p] => payT p ++ [125]
  | p :: l => payT p ++ 44 :: 32 :: RT l
def SH (i : Nat) (l : List Pl) : List UInt8 := if i = 0 ∨ l = [] then RT l else 44 :: 32 :: RT l
theorem RT_join : ∀ l : List Pl, Lib.join (l.map payT) [44, 32] ++ [125] = RT l
  | [] => rfl
  | [k] => by simp [Lib.join, List.intercalate, RT]
  | k :: k' :: l => by
    have ih := RT_join (k' :: l)
    have e : RT (k :: k' :: l) = payT k ++ 44 :: 32 :: RT (k' :: l) := rfl
    rw [e, ← ih, List.map_cons, List.map_cons, join_cons]
    simp
theorem typ_key {t : Ty} (h : keyF t = true) : typT t = wordF t.kind ++ 123 :: RT t.ps := by
  unfold typT
  rw [if_pos h, tacc_join, ← RT_join]
  simp
theorem asc_pay {p : Pl} (g : Good p) : asc (payT p) := by
  have e : asc ([] : List UInt8) := fun c hc => by cases hc
  have h := (show p.goal < 0 ∨ 0 ≤ p.goal by omega)
  rcases h with h | h
  · have := read_neg g h []
    rw [List.append_nil] at this
    rw [this]
    exact asc_app (asc_tag g) (asc_cons (by decide) (asc_RP e _))
  · have := read_pos g h []
    rw [List.append_nil] at this
    rw [this]
    exact asc_app (asc_tag g) (asc_cons (by decide) (asc_RP (asc_cons (by decide) (asc_cons (by decide) (asc_app (asc_dig _ h g.goal.2) (asc_cons (by decide) (asc_RD e _ g.data))))) _))
theorem asc_RT : ∀ l : List Pl, (∀ p ∈ l, Good p) → asc (RT l)
  | [], _ => fun c hc => by simp [RT] at hc; subst hc; decide
  | [p], h => asc_app (asc_pay (h p (by simp))) (fun c hc => by simp at hc; subst hc; decide)
  | p :: p' :: l, h => asc_app (asc_pay (h p (by simp))) (asc_cons (by decide) (asc_cons (by decide) (asc_RT (p' :: l) fun q hq => h q (by simp [hq]))))
theorem pay_head {p : Pl} (g : Good p) (tl : List UInt8) : ∃ c r, payT p ++ tl = c :: r ∧ c ≠ 125 := by
  have hd : ∃ c r', p.tag = c :: r' := by
    cases h : p.tag with
    | nil => exact absurd h g.ne
    | cons c r' => exact ⟨c, r', rfl⟩
  obtain ⟨c, r', hc⟩ := hd
  have hne : c ≠ 125 := tag_no g (by rw [hc]; simp) 125 (by simp)
  rcases (show p.goal < 0 ∨ 0 ≤ p.goal by omega) with h | h
  · rw [read_neg g h, hc]; exact ⟨c, _, rfl, hne⟩
  · rw [read_pos g h, hc]; exact ⟨c, _, rfl, hne⟩
theorem RT_next {l : List Pl} {p : Pl} (i : Nat) : ∃ d r, RT (p :: l) = payT p ++ d :: r ∧ (d = 44 ∨ d = 125) ∧ SH (i + 1) l = d :: r := by
  cases l with
  | nil => exact ⟨125, [], rfl, .inr rfl, by simp [SH, RT]⟩
  | cons q l => exact ⟨44, 32 :: RT (q :: l), rfl, .inl rfl, by simp [SH]⟩
theorem encPUnder4 (l : List Pl) (n : Nat) : HB.under n (.row (l.map encP) 4 0 0) = true := encPUnder l n
end Go.EV.Lv
