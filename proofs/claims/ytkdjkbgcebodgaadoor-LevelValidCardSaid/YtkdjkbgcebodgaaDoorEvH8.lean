/-
  Functions of the layer, one after another: what each hands back, as a plain function of its arguments.
-/
import Derived.Test.YtkdjkbgcebodgaaDoorEvH7
set_option linter.unusedSimpArgs false
set_option linter.unusedVariables false
namespace Go.EV.Lv
open Go Go.EV Go.Proofs
set_option maxRecDepth 100000
theorem bld42_02 (s : List UInt8) (k : Int) : buildAV E 42 [(0, .str s), (2, .int .i64 k)] = some (.agg [.str s, .nils, .int .i64 k, .nils]) := by
  simp [buildAV, ti42, ti3, ti9, ti40, fillAV, placeOf, AV.fits, AV.cells, AV.one]
theorem evCall_3 {hp : Heap} {callF : CallF} {g : FuncId} {xs : List AV} (h : E.mode g = 3) : evCall E callF hp g xs = match callF g xs hp with
    | some (r, hp') => match frozen hp.length hp' r with
      | some r' => some (r', hp'.take hp.length)
      | none => none
    | none => none := by
  unfold evCall
  simp only [h]
  cases callF g xs hp <;> rfl
def asc (s : List UInt8) : Prop := ∀ c ∈ s, c.toNat < 128
theorem asc_app {a b : List UInt8} (ha : asc a) (hb : asc b) : asc (a ++ b) := by
  intro c hc
  rcases List.mem_append.1 hc with h | h
  · exact ha c h
  · exact hb c h
theorem asc_cons {d : UInt8} {b : List UInt8} (ha : d.toNat < 128) (hb : asc b) : asc (d :: b) := by
  intro c hc
  rcases List.mem_cons.1 hc with rfl | h
  · exact ha
  · exact hb c h
theorem asc_word (k : Int) : asc (wordF k) := by
  unfold wordF asc
  repeat' split
  all_goals simp
theorem dig_eq (n : Int) (h0 : 0 ≤ n) (h7 : n ≤ 7) : ∃ d : UInt8, dig n = [d] ∧ 48 ≤ d.toNat ∧ d.toNat ≤ 55 := by
  have h : n = 0 ∨ n = 1 ∨ n = 2 ∨ n = 3 ∨ n = 4 ∨ n = 5 ∨ n = 6 ∨ n = 7 := by omega
  rcases h with rfl | rfl | rfl | rfl | rfl | rfl | rfl | rfl <;> exact ⟨_, rfl, by decide, by decide⟩
theorem asc_dig (n : Int) (h0 : 0 ≤ n) (h7 : n ≤ 7) : asc (dig n) := by
  obtain ⟨d, h, _, h2⟩ := dig_eq n h0 h7
  rw [h]
  exact asc_cons (by omega) (by intro c hc; cases hc)
def RP : List Int → List UInt8 → List UInt8
  | [], tl => 41 :: tl
  | [k], tl => wordF k ++ 41 :: tl
  | k :: l, tl => wordF k ++ 44 :: 32 :: RP l tl
def RD : List Int → List UInt8 → List UInt8
  | [], tl => 93 :: tl
  | [k], tl => dig k ++ 93 :: tl
  | k :: l, tl => dig k ++ 32 :: RD l tl
theorem asc_RP {tl : List UInt8} (h : asc tl) : ∀ l, asc (RP l tl)
  | [] => asc_cons (by decide) h
  | [k] => asc_app (asc_word k) (asc_cons (by decide) h)
  | k :: k' :: l => asc_app (asc_word k) (asc_cons (by decide) (asc_cons (by decide) (asc_RP h (k' :: l))))
theorem asc_RD {tl : List UInt8} (h : asc tl) : ∀ l : List Int, (∀ d ∈ l, 0 ≤ d ∧ d ≤ 7) → asc (RD l tl)
  | [], _ => asc_cons (by decide) h
  | [k], hd => asc_app (asc_dig k (hd k (by simp)).1 (hd k (by simp)).2) (asc_cons (by decide) h)
  | k :: k' :: l, hd => asc_app (asc_dig k (hd k (by simp)).1 (hd k (by simp)).2) (asc_cons (by decide) (asc_RD h (k' :: l) fun d hh => hd d (by simp [hh])))
theorem asc_tag {p : Pl} (g : Good p) : asc p.tag := by
  intro c hc
  have := List.all_eq_true.1 g.chars c hc
  unfold okR letF digF at this
  simp at this
  rcases this with (h | h) | h | h | h <;> omega
theorem tag_no {p : Pl} (g : Good p) {c : UInt8} (hc : c ∈ p.tag) : ∀ d ∈ ([40, 41, 44, 123, 125, 32, 91, 93] : List UInt8), c ≠ d := by
  have := List.all_eq_true.1 g.chars c hc
  unfold okR letF digF at this
  simp at this
  intro d hd e
  subst e
  simp at hd
  rcases hd with rfl | rfl | rfl | rfl | rfl | rfl | rfl | rfl <;> simp at this
theorem word_no (k : Int) : ∀ c ∈ wordF k, 97 ≤ c.toNat := by
  unfold wordF
  repeat' split
  all_goals simp
theorem p49y {hp : Heap} {b wg : Nat} (q r : List UInt8) (hb : hp[b]? = some (.row [.agg [.str (q ++ r)]] 1 wg 0)) (hw : wg ≤ 1) :
    evCall E (callW E) hp 49 [.mp b 1 0 0, .str q] = some (.bool true, hp.set b (.row [.agg [.str r]] 1 1 0)) := by
  rw [p49 q hb hw, if_pos (pre_yes q r), List.drop_left]
theorem p49n {hp : Heap} {b wg : Nat} {c d : UInt8} {q r : List UInt8} (hb : hp[b]? = some (.row [.agg [.str (c :: r)]] 1 wg 0)) (hw : wg ≤ 1) (h : c ≠ d) :
    evCall E (callW E) hp 49 [.mp b 1 0 0, .str (d :: q)] = some (.bool false, hp) := by
  rw [p49 _ hb hw, if_neg (by rw [pre_no h]; simp)]
theorem iUnder (l : List Int) (n : Nat) : (l.map encInt).all (AV.under n) = true := by simp [AV.under]
end Go.EV.Lv
