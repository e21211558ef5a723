/-
  Loops, and the encoding of the layer's types.
-/
import Derived.Test.YtkdjkbgcebodgaaDoorEvKs
set_option linter.unusedSimpArgs false
set_option linter.unusedVariables false
namespace Go.EV
variable {E : Env} {callF : CallF} {f : FuncId} {α : Type}

theorem loop_ind {pl : Plan} {cur : Nat} {body : Code} (hd : drawsOk E pl body = true) {nm : St → St} {kn : St → Option α} {kx : Nat → St → Option α} {kr : St → Option α} {h1 : Hid kn} {h2 : Hid kx} {h3 : Hid kr} (C : Nat → St) (F : Nat → Option α) (m : Nat)
    (H : ∀ i, i ≤ m → ∀ kn' : St → Option α, (i < m → ∀ st', nm st' = C (i + 1) → kn' st' = F (i + 1)) → codeK E callF iterW f pl cur body (C i) kn' kx kr ⟨⟩ ⟨⟩ ⟨⟩ = F i) :
    ∀ d i, m - i = d → i ≤ m → ∀ st, nm st = C i → loopK (iterW (evCode E callF iterW f cur body) nm st) kn kx kr h1 h2 h3 = F i := by
  intro d
  induction d with
  | zero =>
    intro i hdi hi st hst
    have h := H i hi (fun st' => loopK (iterW (evCode E callF iterW f cur body) nm st') kn kx kr h1 h2 h3) (fun hlt => by omega)
    rw [iterW_eq, hst]
    rw [codeK_eq body cur (C i) _ _ _ _ _ _ hd] at h
    rw [← h]
    cases evCode E callF iterW f cur body (C i) with
    | none => rfl
    | some p => obtain ⟨x, st'⟩ := p; cases x <;> rfl
  | succ d ih =>
    intro i hdi hi st hst
    have h := H i hi (fun st' => loopK (iterW (evCode E callF iterW f cur body) nm st') kn kx kr h1 h2 h3) (fun hlt st' he => ih (i + 1) (by omega) hlt st' he)
    rw [iterW_eq, hst]
    rw [codeK_eq body cur (C i) _ _ _ _ _ _ hd] at h
    rw [← h]
    cases evCode E callF iterW f cur body (C i) with
    | none => rfl
    | some p => obtain ⟨x, st'⟩ := p; cases x <;> rfl

theorem loopAt_ind {pl : Plan} {cur : Nat} {body : Code} {an : LAnn} (han : E.ann f cur = some an) (hd : drawsOk E pl body = true) {kn : St → Option α} {kx : Nat → St → Option α} {kr : St → Option α} {h1 : Hid kn} {h2 : Hid kx} {h3 : Hid kr} (C : Nat → St) (F : Nat → Option α) (m : Nat) (n : Nat) {st : St}
    (hn : (prepOwn an.own st).hp.length = n) (h0 : normSt an.live n (prepOwn an.own st) = C 0)
    (H : ∀ i, i ≤ m → ∀ kn' : St → Option α, (i < m → ∀ st', normSt an.live n st' = C (i + 1) → kn' st' = F (i + 1)) → codeK E callF iterW f pl cur body (C i) kn' kx kr ⟨⟩ ⟨⟩ ⟨⟩ = F i) :
    loopK (loopAt E callF iterW f cur body st) kn kx kr h1 h2 h3 = F 0 := by
  unfold loopAt
  rw [han]
  simp only [hn]
  exact loop_ind hd C F m H m 0 (by omega) (by omega) _ h0
theorem normSt_mk {live : List Nat} {n : Nat} {tm tm' : List AV} {hp hp' : Heap} (h : keepLive live 0 tm = tm') (h' : letGo n tm' hp = hp') : normSt live n ⟨tm, hp⟩ = ⟨tm', hp'⟩ := by
  subst h; subst h'; rfl

theorem wrap_succ {i m : Nat} (h : i < m) (hm : m ≤ 9223372036854775807) : IntKind.wrap .i64 ((i : Int) + 1) = ((i + 1 : Nat) : Int) := by
  rw [show ((i + 1 : Nat) : Int) = (i : Int) + 1 by omega]
  unfold IntKind.wrap
  have h1 : IntKind.i64.bits = 64 := rfl
  simp [IntKind.bits]
  omega
end Go.EV
