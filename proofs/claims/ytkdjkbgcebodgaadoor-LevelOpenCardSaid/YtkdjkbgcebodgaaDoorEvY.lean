/-
  Regions that draw their order: operations of a region change places.
-/
import Derived.Test.YtkdjkbgcebodgaaDoorEvX
set_option linter.unusedSimpArgs false
set_option linter.unusedVariables false
namespace Go.EV
open Go.RowKit
variable {E : Env} {P : Program}

theorem foldr_addNew_mem : ∀ {l : List Nat} {x : Nat}, x ∈ l.foldr addNew [] → x ∈ l
  | [], x, h => by simp at h
  | a :: l, x, h => by
    simp only [List.foldr_cons, addNew] at h
    split at h
    · exact List.mem_cons_of_mem _ (foldr_addNew_mem h)
    · rcases List.mem_cons.1 h with rfl | h
      · exact List.mem_cons_self
      · exact List.mem_cons_of_mem _ (foldr_addNew_mem h)
theorem snoc_ind {α : Type} {p : List α → Prop} (h0 : p []) (h1 : ∀ l a, p l → p (l ++ [a])) (l : List α) : p l := by
  have h : ∀ r : List α, p r.reverse := by
    intro r
    induction r with
    | nil => exact h0
    | cons a r ih => rw [List.reverse_cons]; exact h1 _ _ ih
  have := h l.reverse
  rwa [List.reverse_reverse] at this
theorem ancs_snoc (l : List Oper) (o : Oper) : ancs (l ++ [o]) = ancs l ++ [ancStep (ancs l) o] := by simp [ancs]
theorem ancs_len (l : List Oper) : (ancs l).length = l.length := by
  refine snoc_ind (p := fun l => (ancs l).length = l.length) rfl (fun l o ih => ?_) l
  rw [ancs_snoc]; simp [ih]

/-- What must come before an operation has come, where what comes is closed under the edges. -/
theorem ancs_closed {L : Nat → Prop} : ∀ (l : List Oper), (∀ (k : Nat) (o : Oper), l[k]? = some o → L k → ∀ e ∈ anyEdges o, L e) → ∀ (j : Nat) (o : Oper), l[j]? = some o → (∀ e ∈ anyEdges o, L e) → ∀ i ∈ (ancs l).getD j [], L i := by
  intro l
  refine snoc_ind (p := fun l => (∀ (k : Nat) (o : Oper), l[k]? = some o → L k → ∀ e ∈ anyEdges o, L e) → ∀ (j : Nat) (o : Oper), l[j]? = some o → (∀ e ∈ anyEdges o, L e) → ∀ i ∈ (ancs l).getD j [], L i) ?_ ?_ l
  · intro _ j o h; simp at h
  · intro l o ih
    intro hc j oj hj hL i hi
    have hc' : ∀ (k : Nat) (o : Oper), l[k]? = some o → L k → ∀ e ∈ anyEdges o, L e := fun k ok hk => hc k ok (by
      have : k < l.length := by
        rcases Nat.lt_or_ge k l.length with h | h
        · exact h
        · rw [List.getElem?_eq_none h] at hk; cases hk
      rw [List.getElem?_append_left this]; exact hk)
    rw [ancs_snoc] at hi
    rcases Nat.lt_or_ge j l.length with hlt | hge
    · rw [List.getElem?_append_left hlt] at hj
      have : (ancs l ++ [ancStep (ancs l) o]).getD j [] = (ancs l).getD j [] := by
        simp only [List.getD_eq_getElem?_getD]
        rw [List.getElem?_append_left (by rw [ancs_len]; exact hlt)]
      rw [this] at hi
      exact ih hc' j oj hj hL i hi
    · have hjl : j = l.length := by
        rcases Nat.lt_or_ge j (l ++ [o]).length with h | h
        · simp at h; omega
        · rw [List.getElem?_eq_none h] at hj; cases hj
      subst hjl
      have ho : oj = o := by simp at hj; exact hj.symm
      subst ho
      have : (ancs l ++ [ancStep (ancs l) oj]).getD l.length [] = ancStep (ancs l) oj := by
        simp only [List.getD_eq_getElem?_getD]
        rw [List.getElem?_append_right (by rw [ancs_len]; exact Nat.le_refl _), ancs_len]; simp
      rw [this] at hi
      have hi2 := foldr_addNew_mem hi
      obtain ⟨e, he, hie⟩ := List.mem_flatMap.1 hi2
      rcases List.mem_cons.1 hie with rfl | hie
      · exact hL _ he
      · cases hoe : l[e]? with
        | none =>
          have : l.length ≤ e := by
            rcases Nat.lt_or_ge e l.length with h | h
            · rw [List.getElem?_eq_getElem h] at hoe; cases hoe
            · exact h
          simp only [List.getD_eq_getElem?_getD] at hie
          rw [List.getElem?_eq_none (by rw [ancs_len]; exact this)] at hie
          simp at hie
        | some oe => exact ih hc' e oe hoe (hc' e oe hoe (hL e he)) i hie

theorem putAV_get {tm : List AV} {dst : Option Tmp} {v : AV} {t : Nat} (h : dst ≠ some t) : (putAV tm dst v)[t]? = tm[t]? := by
  cases dst with
  | none => rfl
  | some d => simp only [putAV]; rw [List.getElem?_set_ne (fun e => h (by rw [e]))]
theorem putAV_len {tm : List AV} {dst : Option Tmp} {v : AV} : (putAV tm dst v).length = tm.length := by cases dst <;> simp [putAV]
theorem putAV_comm {tm : List AV} {x y : Option Tmp} {u v : AV} (h : ∀ d, x = some d → y ≠ some d) : putAV (putAV tm x u) y v = putAV (putAV tm y v) x u := by
  cases x with
  | none => rfl
  | some d =>
    cases y with
    | none => rfl
    | some e =>
      simp only [putAV]
      exact List.set_comm _ _ (fun he => h d rfl (by rw [he]))

/-- Own memory alone: two operations in either order. -/
theorem heap_comm {callF : CallF} {ops : Array Oper} {x y : Oper} {cx cy : List Nat} {tm : List AV} {hp hp1 hp2 : Heap} {rx ry : AV}
    (hk : (opKind E x == 0 || opKind E y == 0 || (opKind E x == 1 && opKind E y == 1) || (opKind E x == 1 && storesTo y cx) || (opKind E y == 1 && storesTo x cy)) = true)
    (A : evD E callF ops.toList cx x tm hp = some (rx, hp1)) (B : evD E callF ops.toList cy y tm hp1 = some (ry, hp2)) :
    ∃ hp1', evD E callF ops.toList cy y tm hp = some (ry, hp1') ∧ evD E callF ops.toList cx x tm hp1' = some (rx, hp2) := by
  unfold evD at A B ⊢
  cases hgx : guardAV ops.toList tm x with
  | none => rw [hgx] at A; cases A
  | some bx =>
    cases hgy : guardAV ops.toList tm y with
    | none => rw [hgy] at B; cases B
    | some gy =>
      rw [hgx] at A; rw [hgy] at B
      cases bx with
      | false =>
        simp only at A; injection A with A; injection A with h1 h2; subst h1; subst h2
        exact ⟨hp2, B, rfl⟩
      | true =>
        cases gy with
        | false =>
          simp only at B; injection B with B; injection B with h1 h2; subst h1; subst h2
          exact ⟨hp, rfl, A⟩
        | true =>
          simp only at A B ⊢
          have ax : evAny E callF tm hp x.op = some (rx, hp1) ∧ (opKind E x = 1 → cx.all (safeOp E tm x) = true) := by
            split at A
            · split at A
              · rename_i h; exact ⟨A, fun _ => h⟩
              · cases A
            · rename_i h; exact ⟨A, fun h' => absurd h' (by simpa using h)⟩
          have ay : evAny E callF tm hp1 y.op = some (ry, hp2) ∧ (opKind E y = 1 → cy.all (safeOp E tm y) = true) := by
            split at B
            · split at B
              · rename_i h; exact ⟨B, fun _ => h⟩
              · cases B
            · rename_i h; exact ⟨B, fun h' => absurd h' (by simpa using h)⟩
          have mkx : ∀ h h', evAny E callF tm h x.op = some (rx, h') → (if (opKind E x == 1) = true then (if cx.all (safeOp E tm x) = true then evAny E callF tm h x.op else none) else evAny E callF tm h x.op) = some (rx, h') := by
            intro h h' he
            split
            · rename_i hk1; rw [if_pos (ax.2 (by simpa using hk1))]; exact he
            · exact he
          have mky : ∀ h h', evAny E callF tm h y.op = some (ry, h') → (if (opKind E y == 1) = true then (if cy.all (safeOp E tm y) = true then evAny E callF tm h y.op else none) else evAny E callF tm h y.op) = some (ry, h') := by
            intro h h' he
            split
            · rename_i hk1; rw [if_pos (ay.2 (by simpa using hk1))]; exact he
            · exact he
          simp only [Bool.or_eq_true, Bool.and_eq_true, beq_iff_eq] at hk
          rcases hk with (((hk | hk) | hk) | hk) | hk
          · obtain ⟨h1, h2⟩ := evAny_silent hk ax.1
            subst h1
            exact ⟨hp2, mky _ _ ay.1, mkx _ _ (h2 hp2)⟩
          · obtain ⟨h1, h2⟩ := evAny_silent hk ay.1
            subst h1
            exact ⟨hp, mky _ _ (h2 hp), mkx _ _ ax.1⟩
          · have h1 := evAny_reads hk.1 ax.1
            have h2 := evAny_reads hk.2 ay.1
            subst h1; subst h2
            exact ⟨_, mky _ _ ay.1, mkx _ _ ax.1⟩
          · have h1 := evAny_reads hk.1 ax.1
            subst h1
            obtain ⟨d, b, g, i, q, hd, _, htm, hpt⟩ := store_part hk.2 ay.1
            have hs := ax.2 hk.1
            simp only [List.all_eq_true] at hs
            exact ⟨hp2, mky _ _ ay.1, mkx _ _ (evAny_part hk.1 hpt htm (hs d hd) ax.1)⟩
          · have h2 := evAny_reads hk.1 ay.1
            subst h2
            obtain ⟨d, b, g, i, q, hd, _, htm, hpt⟩ := store_part hk.2 ax.1
            have hs := ay.2 hk.1
            simp only [List.all_eq_true] at hs
            have hpt' : PartAt b hp2 hp := fun k hk => (hpt k hk).symm
            exact ⟨hp, mky _ _ (evAny_part hk.1 hpt' htm (hs d hd) ay.1), mkx _ _ ax.1⟩

theorem step_comm {callF : CallF} {ops : Array Oper} {anc : List (List Nat)} {k i : Nat} {x y : Oper} (hx : ops[k]? = some x) (hy : ops[i]? = some y) (hap : Oper.apart ops x y = true)
    (hk : (opKind E x == 0 || opKind E y == 0 || (opKind E x == 1 && opKind E y == 1) || (opKind E x == 1 && storesTo y (confSlots ops.toList anc k)) || (opKind E y == 1 && storesTo x (confSlots ops.toList anc i))) = true)
    (hcx : ∀ d, d ∈ confSlots ops.toList anc k → x.dst ≠ some d ∧ y.dst ≠ some d) (hcy : ∀ d, d ∈ confSlots ops.toList anc i → x.dst ≠ some d ∧ y.dst ≠ some d) {st s1 s2 : St}
    (A : stepD E callF ops.toList anc k st = some s1) (B : stepD E callF ops.toList anc i s1 = some s2) : ∃ t, stepD E callF ops.toList anc i st = some t ∧ stepD E callF ops.toList anc k t = some s2 := by
  obtain ⟨a1, a2, a3⟩ := Oper.apart_spec hap
  have hx' : ops.toList[k]? = some x := by simpa using hx
  have hy' : ops.toList[i]? = some y := by simpa using hy
  simp only [stepD, hx', hy'] at A B ⊢
  split at A
  rotate_left
  · cases A
  rename_i rx hp1 hA
  injection A with A; subst A
  split at B
  rotate_left
  · cases B
  rename_i ry hp2 hB
  injection B with B; subst B
  simp only at hB ⊢
  have c1 : evD E callF ops.toList (confSlots ops.toList anc i) y (putAV st.tm x.dst rx) hp1 = evD E callF ops.toList (confSlots ops.toList anc i) y st.tm hp1 :=
    evD_congr (fun t ht => putAV_get (fun e => a1 t e ht)) (fun d hd => putAV_get (hcy d hd).1)
  rw [c1] at hB
  obtain ⟨hp1', h1, h2⟩ := heap_comm hk hA hB
  have c2 : evD E callF ops.toList (confSlots ops.toList anc k) x (putAV st.tm y.dst ry) hp1' = evD E callF ops.toList (confSlots ops.toList anc k) x st.tm hp1' :=
    evD_congr (fun t ht => putAV_get (fun e => a3 t e ht)) (fun d hd => putAV_get (hcx d hd).2)
  refine ⟨⟨putAV st.tm y.dst ry, hp1'⟩, by rw [h1], ?_⟩
  simp only [c2, h2]
  rw [putAV_comm (fun d hd => a2 d hd)]

theorem bubble {callF : CallF} {all : List Oper} {anc : List (List Nat)} {i : Nat} {R2 : List Nat} : ∀ {R1 : List Nat} {st st' : St},
    (∀ k ∈ R1, ∀ st s1 s2, stepD E callF all anc k st = some s1 → stepD E callF all anc i s1 = some s2 → ∃ t, stepD E callF all anc i st = some t ∧ stepD E callF all anc k t = some s2) →
    evListD E callF all anc (R1 ++ i :: R2) st = some st' → ∃ st1, stepD E callF all anc i st = some st1 ∧ evListD E callF all anc (R1 ++ R2) st1 = some st'
  | [], st, st', _, h => by
    simp only [List.nil_append, evListD] at h ⊢
    split at h
    · rename_i s1 hs; exact ⟨s1, hs, h⟩
    · cases h
  | k :: R1, st, st', hc, h => by
    simp only [List.cons_append, evListD] at h ⊢
    split at h
    · rename_i s1 hs
      obtain ⟨s2, h1, h2⟩ := bubble (fun k hk => hc k (List.mem_cons_of_mem _ hk)) h
      obtain ⟨t, h3, h4⟩ := hc k List.mem_cons_self _ _ _ hs h1
      exact ⟨t, h3, by rw [h4]; exact h2⟩
    · cases h

/-! Variables made ahead. -/
def Ghost.wait (G : Ghost) (b : Nat) (z : AV) (sz : Nat) : Ghost := ⟨G.row, G.sz, fun b' => if b' = b then some (z, sz) else G.pend b'⟩
def Ghost.mat (G : Ghost) (b c sz : Nat) : Ghost := ⟨(G.put b 1 (some c, 1) sz).row, (G.put b 1 (some c, 1) sz).sz, fun b' => if b' = b then none else G.pend b'⟩

theorem HRel.wait {base : Nat} {Z : Zone} {G : Ghost} {hp : Heap} {w : World} (H : HRel base Z G hp w) {z : AV} {sz : Nat} (hf : z.fits sz = true) :
    HRel base Z (G.wait hp.length z sz) (hp ++ [.row [z] sz 0 0]) w ∧ G.le (G.wait hp.length z sz) := by
  have hpn : ∀ z', G.pend hp.length = some z' → False := by
    intro z' h
    have := lt_of_get (H.pend _ z'.1 z'.2 h).1
    omega
  have hle : G.le (G.wait hp.length z sz) := ⟨fun _ _ _ h => h, fun _ _ _ _ => rfl, fun b z' h => by
    simp only [Ghost.wait]; split
    · rename_i e; subst e; exact (hpn _ h).elim
    · exact h⟩
  have hnone : ∀ g, G.row hp.length g = none := by
    intro g
    cases h : G.row hp.length g with
    | none => rfl
    | some r => exact absurd (H.dom _ _ _ h) (Nat.lt_irrefl _)
  refine ⟨⟨H.lo, H.zone, fun b g r h => ?_, fun b es' sz' wg' com' he => ?_, fun b s pos he g oc cap' hg => ?_, H.excl, fun b z' sz' h => ?_, fun b es' sz' wg' com' he => ?_⟩, hle⟩
  · simp only [List.length_append, List.length_singleton]
    have := H.dom b g r h; omega
  · rcases get_append he with ⟨hl, he2⟩ | ⟨rfl, he2⟩
    · obtain ⟨hf', hr'⟩ := H.row b es' sz' wg' com' he2
      refine ⟨hf', fun g oc cap' hg => ?_⟩
      obtain ⟨h1, h2, h3, h4, h5⟩ := hr' g oc cap' hg
      refine ⟨h1, h2, h3, h4, fun c hoc => ?_⟩
      obtain ⟨h6, h7, cs', t', h8, h9, h10⟩ := h5 c hoc
      exact ⟨h6, h7, cs', t', h8, h9, fun hw i o hi ho => (h10 hw i o hi ho).mono (fun _ _ h => h) hle (fun _ _ _ => rfl)⟩
    · injection he2 with e1 e2 e3 e4
      subst e1; subst e2
      refine ⟨fun i hi => ?_, fun g oc cap' hg => ?_⟩
      · have : i = 0 := by simp at hi; omega
        subst this; simpa using hf
      · have := hnone g; simp only [Ghost.wait] at hg; rw [this] at hg; cases hg
  · rcases get_append he with ⟨hl, he2⟩ | ⟨_, he2⟩
    · exact H.sit b s pos he2 g oc cap' hg
    · cases he2
  · simp only [Ghost.wait] at h
    split at h
    · rename_i e; subst e
      injection h with h; injection h with e1 e2; subst e1; subst e2
      exact ⟨by simp, hnone⟩
    · obtain ⟨k1, k2⟩ := H.pend b z' sz' h
      exact ⟨by rw [List.getElem?_append_left (lt_of_get k1)]; exact k1, k2⟩
  · rcases get_append he with ⟨hl, he2⟩ | ⟨rfl, he2⟩
    · exact H.wgle _ _ _ _ _ he2
    · injection he2 with e1 e2 e3 e4
      subst e1; subst e3; simp

theorem HRel.mat {base : Nat} {Z : Zone} {G : Ghost} {hp : Heap} {w : World} (H : HRel base Z G hp w) {b sz : Nat} {z : AV} {v : Value} (hb : G.pend b = some (z, sz)) (hv : ∀ Z w, PRel Z w z v) (hf : z.fits sz = true) (hpos : 0 < sz) (t : TypeId) :
    HRel base Z (G.mat b w.heap.size sz) hp (w.alloc (.cells v.cells t)) ∧ (∀ G0 : Ghost, G0.le G → G0.pend b = none → G0.le (G.mat b w.heap.size sz)) ∧
      (∀ (a : AV) (x : Value), Rel Z G w a x → Rel Z (G.mat b w.heap.size sz) (w.alloc (.cells v.cells t)) a x) ∧ Rel Z (G.mat b w.heap.size sz) (w.alloc (.cells v.cells t)) (.mp b 1 0 0) (.pointer (some ⟨w.heap.size, 0, none⟩)) := by
  obtain ⟨hbb, hnone⟩ := H.pend b z sz hb
  obtain ⟨c1, c2, _⟩ := (Rel.pure (hv Z w) : Rel Z G w z v).cellsOf hf
  have H1 := H.alloc (.cells v.cells t)
  have hrow : ∀ b' g r, G.row b' g = some r → (G.mat b w.heap.size sz).row b' g = some r ∧ (G.mat b w.heap.size sz).sz b' = G.sz b' := by
    intro b' g r h
    have hne : b' ≠ b := by intro e; subst e; rw [hnone] at h; cases h
    simp only [Ghost.mat, Ghost.put]
    rw [if_neg (fun e => hne e.1), if_neg hne]
    exact ⟨h, rfl⟩
  have hrel : ∀ (a : AV) (x : Value), Rel Z G w a x → Rel Z (G.mat b w.heap.size sz) (w.alloc (.cells v.cells t)) a x := by
    intro a x h
    have hk : ∀ c j, Z c j → (w.alloc (.cells v.cells t)).cell? ⟨c, j, none⟩ = w.cell? ⟨c, j, none⟩ := fun c j hz => World.cell?_alloc_lt _ _ _ (H.zone c j hz)
    induction h with
    | pure h => exact .pure (h.mono (fun _ _ h => h) hk)
    | agg cs vs hl _ ih => exact .agg cs vs hl ih
    | tup cs vs hl _ ih => exact .tup cs vs hl ih
    | fn f cs vs hl _ ih => exact .fn f cs vs hl ih
    | iface t a v _ ih => exact .iface t a v ih
    | ms b g off len oc cap a h0 h1 h2 ha hn => exact .ms b g off len oc cap a (hrow _ _ _ h0).1 h1 h2 (by rw [(hrow _ _ _ h0).2]; exact ha) hn
    | mp b g i o c cap h0 hi => rw [← (hrow _ _ _ h0).2]; exact .mp b g i o c cap (hrow _ _ _ h0).1 hi
    | it b c cap h0 => exact .it b c cap (hrow _ _ _ h0).1
  have hself : (G.mat b w.heap.size sz).row b 1 = some (some w.heap.size, 1) := by simp [Ghost.mat, Ghost.put]
  refine ⟨⟨H1.lo, H1.zone, fun b' g r h => ?_, fun b' es' sz' wg' com' he => ?_, fun b' s pos he g oc cap' hg => ?_, fun b1 b2 g g' c cap1 cap2 h1 h2 => ?_, fun b' z' sz' h => ?_, H1.wgle⟩, fun G0 h0 hp0 => ?_, hrel, ?_⟩
  · rcases Ghost.put_row (show (G.put b 1 (some w.heap.size, 1) sz).row b' g = some r from h) with ⟨rfl, _, _⟩ | h
    · exact lt_of_get hbb
    · exact H.dom _ _ _ h
  · obtain ⟨hf', hr'⟩ := H.row b' es' sz' wg' com' he
    refine ⟨hf', fun g oc cap' hg => ?_⟩
    rcases Ghost.put_row (show (G.put b 1 (some w.heap.size, 1) sz).row b' g = some (oc, cap') from hg) with ⟨rfl, rfl, hrr⟩ | hg
    · injection hrr with e1 e2
      subst e1; subst e2
      rw [hbb] at he; injection he with he; injection he with e1 e2 e3 e4
      subst e1; subst e2; subst e3; subst e4
      refine ⟨by simp [Ghost.mat, Ghost.put], by simp, Nat.le_refl _, fun h => (nomatch h), fun c hoc => ?_⟩
      injection hoc with hoc
      subst hoc
      refine ⟨H.lo, fun j hz => absurd (H.zone _ _ hz) (Nat.lt_irrefl _), v.cells, t, by rw [alloc_heap, if_pos rfl], by omega, fun _ i o hi ho => ?_⟩
      have : i = 0 := by omega
      subst this
      simpa using hrel _ _ (c2 o ho)
    · obtain ⟨h1, h2, h3, h4, h5⟩ := hr' g oc cap' hg
      refine ⟨(hrow _ _ _ hg).2.trans h1, h2, h3, h4, fun c hoc => ?_⟩
      obtain ⟨h6, h7, cs', t', h8, h9, h10⟩ := h5 c hoc
      subst hoc
      exact ⟨h6, h7, cs', t', by rw [alloc_heap, if_neg (Nat.ne_of_lt (H.old hg))]; exact h8, h9, fun hw i o hi ho => hrel _ _ (h10 hw i o hi ho)⟩
  · rcases Ghost.put_row (show (G.put b 1 (some w.heap.size, 1) sz).row b' g = some (oc, cap') from hg) with ⟨rfl, _, _⟩ | hg
    · rw [hbb] at he; cases he
    · exact H1.sit b' s pos he g oc cap' hg
  · rcases Ghost.put_row (show (G.put b 1 (some w.heap.size, 1) sz).row b1 g = some (some c, cap1) from h1) with ⟨e0, _, e1⟩ | k1 <;> rcases Ghost.put_row (show (G.put b 1 (some w.heap.size, 1) sz).row b2 g' = some (some c, cap2) from h2) with ⟨e0', _, e2⟩ | k2
    · rw [e0, e0']
    · injection e1 with e1 _; injection e1 with e1; subst e1; exact absurd (H.old k2) (Nat.lt_irrefl _)
    · injection e2 with e2 _; injection e2 with e2; subst e2; exact absurd (H.old k1) (Nat.lt_irrefl _)
    · exact H.excl _ _ _ _ _ _ _ k1 k2
  · simp only [Ghost.mat] at h
    split at h
    · cases h
    · rename_i hne
      obtain ⟨k1, k2⟩ := H.pend b' z' sz' h
      refine ⟨k1, fun g => ?_⟩
      simp only [Ghost.mat, Ghost.put]
      rw [if_neg (fun e => hne e.1)]
      exact k2 g
  · refine ⟨fun b' g r h => (hrow _ _ _ (h0.row b' g r h)).1, fun b' g r h => ((hrow _ _ _ (h0.row b' g r h)).2).trans (h0.sz b' g r h), fun b' z' h => ?_⟩
    simp only [Ghost.mat]
    split
    · rename_i e; subst e; rw [hp0] at h; cases h
    · exact h0.pend b' z' h
  · have := Rel.mp (Z := Z) (w := w.alloc (.cells v.cells t)) b 1 0 0 w.heap.size 1 hself (by omega)
    simpa using this
end Go.EV
