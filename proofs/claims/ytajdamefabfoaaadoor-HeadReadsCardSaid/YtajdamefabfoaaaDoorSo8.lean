/- Calls: what a function's answer means, and a call's soundness: definitions and lemmas; the callee's own soundness is a premise there. -/
import Derived.Test.YtajdamefabfoaaaDoorSo7
namespace Go.Ev
open Go Go.RowKit

def noRho : Nat → Option Real := fun _ => none
def oneRho (br : Real) : Nat → Option Real := fun d => if d = NEW then some br else none
def locReal (locs : List (Nat × Nat)) (bx : List (List V)) : Nat → Option Real := fun j => match locs[j]?, bx[j]? with
  | some p, some cs => some { base := some p, sz := cs.length, n := 1, cap := 1, gen := 0 }
  | _, _ => none
def LocHas (locs : List (Nat × Nat)) (bx : List (List V)) (b o : Nat) : Prop := ∃ (j : Nat) (p : Nat × Nat) (cs : List V), locs[j]? = some p ∧ bx[j]? = some cs ∧ b = p.1 ∧ p.2 ≤ o ∧ o < p.2 + cs.length

/-- What holds behind a call. -/
structure RetOk (w w' : World) (J : Nat → Nat → Prop) (locs : List (Nat × Nat)) (bx : List (List V)) (r : DRes) (v : Value) (J' : Nat → Nat → Prop) : Prop where
  keeps : Keeps (LocHas locs bx) w w'
  mono : ∀ b o, J b o → J' b o
  lt : ∀ b o, J' b o → b < w'.heap.size
  old : ∀ b o, J' b o → b < w.heap.size → J b o
  len : r.bx.length = bx.length
  bx : ∀ (j : Nat) (cs cs' : List V) (p : Nat × Nat), bx[j]? = some cs → r.bx[j]? = some cs' → locs[j]? = some p → cs'.length = cs.length ∧ ∀ k, k < cs'.length → ∃ y, w'.cell? ⟨p.1, p.2 + k, none⟩ = some y ∧ Rv w' J' noRho (cs'.getD k .undef) y
  val : (r.nb = [] ∧ Rv w' J' noRho r.v v) ∨ ∃ box br, r.nb = [box] ∧ box ≠ .dead ∧ BoxR w' J' noRho box br ∧
    (∀ b o, br.has b o → w.heap.size ≤ b ∧ (∃ y, w'.cell? ⟨b, o, none⟩ = some y) ∧ w'.frozen? ⟨b, o, none⟩ = false ∧ ¬ J' b o) ∧ Rv w' J' (oneRho br) r.v v

/-- A call of a function, by its body or by the model's own entry. -/
def CallsV (P : Program) (f : FuncId) (xs : Array Value) (w : World) (Q : Value → World → Prop) : Prop :=
  ((callFunc f xs).run P w = .ok (.enter f xs) w ∧ Calls P f xs w fun e w' => ∃ v, e = .returned v ∧ Q v w') ∨
  ∃ v w', (callFunc f xs).run P w = .ok (.value v) w' ∧ Q v w'

/-- The answer is the function's own. -/
def FnOk (P : Program) (f : FuncId) (D : Den) : Prop := ∀ args bx, D.pre args bx = true → ∀ w J locs (xs : List Value), locs.length = bx.length → (∀ b o, J b o → b < w.heap.size) →
  AllRv w J (locReal locs bx) args xs →
  (∀ (j : Nat) (p : Nat × Nat) (cs : List V), locs[j]? = some p → bx[j]? = some cs → ∀ k, k < cs.length → (∃ y, w.cell? ⟨p.1, p.2 + k, none⟩ = some y ∧ Rv w J noRho (cs.getD k .undef) y) ∧ w.frozen? ⟨p.1, p.2 + k, none⟩ = false ∧ ¬ J p.1 (p.2 + k)) →
  (∀ (j j' : Nat) (p p' : Nat × Nat) (cs cs' : List V) (b o : Nat), locs[j]? = some p → locs[j']? = some p' → bx[j]? = some cs → bx[j']? = some cs' → b = p.1 → p.2 ≤ o → o < p.2 + cs.length → b = p'.1 → p'.2 ≤ o → o < p'.2 + cs'.length → j = j') → Held P J w →
  CallsV P f xs.toArray w fun v w' => ∃ J', RetOk w w' J locs bx (D.res args bx) v J'

section
variable {P : Program} {m : Nat} {S : St} {dst : Option Tmp} {ty : TypeId} {pos : String} {after : Array Edge} {guard : Option (Nat × Bool)}

/-- What the looked-into boxes own. -/
def HasOf (S : St) (ρ : Nat → Option Real) (B : List Nat) (b o : Nat) : Prop := ∃ d, d ∈ B ∧ ∃ br sh rows g, lk? S.tab d = some (.sl sh rows g) ∧ ρ d = some br ∧ br.has b o

theorem borOf_ok {v : V} {K : V → List Nat → Option R} {q : R} (h : borOf S v K = some q) : ∃ v' B, K v' B = some q ∧ datV v' = true ∧
    ∀ w₀ I₀ O₀ ρ I a w, Rel m w₀ I₀ O₀ ρ I S a w → ∀ J : Nat → Nat → Prop, (∀ b o, I b o → J b o) → (∀ b o, HasOf S ρ B b o → J b o) → ∀ x, Rv w I ρ v x → Dat w J v' x := by
  have plain : cond (datV v) (vf v fun v => K v []) none = some q → ∃ v' B, K v' B = some q ∧ datV v' = true ∧
    ∀ w₀ I₀ O₀ ρ I a w, Rel m w₀ I₀ O₀ ρ I S a w → ∀ J : Nat → Nat → Prop, (∀ b o, I b o → J b o) → (∀ b o, HasOf S ρ B b o → J b o) → ∀ x, Rv w I ρ v x → Dat w J v' x := fun h => by
    obtain ⟨h1, h2⟩ := cond_none h
    rw [vf_eq] at h2
    exact ⟨v, [], h2, h1, fun w₀ I₀ O₀ ρ I a w hr J hi _ x hx => (datV_ok hx h1).keep (fun _ _ _ => rfl) hi⟩
  cases v with
  | own d g =>
    obtain ⟨sh, rows, ht, h⟩ := withOwn_spec h
    refine ⟨_, _, h, rfl, fun w₀ I₀ O₀ ρ I a w hr J hi hB x hx => ?_⟩
    obtain ⟨br, hd, _, hdat⟩ := own_data ht hr hx
    exact hdat J hi fun b o hh => hB b o ⟨d, by simp, br, sh, rows, g, ht, hd, hh⟩
  | _ => exact plain h
theorem HasOf.left {ρ : Nat → Option Real} {B B' : List Nat} {b o : Nat} (h : HasOf S ρ B b o) : HasOf S ρ (B ++ B') b o := let ⟨d, hd, r⟩ := h; ⟨d, by simp [hd], r⟩
theorem HasOf.right {ρ : Nat → Option Real} {B B' : List Nat} {b o : Nat} (h : HasOf S ρ B' b o) : HasOf S ρ (B ++ B') b o := let ⟨d, hd, r⟩ := h; ⟨d, by simp [hd], r⟩
theorem borL_ok : ∀ (vs : List V) {K : List V → List Nat → Option R} {q : R}, borL S vs K = some q → ∃ vs' B, K vs' B = some q ∧ vs'.length = vs.length ∧ datL vs' = true ∧
    ∀ w₀ I₀ O₀ ρ I a w, Rel m w₀ I₀ O₀ ρ I S a w → ∀ J : Nat → Nat → Prop, (∀ b o, I b o → J b o) → (∀ b o, HasOf S ρ B b o → J b o) → ∀ xs, AllRv w I ρ vs xs → AllDat w J vs' xs
  | [], K, q, h => ⟨[], [], h, rfl, rfl, fun w₀ I₀ O₀ ρ I a w hr J hi hB xs hx => ⟨hx.1, fun i hi => by cases hi⟩⟩
  | v :: vs, K, q, h => by
    obtain ⟨v', B, h1, h2, h3⟩ := borOf_ok (m := m) h
    obtain ⟨vs', B', g1, g2, g4, g3⟩ := borL_ok vs h1
    refine ⟨_, _, g1, by simp [g2], by simp [datL, h2, g4], fun w₀ I₀ O₀ ρ I a w hr J hi hB xs hx => ?_⟩
    obtain ⟨x, xs', rfl, hx1, hx2⟩ := hx.uncons
    exact .cons (h3 w₀ I₀ O₀ ρ I a w hr J hi (fun b o h => hB b o h.left) x hx1) (g3 w₀ I₀ O₀ ρ I a w hr J hi (fun b o h => hB b o h.right) xs' hx2)
theorem borV_ok {v : V} {K : V → List Nat → Option R} {q : R} (h : borV S v K = some q) : ∃ v' B, K v' B = some q ∧
    ∀ w₀ I₀ O₀ ρ I a w, Rel m w₀ I₀ O₀ ρ I S a w → ∀ J : Nat → Nat → Prop, (∀ b o, I b o → J b o) → (∀ b o, HasOf S ρ B b o → J b o) → ∀ x, Rv w I ρ v x → ∀ ρ', Rv w J ρ' v' x := by
  have plain : borOf S v K = some q → ∃ v' B, K v' B = some q ∧
    ∀ w₀ I₀ O₀ ρ I a w, Rel m w₀ I₀ O₀ ρ I S a w → ∀ J : Nat → Nat → Prop, (∀ b o, I b o → J b o) → (∀ b o, HasOf S ρ B b o → J b o) → ∀ x, Rv w I ρ v x → ∀ ρ', Rv w J ρ' v' x := fun h => by
    obtain ⟨v', B, h1, _, h3⟩ := borOf_ok (m := m) h
    exact ⟨v', B, h1, fun w₀ I₀ O₀ ρ I a w hr J hi hB x hx ρ' => .dat (h3 w₀ I₀ O₀ ρ I a w hr J hi hB x hx)⟩
  cases v with
  | agg cs =>
    obtain ⟨cs', B, h1, h2, _, h3⟩ := borL_ok (m := m) cs h
    refine ⟨_, _, h1, fun w₀ I₀ O₀ ρ I a w hr J hi hB x hx ρ' => ?_⟩
    obtain ⟨xs, rfl, l, hh⟩ := hx.agg_inv
    have := h3 w₀ I₀ O₀ ρ I a w hr J hi hB xs ⟨l, hh⟩
    exact .agg cs' xs this.1 fun i hi => .dat (this.2 i hi)
  | nilp => exact ⟨_, _, h, fun w₀ I₀ O₀ ρ I a w hr J hi hB x hx ρ' => by rw [hx.nilp_inv]; exact .nilp⟩
  | _ => exact plain h

/-- The places that are lent, as the callee has them. -/
def LocOk (ρL : Nat → Option Real) (n : Nat) (ptrs : List Value) : Prop := ∀ (i : Nat) (x : Value), ptrs[i]? = some x → ∃ br, ρL (n + i) = some br ∧ br.gen = 0 ∧ 0 < br.n ∧ ∃ b p, br.base = some (b, p) ∧ x = .pointer (some ⟨b, p, none⟩)
theorem LocOk.left {ρL : Nat → Option Real} {n : Nat} {p p' : List Value} (h : LocOk ρL n (p ++ p')) : LocOk ρL n p := fun i x hx => h i x (by
  rw [List.getElem?_append_left (List.getElem?_eq_some_iff.1 hx).1]; exact hx)
theorem LocOk.right {ρL : Nat → Option Real} {n : Nat} {p p' : List Value} (h : LocOk ρL n (p ++ p')) : LocOk ρL (n + p.length) p' := fun i x hx => by
  have := h (p.length + i) x (by rw [List.getElem?_append_right (by omega)]; simpa using hx)
  rwa [← Nat.add_assoc] at this
def PtrsOk (w : World) (I : Nat → Nat → Prop) (ρ : Nat → Option Real) (ls : List Loan) (ptrs : List Value) : Prop := ptrs.length = ls.length ∧ ∀ (i : Nat) (l : Loan) (x : Value), ls[i]? = some l → ptrs[i]? = some x → Rv w I ρ (.ptr l.d l.r l.o l.g) x
theorem PtrsOk.append {w : World} {I : Nat → Nat → Prop} {ρ : Nat → Option Real} {ls ls' : List Loan} {p p' : List Value} (h : PtrsOk w I ρ ls p) (h' : PtrsOk w I ρ ls' p') : PtrsOk w I ρ (ls ++ ls') (p ++ p') :=
  ⟨by simp [h.1, h'.1], fun i l x hl hx => by
    by_cases hi : i < ls.length
    · rw [List.getElem?_append_left hi] at hl
      rw [List.getElem?_append_left (by rw [h.1]; exact hi)] at hx
      exact h.2 i l x hl hx
    · rw [List.getElem?_append_right (by omega)] at hl
      rw [List.getElem?_append_right (by rw [h.1]; omega), h.1] at hx
      exact h'.2 _ l x hl hx⟩
theorem loc_ptr {w : World} {J : Nat → Nat → Prop} {ρL : Nat → Option Real} {n : Nat} {x : Value} {rest : List Value} (h : LocOk ρL n (x :: rest)) : Rv w J ρL (.ptr n 0 0 0) x := by
  obtain ⟨br, h1, h2, h3, b, p, h4, rfl⟩ := h 0 x rfl
  exact .ptr n 0 0 0 br _ (by simpa using h1) (by omega) (fun _ => ⟨h3, b, p, h4, by simp⟩) ⟨_, rfl⟩

theorem lendCaps_ok : ∀ (cs : List V) (n : Nat) {K : List V → List Loan → Option R} {q : R}, lendCaps S cs n K = some q → ∃ cs' ls, K cs' ls = some q ∧ cs'.length = cs.length ∧
    ∀ (w : World) (I : Nat → Nat → Prop) (ρ : Nat → Option Real) (xs : List Value), AllRv w I ρ cs xs → ∃ ptrs, PtrsOk w I ρ ls ptrs ∧ ∀ J ρL, LocOk ρL n ptrs → AllRv w J ρL cs' xs
  | [], n, K, q, h => ⟨[], [], h, rfl, fun w I ρ xs hx => ⟨[], ⟨rfl, fun i l x hl => by cases hl⟩, fun J ρL _ => ⟨hx.1, fun i hi => by cases hi⟩⟩⟩
  | v :: cs, n, K, q, h => by
    cases v with
    | ptr d r o g =>
      simp only [lendCaps] at h
      split at h
      · obtain ⟨cs', ls, h1, h2, h3⟩ := lendCaps_ok cs (n + 1) h
        refine ⟨_, _, h1, by simp [h2], fun w I ρ xs hx => ?_⟩
        obtain ⟨x, xs', rfl, hx1, hx2⟩ := hx.uncons
        obtain ⟨ptrs, g1, g2⟩ := h3 w I ρ xs' hx2
        refine ⟨x :: ptrs, ⟨by simp [g1.1], fun i l y hl hy => ?_⟩, fun J ρL hL => ?_⟩
        · cases i with
          | zero => cases hl; cases hy; exact hx1
          | succ i => exact g1.2 i l y (by simpa using hl) (by simpa using hy)
        · have ht := g2 J ρL (by have := LocOk.right (p := [x]) (p' := ptrs) hL; simpa using this)
          refine ⟨by simp [ht.1], fun i hi => ?_⟩
          cases i with
          | zero => exact loc_ptr hL
          | succ i => exact ht.2 i (by simpa using hi)
      · cases h
    | _ => cases h

theorem lendV_ok {sz n : Nat} {v : V} {K : V → List Loan → List Nat → Option R} {q : R} (h : lendV S sz v n K = some q) : ∃ v' ls B, K v' ls B = some q ∧ (noPtr v = true → ls = []) ∧
    ∀ w₀ I₀ O₀ ρ I a w, Rel m w₀ I₀ O₀ ρ I S a w → ∀ x, Rv w I ρ v x → ∃ ptrs, PtrsOk w I ρ ls ptrs ∧ ∀ J : Nat → Nat → Prop, (∀ b o, I b o → J b o) → (∀ b o, HasOf S ρ B b o → J b o) → ∀ ρL, LocOk ρL n ptrs → Rv w J ρL v' x := by
  have plain : borV S v (fun v' B => K v' [] B) = some q → ∃ v' ls B, K v' ls B = some q ∧ (noPtr v = true → ls = []) ∧
    ∀ w₀ I₀ O₀ ρ I a w, Rel m w₀ I₀ O₀ ρ I S a w → ∀ x, Rv w I ρ v x → ∃ ptrs, PtrsOk w I ρ ls ptrs ∧ ∀ J : Nat → Nat → Prop, (∀ b o, I b o → J b o) → (∀ b o, HasOf S ρ B b o → J b o) → ∀ ρL, LocOk ρL n ptrs → Rv w J ρL v' x := fun h => by
    obtain ⟨v', B, h1, h2⟩ := borV_ok (m := m) h
    exact ⟨v', [], B, h1, fun _ => rfl, fun w₀ I₀ O₀ ρ I a w hr x hx => ⟨[], ⟨rfl, fun i l x hl => by cases hl⟩, fun J hi hB ρL _ => h2 w₀ I₀ O₀ ρ I a w hr J hi hB x hx ρL⟩⟩
  cases v with
  | ptr d r o g =>
    refine ⟨_, _, _, h, (fun h => by cases h), fun w₀ I₀ O₀ ρ I a w hr x hx => ⟨[x], ⟨rfl, fun i l y hl hy => ?_⟩, fun J hi hB ρL hL => loc_ptr hL⟩⟩
    cases i with
    | zero => cases hl; cases hy; exact hx
    | succ i => cases hl
  | fn f first caps =>
    obtain ⟨cs', ls, h1, h2, h3⟩ := lendCaps_ok caps n h
    obtain ⟨fs', B, g1, g2, _, g3⟩ := borL_ok (m := m) first h1
    refine ⟨_, _, _, g1, (fun h => by cases h), fun w₀ I₀ O₀ ρ I a w hr x hx => ?_⟩
    cases hx with
    | dat hx => cases hx
    | fn _ _ _ xs ys l1 r1 l2 r2 =>
      obtain ⟨ptrs, p1, p2⟩ := h3 w I ρ ys ⟨l2, r2⟩
      refine ⟨ptrs, p1, fun J hi hB ρL hL => ?_⟩
      have e1 := g3 w₀ I₀ O₀ ρ I a w hr J hi hB xs ⟨l1, r1⟩
      have e2 := p2 J ρL hL
      exact .fn f fs' cs' xs ys e1.1 (fun i hi => .dat (e1.2 i hi)) e2.1 e2.2
  | _ => exact plain h

theorem lendAll_ok {E : Env} : ∀ (vs : List V) (ts : List TypeId) (n : Nat) {K : List V → List Loan → List Nat → Option R} {q : R}, lendAll E S vs ts n K = some q → ∃ vs' ls B, K vs' ls B = some q ∧ vs'.length = vs.length ∧ (noPtrL vs = true → ls = []) ∧
    ∀ w₀ I₀ O₀ ρ I a w, Rel m w₀ I₀ O₀ ρ I S a w → ∀ xs, AllRv w I ρ vs xs → ∃ ptrs, PtrsOk w I ρ ls ptrs ∧ ∀ J : Nat → Nat → Prop, (∀ b o, I b o → J b o) → (∀ b o, HasOf S ρ B b o → J b o) → ∀ ρL, LocOk ρL n ptrs → AllRv w J ρL vs' xs
  | [], ts, n, K, q, h => ⟨[], [], [], h, rfl, fun _ => rfl, fun w₀ I₀ O₀ ρ I a w hr xs hx => ⟨[], ⟨rfl, fun i l x hl => by cases hl⟩, fun J _ _ ρL _ => ⟨hx.1, fun i hi => by cases hi⟩⟩⟩
  | v :: vs, ts, n, K, q, h => by
    obtain ⟨v', ls, B, h1, hn, h2⟩ := lendV_ok (m := m) h
    obtain ⟨vs', ls', B', g1, g2, gn, g3⟩ := lendAll_ok vs ts.tail (n + ls.length) h1
    refine ⟨_, _, _, g1, by simp [g2], fun hp => by
      simp only [noPtrL] at hp
      cases e : noPtr v with
      | false => rw [e] at hp; cases hp
      | true => rw [e] at hp; rw [hn e, gn hp]; rfl, fun w₀ I₀ O₀ ρ I a w hr xs hx => ?_⟩
    obtain ⟨x, xs', rfl, hx1, hx2⟩ := hx.uncons
    obtain ⟨p, p1, p2⟩ := h2 w₀ I₀ O₀ ρ I a w hr x hx1
    obtain ⟨p', p3, p4⟩ := g3 w₀ I₀ O₀ ρ I a w hr xs' hx2
    refine ⟨p ++ p', p1.append p3, fun J hi hB ρL hL => ?_⟩
    have e1 := p2 J hi (fun b o h => hB b o h.left) ρL hL.left
    have e2 := p4 J hi (fun b o h => hB b o h.right) ρL (by have := hL.right; rwa [p1.1] at this)
    refine ⟨by simp [e2.1], fun i hi => ?_⟩
    cases i with
    | zero => exact e1
    | succ i => exact e2.2 i (by simpa using hi)

theorem loanCells_ok : ∀ (ls : List Loan) {K : List (List V) → List Nat → Option R} {q : R}, loanCells S ls K = some q → ∃ cs B, K cs B = some q ∧ cs.length = ls.length ∧
    ∀ (i : Nat) (l : Loan) (c : List V), ls[i]? = some l → cs[i]? = some c → c.length = l.sz ∧ ∀ w₀ I₀ O₀ ρ I a w, Rel m w₀ I₀ O₀ ρ I S a w → ∀ x, Rv w I ρ (.ptr l.d l.r l.o l.g) x → ∃ b p, x = .pointer (some ⟨b, p, none⟩) ∧
      ∀ J : Nat → Nat → Prop, (∀ b o, I b o → J b o) → (∀ b o, HasOf S ρ B b o → J b o) → ∀ k, k < c.length → ∃ y, w.cell? ⟨b, p + k, none⟩ = some y ∧ Dat w J (c.getD k .undef) y
  | [], K, q, h => ⟨[], [], h, rfl, fun i l c hl => by cases hl⟩
  | l :: ls, K, q, h => by
    obtain ⟨c₀, h1, h2, h3⟩ := readAt_ok (m := m) h
    obtain ⟨c, B, g1, g2, _, g3⟩ := borL_ok (m := m) c₀ h1
    obtain ⟨cs, B', k1, k2, k3⟩ := loanCells_ok ls g1
    refine ⟨_, _, k1, by simp [k2], fun i l' c' hl hc => ?_⟩
    cases i with
    | zero =>
      cases hl; cases hc
      refine ⟨by omega, fun w₀ I₀ O₀ ρ I a w hr x hx => ?_⟩
      obtain ⟨b, p, val, e1, e2⟩ := h3 w₀ I₀ O₀ ρ I a w hr x hx
      refine ⟨b, p, e1, fun J hi hB k hk => ⟨val k, (e2 k (by omega)).1, ?_⟩⟩
      have := g3 w₀ I₀ O₀ ρ I a w hr J hi (fun b o h => hB b o h.left) ((List.range c₀.length).map val) ⟨by simp, fun j hj => by
        have := (e2 j (by omega)).2
        simpa [List.getD_eq_getElem?_getD, hj] using this⟩
      have h5 := this.2 k hk
      rw [g2] at hk
      simpa [List.getD_eq_getElem?_getD, hk] using h5
    | succ i =>
      obtain ⟨e1, e2⟩ := k3 i l' c' (by simpa using hl) (by simpa using hc)
      refine ⟨e1, fun w₀ I₀ O₀ ρ I a w hr x hx => ?_⟩
      obtain ⟨b, p, e3, e4⟩ := e2 w₀ I₀ O₀ ρ I a w hr x hx
      exact ⟨b, p, e3, fun J hi hB => e4 J hi (fun b o h => hB b o h.right)⟩
end
end Go.Ev
