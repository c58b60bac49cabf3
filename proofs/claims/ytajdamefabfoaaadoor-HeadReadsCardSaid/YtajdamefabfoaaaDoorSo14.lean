/- A function's beginning and end: lemmas. -/
import Derived.Test.YtajdamefabfoaaaDoorSo13
namespace Go.Ev
open Go Go.RowKit

theorem lk_number {α : Type} : ∀ (l : List α) (k t : Nat), lk? (numberFrom k l) t = if k ≤ t then l[t - k]? else none
  | [], k, t => by simp [numberFrom, lk?]
  | x :: l, k, t => by
    simp only [numberFrom, lk?]
    by_cases e : t = k
    · subst e; simp
    · have e' : Nat.beq t k = false := by rw [Bool.eq_false_iff]; exact fun hh => e (Nat.eq_of_beq_eq_true hh)
      rw [e', cond_false, lk_number l (k + 1) t]
      by_cases h : k ≤ t
      · rw [if_pos h, if_pos (by omega), show t - k = (t - (k + 1)) + 1 by omega]; simp
      · rw [if_neg h, if_neg (by omega)]
theorem lk_number0 {α : Type} (l : List α) (t : Nat) : lk? (numberFrom 0 l) t = l[t]? := by rw [lk_number]; simp

theorem locReal_spec {locs : List (Nat × Nat)} {bx : List (List V)} {j : Nat} {br : Real} (h : locReal locs bx j = some br) :
    ∃ p cs, locs[j]? = some p ∧ bx[j]? = some cs ∧ br = { base := some p, sz := cs.length, n := 1, cap := 1, gen := 0 } := by
  unfold locReal at h
  split at h
  · rename_i p cs h1 h2
    exact ⟨p, cs, h1, h2, (Option.some.inj h).symm⟩
  · cases h
theorem locReal_small {locs : List (Nat × Nat)} {bx : List (List V)} (h : bx.length ≤ BOX) (j : Nat) (br : Real) (hj : locReal locs bx j = some br) : j < BOX := by
  obtain ⟨p, cs, _, h2, _⟩ := locReal_spec hj
  have := (List.getElem?_eq_some_iff.1 h2).1
  omega

theorem Rel.enter {args : List V} {bx : List (List V)} {locs : List (Nat × Nat)} {xs : List Value} {w : World} {J : Nat → Nat → Prop} {n : Nat} (hb : bx.length ≤ BOX) (hlen : locs.length = bx.length) (hJ : ∀ b o, J b o → b < w.heap.size)
    (hx : AllRv w J (locReal locs bx) args xs)
    (hc : ∀ (j : Nat) (p : Nat × Nat) (cs : List V), locs[j]? = some p → bx[j]? = some cs → ∀ k, k < cs.length → (∃ y, w.cell? ⟨p.1, p.2 + k, none⟩ = some y ∧ Rv w J noRho (cs.getD k .undef) y) ∧ w.frozen? ⟨p.1, p.2 + k, none⟩ = false ∧ ¬ J p.1 (p.2 + k))
    (hdis : ∀ (j j' : Nat) (p p' : Nat × Nat) (cs cs' : List V) (b o : Nat), locs[j]? = some p → locs[j']? = some p' → bx[j]? = some cs → bx[j']? = some cs' → b = p.1 → p.2 ≤ o → o < p.2 + cs.length → b = p'.1 → p'.2 ≤ o → o < p'.2 + cs'.length → j = j')
    (hn : args.length ≤ n) :
    Rel n ⟨w, locReal locs bx, locReal_small hb, fun _ => none, fun _ => none, fun _ _ => False⟩ J (LocHas locs bx) (locReal locs bx) J { fr := numberFrom 0 args, tab := numberFrom 0 (bx.map Box.var) }
      { tmps := xs.toArray ++ Array.replicate (n - xs.toArray.size) Go.undef, defers := [] } w := by
  have hxl : xs.length = args.length := hx.1.symm
  have tab : ∀ d box, lk? (numberFrom 0 (bx.map Box.var)) d = some box → ∃ cs p, bx[d]? = some cs ∧ locs[d]? = some p ∧ box = .var cs ∧ locReal locs bx d = some { base := some p, sz := cs.length, n := 1, cap := 1, gen := 0 } := fun d box h => by
    rw [lk_number0, List.getElem?_map] at h
    cases e : bx[d]? with
    | none => rw [e] at h; cases h
    | some cs =>
      rw [e] at h; cases h
      have hd := (List.getElem?_eq_some_iff.1 e).1
      have hl : locs[d]? = some (locs[d]'(by omega)) := List.getElem?_eq_getElem _
      exact ⟨cs, _, rfl, hl, rfl, by unfold locReal; rw [hl, e]⟩
  have dom : ∀ d br, locReal locs bx d = some br → ∃ p cs, locs[d]? = some p ∧ bx[d]? = some cs ∧ br = { base := some p, sz := cs.length, n := 1, cap := 1, gen := 0 } ∧ lk? (numberFrom 0 (bx.map Box.var)) d = some (.var cs) := fun d br h => by
    obtain ⟨p, cs, h1, h2, h3⟩ := locReal_spec h
    exact ⟨p, cs, h1, h2, h3, by rw [lk_number0, List.getElem?_map, h2]; rfl⟩
  have has : ∀ (p : Nat × Nat) (cs : List V) (b o : Nat), ({ base := some p, sz := cs.length, n := 1, cap := 1, gen := 0 } : Real).has b o → b = p.1 ∧ p.2 ≤ o ∧ o < p.2 + cs.length := by
    rintro p cs b o ⟨o₀, h1, h2, h3⟩
    cases h1
    simp only [Nat.one_mul] at h3
    exact ⟨rfl, h2, h3⟩
  refine ⟨?_, rfl, ?_, ?_, ?_, ?_, ?_, ?_, ?_, ?_, hJ, fun _ _ h => h, fun _ _ h _ => .inl h, Keeps.refl _ _, ?_, (fun _ _ h => nomatch h), (fun _ _ h => nomatch h)⟩
  · intro t v hv
    rw [lk_number0] at hv
    have ht := (List.getElem?_eq_some_iff.1 hv).1
    have := hx.2 t ht
    rw [List.getD_eq_getElem?_getD, hv, Option.getD_some] at this
    have e : (xs.toArray ++ Array.replicate (n - xs.toArray.size) Go.undef).getD t Go.undef = xs.getD t Go.undef := by
      rw [Array.getD_eq_getD_getElem?, Array.getElem?_append_left (by simp; omega), List.getD_eq_getElem?_getD]; simp
    rw [e]; exact this
  · simp; omega
  · intro d box h
    obtain ⟨cs, p, h1, h2, rfl, h3⟩ := tab d box h
    refine ⟨_, h3, rfl, rfl, rfl, rfl, p.1, p.2, rfl, fun j hj => ?_⟩
    obtain ⟨⟨y, e1, e2⟩, _⟩ := hc d p cs h2 h1 j hj
    exact ⟨y, e1, e2.keep (fun _ _ _ => rfl) (fun _ _ h => h) (evo_no _)⟩
  · intro d br h
    obtain ⟨p, cs, _, _, _, h4⟩ := dom d br h
    exact ⟨_, h4⟩
  · intro d d' br br' b o _ _ hd hd' hh hh'
    obtain ⟨p, cs, h1, h2, rfl, _⟩ := dom d br hd
    obtain ⟨p', cs', h1', h2', rfl, _⟩ := dom d' br' hd'
    obtain ⟨e1, e2, e3⟩ := has p cs b o hh
    obtain ⟨f1, f2, f3⟩ := has p' cs' b o hh'
    exact hdis d d' p p' cs cs' b o h1 h1' h2 h2' e1 e2 e3 f1 f2 f3
  · intro d br b o _ hd hh
    obtain ⟨p, cs, h1, h2, rfl, _⟩ := dom d br hd
    obtain ⟨rfl, e2, e3⟩ := has p cs b o hh
    have := (hc d p cs h1 h2 (o - p.2) (by omega)).2.2
    rwa [show p.2 + (o - p.2) = o by omega] at this
  · intro d br b o _ hd hh
    obtain ⟨p, cs, h1, h2, rfl, _⟩ := dom d br hd
    obtain ⟨e1, e2, e3⟩ := has p cs b o hh
    exact .inr ⟨d, p, cs, h1, h2, e1, e2, e3⟩
  · intro d sh rows gen br b o h
    obtain ⟨cs, p, _, _, e, _⟩ := tab d _ h
    cases e
  · intro d br b o _ hd hh
    obtain ⟨p, cs, h1, h2, rfl, _⟩ := dom d br hd
    obtain ⟨rfl, e2, e3⟩ := has p cs b o hh
    obtain ⟨⟨y, f1, _⟩, f2, _⟩ := hc d p cs h1 h2 (o - p.2) (by omega)
    rw [show p.2 + (o - p.2) = o by omega] at f1 f2
    exact ⟨⟨y, f1⟩, f2⟩
  · intro d br h
    obtain ⟨p, cs, _, _, _, h4⟩ := dom d br h
    exact ⟨h, cs, h4⟩

section
variable {m : Nat} {P : Program}
theorem run_loadVar {t : TypeId} (ht : okT P t = true) {b p : Nat} {w : World} (val : Nat → Value) (hv : ∀ j, j < P.cellsOf t → w.cell? ⟨b, p + j, none⟩ = some (val j)) :
    (loadVar t ⟨b, p, none⟩).run P w = .ok (asX P t ((List.range (P.cellsOf t)).map val)) w := by
  have := run_loadAt (P := P) ht val hv
  simpa only [Instr.loadAt, Instr.sureAddr, pure_bind] using this

def retOne (tmps : Array Value) : ResultVar → Sem Value
  | .tmp t => pure (tmps.getD t undef)
  | .cell a t => do loadVar t (← asAddr (tmps.getD a undef))

theorem retVals_ok {E : Env} {S : St} : ∀ (rs : List ResultVar) {K : List V → Option R} {q : R}, retVals E S rs K = some q → ∃ vs, K vs = some q ∧ vs.length = rs.length ∧
    ∀ w₀ I₀ O₀ ρ I a w, Rel m w₀ I₀ O₀ ρ I S a w → ∃ xs, (rs.mapM (retOne a.tmps)).run E.P w = .ok xs w ∧ AllRv w I ρ vs xs
  | [], K, q, h => ⟨[], h, rfl, fun w₀ I₀ O₀ ρ I a w hr => ⟨[], rfl, rfl, fun i hi => by cases hi⟩⟩
  | .tmp t :: rs, K, q, h => by
    obtain ⟨vs, h1, h2, h3⟩ := retVals_ok rs h
    refine ⟨_, h1, by simp [h2], fun w₀ I₀ O₀ ρ I a w hr => ?_⟩
    obtain ⟨xs, g1, g2⟩ := h3 w₀ I₀ O₀ ρ I a w hr
    refine ⟨a.tmps.getD t undef :: xs, ?_, by simp [g2.1], fun i hi => ?_⟩
    · rw [List.mapM_cons]
      simp only [retOne, pure_bind, Sem.run_bind, g1, Result.andThen_ok]; rfl
    · cases i with
      | zero => exact eval_ok hr E.P 0 (.tmp t)
      | succ i => exact g2.2 i (by simpa using hi)
  | .cell a₀ t :: rs, K, q, h => by
    simp only [retVals] at h
    split at h
    · rename_i d i o g hg
      obtain ⟨ht, h⟩ := cond_none h
      obtain ⟨cs, h1, h2, h3⟩ := readAt_ok (m := m) h
      obtain ⟨vs, k1, k2, k3⟩ := retVals_ok rs h1
      refine ⟨_, k1, by simp [k2], fun w₀ I₀ O₀ ρ I a w hr => ?_⟩
      obtain ⟨xs, g1, g2⟩ := k3 w₀ I₀ O₀ ρ I a w hr
      have hv := eval_ok hr E.P 0 (.tmp a₀)
      simp only [St.eval] at hv
      rw [hg] at hv
      obtain ⟨b, p, val, e1, e2⟩ := h3 w₀ I₀ O₀ ρ I a w hr _ hv
      refine ⟨asX E.P t ((List.range (E.P.cellsOf t)).map val) :: xs, ?_, by simp [g2.1], fun i hi => ?_⟩
      · rw [List.mapM_cons]
        have e1' : a.tmps.getD a₀ undef = .pointer (some ⟨b, p, none⟩) := e1
        simp only [retOne, e1', asAddr, pure_bind, Sem.run_bind, run_loadVar ht val (fun j hj => (e2 j hj).1), g1, Result.andThen_ok]; rfl
      · cases i with
        | zero =>
          refine asV_ok ht ⟨by simp [h2], fun j hj => ?_⟩ h2
          rw [h2] at hj
          have : ((List.range (E.P.cellsOf t)).map val).getD j Go.undef = val j := by simp [List.getD_eq_getElem?_getD, hj]
          rw [this]
          exact (e2 j hj).2
        | succ i => exact g2.2 i (by simpa using hi)
    · cases h
end
end Go.Ev
