/- Variables that wait, and small changes of a state: lemmas, no condition. -/
import Derived.Test.YtajdamefabfoaaaDoorSo19
namespace Go.Ev
open Go Go.RowKit

theorem mapT_id {f : Nat → Box → Box} (hf : ∀ d b, f d b = b) : ∀ l, mapT f l = l
  | [] => rfl
  | (d, b) :: r => by rw [mapT, hf, mapT_id hf r]
theorem hide_nil (S : St) : S.hide [] = S := by
  have := mapT_id (f := fun d b => cond (memN d []) .dead b) (fun d b => rfl) S.tab
  unfold St.hide; rw [this]
theorem unhide_nil (S S' : St) : S.unhide [] S' = S' := by
  have := mapT_id (f := fun d b => cond (memN d []) (lk b S.tab d) b) (fun d b => rfl) S'.tab
  unfold St.unhide; rw [this]
theorem lk_dropF (ts : List Nat) : ∀ (l : List (Nat × V)) (t : Nat), lk? (dropF ts l) t = if t ∈ ts then none else lk? l t
  | [], t => by simp [dropF, lk?]
  | (e, v) :: r, t => by
    simp only [dropF]
    by_cases he : e ∈ ts
    · rw [(memN_mem e ts).2 he, cond_true, lk_dropF ts r t]
      by_cases ht : t ∈ ts
      · rw [if_pos ht, if_pos ht]
      · rw [if_neg ht, if_neg ht, lk?]
        have : Nat.beq t e = false := by rw [Bool.eq_false_iff]; exact fun h => ht (Nat.eq_of_beq_eq_true h ▸ he)
        rw [this]; rfl
    · rw [memN_not he, cond_false]
      simp only [lk?]
      cases h : Nat.beq t e with
      | true =>
        obtain rfl := Nat.eq_of_beq_eq_true h
        rw [if_neg he]; rfl
      | false => simp only [cond_false]; exact lk_dropF ts r t
theorem drop_tab (S : St) (ts : List Nat) : (S.drop ts).tab = S.tab := by cases ts <;> rfl
theorem drop_fr (S : St) (ts : List Nat) (t : Nat) : lk? (S.drop ts).fr t = if t ∈ ts then none else lk? S.fr t := by
  cases ts with
  | nil => simp [St.drop]
  | cons e r => exact lk_dropF (e :: r) S.fr t

section
variable {m : Nat} {w₀ : Base} {I₀ O₀ : Nat → Nat → Prop} {ρ : Nat → Option Real} {I : Nat → Nat → Prop} {S : St} {a : Act} {w : World}
theorem Rel.drop (h : Rel m w₀ I₀ O₀ ρ I S a w) (ts : List Nat) : Rel m w₀ I₀ O₀ ρ I (S.drop ts) a w := by
  obtain ⟨f1, f2, f3, f4, f5, f6, f7, f8, f9, f10, f11, f12, f13, f14, f15, f16, f17⟩ := h
  have e := drop_tab S ts
  refine ⟨fun t v hv => f1 t v ?_, f2, f3, by rw [e]; exact f4, by rw [e]; exact f5, ?_, ?_, ?_, by rw [e]; exact f9, ?_, f11, f12, f13, f14, by rw [e]; exact f15, by rw [e]; exact f16, f17⟩
  · rw [drop_fr] at hv
    by_cases ht : t ∈ ts
    · rw [if_pos ht] at hv; cases hv
    · rw [if_neg ht] at hv; exact hv
  all_goals unfold Live at *; rw [e]; assumption
theorem Rel.setTmp (h : Rel m w₀ I₀ O₀ ρ I S a w) {t : Nat} (ht : lk? S.fr t = none) (x : Value) : Rel m w₀ I₀ O₀ ρ I S (a.put (some t) x) w := by
  refine ⟨fun t' v' hv' => ?_, h.dfr, by simp [Act.put, h.size], h.tab, h.dom, h.apart, h.notI, h.org, h.slorg, h.alive, h.ilt, h.imono, h.iold, h.keeps, h.lent, h.hid, h.evo⟩
  have hne : t' ≠ t := fun e => by subst e; rw [ht] at hv'; cases hv'
  have := h.fr t' v' hv'
  simp only [Act.put]
  rw [Array.getD_eq_getD_getElem?, Array.getElem?_setIfInBounds, if_neg (by omega), ← Array.getD_eq_getD_getElem?]
  exact this
theorem Rel.bind (h : Rel m w₀ I₀ O₀ ρ I S a w) {t : Nat} {v : V} (hv : Rv w I ρ v (a.tmps.getD t Go.undef)) : Rel m w₀ I₀ O₀ ρ I (S.put (some t) v) a w := by
  refine ⟨fun t' v' hv' => ?_, h.dfr, h.size, h.tab, h.dom, h.apart, h.notI, h.org, h.slorg, h.alive, h.ilt, h.imono, h.iold, h.keeps, h.lent, h.hid, h.evo⟩
  simp only [St.put, St.set, lk?] at hv'
  by_cases e : t' = t
  · subst e
    simp at hv'
    subst hv'
    exact hv
  · have e' : Nat.beq t' t = false := by rw [Bool.eq_false_iff]; exact fun hh => e (Nat.eq_of_beq_eq_true hh)
    rw [e'] at hv'
    exact h.fr t' v' hv'
end

/-! ### The reckoned row -/
theorem pickB_spec {P : Program} {ops : Array Oper} {num : List (Nat × Oper)} {L : List Nat} {j : Nat} {oj : Oper} {C : List Nat} : ∀ (r : List (Nat × Oper)), pickB P ops num L r = some ((j, oj), C) →
    (j, oj) ∈ r ∧ reader P oj.op = true ∧ freeB ops num L j oj = true ∧ (noMem oj.op = true ∨ closedB num L j C = true)
  | [], h => by cases h
  | (i, o) :: r, h => by
    unfold pickB at h
    have rest : pickB P ops num L r = some ((j, oj), C) → (j, oj) ∈ (i, o) :: r ∧ reader P oj.op = true ∧ freeB ops num L j oj = true ∧ (noMem oj.op = true ∨ closedB num L j C = true) := fun h => by
      obtain ⟨e, f⟩ := pickB_spec r h; exact ⟨List.mem_cons_of_mem _ e, f⟩
    cases h1 : reader P o.op with
    | false => rw [h1] at h; exact rest h
    | true =>
      rw [h1] at h
      cases h2 : freeB ops num L i o with
      | false => rw [h2] at h; exact rest h
      | true =>
        rw [h2] at h
        cases h3 : noMem o.op with
        | true =>
          rw [h3] at h
          simp only [cond_true, Option.some.injEq, Prod.mk.injEq] at h
          obtain ⟨⟨rfl, rfl⟩, rfl⟩ := h
          exact ⟨List.mem_cons_self, h1, h2, .inl h3⟩
        | false =>
          rw [h3] at h
          cases h4 : closedB num L i (closeB i num (closeB i num L)) with
          | true =>
            rw [h4] at h
            simp only [cond_true, cond_false, Option.some.injEq, Prod.mk.injEq] at h
            obtain ⟨⟨rfl, rfl⟩, rfl⟩ := h
            exact ⟨List.mem_cons_self, h1, h2, .inr h4⟩
          | false => rw [h4] at h; exact rest h
theorem restB_spec {P : Program} {num : List (Nat × Oper)} : ∀ (r : List (Nat × Oper)), (∀ p, p ∈ r ↔ p ∈ (restB P num r).1 ∨ p ∈ (restB P num r).2) ∧ (∀ p, p ∈ (restB P num r).1 → waitB P num p.1 p.2 = true) ∧ ∀ p, p ∈ (restB P num r).2 → waitB P num p.1 p.2 = false
  | [] => ⟨fun p => by simp [restB], (fun p h => by cases h), (fun p h => by cases h)⟩
  | (i, o) :: r => by
    obtain ⟨h1, h2, h3⟩ := restB_spec (P := P) (num := num) r
    unfold restB
    cases h : waitB P num i o with
    | true =>
      simp only [cond_true]
      refine ⟨fun p => by simp only [List.mem_cons, h1 p, or_assoc], fun p hp => ?_, h3⟩
      rcases List.mem_cons.1 hp with rfl | hp
      · exact h
      · exact h2 p hp
    | false =>
      simp only [cond_false]
      refine ⟨fun p => by simp only [List.mem_cons, h1 p]; exact ⟨fun h => by rcases h with h | h | h <;> simp [h], fun h => by rcases h with h | h | h <;> simp [h]⟩, h2, fun p hp => ?_⟩
      rcases List.mem_cons.1 hp with rfl | hp
      · exact h
      · exact h3 p hp
theorem pickD_spec {P : Program} {num R : List (Nat × Oper)} {kd : Nat} {x : Nat × Oper} {A : List (Nat × Oper)} (h : pickD P num R = some (kd, x, A)) :
    x ∈ R ∧ (∀ p, p ∈ R → p = x ∨ p ∈ A) ∧ (∀ p, p ∈ A → p ∈ R ∧ waitB P num p.1 p.2 = true) ∧ ((kd = 1 ∧ waitB P num x.1 x.2 = true) ∨ (kd = 2 ∧ waitB P num x.1 x.2 = false)) := by
  obtain ⟨h1, h2, h3⟩ := restB_spec (P := P) (num := num) R
  unfold pickD at h
  split at h
  · rename_i A' x' he
    rw [he] at h1 h2 h3
    simp only [Option.some.injEq, Prod.mk.injEq] at h
    obtain ⟨rfl, rfl, rfl⟩ := h
    exact ⟨(h1 _).2 (.inr (by simp)), fun p hp => ((h1 p).1 hp).elim .inr fun e => .inl (by simpa using e), fun p hp => ⟨(h1 p).2 (.inl hp), h2 p hp⟩, .inr ⟨rfl, h3 _ (by simp)⟩⟩
  · rename_i x' A' he
    rw [he] at h1 h2 h3
    simp only [Option.some.injEq, Prod.mk.injEq] at h
    obtain ⟨rfl, rfl, rfl⟩ := h
    refine ⟨(h1 _).2 (.inl (by simp)), fun p hp => ((h1 p).1 hp).elim (fun e => by simpa using e) fun e => (by cases e), fun p hp => ⟨(h1 p).2 (.inl (List.mem_cons_of_mem _ hp)), h2 p (List.mem_cons_of_mem _ hp)⟩, .inl ⟨rfl, h2 _ (by simp)⟩⟩
  · cases h

/-- A doer's step. -/
theorem evStep_do {E : Env} {s : Step} {Pr : List (List Nat × List Nat)} {S : St} {k : V → List (List Nat × List Nat) → St → Option R} {q : R} (hk : s.kd = 2) (h : evStep E s Pr S k = some q) :
    presB S (hidOf s.L Pr) = true ∧ (evOp E (S.hide (hidOf s.L Pr)) s.o fun v S' => k v Pr (S.unhide (hidOf s.L Pr) S')) = some q := by
  unfold evStep at h
  rw [hk] at h
  simp only at h
  split at h
  · rename_i he
    rw [he]
    refine ⟨rfl, ?_⟩
    rw [hide_nil]
    simp only [unhide_nil]
    exact h
  · rename_i d H he
    rw [he]
    exact cond_none h

/-- One step of a row. -/
theorem evDraw_cons {E : Env} {ops : Array Oper} {s : Step} {l : List Step} {Pr : List (List Nat × List Nat)} {S : St} {K : St → Option R} {q : R} (h : evDraw E ops (s :: l) Pr S K = some q) {m : Nat} {w₀ : Base} {I₀ O₀ : Nat → Nat → Prop}
    {ρ : Nat → Option Real} {I : Nat → Nat → Prop} {a : Act} {w : World} (hr0 : Rel m w₀ I₀ O₀ ρ I (S.drop s.dr) a w) : ∃ S', Rel m w₀ I₀ O₀ ρ I S' a w ∧ S'.tab = S.tab ∧ (∀ t, t ∈ s.dr → lk? S'.fr t = none) ∧
      ((Region.wanted s.o (yielded ops a.tmps) = true ∧ (evStep E s Pr S' fun v Pr S => evDraw E ops l Pr (S.put s.o.dst v) K) = some q) ∨
       (Region.wanted s.o (yielded ops a.tmps) = false ∧ s.o.guard ≠ none ∧ evDraw E ops l Pr (S'.put s.o.dst (.tup [])) K = some q)) := by
  have ht0 := drop_tab S s.dr
  have hn0 : ∀ t, t ∈ s.dr → lk? (S.drop s.dr).fr t = none := fun t ht => by rw [drop_fr, if_pos ht]
  unfold evDraw at h
  generalize S.drop s.dr = S₀ at *
  simp only [vf_eq] at h
  split at h
  · rename_i hg
    exact ⟨S₀, hr0, ht0, hn0, .inl ⟨by simp [Region.wanted, hg], h⟩⟩
  · rename_i j want hg
    have hgn : s.o.guard ≠ none := by rw [hg]; simp
    split at h
    · rename_i t hs
      have hy : yielded ops a.tmps j = match a.tmps[t]? with | some (.bool b) => some b | _ => none := by
        unfold slotOf at hs
        unfold yielded
        split at hs
        · rename_i oj hoj; rw [hoj]; simp only [Option.bind_some, hs]; cases a.tmps[t]? with | none => rfl | some u => cases u <;> rfl
        · cases hs
      have hw : ∀ b, a.tmps[t]? = some (.bool b) → Region.wanted s.o (yielded ops a.tmps) = (b == want) := fun b hb => by
        simp only [Region.wanted, hg]
        rw [hy, hb]; cases b <;> cases want <;> rfl
      split at h
      · rename_i b hb
        have hlk := get_some hb (by simp)
        have hbt := tmps_bool (hr0.fr t _ hlk).bool_inv
        have hrs := hr0.reset hlk
        have hn1 : ∀ v, ∀ t', t' ∈ s.dr → lk? (S₀.set t v).fr t' = none := fun v t' ht' => by
          have hne : t' ≠ t := fun e => by subst e; rw [hn0 t' ht'] at hlk; cases hlk
          simp only [St.set, lk?]
          rw [show Nat.beq t' t = false by rw [Bool.eq_false_iff]; exact fun hh => hne (Nat.eq_of_beq_eq_true hh)]
          exact hn0 t' ht'
        cases b with
        | true =>
          simp only [cond_true] at h
          cases want with
          | true => exact ⟨_, hrs, ht0, hn1 _, .inl ⟨by rw [hw _ hbt]; rfl, h⟩⟩
          | false => exact ⟨_, hrs, ht0, hn1 _, .inr ⟨by rw [hw _ hbt]; rfl, hgn, h⟩⟩
        | false =>
          simp only [cond_false] at h
          cases want with
          | true => exact ⟨_, hrs, ht0, hn1 _, .inr ⟨by rw [hw _ hbt]; rfl, hgn, h⟩⟩
          | false => exact ⟨_, hrs, ht0, hn1 _, .inl ⟨by rw [hw _ hbt]; rfl, h⟩⟩
      · rename_i hb
        have hlk := get_some hb (by simp)
        obtain ⟨xs, hx, hxl, _⟩ := (hr0.fr t _ hlk).tup_inv
        have hxs : xs = [] := by cases xs with | nil => rfl | cons _ _ => cases hxl
        have hn : yielded ops a.tmps j = none := by
          rw [hy]
          cases e : a.tmps[t]? with
          | none => rfl
          | some u =>
            rw [Array.getD_eq_getD_getElem?, e, Option.getD_some, hxs] at hx
            subst hx; rfl
        exact ⟨S₀, hr0, ht0, hn0, .inr ⟨by simp only [Region.wanted, hg, hn]; cases want <;> simp, hgn, h⟩⟩
      · cases h
    · cases h
end Go.Ev
