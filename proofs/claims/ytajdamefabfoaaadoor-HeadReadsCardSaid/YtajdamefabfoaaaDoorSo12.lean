/- A row of operations in the listed order: lemmas; the callees' soundness is a premise. -/
import Derived.Test.YtajdamefabfoaaaDoorSo11
namespace Go.Ev
open Go Go.RowKit

section
variable {m : Nat}

theorem get_some {S : St} {t : Nat} {v : V} (h : S.get t = v) (hv : v ≠ .undef) : lk? S.fr t = some v := by
  unfold St.get at h
  rw [lk_getD] at h
  cases e : lk? S.fr t with
  | none => rw [e] at h; exact absurd h.symm hv
  | some u => rw [e] at h; rw [← h]; rfl
theorem tmps_bool {a : Act} {t : Nat} {b : Bool} (h : a.tmps.getD t Go.undef = .bool b) : a.tmps[t]? = some (.bool b) := by
  rw [Array.getD_eq_getD_getElem?] at h
  cases e : a.tmps[t]? with
  | none => rw [e] at h; cases h
  | some u => rw [e] at h; rw [← h]; rfl
theorem Rel.reset {S : St} {w₀ : Base} {I₀ O₀ : Nat → Nat → Prop} {ρ : Nat → Option Real} {I : Nat → Nat → Prop} {a : Act} {w : World} (h : Rel m w₀ I₀ O₀ ρ I S a w) {t : Nat} {v : V} (ht : lk? S.fr t = some v) :
    Rel m w₀ I₀ O₀ ρ I (S.set t v) a w := by
  refine ⟨fun t' v' hv' => ?_, h.dfr, h.size, h.tab, h.dom, h.apart, h.notI, h.org, h.slorg, h.alive, h.ilt, h.imono, h.iold, h.keeps, h.lent, h.hid, h.evo⟩
  simp only [St.set, lk?] at hv'
  by_cases e : t' = t
  · subst e
    simp at hv'
    subst hv'
    exact h.fr t' _ ht
  · have e' : Nat.beq t' t = false := by rw [Bool.eq_false_iff]; exact fun hh => e (Nat.eq_of_beq_eq_true hh)
    rw [e'] at hv'
    exact h.fr t' v' hv'

theorem evOps_ok {E : Env} (hG : ∀ f D, E.G f = some D → FnOk E.P f D) (ops : Array Oper) {K : St → Option R} {q : R} {w₀ : Base} {I₀ O₀ : Nat → Nat → Prop} {Q : Exit → Act → World → Prop}
    (hgd : Good E.P w₀.toWorld I₀ O₀) (hK : ∀ S a w ρ I, Rel m w₀ I₀ O₀ ρ I S a w → K S = some q → Q .normal a w) :
    ∀ (l : List Oper) (k n : Nat), k + n = ops.size → l = ops.toList.drop k → (∀ o ∈ l, ∀ d, o.dst = some d → d < m) → ∀ (S : St), evOps E ops l S K = some q →
      ∀ a w ρ I, Rel m w₀ I₀ O₀ ρ I S a w → wpOps E.P ops Q (List.range' k n) a w
  | [], k, n, hkn, hl, _, S, h, a, w, ρ, I, hr => by
    have : n = 0 := by
      have := congrArg List.length hl
      simp at this; omega
    subst this
    exact hK S a w ρ I hr h
  | o :: l, k, 0, hkn, hl, _, S, h, a, w, ρ, I, hr => by
    have := congrArg List.length hl
    simp at this; omega
  | o :: l, k, n + 1, hkn, hl, hd, S, h, a, w, ρ, I, hr => by
    have hk : k < ops.toList.length := by simp; omega
    rw [List.drop_eq_getElem_cons hk] at hl
    obtain ⟨rfl, hl'⟩ := List.cons.inj hl
    clear hl
    have ho : ops[k]? = some (ops.toList[k]) := by simp
    generalize ops.toList[k] = o at *
    have next : ∀ (S' : St), evOps E ops l S' K = some q → ∀ a w ρ I, Rel m w₀ I₀ O₀ ρ I S' a w → wpOps E.P ops Q (List.range' (k + 1) n) a w := fun S' h' a w ρ I hr' =>
      evOps_ok hG ops hgd hK l (k + 1) n (by omega) hl' (fun o ho => hd o (List.mem_cons_of_mem _ ho)) S' h' a w ρ I hr'
    have hdst := hd o List.mem_cons_self
    have run : ∀ (S' : St), (evOp E S' o fun v S => evOps E ops l (S.put o.dst v) K) = some q → ∀ w ρ I, Rel m w₀ I₀ O₀ ρ I S' a w →
        o.wp E.P a w (wpOps E.P ops Q (List.range' (k + 1) n)) Q := fun S' h' w ρ I hr' => by
      obtain ⟨v, S₁, h1, _, h3⟩ := evOp_ok (m := m) hG h'
      exact h3 w₀ I₀ O₀ ρ I a w hr' hgd _ _ fun x w' ρ' I' g1 g2 => next _ h1 _ _ ρ' I' (g1.put g2 o.dst hdst)
    have skip : ∀ (S' : St), evOps E ops l (S'.put o.dst (.tup [])) K = some q → Rel m w₀ I₀ O₀ ρ I S' a w → wpOps E.P ops Q (List.range' (k + 1) n) (a.put o.dst Go.undef) w := fun S' h' hr' =>
      next _ h' _ _ ρ I (hr'.put (.tup [] [] rfl fun i hi => by cases hi) o.dst hdst)
    rw [List.range'_succ]
    simp only [wpOps, ho]
    unfold evOps at h
    simp only [vf_eq] at h
    split at h
    · rename_i hg
      rw [if_pos (by simp [Region.wanted, hg])]
      exact .inl (run S h w ρ I hr)
    · rename_i j want hg
      split at h
      · rename_i t hs
        have hy : yielded ops a.tmps j = match a.tmps[t]? with | some (.bool b) => some b | _ => none := by
          unfold slotOf at hs
          unfold yielded
          split at hs
          · rename_i oj hoj; rw [hoj]; simp only [Option.bind_some, hs]; cases a.tmps[t]? with | none => rfl | some u => cases u <;> rfl
          · cases hs
        have hw : ∀ b, a.tmps[t]? = some (.bool b) → Region.wanted o (yielded ops a.tmps) = (b == want) := fun b hb => by
          simp only [Region.wanted, hg]
          rw [hy, hb]; cases b <;> cases want <;> rfl
        split at h
        · rename_i b hb
          have hlk := get_some hb (by simp)
          have hbt := tmps_bool (hr.fr t _ hlk).bool_inv
          have hrs := hr.reset hlk
          cases b with
          | true =>
            simp only [cond_true] at h
            cases want with
            | true => rw [if_pos (by rw [hw _ hbt]; rfl)]; exact .inl (run _ h w ρ I hrs)
            | false => rw [if_neg (by rw [hw _ hbt]; simp)]; exact skip _ h hrs
          | false =>
            simp only [cond_false] at h
            cases want with
            | true => rw [if_neg (by rw [hw _ hbt]; simp)]; exact skip _ h hrs
            | false => rw [if_pos (by rw [hw _ hbt]; rfl)]; exact .inl (run _ h w ρ I hrs)
        · rename_i hb
          have hlk := get_some hb (by simp)
          obtain ⟨xs, hx, hxl, _⟩ := (hr.fr t _ hlk).tup_inv
          have hxs : xs = [] := by cases xs with | nil => rfl | cons _ _ => cases hxl
          have hn : yielded ops a.tmps j = none := by
            rw [hy]
            cases e : a.tmps[t]? with
            | none => rfl
            | some u =>
              rw [Array.getD_eq_getD_getElem?, e, Option.getD_some, hxs] at hx
              subst hx; rfl
          rw [if_neg (by simp only [Region.wanted, hg, hn]; cases want <;> simp)]
          exact skip S h hr
        · cases h
      · cases h
end
end Go.Ev
