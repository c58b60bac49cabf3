/- Code: lemmas; the callees' and the loops' soundness are premises. -/
import Derived.Test.YtajdamefabfoaaaDoorSo22
import Derived.LoopN
import Derived.Scope
namespace Go.Ev
open Go Go.RowKit

def Ex.to : Ex → Exit
  | .normal => .normal | .exit j => .exit j | .ret => .ret

/-- What a piece of code is to do: where the evaluator goes on, there the post-condition holds. -/
def CodeOk (P : Program) (m : Nat) (c : Code) (S : St) (K : Ex → St → Option R) (q : R) : Prop :=
  ∀ (w₀ : Base), (w₀.hid = (fun _ => none) ∧ w₀.ev = fun _ => none) → ∀ I₀ O₀ ρ I a w, Rel m w₀ I₀ O₀ ρ I S a w → Good P w₀.toWorld I₀ O₀ → ∀ Q : Exit → Act → World → Prop,
    (∀ e S' a' w' ρ' I', Rel m w₀ I₀ O₀ ρ' I' S' a' w' → K e S' = some q → Q e.to a' w') → c.wp P Q a w
def LoopOk (E : Env) (m : Nat) (id : Nat) (c : Code) : Prop := ∀ F, E.L id = some F → ∀ S K q, F S K = some q → CodeOk E.P m (.loop c) S K q
/-- A loop's head keeps what it keeps. -/
def CanonOk (m : Nat) (S S' : St) : Prop := ∀ (w₀ : Base), (w₀.hid = (fun _ => none) ∧ w₀.ev = fun _ => none) → ∀ I₀ O₀ ρ I a w, Rel m w₀ I₀ O₀ ρ I S a w → ∃ ρ', Rel m w₀ I₀ O₀ ρ' I S' a w

theorem evCode_ok {E : Env} {m : Nat} (hG : ∀ f D, E.G f = some D → FnOk E.P f D)
    (hcan : ∀ keep S (K : St → Option R) q, canon keep S K = some q → ∃ S', K S' = some q ∧ CanonOk m S S') :
    ∀ (c : Code), (∀ p ∈ loopsOf c, LoopOk E m p.1 p.2) → dstsOk m c = true → ∀ S K q, evCode E c S K = some q → CodeOk E.P m c S K q
  | .skip, _, _, S, K, q, h => fun w₀ hz I₀ O₀ ρ I a w hr hgd Q hq => wp_skip (hq .normal S a w ρ I hr h)
  | .region id ops false, _, hd, S, K, q, h => fun w₀ hz I₀ O₀ ρ I a w hr hgd Q hq => by
    refine wp_region ?_
    have := evOps_ok (m := m) hG ops (K := K .normal) (q := q) (Q := Q) (w₀ := w₀) (I₀ := I₀) (O₀ := O₀) hgd (fun S a w ρ I hr hk => hq .normal S a w ρ I hr hk) ops.toList 0 ops.size (by omega) (by simp)
      (fun o ho d hd' => by
        simp only [dstsOk] at hd
        have := List.all_eq_true.1 hd o ho
        rw [hd'] at this
        exact Nat.le_of_ble_eq_true this) S h a w ρ I hr
    rwa [← List.range_eq_range'] at this
  | .seq x y, hl, hd, S, K, q, h => fun w₀ hz I₀ O₀ ρ I a w hr hgd Q hq => by
    obtain ⟨d1, d2⟩ := cond_and hd
    simp only [evCode] at h
    refine wp_seq (evCode_ok hG hcan x (fun p hp => hl p (by simp [loopsOf, hp])) d1 S _ q h w₀ hz I₀ O₀ ρ I a w hr hgd _ fun e S' a' w' ρ' I' hr' hk => ?_)
    cases e with
    | normal => exact evCode_ok hG hcan y (fun p hp => hl p (by simp [loopsOf, hp])) d2 S' K q hk w₀ hz I₀ O₀ ρ' I' a' w' hr' hgd Q hq
    | exit j => exact hq _ _ _ _ _ _ hr' hk
    | ret => exact hq _ _ _ _ _ _ hr' hk
  | .cond c x y, hl, hd, S, K, q, h => fun w₀ hz I₀ O₀ ρ I a w hr hgd Q hq => by
    obtain ⟨d1, d2⟩ := cond_and hd
    simp only [evCode] at h
    split at h
    · rename_i t hc
      have hv := eval_ok hr E.P 0 c
      rw [hc] at hv
      have hv := hv.bool_inv
      cases t with
      | true => exact wp_cond_true hv (evCode_ok hG hcan x (fun p hp => hl p (by simp [loopsOf, hp])) d1 S K q h w₀ hz I₀ O₀ ρ I a w hr hgd Q hq)
      | false => exact wp_cond_false hv (evCode_ok hG hcan y (fun p hp => hl p (by simp [loopsOf, hp])) d2 S K q h w₀ hz I₀ O₀ ρ I a w hr hgd Q hq)
    · cases h
  | .block id x, hl, hd, S, K, q, h => fun w₀ hz I₀ O₀ ρ I a w hr hgd Q hq => by
    simp only [evCode] at h
    refine wp_block (evCode_ok hG hcan x (fun p hp => hl p (by simp [loopsOf, hp])) hd S _ q h w₀ hz I₀ O₀ ρ I a w hr hgd _ fun e S' a' w' ρ' I' hr' hk => ?_)
    cases e with
    | normal => exact hq _ _ _ _ _ _ hr' hk
    | exit j =>
      simp only [Ex.to, Exit.inBlock]
      rcases cond_some hk with ⟨e, hk⟩ | ⟨e, hk⟩
      · rw [if_pos (Nat.eq_of_beq_eq_true e)]; exact hq _ _ _ _ _ _ hr' hk
      · rw [if_neg (fun e' => by rw [e'] at e; simp at e)]; exact hq _ _ _ _ _ _ hr' hk
    | ret => exact hq _ _ _ _ _ _ hr' hk
  | .loop x, hl, hd, S, K, q, h => fun w₀ hz I₀ O₀ ρ I a w hr hgd Q hq => by
    simp only [evCode] at h
    split at h
    · rename_i id hid
      split at h
      · rename_i F hF
        obtain ⟨S', h1, h2⟩ := hcan _ _ _ _ h
        obtain ⟨ρ', hr'⟩ := h2 w₀ hz I₀ O₀ ρ I a w hr
        exact hl (id, x) (by simp [loopsOf, hid]) F hF S' K q h1 w₀ hz I₀ O₀ ρ' I a w hr' hgd Q hq
      · cases h
    · cases h
  | .exit id, _, _, S, K, q, h => fun w₀ hz I₀ O₀ ρ I a w hr hgd Q hq => wp_exit (hq (.exit id) S a w ρ I hr h)
  | .scope x, hl, hd, S, K, q, h => fun w₀ hz I₀ O₀ ρ I a w hr hgd Q hq => by
    simp only [evCode] at h
    refine wp_scope_straight (evCode_ok hG hcan x (fun p hp => hl p (by simp [loopsOf, hp])) hd S _ q h w₀ hz I₀ O₀ ρ I a w hr hgd _ fun e S' a' w' ρ' I' hr' hk => ?_)
    cases e <;> exact hq _ _ _ _ _ _ hr' hk
  | .label l, _, _, S, K, q, h => fun w₀ hz I₀ O₀ ρ I a w hr hgd Q hq => wp_label (hq .normal S a w ρ I hr h)
  | .ret, _, _, S, K, q, h => fun w₀ hz I₀ O₀ ρ I a w hr hgd Q hq => wp_ret (hq .ret S a w ρ I hr h)
  | .region id ops true, _, hd, S, K, q, h => fun w₀ hz I₀ O₀ ρ I a w hr hgd Q hq => by
    simp only [evCode] at h
    obtain ⟨hc, h⟩ := cond_none h
    obtain ⟨hm, hsel⟩ := cond_and hc
    split at h
    · rename_i l hs
      refine draw_ok (m := m) hG hm hsel (fun o ho d hd' => ?_) hs h hr hgd (fun S a w ρ I hr hk => hq .normal S a w ρ I hr hk)
      simp only [dstsOk] at hd
      have := List.all_eq_true.1 hd o ho
      rw [hd'] at this
      exact Nat.le_of_ble_eq_true this
    · cases h
  | .goto l, _, _, S, K, q, h => by cases h

/-- A loop that comes to its end within some number of rounds. -/
theorem iterL_rounds {E : Env} {m : Nat} (hG : ∀ f D, E.G f = some D → FnOk E.P f D)
    (hcan : ∀ keep S (K : St → Option R) q, canon keep S K = some q → ∃ S', K S' = some q ∧ CanonOk m S S')
    {id : Nat} {c : Code} (hl : ∀ p ∈ loopsOf c, LoopOk E m p.1 p.2) (hd : dstsOk m c = true) {w₀ : Base} (hz : w₀.hid = (fun _ => none) ∧ w₀.ev = fun _ => none) {I₀ O₀ : Nat → Nat → Prop} (hgd : Good E.P w₀.toWorld I₀ O₀) {Q : Exit → Act → World → Prop} {K : Ex → St → Option R} {q : R}
    (hq : ∀ e S' a' w' ρ' I', Rel m w₀ I₀ O₀ ρ' I' S' a' w' → K e S' = some q → Q e.to a' w') :
    ∀ (n : Nat) (S : St), iterL E id c n S K = some q → ∀ ρ I a w, Rel m w₀ I₀ O₀ ρ I S a w → Code.rounds E.P c Q n a w
  | 0, S, h => by cases h
  | n + 1, S, h => fun ρ I a w hr => by
    rw [rounds_succ]
    simp only [iterL, evBody] at h
    refine evCode_ok hG hcan c hl hd S _ q h w₀ hz I₀ O₀ ρ I a w hr hgd _ fun e S' a' w' ρ' I' hr' hk => ?_
    obtain ⟨S₂, h1, h2⟩ := hcan _ _ _ _ hk
    obtain ⟨ρ₂, hr₂⟩ := h2 w₀ hz I₀ O₀ ρ' I' a' w' hr'
    cases e with
    | normal => exact iterL_rounds hG hcan hl hd hz hgd hq n S₂ h1 ρ₂ I' a' w' hr₂
    | exit j => exact hq _ _ _ _ _ _ hr₂ h1
    | ret => exact hq _ _ _ _ _ _ hr₂ h1
theorem iterL_ok {E : Env} {m : Nat} (hG : ∀ f D, E.G f = some D → FnOk E.P f D)
    (hcan : ∀ keep S (K : St → Option R) q, canon keep S K = some q → ∃ S', K S' = some q ∧ CanonOk m S S')
    {id : Nat} {c : Code} (hl : ∀ p ∈ loopsOf c, LoopOk E m p.1 p.2) (hd : dstsOk m c = true) (h : ∀ F, E.L id = some F → ∀ S K q, F S K = some q → ∃ n, iterL E id c n S K = some q) : LoopOk E m id c :=
  fun F hF S K q hf w₀ hz I₀ O₀ ρ I a w hr hgd Q hq => by
    obtain ⟨n, hn⟩ := h F hF S K q hf
    exact wp_loop_rounds n (iterL_rounds hG hcan hl hd hz hgd hq n S hn ρ I a w hr)
end Go.Ev
