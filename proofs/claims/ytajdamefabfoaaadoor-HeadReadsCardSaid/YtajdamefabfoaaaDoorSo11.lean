/- Every operation, and a row of operations in the listed order: lemmas; the callees' soundness is a premise. -/
import Derived.Test.YtajdamefabfoaaaDoorSo10
namespace Go.Ev
open Go Go.RowKit

section
variable {m : Nat} {S : St} {dst : Option Tmp} {ty : TypeId} {pos : String} {after : Array Edge} {guard : Option (Nat × Bool)}

theorem AllRv.append {w : World} {I : Nat → Nat → Prop} {ρ : Nat → Option Real} {vs vs' : List V} {xs xs' : List Value} (h : AllRv w I ρ vs xs) (h' : AllRv w I ρ vs' xs') : AllRv w I ρ (vs ++ vs') (xs ++ xs') := by
  refine ⟨by simp [h.1, h'.1], fun i hi => ?_⟩
  simp only [List.getD_eq_getElem?_getD]
  by_cases hl : i < vs.length
  · rw [List.getElem?_append_left hl, List.getElem?_append_left (by rw [← h.1]; exact hl), ← List.getD_eq_getElem?_getD, ← List.getD_eq_getElem?_getD]
    exact h.2 i hl
  · rw [List.getElem?_append_right (by omega), List.getElem?_append_right (by rw [← h.1]; omega), ← h.1, ← List.getD_eq_getElem?_getD, ← List.getD_eq_getElem?_getD]
    exact h'.2 _ (by rw [List.length_append] at hi; omega)
theorem AllRv.args {w₀ : Base} {I₀ O₀ : Nat → Nat → Prop} {ρ : Nat → Option Real} {I : Nat → Nat → Prop} {a : Act} {w : World} {P : Program} (hr : Rel m w₀ I₀ O₀ ρ I S a w) :
    ∀ (xs : List Operand) (ts : List TypeId), xs.length = ts.length → AllRv w I ρ (xs.zipWith (fun x t => S.eval P t x) ts) (xs.map a.eval)
  | [], [], _ => ⟨rfl, fun i hi => by cases hi⟩
  | [], _ :: _, h => by cases h
  | _ :: _, [], h => by cases h
  | x :: xs, t :: ts, h => by
    obtain ⟨h1, h2⟩ := AllRv.args (P := P) hr xs ts (by simpa using h)
    refine ⟨by simp only [List.zipWith_cons_cons, List.length_cons, List.map_cons, h1], fun i hi => ?_⟩
    cases i with
    | zero => exact eval_ok hr P t x
    | succ i => exact h2 i (by simpa using hi)

/-- An operation that leaves what there is as it is. -/
def OpMild (P : Program) (m : Nat) (S : St) (o : Oper) (v : V) (S' : St) (M : Prop) : Prop :=
  S'.fr = S.fr ∧ ∀ w₀ I₀ O₀ ρ I a w, Rel m w₀ I₀ O₀ ρ I S a w → Good P w₀.toWorld I₀ O₀ → ∀ (next : Act → World → Prop) (Q : Exit → Act → World → Prop),
    (∀ x w' ρ' I', Rel m w₀ I₀ O₀ ρ' I' S' a w' → Rv w' I' ρ' v x → (M → Keeps (fun _ _ => False) w w') → next (a.put o.dst x) w') → o.wp P a w next Q
theorem OpMild.ok {P : Program} {m : Nat} {S S' : St} {o : Oper} {v : V} {M : Prop} (h : OpMild P m S o v S' M) : OpOk P m S o v S' :=
  ⟨h.1, fun w₀ I₀ O₀ ρ I a w hr hgd next Q hn => h.2 w₀ I₀ O₀ ρ I a w hr hgd next Q fun x w' ρ' I' h1 h2 _ => hn x w' ρ' I' h1 h2⟩
theorem ok_callMild {E : Env} (hG : ∀ f D, E.G f = some D → FnOk E.P f D) {c : Call} {fo : Operand} (hc : c.callee = .value fo) {f : FuncId} {first caps : List V} (hf : S.eval E.P ty fo = .fn f first caps)
    (hl : c.args.toList.length = c.argTypes.toList.length) {ts : List TypeId} {K : V → St → Option R} {q : R}
    (h : callFn E f dst (first ++ c.args.toList.zipWith (fun x t => S.eval E.P t x) c.argTypes.toList ++ caps) ts S K = some q) :
    ∃ v S', K v S' = some q ∧ OpMild E.P m S ⟨dst, .call c, ty, pos, after, guard⟩ v S' (noPtrL (first ++ c.args.toList.zipWith (fun x t => S.eval E.P t x) c.argTypes.toList ++ caps) = true) := by
  obtain ⟨v, S', h1, h2, h3⟩ := callFn_ok (m := m) hG h
  refine ⟨v, S', h1, h2, fun w₀ I₀ O₀ ρ I a w hr hgd next Q hn => ?_⟩
  have hv := eval_ok hr E.P ty fo
  rw [hf] at hv
  have harg := AllRv.args (P := E.P) hr c.args.toList c.argTypes.toList hl
  generalize hfe : a.eval fo = fv at hv
  cases hv with
  | dat hx => cases hx
  | fn _ _ _ xs ys l1 r1 l2 r2 =>
  have hall := h3 w₀ I₀ O₀ ρ I a w hr hgd (xs ++ c.args.toList.map a.eval ++ ys) ((AllRv.append ⟨l1, r1⟩ harg).append ⟨l2, r2⟩)
  have he : (execOp a.eval ⟨dst, .call c, ty, pos, after, guard⟩).run E.P w = (callFunc f (xs ++ c.args.toList.map a.eval ++ ys).toArray).run E.P w := by
    have e : (xs ++ c.args.toList.map a.eval ++ ys).toArray = (xs.toArray ++ c.args.map a.eval) ++ ys.toArray := by
      apply Array.toList_inj.1; simp
    rw [e]
    simp only [execOp, resolve, hc, hfe, Deferred.ofValue, pure_bind, invoke]
  unfold Oper.wp
  rcases hall with ⟨g1, g2⟩ | ⟨v', w', g1, ρ', I', g2, g3, g4⟩
  · rw [he, g1, Oper.upon_enter]
    refine g2.mono fun e w' ⟨v', e1, ρ', I', g2, g3, g4⟩ => ?_
    subst e1
    exact hn v' w' ρ' I' g2 g3 g4
  · rw [he, g1, Oper.upon_value]
    exact hn v' w' ρ' I' g2 g3 g4

theorem ok_callValue {E : Env} (hG : ∀ f D, E.G f = some D → FnOk E.P f D) {c : Call} {fo : Operand} (hc : c.callee = .value fo) {f : FuncId} {first caps : List V} (hf : S.eval E.P ty fo = .fn f first caps)
    (hl : c.args.toList.length = c.argTypes.toList.length) {ts : List TypeId} {K : V → St → Option R} {q : R}
    (h : callFn E f dst (first ++ c.args.toList.zipWith (fun x t => S.eval E.P t x) c.argTypes.toList ++ caps) ts S K = some q) :
    ∃ v S', K v S' = some q ∧ OpOk E.P m S ⟨dst, .call c, ty, pos, after, guard⟩ v S' := by
  obtain ⟨v, S', h1, h2⟩ := ok_callMild (m := m) hG hc hf hl h
  exact ⟨v, S', h1, h2.ok⟩

theorem cond_and {a b : Bool} (h : cond a b false = true) : a = true ∧ b = true := by cases a <;> cases b <;> simp_all

theorem evOp_ok {E : Env} (hG : ∀ f D, E.G f = some D → FnOk E.P f D) {o : Oper} {K : V → St → Option R} {q : R} (h : evOp E S o K = some q) :
    ∃ v S', K v S' = some q ∧ OpOk E.P m S o v S' := by
  obtain ⟨dst, op, ty, pos, after, guard⟩ := o
  unfold evOp at h
  simp only at h
  split at h
  all_goals rename_i hop; try subst hop
  · exact ⟨_, _, h, (ok_move _).ok⟩
  · exact ⟨_, _, h, (ok_assign _).ok⟩
  · split at h
    · rename_i t hc
      split at h
      · rename_i hx hy
        exact ⟨_, _, h, (ok_pick_bool hc hx hy).ok⟩
      · cases t with
        | true => exact ⟨_, _, h, (ok_pick hc ⟨fun _ => rfl, fun e => nomatch e⟩).ok⟩
        | false => exact ⟨_, _, h, (ok_pick hc ⟨(fun e => nomatch e), fun _ => rfl⟩).ok⟩
    · cases h
  · split at h
    · exact ok_alloc h
    · cases h
  · split at h
    · exact ok_box h
    · cases h
  · split at h
    · rename_i hu
      obtain ⟨h1, h⟩ := cond_none h
      split at h
      · rename_i hb
        have h1' := cond_and h1
        exact ⟨_, _, h, (ok_build hu h1'.1 h1'.2 hb).ok⟩
      · cases h
    · cases h
  · split at h
    · rename_i hu
      obtain ⟨h1, h⟩ := cond_none h
      exact ok_buildSlice hu h1 h
    · cases h
  · obtain ⟨h1, h⟩ := cond_none h
    obtain ⟨v, h2, h3⟩ := ok_load (S := S) (K := fun v => K v S) h1 h
    exact ⟨v, _, h2, h3.ok⟩
  · exact ok_store h
  · split at h
    · rename_i hx; exact ⟨_, _, h, (ok_nilCheck hx (.inl ⟨_, _, _, _, rfl⟩)).ok⟩
    · rename_i hx; exact ⟨_, _, h, (ok_nilCheck hx (.inr (.inl ⟨_, rfl⟩))).ok⟩
    · rename_i hx; exact ⟨_, _, h, (ok_nilCheck hx (.inr (.inr ⟨_, _, _, rfl⟩))).ok⟩
    · cases h
  · obtain ⟨v, h2, h3⟩ := ok_binOp h
    exact ⟨v, _, h2, h3.ok⟩
  · obtain ⟨v, h2, h3⟩ := ok_unOp h
    exact ⟨v, _, h2, h3.ok⟩
  · obtain ⟨v, h2, h3, _⟩ := ok_convert h
    exact ⟨v, _, h2, h3⟩
  · exact ⟨_, _, h, (ok_makeFunc).ok⟩
  · obtain ⟨v, S', h2, h3, _⟩ := ok_slice h
    exact ⟨v, S', h2, h3⟩
  · split at h
    · rename_i hf
      obtain ⟨v, h2, h3⟩ := ok_fieldAddr (S := S) (K := fun v => K v S) hf h
      exact ⟨v, _, h2, h3.ok⟩
    · cases h
  · split at h
    · rename_i hf hx
      obtain ⟨h1, h⟩ := cond_none h
      obtain ⟨h2, h⟩ := cond_none h
      obtain ⟨h3, h⟩ := none_cond h
      exact ⟨_, _, h, (ok_field hf hx h1 (Nat.le_of_ble_eq_true h2) (fun e => by rw [e] at h3; cases h3)).ok⟩
    · cases h
  · obtain ⟨v, h2, h3⟩ := ok_indexAddr h
    exact ⟨v, _, h2, h3.ok⟩
  · unfold ints at h
    split at h
    · rename_i hi
      split at h
      · rename_i hu hx
        obtain ⟨h1, h⟩ := cond_none h
        exact ⟨_, _, h, (ok_index_str hu hx hi (of_decide_eq_true h1)).ok⟩
      · cases h
    · cases h
  · split at h
    · rename_i hx
      split at h
      · rename_i hv; exact ⟨_, _, h, (ok_extract hx hv).ok⟩
      · cases h
    · cases h
  · split at h
    · rename_i hu
      unfold ints at h
      split at h
      · rename_i hl
        split at h
        · rename_i hc
          obtain ⟨h1, h⟩ := cond_none h
          obtain ⟨h2, h⟩ := cond_none h
          exact ok_make hu hl hc h1 (of_decide_eq_true h2) h
        · cases h
      · cases h
    · cases h
  · rename_i c
    split at h
    · rename_i hc
      split at h
      · rename_i ha ht
        obtain ⟨v, h2, h3⟩ := ok_len hc ha ht h
        exact ⟨v, _, h2, h3.ok⟩
      · cases h
    · rename_i hc
      split at h
      · rename_i ha
        split at h
        · rename_i hx hy; exact ⟨_, _, h, (ok_min hc ha hx hy).ok⟩
        · cases h
      · cases h
    · rename_i hc
      split at h
      · rename_i ha
        split at h
        · rename_i hx hy; exact ⟨_, _, h, (ok_max hc ha hx hy).ok⟩
        · cases h
      · cases h
    · rename_i hc
      split at h
      · rename_i ha ht; exact ok_append hc ha ht h
      · cases h
    · rename_i hc
      split at h
      · rename_i hf
        obtain ⟨h1, h⟩ := cond_none h
        exact ok_callValue hG hc hf (Nat.eq_of_beq_eq_true h1) h
      · cases h
    · cases h
  · cases h

/-- The kinds of operation that only read. -/
theorem evOp_pure {E : Env} {o : Oper} (hrd : reader E.P o.op = true) (hok : rdOk E.P S o = true) {K : V → St → Option R} {q : R} (h : evOp E S o K = some q) :
    ∃ v, K v S = some q ∧ OpRead E.P m S o v := by
  obtain ⟨dst, op, ty, pos, after, guard⟩ := o
  have mk : (∃ v, K v S = some q ∧ OpPure E.P m S ⟨dst, op, ty, pos, after, guard⟩ v) → ∃ v, K v S = some q ∧ OpRead E.P m S ⟨dst, op, ty, pos, after, guard⟩ v :=
    fun ⟨v, h1, h2⟩ => ⟨v, h1, h2.read⟩
  unfold evOp at h
  simp only at h hrd
  split at h
  all_goals rename_i hop; try subst hop
  all_goals try (cases hrd; done)
  · exact mk ⟨_, h, ok_move _⟩
  · exact mk ⟨_, h, ok_assign _⟩
  · split at h
    · rename_i t hc
      split at h
      · rename_i hx hy
        exact mk ⟨_, h, ok_pick_bool hc hx hy⟩
      · cases t with
        | true => exact mk ⟨_, h, ok_pick hc ⟨fun _ => rfl, fun e => nomatch e⟩⟩
        | false => exact mk ⟨_, h, ok_pick hc ⟨(fun e => nomatch e), fun _ => rfl⟩⟩
    · cases h
  · split at h
    · rename_i hu
      obtain ⟨h1, h⟩ := cond_none h
      split at h
      · rename_i hb
        have h1' := cond_and h1
        exact mk ⟨_, h, ok_build hu h1'.1 h1'.2 hb⟩
      · cases h
    · cases h
  · obtain ⟨h1, h⟩ := cond_none h
    obtain ⟨v, h2, h3⟩ := ok_load (S := S) (K := fun v => K v S) h1 h
    exact ⟨v, h2, h3⟩
  · split at h
    · rename_i hx; exact mk ⟨_, h, ok_nilCheck hx (.inl ⟨_, _, _, _, rfl⟩)⟩
    · rename_i hx; exact mk ⟨_, h, ok_nilCheck hx (.inr (.inl ⟨_, rfl⟩))⟩
    · rename_i hx; exact mk ⟨_, h, ok_nilCheck hx (.inr (.inr ⟨_, _, _, rfl⟩))⟩
    · cases h
  · obtain ⟨v, h2, h3⟩ := ok_binOp h
    exact ⟨v, h2, h3⟩
  · obtain ⟨v, h2, h3⟩ := ok_unOp h
    exact mk ⟨v, h2, h3⟩
  · obtain ⟨v, h2, _, h3⟩ := ok_convert h
    exact ⟨v, h2, h3 hrd⟩
  · exact mk ⟨_, h, ok_makeFunc⟩
  · obtain ⟨v, S', h2, _, h3⟩ := ok_slice (m := m) (dst := dst) (pos := pos) (after := after) (guard := guard) h
    obtain ⟨e, h4⟩ := h3 fun d g e => by
      unfold rdOk at hok
      simp only [e] at hok
      cases hok
    subst e
    exact ⟨v, h2, h4⟩
  · split at h
    · rename_i hf
      obtain ⟨v, h2, h3⟩ := ok_fieldAddr (S := S) (K := fun v => K v S) hf h
      exact mk ⟨v, h2, h3⟩
    · cases h
  · split at h
    · rename_i hf hx
      obtain ⟨h1, h⟩ := cond_none h
      obtain ⟨h2, h⟩ := cond_none h
      obtain ⟨h3, h⟩ := none_cond h
      exact mk ⟨_, h, ok_field hf hx h1 (Nat.le_of_ble_eq_true h2) (fun e => by rw [e] at h3; cases h3)⟩
    · cases h
  · obtain ⟨v, h2, h3⟩ := ok_indexAddr h
    exact mk ⟨v, h2, h3⟩
  · unfold ints at h
    split at h
    · rename_i hi
      split at h
      · rename_i hu hx
        obtain ⟨h1, h⟩ := cond_none h
        exact mk ⟨_, h, ok_index_str hu hx hi (of_decide_eq_true h1)⟩
      · cases h
    · cases h
  · split at h
    · rename_i hx
      split at h
      · rename_i hv; exact mk ⟨_, h, ok_extract hx hv⟩
      · cases h
    · cases h
  · rename_i c
    split at h
    · rename_i hc
      split at h
      · rename_i ha ht
        obtain ⟨v, h2, h3⟩ := ok_len hc ha ht h
        exact mk ⟨v, h2, h3⟩
      · cases h
    · rename_i hc
      split at h
      · rename_i ha
        split at h
        · rename_i hx hy; exact mk ⟨_, h, ok_min hc ha hx hy⟩
        · cases h
      · cases h
    · rename_i hc
      split at h
      · rename_i ha
        split at h
        · rename_i hx hy; exact mk ⟨_, h, ok_max hc ha hx hy⟩
        · cases h
      · cases h
    all_goals first
      | (cases h; done)
      | (rename_i hc; simp only [reader, hc] at hrd; cases hrd; done)
  · cases h
end
end Go.Ev
