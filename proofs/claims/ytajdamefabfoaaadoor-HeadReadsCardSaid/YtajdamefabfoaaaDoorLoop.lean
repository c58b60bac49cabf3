/- Loops by their rounds; a program's answers in a table: definitions and lemmas, no condition. -/
import Derived.Test.YtajdamefabfoaaaDoorCod
namespace Go.Ev
open Go Go.RowKit

/-! ### Tables of answers -/
def TOk (P : Program) (T : List (Nat × Den)) : Prop := ∀ f D, lk? T f = some D → FnOk P f D
theorem TOk.nil (P : Program) : TOk P [] := fun f D h => by cases h
theorem TOk.cons {P : Program} {T : List (Nat × Den)} {f : Nat} {D : Den} (h : FnOk P f D) (hT : TOk P T) : TOk P ((f, D) :: T) := fun g D' hg => by
  simp only [lk?] at hg
  cases e : Nat.beq g f with
  | true =>
    rw [e] at hg
    have := Nat.eq_of_beq_eq_true e
    subst this
    cases hg; exact h
  | false => rw [e] at hg; exact hT g D' hg
abbrev LoopF := St → (Ex → St → Option R) → Option R
def env (P : Program) (T : List (Nat × Den)) (L : List (Nat × LoopF)) (kt : List (Nat × List (Nat × List Nat))) (ow : List Nat := []) : Env :=
  { P := P, G := lk? T, L := lk? L, keep := fun id e => lk [] (lk [] kt id) e, ow := fun f => memN f ow }

/-! ### Loops -/
/-- At most 'n' rounds. -/
def iterR (E : Env) (f : FuncId) (id : Nat) : Nat → St → (Ex → St → Option R) → Option R
  | 0, _, _ => none
  | n + 1, S, K => evRound E f id S fun e S => match e with
    | .normal => iterR E f id n S K
    | e => K e S
def RoundsOk (E : Env) (f : FuncId) (id : Nat) : Prop := ∀ F, E.L id = some F → ∀ S K q, F S K = some q → ∃ n, iterR E f id n S K = some q
def nodupI : List (Nat × Code) → Bool
  | [] => true
  | p :: r => cond (r.all fun q => !Nat.beq p.1 q.1) (nodupI r) false
theorem lkI_mem : ∀ (l : List (Nat × Code)), nodupI l = true → ∀ i c, (i, c) ∈ l → lk? l i = some c
  | [], _, i, c, h => by cases h
  | (j, d) :: r, hn, i, c, h => by
    simp only [nodupI] at hn
    cases ha : r.all fun q => !Nat.beq j q.1 with
    | false => simp only [ha] at hn; cases hn
    | true =>
      simp only [ha, cond_true] at hn
      simp only [lk?]
      rcases List.mem_cons.1 h with e | h
      · cases e; simp
      · have := List.all_eq_true.1 ha (i, c) h
        have e : Nat.beq i j = false := by
          rw [Bool.eq_false_iff]
          intro e
          have := Nat.eq_of_beq_eq_true e
          subst this
          simp at *
        rw [e]
        exact lkI_mem r hn i c h
theorem iterR_L {E : Env} {f : FuncId} {fn : Func} {c : Code} (hf : E.P.funcs[f]? = some fn) (hb : fn.body = some c) {id : Nat} {b : Code} (hl : lk? (loopsOf c) id = some b) :
    ∀ n S K, iterR E f id n S K = iterL E id b n S K
  | 0, S, K => rfl
  | n + 1, S, K => by
    have ih := iterR_L (E := E) hf hb hl n
    have e : ∀ K', evRound E f id S K' = evBody E id b S K' := fun K' => by
      unfold evRound; rw [hf]; simp only [hb, hl]
    unfold iterR iterL
    rw [e]
    congr 1
    funext e S
    cases e with
    | normal => exact ih S K
    | _ => rfl
theorem loops_sound {E : Env} {m : Nat} (hG : ∀ f D, E.G f = some D → FnOk E.P f D) : ∀ (c : Code), dstsOk m c = true →
    (∀ p ∈ loopsOf c, ∀ F, E.L p.1 = some F → ∀ S K q, F S K = some q → ∃ n, iterL E p.1 p.2 n S K = some q) → ∀ p ∈ loopsOf c, LoopOk E m p.1 p.2
  | .seq a b, hd, h, p, hp => by
    obtain ⟨d1, d2⟩ := cond_and hd
    rcases List.mem_append.1 hp with hp | hp
    · exact loops_sound hG a d1 (fun q hq => h q (List.mem_append_left _ hq)) p hp
    · exact loops_sound hG b d2 (fun q hq => h q (List.mem_append_right _ hq)) p hp
  | .cond x a b, hd, h, p, hp => by
    obtain ⟨d1, d2⟩ := cond_and hd
    rcases List.mem_append.1 hp with hp | hp
    · exact loops_sound hG a d1 (fun q hq => h q (List.mem_append_left _ hq)) p hp
    · exact loops_sound hG b d2 (fun q hq => h q (List.mem_append_right _ hq)) p hp
  | .block id c, hd, h, p, hp => loops_sound hG c hd h p hp
  | .scope c, hd, h, p, hp => loops_sound hG c hd h p hp
  | .loop c, hd, h, p, hp => by
    have hd' : dstsOk m c = true := hd
    unfold loopsOf at hp h
    cases hr : firstRegion c with
    | none =>
      rw [hr] at hp h
      exact loops_sound hG c hd' h p hp
    | some j =>
      rw [hr] at hp h
      have inner := loops_sound hG c hd' (fun q hq => h q (List.mem_cons_of_mem _ hq))
      rcases List.mem_cons.1 hp with rfl | hp
      · exact loop_sound hG inner hd' (h (j, c) List.mem_cons_self)
      · exact inner p hp
  | .skip, hd, h, p, hp => by cases hp
  | .region .., hd, h, p, hp => by cases hp
  | .exit .., hd, h, p, hp => by cases hp
  | .label .., hd, h, p, hp => by cases hp
  | .ret, hd, h, p, hp => by cases hp
  | .goto .., hd, h, p, hp => by cases hp
  | .refuse .., hd, h, p, hp => by cases hp
  | .rangeFunc .., hd, h, p, hp => by cases hp

/-- A function's answer, by what the evaluator makes of its body and of each loop's round. -/
theorem den_okL {E : Env} (hG : ∀ f D, E.G f = some D → FnOk E.P f D) {f : FuncId} {fn : Func} {c : Code} (hf : E.P.funcs[f]? = some fn) (hb : fn.body = some c)
    (hd : dstsOk fn.ntmps c = true) (hn : nodupI (loopsOf c) = true) (hl : ∀ q ∈ loopsOf c, RoundsOk E f q.1) (hnm : (fn.name == "runtime.NumGoroutine") = false) {α β γ : Type} {A : ACod α} {B : BCod β} {O : γ → Out} {p : α → β → Bool} {g : α → β → γ × β}
    (h : ∀ a b, p a b = true → evFn E f (A.enc a) (B.enc b) some = some { v := (O (g a b).1).v, bx := B.enc (g a b).2, nb := (O (g a b).1).nb }) : FnOk E.P f (den A B O p g) :=
  den_ok hG hf hb (loops_sound hG c hd fun q hq F hF S K r hr => by
    obtain ⟨n, hn'⟩ := hl q hq F hF S K r hr
    exact ⟨n, by rw [← iterR_L hf hb (lkI_mem _ hn q.1 q.2 hq)]; exact hn'⟩) hnm h

/-! ### A state's form and its leaves -/
mutual
theorem Sch.get_put : ∀ (s : Sch) (v : V) (x : List Leaf), Sch.get s v = some x → ∀ r, Sch.put s (x ++ r) = (v, r)
  | .undef, v, x, h, r => by cases v <;> simp [Sch.get] at h <;> subst h <;> rfl
  | .bool, v, x, h, r => by cases v <;> simp [Sch.get] at h <;> subst h <;> rfl
  | .int k, v, x, h, r => by
    cases v <;> simp only [Sch.get, reduceCtorEq] at h
    rename_i k' n
    by_cases e : k = k'
    · subst e; simp at h; subst h; rfl
    · simp [e] at h
  | .str, v, x, h, r => by cases v <;> simp [Sch.get] at h <;> subst h <;> rfl
  | .nilp, v, x, h, r => by cases v <;> simp [Sch.get] at h <;> subst h <;> rfl
  | .nilf, v, x, h, r => by cases v <;> simp [Sch.get] at h <;> subst h <;> rfl
  | .nili, v, x, h, r => by cases v <;> simp [Sch.get] at h <;> subst h <;> rfl
  | .ptr d a o, v, x, h, r => by
    cases v <;> simp only [Sch.get, reduceCtorEq] at h
    rename_i d' a' o' g
    cases e1 : Nat.beq d d' <;> cases e2 : Nat.beq a a' <;> cases e3 : Nat.beq o o' <;> cases e4 : Nat.beq g 0 <;> simp only [e1, e2, e3, e4, cond_true, cond_false, reduceCtorEq] at h
    cases h
    have := Nat.eq_of_beq_eq_true e1; have := Nat.eq_of_beq_eq_true e2; have := Nat.eq_of_beq_eq_true e3; have := Nat.eq_of_beq_eq_true e4
    subst_vars; rfl
  | .own d, v, x, h, r => by
    cases v <;> simp only [Sch.get, reduceCtorEq] at h
    rename_i d' g
    cases e1 : Nat.beq d d' <;> cases e4 : Nat.beq g 0 <;> simp only [e1, e4, cond_true, cond_false, reduceCtorEq] at h
    cases h
    have := Nat.eq_of_beq_eq_true e1; have := Nat.eq_of_beq_eq_true e4
    subst_vars; rfl
  | .slc sh, v, x, h, r => by
    cases v <;> simp only [Sch.get, reduceCtorEq] at h
    rename_i sh' rows
    cases e1 : Sh.beqL sh sh' <;> simp only [e1, cond_true, cond_false, reduceCtorEq] at h
    cases h
    have := Sh.beqL_eq _ _ e1
    subst this; rfl
  | .agg cs, v, x, h, r => by
    cases v <;> simp only [Sch.get, reduceCtorEq] at h
    simp only [Sch.put, Sch.getL_put cs _ x h r]
  | .fn f a b, v, x, h, r => by
    cases v <;> simp only [Sch.get, reduceCtorEq] at h
    rename_i f' a' b'
    cases e1 : Nat.beq f f' with
    | false => simp only [e1, cond_false, reduceCtorEq] at h
    | true =>
      simp only [e1, cond_true] at h
      have := Nat.eq_of_beq_eq_true e1
      subst this
      split at h
      · rename_i y hy
        split at h
        · rename_i z hz
          cases h
          simp only [Sch.put, List.append_assoc, Sch.getL_put a _ y hy, Sch.getL_put b _ z hz]
        · cases h
      · cases h
theorem Sch.getL_put : ∀ (s : List Sch) (v : List V) (x : List Leaf), Sch.getL s v = some x → ∀ r, Sch.putL s (x ++ r) = (v, r)
  | [], v, x, h, r => by cases v <;> simp [Sch.getL] at h; subst h; rfl
  | s :: ss, v, x, h, r => by
    cases v with
    | nil => simp [Sch.getL] at h
    | cons v vs =>
      simp only [Sch.getL] at h
      split at h
      · rename_i y hy
        split at h
        · rename_i z hz
          cases h
          simp only [Sch.putL, List.append_assoc, Sch.get_put s _ y hy, Sch.getL_put ss _ z hz]
        · cases h
      · cases h
end
theorem BSch.get_put (s : BSch) (v : Box) (x : List Leaf) (h : BSch.get s v = some x) (r : List Leaf) : BSch.put s (x ++ r) = (v, r) := by
  cases s with
  | var cs =>
    cases v <;> simp only [BSch.get, reduceCtorEq] at h
    simp only [BSch.put, Sch.getL_put cs _ x h r]
  | sl sh =>
    cases v <;> simp only [BSch.get, reduceCtorEq] at h
    rename_i sh' rows g
    cases e1 : Sh.beqL sh sh' <;> cases e4 : Nat.beq g 0 <;> simp only [e1, e4, cond_true, cond_false, reduceCtorEq] at h
    cases h
    have := Sh.beqL_eq _ _ e1; have := Nat.eq_of_beq_eq_true e4
    subst_vars; rfl
theorem getFr_put : ∀ (s : List (Nat × Sch)) (v : List (Nat × V)) (x : List Leaf), getFr s v = some x → ∀ r, putFr s (x ++ r) = (v, r)
  | [], v, x, h, r => by cases v <;> simp [getFr] at h; subst h; rfl
  | (i, s) :: ss, v, x, h, r => by
    cases v with
    | nil => simp [getFr] at h
    | cons v vs =>
      obtain ⟨j, v⟩ := v
      simp only [getFr] at h
      cases e : Nat.beq i j with
      | false => simp only [e, cond_false, reduceCtorEq] at h
      | true =>
        have := Nat.eq_of_beq_eq_true e
        subst this
        simp only [e, cond_true] at h
        split at h
        · rename_i y hy
          split at h
          · rename_i z hz
            cases h
            simp only [putFr, List.append_assoc, Sch.get_put s _ y hy, getFr_put ss _ z hz]
          · cases h
        · cases h
theorem getTab_put : ∀ (s : List (Nat × BSch)) (v : List (Nat × Box)) (x : List Leaf), getTab s v = some x → ∀ r, putTab s (x ++ r) = (v, r)
  | [], v, x, h, r => by cases v <;> simp [getTab] at h; subst h; rfl
  | (i, s) :: ss, v, x, h, r => by
    cases v with
    | nil => simp [getTab] at h
    | cons v vs =>
      obtain ⟨j, v⟩ := v
      simp only [getTab] at h
      cases e : Nat.beq i j with
      | false => simp only [e, cond_false, reduceCtorEq] at h
      | true =>
        have := Nat.eq_of_beq_eq_true e
        subst this
        simp only [e, cond_true] at h
        split at h
        · rename_i y hy
          split at h
          · rename_i z hz
            cases h
            simp only [putTab, List.append_assoc, BSch.get_put s _ y hy, getTab_put ss _ z hz]
          · cases h
        · cases h
theorem SSch.get_put (c : SSch) (S : St) (x : List Leaf) (h : c.get S = some x) : S = c.put x := by
  unfold SSch.get at h
  split at h
  · rename_i y hy
    split at h
    · rename_i z hz
      cases h
      have e := getTab_put c.tab _ z hz []
      rw [List.append_nil] at e
      simp only [SSch.put, getFr_put c.fr _ y hy, e]
    · cases h
  · cases h
/-- A loop by its leaves. -/
def loopF (c : SSch) (G : List Leaf → (Ex → St → Option R) → Option R) : LoopF := fun S K => match c.get S with | some l => G l K | none => none
theorem rounds_of {E : Env} {f : FuncId} {id : Nat} {c : SSch} {G : List Leaf → (Ex → St → Option R) → Option R} (hL : E.L id = some (loopF c G))
    (h : ∀ l K q, G l K = some q → ∃ n, iterR E f id n (c.put l) K = some q) : RoundsOk E f id := fun F hF S K q hq => by
  rw [hL] at hF
  cases hF
  unfold loopF at hq
  split at hq
  · rename_i l hl
    have := SSch.get_put c S l hl
    subst this
    exact h l K q hq
  · cases hq
/-- A loop that is not come to. -/
theorem rounds_none {E : Env} {f : FuncId} {id : Nat} (hL : E.L id = some fun _ _ => none) : RoundsOk E f id := fun F hF S K q hq => by rw [hL] at hF; cases hF; cases hq
/-- A loop's head, to be seen. -/
def spy : LoopF := fun S _ => some { v := .tup (S.fr.map fun p => .tup [.int .i64 p.1, p.2]), bx := [], nb := S.tab.map (·.2) }
def spy2 : LoopF := fun S _ => some { v := .tup [.tup (S.fr.map fun p => .tup [.int .i64 p.1, p.2]), .tup (S.tab.map fun p => .int .i64 p.1)], bx := [], nb := S.tab.map (·.2) }
/-- A loop by its rounds: a round goes on, with what is left the same, or leaves. -/
theorem loop_ind {E : Env} {f : FuncId} {id : Nat} {σ : Type} (enc : σ → St) (inv : σ → Prop) (μ : σ → Nat) (res : σ → (Ex → St → Option R) → Option R)
    (h : ∀ s, inv s → (∃ s', inv s' ∧ μ s' < μ s ∧ (∀ K, evRound E f id (enc s) K = K .normal (enc s')) ∧ ∀ K, res s K = res s' K) ∨
      ∃ e S, e ≠ .normal ∧ (∀ K, evRound E f id (enc s) K = K e S) ∧ ∀ K, res s K = K e S) (s : σ) (hs : inv s) (K : Ex → St → Option R) (q : R) (hq : res s K = some q) : ∃ n, iterR E f id n (enc s) K = some q := by
  have main : ∀ (d : Nat) (s : σ), μ s ≤ d → inv s → res s K = some q → ∃ n, iterR E f id n (enc s) K = some q := by
    intro d
    induction d with
    | zero =>
      intro s hd hs hq
      rcases h s hs with ⟨s', _, h2, _, _⟩ | ⟨e, S, he, h1, h2⟩
      · omega
      · refine ⟨1, ?_⟩
        unfold iterR
        rw [h1]
        rw [h2] at hq
        cases e with
        | normal => exact absurd rfl he
        | exit j => exact hq
        | ret => exact hq
    | succ d ih =>
      intro s hd hs hq
      rcases h s hs with ⟨s', hi, h2, h3, h4⟩ | ⟨e, S, he, h1, h2⟩
      · obtain ⟨n, hn⟩ := ih s' (by omega) hi (by rw [← h4]; exact hq)
        refine ⟨n + 1, ?_⟩
        unfold iterR
        rw [h3]; exact hn
      · refine ⟨1, ?_⟩
        unfold iterR
        rw [h1]
        rw [h2] at hq
        cases e with
        | normal => exact absurd rfl he
        | exit j => exact hq
        | ret => exact hq
  exact main (μ s) s (Nat.le_refl _) hs hq
/-! ### What is reckoned of bounds -/
theorem ilt_t {x y : Int} (h : x < y) : ilt x y = true := by rw [ilt_eq]; exact decide_eq_true h
theorem ilt_f {x y : Int} (h : y ≤ x) : ilt x y = false := by rw [ilt_eq]; exact decide_eq_false (by omega)
theorem ile_t {x y : Int} (h : x ≤ y) : ile x y = true := by rw [ile_eq]; exact decide_eq_true h
theorem ile_f {x y : Int} (h : y < x) : ile x y = false := by rw [ile_eq]; exact decide_eq_false (by omega)
theorem ble_t {x y : Nat} (h : x ≤ y) : Nat.ble x y = true := Nat.ble_eq_true_of_le h
theorem nbeq_t {x y : Nat} (h : x = y) : Nat.beq x y = true := by subst h; exact Nat.beq_refl x
theorem ieq_t {x y : Int} (h : x = y) : (x == y) = true := beq_iff_eq.2 h
theorem ieq_f {x y : Int} (h : x ≠ y) : (x == y) = false := beq_eq_false_iff_ne.2 h
theorem ine_t {x y : Int} (h : x ≠ y) : (x != y) = true := by rw [bne, ieq_f h]; rfl
theorem ine_f {x y : Int} (h : x = y) : (x != y) = false := by rw [bne, ieq_t h]; rfl
theorem ile_of {x y : Int} (h : ile x y = true) : x ≤ y := by rw [ile_eq] at h; exact of_decide_eq_true h
theorem ile_nof {x y : Int} (h : ile x y = false) : y < x := by rw [ile_eq] at h; have := of_decide_eq_false h; omega
theorem ilt_of {x y : Int} (h : ilt x y = true) : x < y := by rw [ilt_eq] at h; exact of_decide_eq_true h
theorem ilt_nof {x y : Int} (h : ilt x y = false) : y ≤ x := by rw [ilt_eq] at h; have := of_decide_eq_false h; omega
theorem ieq_of {x y : Int} (h : (x == y) = true) : x = y := beq_iff_eq.1 h
theorem ble_of {x y : Nat} (h : Nat.ble x y = true) : x ≤ y := Nat.le_of_ble_eq_true h
theorem wr_i64 {n : Int} (h1 : -9223372036854775808 ≤ n) (h2 : n ≤ 9223372036854775807) : IntKind.wrap .i64 n = n := by
  simp only [IntKind.wrap, IntKind.signed, IntKind.bits]
  simp
  omega
/-- What a tree's tests are reckoned by. -/
theorem evs : (∀ {x y : Int}, x < y → ilt x y = true) ∧ (∀ {x y : Int}, y ≤ x → ilt x y = false) ∧ (∀ {x y : Int}, x ≤ y → ile x y = true) ∧ (∀ {x y : Int}, y < x → ile x y = false) ∧
    (∀ {x y : Nat}, x ≤ y → Nat.ble x y = true) ∧ (∀ {x y : Nat}, x = y → Nat.beq x y = true) ∧ (∀ {x y : Int}, x = y → (x == y) = true) ∧ (∀ {x y : Int}, x ≠ y → (x == y) = false) ∧
    (∀ {x y : Int}, x ≠ y → (x != y) = true) ∧ (∀ {x y : Int}, x = y → (x != y) = false) ∧ (∀ {p : Prop} [Decidable p], p → decide p = true) ∧
    (∀ {n : Int}, -9223372036854775808 ≤ n → n ≤ 9223372036854775807 → IntKind.wrap .i64 n = n) ∧ (∀ {α : Type} (a b : α), cond true a b = a) ∧ (∀ {α : Type} (a b : α), cond false a b = b) ∧
    (∀ {α β : Type} (l : List α) (f : α → β), (l.map f).length = l.length) ∧ (∀ {α : Type} (n : Nat) (a : α), (List.replicate n a).length = n) ∧ (∀ {α : Type} (l : List α) (i : Nat) (a : α), (l.set i a).length = l.length) ∧
    (∀ {α : Type} (l m : List α), (l ++ m).length = l.length + m.length) ∧ Int.toNat 0 = 0 ∧ (∀ p : Prop, (True ∧ p) = p) ∧ (∀ p : Prop, (p ∧ True) = p) :=
  ⟨ilt_t, ilt_f, ile_t, ile_f, ble_t, nbeq_t, ieq_t, ieq_f, ine_t, ine_f, fun h => decide_eq_true h, wr_i64, fun _ _ => rfl, fun _ _ => rfl, fun _ _ => List.length_map .., fun _ _ => List.length_replicate, fun _ _ _ => List.length_set, fun _ _ => List.length_append, rfl, true_and, and_true⟩
/-! ### The form that is used -/
def bodyOf (fn : Func) : Code := fn.body.getD .skip
def natsEq : List Nat → List Nat → Bool
  | [], [] => true | a :: x, b :: y => cond (Nat.beq a b) (natsEq x y) false
  | _, _ => false
/-- What is reckoned of a function ahead. -/
def chk (fn : Func) (ids : List Nat) : Bool :=
  cond fn.body.isSome (cond (dstsOk fn.ntmps (bodyOf fn)) (cond (nodupI (loopsOf (bodyOf fn))) (cond (natsEq ((loopsOf (bodyOf fn)).map (·.1)) ids) (!(fn.name == "runtime.NumGoroutine")) false) false) false) false
theorem natsEq_eq : ∀ (a b : List Nat), natsEq a b = true → a = b
  | [], b, h => by cases b <;> first | rfl | cases h
  | a :: x, b, h => by
    cases b with
    | nil => cases h
    | cons c y =>
      simp only [natsEq] at h
      cases e : Nat.beq a c with
      | false => rw [e] at h; cases h
      | true =>
        rw [e] at h
        rw [Nat.eq_of_beq_eq_true e, natsEq_eq x y h]
theorem bcond {a b : Bool} (h : cond a b false = true) : a = true ∧ b = true := by cases a <;> cases b <;> simp at *
theorem den_okF {E : Env} (hG : ∀ f D, E.G f = some D → FnOk E.P f D) {f : FuncId} {fn : Func} (hf : E.P.funcs[f]? = some fn) (ids : List Nat) (hk : chk fn ids = true) (hl : ∀ id ∈ ids, RoundsOk E f id)
    {α β γ : Type} {A : ACod α} {B : BCod β} {O : γ → Out} {p : α → β → Bool} {g : α → β → γ × β}
    (h : ∀ a b, p a b = true → evFn E f (A.enc a) (B.enc b) some = some { v := (O (g a b).1).v, bx := B.enc (g a b).2, nb := (O (g a b).1).nb }) : FnOk E.P f (den A B O p g) := by
  unfold chk at hk
  obtain ⟨h1, hk⟩ := bcond hk
  obtain ⟨h2, hk⟩ := bcond hk
  obtain ⟨h3, hk⟩ := bcond hk
  obtain ⟨h4, hk⟩ := bcond hk
  have e := natsEq_eq _ _ h4
  obtain ⟨c, hc⟩ := Option.isSome_iff_exists.1 h1
  have hb : bodyOf fn = c := by unfold bodyOf; rw [hc]; rfl
  rw [hb] at h2 h3 e
  exact den_okL hG hf hc h2 h3 (fun q hq => hl q.1 (by rw [← e]; exact List.mem_map_of_mem hq)) (by simpa using hk) h
theorem none0 {p : Nat → Prop} : ∀ id ∈ ([] : List Nat), p id := fun _ h => by cases h
theorem one1 {p : Nat → Prop} {a : Nat} (h : p a) : ∀ id ∈ [a], p id := fun id hi => by
  have := List.mem_singleton.1 hi; subst this; exact h
theorem two2 {p : Nat → Prop} {a b : Nat} (h : p a) (k : p b) : ∀ id ∈ [a, b], p id := fun id hi => by
  rcases List.mem_cons.1 hi with rfl | hi
  · exact h
  · exact one1 k id hi
theorem env_ok {P : Program} {T : List (Nat × Den)} {L : List (Nat × LoopF)} {kt : List (Nat × List (Nat × List Nat))} {ow : List Nat} (h : TOk P T) : ∀ f D, (env P T L kt ow).G f = some D → FnOk (env P T L kt ow).P f D := h
end Go.Ev
