/- Regions whose order is drawn: whichever order comes, it does what the row that was found does: lemmas; the callees' soundness is a premise. -/
import Derived.Test.YtajdamefabfoaaaDoorSo20
import Derived.OrdersHeld
namespace Go.Ev
open Go Go.RowKit

/-! ### A reader taken first -/
section
variable {P : Program} {ops : Array Oper} {Q : Exit → Act → World → Prop} {md : Region.Mode} {Z : Nat → Nat → Nat → Prop}

/-- Whatever order is picked; operation number i keeps the cells of 'Z i'. -/
def wpAnyZ (Z : Nat → Nat → Nat → Prop) (P : Program) (md : Region.Mode) (ops : Array Oper) (Q : Exit → Act → World → Prop) : Nat → Array Bool → Act → World → Prop
  | 0, listed, a, w => Region.ready md ops listed = [] ∧ Q .normal a w
  | fuel + 1, listed, a, w =>
    (Region.ready md ops listed = [] → Q .normal a w) ∧
    ∀ i ∈ Region.ready md ops listed, wpOp P ops Q i (fun a' w' => Keeps (fun b o => ¬ Z i b o) w w' ∧ wpAnyZ Z P md ops Q fuel (listed.setIfInBounds i true) a' w') a w

theorem wpAny_of_z : ∀ (fuel : Nat) (listed : Array Bool) (a : Act) (w : World), wpAnyZ Z P md ops Q fuel listed a w → wpAny P md ops Q fuel listed a w
  | 0, _, _, _, h => h
  | fuel + 1, _, _, _, h => ⟨h.1, fun i hi => wpOp_mono (fun a' w' h' => wpAny_of_z fuel _ a' w' h'.2) (h.2 i hi)⟩
theorem wpAnyZ_mono {Z' : Nat → Nat → Nat → Prop} (hZ : ∀ i b o, Z i b o → Z' i b o) : ∀ (fuel : Nat) (listed : Array Bool) (a : Act) (w : World), wpAnyZ Z' P md ops Q fuel listed a w → wpAnyZ Z P md ops Q fuel listed a w
  | 0, _, _, _, h => h
  | fuel + 1, _, _, _, h => ⟨h.1, fun i hi => wpOp_mono (fun a' w' h' => ⟨h'.1.mono fun b o _ hn hz => hn (hZ i b o hz), wpAnyZ_mono hZ fuel _ a' w' h'.2⟩) (h.2 i hi)⟩

theorem wpAnyZ_first {S : World → Prop} {i : Nat} {oi : Oper} {v : Value} {C : Nat → Prop} (hi : ops[i]? = some oi) (hsel : ∀ (j : Nat) (o : Oper) cs b, ops[j]? = some o → o.op ≠ .select cs b)
    (hQ : ∀ c a w, Q (.panic c) (a.put oi.dst v) w → Q (.panic c) a w)
    (hC : ∀ j oj, ops[j]? = some oj → j ≠ i → (∀ e ∈ oj.after, Region.binds md e = true → C e.on) → C j) :
    ∀ (fuel : Nat) (listed : Array Bool) (a : Act) (w : World),
      (∀ j, listed.getD j false = true → C j) →
      (∀ j oj, ops[j]? = some oj → C j → listed.getD j true = false → (∀ w w', Keeps (fun b o => ¬ Z j b o) w w' → S w → S w')) →
      (∀ j oj, ops[j]? = some oj → j ≠ i → listed.getD j true = false → (∀ e ∈ oj.after, Region.binds md e = true → e.on ≠ i) → oi.apart ops oj = true) →
      i ∈ Region.ready md ops listed → YieldsIf P ops S oi v a → S w →
      wpAnyZ Z P md ops Q fuel (listed.setIfInBounds i true) (a.put oi.dst v) w → wpAnyZ Z P md ops Q (fuel + 1) listed a w := by
  intro fuel
  induction fuel with
  | zero =>
    intro listed a w _ _ _ hr hy hS H
    refine ⟨fun h => (by rw [h] at hr; cases hr), fun j hj => ?_⟩
    by_cases hji : j = i
    · subst hji; exact hy.wpOp hi hS ⟨Keeps.refl _ _, H⟩
    · have := ready_mono hj hji
      rw [H.1] at this
      cases this
  | succ fuel ih =>
    intro listed a w hL hS' hfree hr hy hS H
    refine ⟨fun h => (by rw [h] at hr; cases hr), fun j hj => ?_⟩
    by_cases hji : j = i
    · subst hji; exact hy.wpOp hi hS ⟨Keeps.refl _ _, H⟩
    · have h1 := H.2 j (ready_mono hj hji)
      obtain ⟨hjun, oj, hoj, hall⟩ := mem_ready.1 hj
      have hnot : ∀ e ∈ oj.after, Region.binds md e = true → e.on ≠ i := fun e he hb heq => by
        have h1 := hall e he hb
        have h0 := (mem_ready.1 hr).1
        rw [heq] at h1
        rcases Nat.lt_or_ge i listed.size with h' | h'
        · simp [h'] at h0 h1; rw [h0] at h1; cases h1
        · simp [Array.getElem?_eq_none h'] at h1
      have hCj : C j := hC j oj hoj hji fun e he hb => hL _ (hall e he hb)
      have h2 := wpOp_putIf hoj (hfree j oj hoj hji hjun hnot) (fun cs b => hsel i oi cs b hi) (fun cs b => hsel j oj cs b hoj) hQ hy h1
      have un : ∀ k, (listed.setIfInBounds j true).getD k true = false → listed.getD k true = false := fun k hun => by
        by_cases hjk : j = k
        · subst hjk; exact hjun
        · rw [getD_set_ne true hjk] at hun; exact hun
      have hL' : ∀ k, (listed.setIfInBounds j true).getD k false = true → C k := fun k hk => by
        by_cases hjk : j = k
        · subst hjk; exact hCj
        · rw [getD_set_ne false hjk] at hk; exact hL k hk
      refine wpOp_mono (fun a' w' h3 => ?_) h2
      obtain ⟨h3, h4, h5⟩ := h3
      have hSw : S w' := hS' j oj hoj hCj hjun w w' h4 hS
      refine ⟨h4, ih (listed.setIfInBounds j true) a' w' hL' (fun k ok hk hc hun => hS' k ok hk hc (un k hun))
        (fun k ok hk hki hun hno => hfree k ok hk hki (un k hun) hno) (ready_mono hr (Ne.symm hji)) h3 hSw ?_⟩
      rw [Array.setIfInBounds_comm _ _ hji]
      exact h5
end

/-! ### The reckoned row -/
theorem allIn_spec : ∀ (xs L : List Nat), allIn xs L = true ↔ ∀ i ∈ xs, i ∈ L
  | [], L => by simp [allIn]
  | i :: r, L => by
    simp only [allIn]
    cases h : memN i L with
    | true => simp [(memN_mem i L).1 h, allIn_spec r L]
    | false =>
      have : ¬ i ∈ L := fun e => by rw [(memN_mem i L).2 e] at h; cases h
      simp [this]
theorem mem_depsOf {o : Oper} {k : Nat} : k ∈ depsOf o ↔ ∃ e ∈ o.after, Region.binds .any e = true ∧ e.on = k := by
  unfold depsOf
  simp only [List.mem_map, List.mem_filter, Array.mem_toList_iff]
  constructor
  · rintro ⟨e, ⟨h1, h2⟩, h3⟩; exact ⟨e, h1, h2, h3⟩
  · rintro ⟨e, h1, h2, h3⟩; exact ⟨e, ⟨h1, h2⟩, h3⟩
theorem mem_number {α : Type} : ∀ (l : List α) (n i : Nat) (x : α), (i, x) ∈ numberFrom n l ↔ ∃ k, i = n + k ∧ l[k]? = some x
  | [], n, i, x => by simp [numberFrom]
  | y :: r, n, i, x => by
    simp only [numberFrom, List.mem_cons, Prod.mk.injEq, mem_number r (n + 1) i x]
    constructor
    · rintro (⟨rfl, rfl⟩ | ⟨k, rfl, h⟩)
      · exact ⟨0, by simp, by simp⟩
      · exact ⟨k + 1, by omega, by simpa using h⟩
    · rintro ⟨k, rfl, h⟩
      cases k with
      | zero => left; simp at h; exact ⟨by simp, h.symm⟩
      | succ k => right; exact ⟨k, by omega, by simpa using h⟩
theorem mem_num {ops : Array Oper} {i : Nat} {o : Oper} : (i, o) ∈ numberFrom 0 ops.toList ↔ ops[i]? = some o := by
  rw [mem_number]
  constructor
  · rintro ⟨k, rfl, h⟩; simpa using h
  · intro h; exact ⟨i, by simp, by simpa using h⟩

/-- What is listed, as a row of numbers. -/
structure LR (ops : Array Oper) (L : List Nat) (listed : Array Bool) : Prop where
  size : listed.size = ops.size
  mem : ∀ i, i < ops.size → (listed.getD i true = true ↔ i ∈ L)
  lt : ∀ i ∈ L, i < ops.size
theorem LR.getF {ops : Array Oper} {L : List Nat} {listed : Array Bool} (h : LR ops L listed) (i : Nat) : listed.getD i false = true ↔ i ∈ L := by
  rcases Nat.lt_or_ge i ops.size with hi | hi
  · rw [← h.mem i hi]
    have : i < listed.size := by rw [h.size]; exact hi
    simp [this]
  · have : ¬ i < listed.size := by rw [h.size]; omega
    constructor
    · intro e; simp [Array.getElem?_eq_none (Nat.not_lt.1 this)] at e
    · intro e; have := h.lt i e; omega
theorem LR.un {ops : Array Oper} {L : List Nat} {listed : Array Bool} (h : LR ops L listed) {i : Nat} (hi : i < ops.size) : listed.getD i true = false ↔ ¬ i ∈ L := by
  rw [← h.mem i hi]; simp
theorem LR.ready {ops : Array Oper} {L : List Nat} {listed : Array Bool} (h : LR ops L listed) (i : Nat) :
    i ∈ Region.ready .any ops listed ↔ ∃ o, (i, o) ∈ readyL (numberFrom 0 ops.toList) L := by
  rw [mem_ready]
  unfold readyL
  simp only [List.mem_filter, mem_num]
  constructor
  · rintro ⟨h1, o, h2, h3⟩
    have hi := (Array.getElem?_eq_some_iff.1 h2).1
    have hn := (h.un hi).1 h1
    refine ⟨o, h2, ?_⟩
    have : memN i L = false := by rw [Bool.eq_false_iff]; exact fun e => hn ((memN_mem i L).1 e)
    rw [this, cond_false, allIn_spec]
    intro k hk
    obtain ⟨e, e1, e2, rfl⟩ := mem_depsOf.1 hk
    exact (h.getF _).1 (h3 e e1 e2)
  · rintro ⟨o, h2, h3⟩
    have hi := (Array.getElem?_eq_some_iff.1 h2).1
    obtain ⟨h4, h5⟩ : memN i L = false ∧ allIn (depsOf o) L = true := by
      cases e : memN i L with
      | true => rw [e] at h3; cases h3
      | false => rw [e] at h3; exact ⟨rfl, h3⟩
    refine ⟨(h.un hi).2 fun e => ?_, o, h2, fun e he hb => (h.getF _).2 ((allIn_spec _ _).1 h5 _ (mem_depsOf.2 ⟨e, he, hb, rfl⟩))⟩
    rw [(memN_mem i L).2 e] at h4; cases h4
theorem LR.set {ops : Array Oper} {L : List Nat} {listed : Array Bool} (h : LR ops L listed) {i : Nat} (hi : i < ops.size) : LR ops (i :: L) (listed.setIfInBounds i true) := by
  refine ⟨by simp [h.size], fun j hj => ?_, fun j hj => ?_⟩
  · by_cases e : i = j
    · subst e
      have : i < listed.size := by rw [h.size]; exact hi
      simp [this]
    · rw [getD_set_ne true e, h.mem j hj]
      simp [Ne.symm e]
  · rcases List.mem_cons.1 hj with rfl | hj
    · exact hi
    · exact h.lt j hj
theorem noSel_spec : ∀ (l : List Oper), noSel l = true → ∀ o ∈ l, ∀ cs b, o.op ≠ .select cs b
  | [], _, _, h, _, _ => by cases h
  | o :: r, h, o', ho, cs, b => by
    have h' : noSel r = true ∧ ∀ cs b, o.op ≠ .select cs b := by
      unfold noSel at h
      cases hop : o.op <;> rw [hop] at h <;> first | (cases h; done) | exact ⟨h, by simp⟩
    rcases List.mem_cons.1 ho with rfl | ho
    · exact h'.2 cs b
    · exact noSel_spec r h'.1 o' ho cs b

end Go.Ev
