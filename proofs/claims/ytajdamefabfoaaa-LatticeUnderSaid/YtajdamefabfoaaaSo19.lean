/- Regions whose order is drawn: whichever order comes, it does what the row that was found does: lemmas; the callees' soundness is a premise. -/
import Derived.Test.YtajdamefabfoaaaSo12
import Derived.OrdersHeld
namespace Go.Ev
open Go Go.RowKit

/-! ### A reader taken first -/
def rdI (mb : Bool) (ops : Array Oper) (i : Nat) : Bool := match ops[i]? with | some o => mlB mb o.op | none => false

section
variable {P : Program} {ops : Array Oper} {Q : Exit → Act → World → Prop} {md : Region.Mode} {mb : Bool}

/-- Whatever order is picked; a mild operation leaves what there is as it is. -/
def wpAnyK (mb : Bool) (P : Program) (md : Region.Mode) (ops : Array Oper) (Q : Exit → Act → World → Prop) : Nat → Array Bool → Act → World → Prop
  | 0, listed, a, w => Region.ready md ops listed = [] ∧ Q .normal a w
  | fuel + 1, listed, a, w =>
    (Region.ready md ops listed = [] → Q .normal a w) ∧
    ∀ i ∈ Region.ready md ops listed, wpOp P ops Q i (fun a' w' => (rdI mb ops i = true → Keeps (fun _ _ => False) w w') ∧ wpAnyK mb P md ops Q fuel (listed.setIfInBounds i true) a' w') a w

theorem wpAny_of_k : ∀ (fuel : Nat) (listed : Array Bool) (a : Act) (w : World), wpAnyK mb P md ops Q fuel listed a w → wpAny P md ops Q fuel listed a w
  | 0, _, _, _, h => h
  | fuel + 1, _, _, _, h => ⟨h.1, fun i hi => wpOp_mono (fun a' w' h' => wpAny_of_k fuel _ a' w' h'.2) (h.2 i hi)⟩

theorem wpAnyK_first {S : World → Prop} {i : Nat} {oi : Oper} {v : Value} {C : Nat → Prop} (hi : ops[i]? = some oi) (hsel : ∀ (j : Nat) (o : Oper) cs b, ops[j]? = some o → o.op ≠ .select cs b)
    (hQ : ∀ c a w, Q (.panic c) (a.put oi.dst v) w → Q (.panic c) a w)
    (hC : ∀ j oj, ops[j]? = some oj → j ≠ i → (∀ e ∈ oj.after, Region.binds md e = true → C e.on) → C j) :
    ∀ (fuel : Nat) (listed : Array Bool) (a : Act) (w : World),
      (∀ j, listed.getD j false = true → C j) →
      (∀ j oj, ops[j]? = some oj → C j → listed.getD j true = false → (∀ w w', (rdI mb ops j = true → Keeps (fun _ _ => False) w w') → S w → S w')) →
      (∀ j oj, ops[j]? = some oj → j ≠ i → listed.getD j true = false → (∀ e ∈ oj.after, Region.binds md e = true → e.on ≠ i) → oi.apart ops oj = true) →
      i ∈ Region.ready md ops listed → YieldsIf P ops S oi v a → S w →
      wpAnyK mb P md ops Q fuel (listed.setIfInBounds i true) (a.put oi.dst v) w → wpAnyK mb P md ops Q (fuel + 1) listed a w := by
  intro fuel
  induction fuel with
  | zero =>
    intro listed a w _ _ _ hr hy hS H
    refine ⟨fun h => (by rw [h] at hr; cases hr), fun j hj => ?_⟩
    by_cases hji : j = i
    · subst hji; exact hy.wpOp hi hS ⟨fun _ => Keeps.refl _ _, H⟩
    · have := ready_mono hj hji
      rw [H.1] at this
      cases this
  | succ fuel ih =>
    intro listed a w hL hS' hfree hr hy hS H
    refine ⟨fun h => (by rw [h] at hr; cases hr), fun j hj => ?_⟩
    by_cases hji : j = i
    · subst hji; exact hy.wpOp hi hS ⟨fun _ => Keeps.refl _ _, H⟩
    · have h1 := H.2 j (ready_mono hj hji)
      obtain ⟨hjun, oj, hoj, hall⟩ := mem_ready.1 hj
      have hnot : ∀ e ∈ oj.after, Region.binds md e = true → e.on ≠ i := fun e he hb heq => by
        have h1 := hall e he hb
        have h0 := (mem_ready.1 hr).1
        rw [heq] at h1
        rcases Nat.lt_or_ge i listed.size with h' | h'
        · simp [h'] at h0 h1; rw [h0] at h1; cases h1
        · simp [Array.getElem?_eq_none h'] at h1
      have hCj : C j := hC j oj hoj hji fun e he hb => hL _ (hall e he hb)
      have h2 := wpOp_putIf hoj (hfree j oj hoj hji hjun hnot) (fun cs b => hsel i oi cs b hi) (fun cs b => hsel j oj cs b hoj) hQ hy h1
      have un : ∀ k, (listed.setIfInBounds j true).getD k true = false → listed.getD k true = false := fun k hun => by
        by_cases hjk : j = k
        · subst hjk; exact hjun
        · rw [getD_set_ne true hjk] at hun; exact hun
      have hL' : ∀ k, (listed.setIfInBounds j true).getD k false = true → C k := fun k hk => by
        by_cases hjk : j = k
        · subst hjk; exact hCj
        · rw [getD_set_ne false hjk] at hk; exact hL k hk
      refine wpOp_mono (fun a' w' h3 => ?_) h2
      obtain ⟨h3, h4, h5⟩ := h3
      have hSw : S w' := hS' j oj hoj hCj hjun w w' h4 hS
      refine ⟨h4, ih (listed.setIfInBounds j true) a' w' hL' (fun k ok hk hc hun => hS' k ok hk hc (un k hun))
        (fun k ok hk hki hun hno => hfree k ok hk hki (un k hun) hno) (ready_mono hr (Ne.symm hji)) h3 hSw ?_⟩
      rw [Array.setIfInBounds_comm _ _ hji]
      exact h5
end

/-! ### The reckoned row -/
theorem memN_mem (i : Nat) : ∀ L : List Nat, memN i L = true ↔ i ∈ L
  | [] => by simp [memN]
  | j :: r => by
    simp only [memN]
    cases h : Nat.beq j i with
    | true => simp [Nat.eq_of_beq_eq_true h]
    | false =>
      have : i ≠ j := fun e => by subst e; simp at h
      simp [this, memN_mem i r]
theorem allIn_spec : ∀ (xs L : List Nat), allIn xs L = true ↔ ∀ i ∈ xs, i ∈ L
  | [], L => by simp [allIn]
  | i :: r, L => by
    simp only [allIn]
    cases h : memN i L with
    | true => simp [(memN_mem i L).1 h, allIn_spec r L]
    | false =>
      have : ¬ i ∈ L := fun e => by rw [(memN_mem i L).2 e] at h; cases h
      simp [this]
theorem mem_depsOf {o : Oper} {k : Nat} : k ∈ depsOf o ↔ ∃ e ∈ o.after, Region.binds .any e = true ∧ e.on = k := by
  unfold depsOf
  simp only [List.mem_map, List.mem_filter, Array.mem_toList_iff]
  constructor
  · rintro ⟨e, ⟨h1, h2⟩, h3⟩; exact ⟨e, h1, h2, h3⟩
  · rintro ⟨e, h1, h2, h3⟩; exact ⟨e, ⟨h1, h2⟩, h3⟩
theorem mem_number {α : Type} : ∀ (l : List α) (n i : Nat) (x : α), (i, x) ∈ numberFrom n l ↔ ∃ k, i = n + k ∧ l[k]? = some x
  | [], n, i, x => by simp [numberFrom]
  | y :: r, n, i, x => by
    simp only [numberFrom, List.mem_cons, Prod.mk.injEq, mem_number r (n + 1) i x]
    constructor
    · rintro (⟨rfl, rfl⟩ | ⟨k, rfl, h⟩)
      · exact ⟨0, by simp, by simp⟩
      · exact ⟨k + 1, by omega, by simpa using h⟩
    · rintro ⟨k, rfl, h⟩
      cases k with
      | zero => left; simp at h; exact ⟨by simp, h.symm⟩
      | succ k => right; exact ⟨k, by omega, by simpa using h⟩
theorem mem_num {ops : Array Oper} {i : Nat} {o : Oper} : (i, o) ∈ numberFrom 0 ops.toList ↔ ops[i]? = some o := by
  rw [mem_number]
  constructor
  · rintro ⟨k, rfl, h⟩; simpa using h
  · intro h; exact ⟨i, by simp, by simpa using h⟩

/-- What is listed, as a row of numbers. -/
structure LR (ops : Array Oper) (L : List Nat) (listed : Array Bool) : Prop where
  size : listed.size = ops.size
  mem : ∀ i, i < ops.size → (listed.getD i true = true ↔ i ∈ L)
  lt : ∀ i ∈ L, i < ops.size
theorem LR.getF {ops : Array Oper} {L : List Nat} {listed : Array Bool} (h : LR ops L listed) (i : Nat) : listed.getD i false = true ↔ i ∈ L := by
  rcases Nat.lt_or_ge i ops.size with hi | hi
  · rw [← h.mem i hi]
    have : i < listed.size := by rw [h.size]; exact hi
    simp [this]
  · have : ¬ i < listed.size := by rw [h.size]; omega
    constructor
    · intro e; simp [Array.getElem?_eq_none (Nat.not_lt.1 this)] at e
    · intro e; have := h.lt i e; omega
theorem LR.un {ops : Array Oper} {L : List Nat} {listed : Array Bool} (h : LR ops L listed) {i : Nat} (hi : i < ops.size) : listed.getD i true = false ↔ ¬ i ∈ L := by
  rw [← h.mem i hi]; simp
theorem LR.ready {ops : Array Oper} {L : List Nat} {listed : Array Bool} (h : LR ops L listed) (i : Nat) :
    i ∈ Region.ready .any ops listed ↔ ∃ o, (i, o) ∈ readyL (numberFrom 0 ops.toList) L := by
  rw [mem_ready]
  unfold readyL
  simp only [List.mem_filter, mem_num]
  constructor
  · rintro ⟨h1, o, h2, h3⟩
    have hi := (Array.getElem?_eq_some_iff.1 h2).1
    have hn := (h.un hi).1 h1
    refine ⟨o, h2, ?_⟩
    have : memN i L = false := by rw [Bool.eq_false_iff]; exact fun e => hn ((memN_mem i L).1 e)
    rw [this, cond_false, allIn_spec]
    intro k hk
    obtain ⟨e, e1, e2, rfl⟩ := mem_depsOf.1 hk
    exact (h.getF _).1 (h3 e e1 e2)
  · rintro ⟨o, h2, h3⟩
    have hi := (Array.getElem?_eq_some_iff.1 h2).1
    obtain ⟨h4, h5⟩ : memN i L = false ∧ allIn (depsOf o) L = true := by
      cases e : memN i L with
      | true => rw [e] at h3; cases h3
      | false => rw [e] at h3; exact ⟨rfl, h3⟩
    refine ⟨(h.un hi).2 fun e => ?_, o, h2, fun e he hb => (h.getF _).2 ((allIn_spec _ _).1 h5 _ (mem_depsOf.2 ⟨e, he, hb, rfl⟩))⟩
    rw [(memN_mem i L).2 e] at h4; cases h4
theorem LR.set {ops : Array Oper} {L : List Nat} {listed : Array Bool} (h : LR ops L listed) {i : Nat} (hi : i < ops.size) : LR ops (i :: L) (listed.setIfInBounds i true) := by
  refine ⟨by simp [h.size], fun j hj => ?_, fun j hj => ?_⟩
  · by_cases e : i = j
    · subst e
      have : i < listed.size := by rw [h.size]; exact hi
      simp [this]
    · rw [getD_set_ne true e, h.mem j hj]
      simp [Ne.symm e]
  · rcases List.mem_cons.1 hj with rfl | hj
    · exact hi
    · exact h.lt j hj
theorem noSel_spec : ∀ (l : List Oper), noSel l = true → ∀ o ∈ l, ∀ cs b, o.op ≠ .select cs b
  | [], _, _, h, _, _ => by cases h
  | o :: r, h, o', ho, cs, b => by
    have h' : noSel r = true ∧ ∀ cs b, o.op ≠ .select cs b := by
      unfold noSel at h
      cases hop : o.op <;> rw [hop] at h <;> first | (cases h; done) | exact ⟨h, by simp⟩
    rcases List.mem_cons.1 ho with rfl | ho
    · exact h'.2 cs b
    · exact noSel_spec r h'.1 o' ho cs b

theorem pickB_spec {mb : Bool} {P : Program} {ops : Array Oper} {num : List (Nat × Oper)} {L : List Nat} {j : Nat} {oj : Oper} : ∀ (r : List (Nat × Oper)), pickB mb P ops num L r = some (j, oj) →
    (j, oj) ∈ r ∧ reader oj.op = true ∧ freeB ops num L j oj = true ∧ (blind P oj.op = true ∨ quietB mb num L j = true)
  | [], h => by cases h
  | (i, o) :: r, h => by
    unfold pickB at h
    cases h1 : reader o.op with
    | false => rw [h1] at h; obtain ⟨e, f⟩ := pickB_spec r h; exact ⟨List.mem_cons_of_mem _ e, f⟩
    | true =>
      rw [h1] at h
      cases h2 : freeB ops num L i o with
      | false => rw [h2] at h; obtain ⟨e, f⟩ := pickB_spec r h; exact ⟨List.mem_cons_of_mem _ e, f⟩
      | true =>
        rw [h2] at h
        cases h3 : blind P o.op with
        | true =>
          rw [h3] at h
          simp only [cond_true, Option.some.injEq, Prod.mk.injEq] at h
          obtain ⟨rfl, rfl⟩ := h
          exact ⟨List.mem_cons_self, h1, h2, .inl h3⟩
        | false =>
          rw [h3] at h
          cases h4 : quietB mb num L i with
          | true =>
            rw [h4] at h
            simp only [cond_true, cond_false, Option.some.injEq, Prod.mk.injEq] at h
            obtain ⟨rfl, rfl⟩ := h
            exact ⟨List.mem_cons_self, h1, h2, .inr h4⟩
          | false => rw [h4] at h; obtain ⟨e, f⟩ := pickB_spec r h; exact ⟨List.mem_cons_of_mem _ e, f⟩

/-- One step of a row. -/
theorem evOps_cons {mb : Bool} {E : Env} {ops : Array Oper} {o : Oper} {l : List Oper} {S : St} {K : St → Option R} {q : R} (h : evOps E mb ops (o :: l) S K = some q) {m : Nat} {w₀ : Base} {I₀ O₀ : Nat → Nat → Prop}
    {ρ : Nat → Option Real} {I : Nat → Nat → Prop} {a : Act} {w : World} (hr : Rel m w₀ I₀ O₀ ρ I S a w) : ∃ S', Rel m w₀ I₀ O₀ ρ I S' a w ∧
      ((Region.wanted o (yielded ops a.tmps) = true ∧ (mb = true → mildOk E.P S' o = true) ∧ (evOp E S' o fun v S => evOps E mb ops l (S.put o.dst v) K) = some q) ∨
       (Region.wanted o (yielded ops a.tmps) = false ∧ evOps E mb ops l (S'.put o.dst (.tup [])) K = some q)) := by
  have hm : ∀ (S' : St), (evOpM E mb S' o fun v S => evOps E mb ops l (S.put o.dst v) K) = some q → (mb = true → mildOk E.P S' o = true) ∧ (evOp E S' o fun v S => evOps E mb ops l (S.put o.dst v) K) = some q := fun S' hh => by
    unfold evOpM at hh
    obtain ⟨h1, h2⟩ := cond_none hh
    exact ⟨fun e => by rw [e] at h1; exact h1, h2⟩
  unfold evOps at h
  simp only [vf_eq] at h
  split at h
  · rename_i hg
    exact ⟨S, hr, .inl ⟨by simp [Region.wanted, hg], hm _ h⟩⟩
  · rename_i j want hg
    split at h
    · rename_i t hs
      have hy : yielded ops a.tmps j = match a.tmps[t]? with | some (.bool b) => some b | _ => none := by
        unfold slotOf at hs
        unfold yielded
        split at hs
        · rename_i oj hoj; rw [hoj]; simp only [Option.bind_some, hs]; cases a.tmps[t]? with | none => rfl | some u => cases u <;> rfl
        · cases hs
      have hw : ∀ b, a.tmps[t]? = some (.bool b) → Region.wanted o (yielded ops a.tmps) = (b == want) := fun b hb => by
        simp only [Region.wanted, hg]
        rw [hy, hb]; cases b <;> cases want <;> rfl
      split at h
      · rename_i b hb
        have hlk := get_some hb (by simp)
        have hbt := tmps_bool (hr.fr t _ hlk).bool_inv
        have hrs := hr.reset hlk
        cases b with
        | true =>
          simp only [cond_true] at h
          cases want with
          | true => exact ⟨_, hrs, .inl ⟨by rw [hw _ hbt]; rfl, hm _ h⟩⟩
          | false => exact ⟨_, hrs, .inr ⟨by rw [hw _ hbt]; rfl, h⟩⟩
        | false =>
          simp only [cond_false] at h
          cases want with
          | true => exact ⟨_, hrs, .inr ⟨by rw [hw _ hbt]; rfl, h⟩⟩
          | false => exact ⟨_, hrs, .inl ⟨by rw [hw _ hbt]; rfl, hm _ h⟩⟩
      · rename_i hb
        have hlk := get_some hb (by simp)
        obtain ⟨xs, hx, hxl, _⟩ := (hr.fr t _ hlk).tup_inv
        have hxs : xs = [] := by cases xs with | nil => rfl | cons _ _ => cases hxl
        have hn : yielded ops a.tmps j = none := by
          rw [hy]
          cases e : a.tmps[t]? with
          | none => rfl
          | some u =>
            rw [Array.getD_eq_getD_getElem?, e, Option.getD_some, hxs] at hx
            subst hx; rfl
        exact ⟨S, hr, .inr ⟨by simp only [Region.wanted, hg, hn]; cases want <;> simp, h⟩⟩
      · cases h
    · cases h

section
variable {m : Nat}
theorem sched_ok {mb : Bool} {E : Env} (hG : ∀ f D, E.G f = some D → FnOk E.P f D) (ops : Array Oper) (hsel : noSel ops.toList = true) (hd : ∀ o ∈ ops.toList, ∀ d, o.dst = some d → d < m) {K : St → Option R} {q : R} {w₀ : Base} {I₀ O₀ : Nat → Nat → Prop} {Q : Exit → Act → World → Prop}
    (hp : ∀ c a w, ¬ Q (.panic c) a w) (hK : ∀ S a w ρ I, Rel m w₀ I₀ O₀ ρ I S a w → K S = some q → Q .normal a w) :
    ∀ (n : Nat) (L : List Nat) (l : List Oper), sched mb E.P ops (numberFrom 0 ops.toList) n L = some l → ∀ listed, LR ops L listed → ∀ (S : St), evOps E mb ops l S K = some q →
      ∀ a w ρ I, Rel m w₀ I₀ O₀ ρ I S a w → wpAnyK mb E.P .any ops Q n listed a w := by
  have sel : ∀ (j : Nat) (o : Oper) cs b, ops[j]? = some o → o.op ≠ .select cs b := fun j o cs b ho => noSel_spec _ hsel o (by
    have := Array.mem_of_getElem? ho
    simpa using this) cs b
  have hdst : ∀ (j : Nat) (o : Oper), ops[j]? = some o → ∀ d, o.dst = some d → d < m := fun j o ho => hd o (by
    have := Array.mem_of_getElem? ho
    simpa using this)
  have done : ∀ (L : List Nat) (listed : Array Bool), LR ops L listed → readyL (numberFrom 0 ops.toList) L = [] → Region.ready .any ops listed = [] := fun L listed hL h => by
    refine List.eq_nil_iff_forall_not_mem.2 fun i hi => ?_
    obtain ⟨o, ho⟩ := (hL.ready i).1 hi
    rw [h] at ho; cases ho
  intro n
  induction n with
  | zero =>
    intro L l h listed hL S hev a w ρ I hr
    unfold sched at h
    split at h
    · rename_i hrd
      cases h
      exact ⟨done L listed hL hrd, hK S a w ρ I hr hev⟩
    · cases h
  | succ n ih =>
    intro L l h listed hL S hev a w ρ I hr
    unfold sched at h
    split at h
    · rename_i hrd
      cases h
      have := done L listed hL hrd
      exact ⟨fun _ => hK S a w ρ I hr hev, by rw [this]; simp⟩
    · rename_i i o r hrd
      have mem : ∀ (j : Nat) (oj : Oper), (j, oj) ∈ (i, o) :: r → ops[j]? = some oj ∧ j ∈ Region.ready .any ops listed := fun j oj hj => by
        rw [← hrd] at hj
        exact ⟨mem_num.1 (List.mem_filter.1 hj).1, (hL.ready j).2 ⟨oj, hj⟩⟩
      split at h
      · -- a reader is taken first
        rename_i j oj hpick
        split at h
        · rename_i l' hs
          cases h
          obtain ⟨p1, p2, p3, p4⟩ := pickB_spec _ hpick
          obtain ⟨hj, hjr⟩ := mem j oj p1
          have hlt := (Array.getElem?_eq_some_iff.1 hj).1
          obtain ⟨S', hr', hstep⟩ := evOps_cons hev hr
          have free : ∀ k ok, ops[k]? = some ok → k ≠ j → listed.getD k true = false → (∀ e ∈ ok.after, Region.binds .any e = true → e.on ≠ j) → oj.apart ops ok = true := fun k ok hk hkj hun hno => by
            have := List.all_eq_true.1 p3 (k, ok) (mem_num.2 hk)
            have hkl := (Array.getElem?_eq_some_iff.1 hk).1
            have e1 : Nat.beq k j = false := by rw [Bool.eq_false_iff]; exact fun e => hkj (Nat.eq_of_beq_eq_true e)
            have e2 : memN k L = false := by rw [Bool.eq_false_iff]; exact fun e => (hL.un hkl).1 hun ((memN_mem k L).1 e)
            have e3 : memN j (depsOf ok) = false := by
              rw [Bool.eq_false_iff]
              intro e
              obtain ⟨e, e1, e2, e3⟩ := mem_depsOf.1 ((memN_mem _ _).1 e)
              exact hno e e1 e2 e3
            simpa only [e1, e2, e3, cond_false] using this
          have take : ∀ (T : World → Prop) (C : Nat → Prop) (v : Value) (S₂ : St), T w → (∀ k ok, ops[k]? = some ok → k ≠ j → (∀ e ∈ ok.after, Region.binds .any e = true → C e.on) → C k) → (∀ k, k ∈ L → C k) →
              (∀ k ok, ops[k]? = some ok → C k → ¬ k ∈ L → ∀ w w', (rdI mb ops k = true → Keeps (fun _ _ => False) w w') → T w → T w') → YieldsIf E.P ops T oj v a → evOps E mb ops l' S₂ K = some q →
              Rel m w₀ I₀ O₀ ρ I S₂ (a.put oj.dst v) w → wpAnyK mb E.P .any ops Q (n + 1) listed a w := fun T C v S₂ hT hC hCL hCT hy he hr₂ => by
            refine wpAnyK_first (S := T) (C := C) (v := v) hj sel (fun c a w h => absurd h (hp _ _ _)) hC n listed a w (fun k hk => hCL k ((hL.getF k).1 hk)) (fun k ok hk hc hun => ?_) free hjr hy hT ?_
            · exact hCT k ok hk hc ((hL.un (Array.getElem?_eq_some_iff.1 hk).1).1 hun)
            · exact ih (j :: L) l' hs _ (hL.set hlt) S₂ he _ w ρ I hr₂
          have hdj := hdst j oj hj
          rcases hstep with ⟨hw, _, he⟩ | ⟨hw, he⟩
          · obtain ⟨v, h1, h2, h3⟩ := evOp_pure (m := m) p2 he
            by_cases hb : blind E.P oj.op = true
            · obtain ⟨x, g1, g2⟩ := h3 hb w₀ I₀ O₀ ρ I a w hr'
              exact take (fun _ => True) (fun _ => True) x _ trivial (fun _ _ _ _ _ => trivial) (fun _ _ => trivial) (fun _ _ _ _ _ _ _ _ _ => trivial) (.inl ⟨hw, fun w' _ => g1 w'⟩) h1 (hr'.put g2 oj.dst hdj)
            · obtain ⟨x, g1, g2⟩ := h2 w₀ I₀ O₀ ρ I a w hr'
              have hq := p4.resolve_left hb
              unfold quietB quietC at hq
              cases hjc : memN j (closeB j (numberFrom 0 ops.toList) L) with
              | true => rw [hjc] at hq; cases hq
              | false =>
              cases hin : allIn L (closeB j (numberFrom 0 ops.toList) L) with
              | false => rw [hjc, hin] at hq; cases hq
              | true =>
                rw [hjc, hin, cond_false, cond_true, List.all_eq_true] at hq
                have hin := (allIn_spec _ _).1 hin
                refine take (fun w' => Keeps (fun _ _ => False) w w') (fun k => k ∈ closeB j (numberFrom 0 ops.toList) L) x _ (Keeps.refl _ _) (fun k ok hk hkj hall => ?_) hin (fun k ok hk hc hun w₁ w₂ hrd' hw₁ => ?_) (.inl ⟨hw, fun w' e => g1 w' e⟩) h1 (hr'.put g2 oj.dst hdj)
                · have := hq (k, ok) (mem_num.2 hk)
                  have e1 : Nat.beq k j = false := by rw [Bool.eq_false_iff]; exact fun e => hkj (Nat.eq_of_beq_eq_true e)
                  have e2 : allIn (depsOf ok) (closeB j (numberFrom 0 ops.toList) L) = true := (allIn_spec _ _).2 fun d hd' => by
                    obtain ⟨e, h1, h2, rfl⟩ := mem_depsOf.1 hd'
                    exact hall e h1 h2
                  simp only [e1, e2, cond_false] at this
                  cases e3 : memN k (closeB j (numberFrom 0 ops.toList) L) with
                  | true => exact (memN_mem _ _).1 e3
                  | false => rw [e3] at this; cases this
                · have := hq (k, ok) (mem_num.2 hk)
                  have hkj : k ≠ j := fun e => by
                    subst e
                    rw [(memN_mem _ _).2 hc] at hjc; cases hjc
                  have e1 : Nat.beq k j = false := by rw [Bool.eq_false_iff]; exact fun e => hkj (Nat.eq_of_beq_eq_true e)
                  have e2 : memN k L = false := by rw [Bool.eq_false_iff]; exact fun e => hun ((memN_mem k L).1 e)
                  simp only [e1, (memN_mem _ _).2 hc, e2, cond_false, cond_true] at this
                  exact hw₁.trans' (hrd' (by simp [rdI, hk, this]))
          · exact take (fun _ => True) (fun _ => True) Go.undef _ trivial (fun _ _ _ _ _ => trivial) (fun _ _ => trivial) (fun _ _ _ _ _ _ _ _ _ => trivial) (.inr ⟨hw, rfl⟩) he (hr'.put (.tup [] [] rfl fun i hi => by cases hi) oj.dst hdj)
        · cases h
      · -- it stands alone
        split at h
        · split at h
          · rename_i l' hs
            cases h
            obtain ⟨hi, hir⟩ := mem i o List.mem_cons_self
            have hlt := (Array.getElem?_eq_some_iff.1 hi).1
            obtain ⟨S', hr', hstep⟩ := evOps_cons hev hr
            refine ⟨fun h0 => (by rw [h0] at hir; cases hir), fun k hk => ?_⟩
            obtain ⟨ok, hok⟩ := (hL.ready k).1 hk
            rw [hrd] at hok
            have hki : k = i := by
              rcases List.mem_cons.1 hok with h | h
              · cases h; rfl
              · cases h
            subst hki
            unfold wpOp
            simp only [hi]
            rcases hstep with ⟨hw, hmd, he⟩ | ⟨hw, he⟩
            · rw [if_pos hw]
              refine .inl ?_
              by_cases hrdo : reader o.op = true
              · obtain ⟨v, h1, h2, _⟩ := evOp_pure (m := m) hrdo he
                obtain ⟨x, g1, g2⟩ := h2 w₀ I₀ O₀ ρ I a w hr'
                exact wp_value (g1 w (Keeps.refl _ _)) ⟨fun _ => Keeps.refl _ _, ih (k :: L) l' hs _ (hL.set hlt) _ h1 _ w ρ I (hr'.put g2 o.dst (hdst k o hi))⟩
              · by_cases hc : mb = true ∧ isCallV o.op = true
                · obtain ⟨v, S₁, h1, _, h3⟩ := evOp_mild (m := m) hG hc.2 (hmd hc.1) he
                  exact h3 w₀ I₀ O₀ ρ I a w hr' _ _ fun x w' ρ' I' g1 g2 g3 => ⟨fun _ => g3 trivial, ih (k :: L) l' hs _ (hL.set hlt) _ h1 _ w' ρ' I' (g1.put g2 o.dst (hdst k o hi))⟩
                obtain ⟨v, S₁, h1, _, h3⟩ := evOp_ok (m := m) hG he
                exact h3 w₀ I₀ O₀ ρ I a w hr' _ _ fun x w' ρ' I' g1 g2 => ⟨fun e => absurd (show mlB mb o.op = true by simpa [rdI, hi] using e) (by
                  unfold mlB
                  cases e1 : reader o.op with
                  | true => exact absurd e1 hrdo
                  | false => cases e2 : mb with
                    | false => simp
                    | true => cases e3 : isCallV o.op with
                      | true => exact absurd ⟨e2, e3⟩ hc
                      | false => simp), ih (k :: L) l' hs _ (hL.set hlt) _ h1 _ w' ρ' I' (g1.put g2 o.dst (hdst k o hi))⟩
            · rw [if_neg (by rw [hw]; simp)]
              exact ⟨fun _ => Keeps.refl _ _, ih (k :: L) l' hs _ (hL.set hlt) _ he _ w ρ I (hr'.put (.tup [] [] rfl fun i hi => by cases hi) o.dst (hdst k o hi))⟩
          · cases h
        · cases h

/-- A region whose order is drawn. -/
theorem draw_ok {mb : Bool} {E : Env} (hG : ∀ f D, E.G f = some D → FnOk E.P f D) {id : Nat} {ops : Array Oper} (hm : E.P.follows .mixedOrders = true) (hsel : noSel ops.toList = true) (hd : ∀ o ∈ ops.toList, ∀ d, o.dst = some d → d < m) {l : List Oper}
    (hs : sched mb E.P ops (numberFrom 0 ops.toList) ops.size [] = some l) {K : St → Option R} {q : R} {S : St} (hev : evOps E mb ops l S K = some q) {w₀ : Base} {I₀ O₀ : Nat → Nat → Prop} {ρ : Nat → Option Real} {I : Nat → Nat → Prop} {a : Act} {w : World}
    (hr : Rel m w₀ I₀ O₀ ρ I S a w) {Q : Exit → Act → World → Prop} (hK : ∀ S a w ρ I, Rel m w₀ I₀ O₀ ρ I S a w → K S = some q → Q .normal a w) : (Code.region id ops true).wp E.P Q a w := by
  let Q' : Exit → Act → World → Prop := fun e a w => match e with | .panic _ => False | e => Q e a w
  have h0 : wpAnyK mb E.P .any ops Q' ops.size (Array.replicate ops.size false) a { w with drawn := w.drawn + 1 } :=
    sched_ok (m := m) hG ops hsel hd (Q := Q') (fun c a w h => h) hK ops.size [] l hs _ ⟨by simp, fun i hi => by simp [hi], fun i hi => by cases hi⟩ S hev a _ ρ I (hr.grow (Keeps.drawn _ w _))
  exact wp_mono (wp_region_any hm (wpAny_of_k _ _ _ _ h0)) (fun e a w h => by cases e <;> first | exact h | exact h.elim)
end
end Go.Ev
