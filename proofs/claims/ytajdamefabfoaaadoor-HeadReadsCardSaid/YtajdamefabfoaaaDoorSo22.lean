/- Regions whose order is drawn: whichever order comes, it does what the row that was found does; the callees' soundness is a premise. -/
import Derived.Test.YtajdamefabfoaaaDoorSo21
import Derived.OrdersHeld
namespace Go.Ev
open Go Go.RowKit

/-! ### How many are not listed -/
def cnt (l : Array Bool) : Nat := l.toList.count false
theorem cnt_set {l : Array Bool} {i : Nat} (h : l.getD i true = false) : cnt (l.setIfInBounds i true) + 1 = cnt l := by
  have hi : i < l.size := by
    rcases Nat.lt_or_ge i l.size with h' | h'
    · exact h'
    · simp [Array.getElem?_eq_none h'] at h
  unfold cnt
  rw [Array.toList_setIfInBounds, List.count_set (by simpa using hi)]
  have e : l.toList[i]'(by simpa using hi) = false := by simpa [hi] using h
  have : 0 < l.toList.count false := List.count_pos_iff.2 (e ▸ List.getElem_mem _)
  rw [e]
  simp only [BEq.rfl, if_true]
  rw [if_neg (by simp)]
  omega
theorem cnt_zero {l : Array Bool} (h : cnt l = 0) (i : Nat) : l.getD i true = true := by
  cases e : l.getD i true with
  | true => rfl
  | false => have := cnt_set e; omega

/-! ### Variables that wait -/
section
variable {m : Nat} {w₀ : Base} {I₀ O₀ : Nat → Nat → Prop} {ρ : Nat → Option Real} {I : Nat → Nat → Prop} {S : St} {a : Act} {w : World}

structure PendOk (P : Program) (ops : Array Oper) (w₀ : Base) (ρ : Nat → Option Real) (I : Nat → Nat → Prop) (S : St) (a : Act) (w : World) (i b : Nat) : Prop where
  ex : ∃ (oi : Oper) (e : TypeId) (t : Nat) (z : Value), ops[i]? = some oi ∧ oi.op = .alloc e ∧ oi.guard = none ∧ oi.dst = some t ∧ (∀ j oj, ops[j]? = some oj → j ≠ i → oj.dst ≠ some t) ∧
    (∀ w I ρ, AllRv w I ρ (zeroOf P FUEL e) z.cells.toList) ∧ a.tmps.getD t Go.undef = .pointer (some ⟨b, 0, none⟩) ∧ w.heap[b]? = some (.cells z.cells e (0, 0))
  noI : ∀ o, ¬ I b o
  noB : ∀ d br o, Live S d → ρ d = some br → ¬ br.has b o
  new : w₀.heap.size ≤ b
theorem PendOk.lt {P : Program} {ops : Array Oper} {i b : Nat} (h : PendOk P ops w₀ ρ I S a w i b) : b < w.heap.size := by
  obtain ⟨_, _, _, _, _, _, _, _, _, _, _, h⟩ := h.ex
  rcases Nat.lt_or_ge b w.heap.size with h' | h'
  · exact h'
  · rw [Array.getElem?_eq_none h'] at h; cases h
theorem PendOk.next {P : Program} {ops : Array Oper} {i b : Nat} (h : PendOk P ops w₀ ρ I S a w i b) {k : Nat} {ok : Oper} (hk : ops[k]? = some ok) (hki : k ≠ i) {x : Value} {X : Nat → Nat → Prop} {w' : World}
    (hw : Keeps X w w') (hX : ∀ o, ¬ X b o) {ρ' : Nat → Option Real} {I' : Nat → Nat → Prop} {S' : St} (hI : ∀ o, ¬ I' b o) (hB : ∀ d br o, Live S' d → ρ' d = some br → ¬ br.has b o) :
    PendOk P ops w₀ ρ' I' S' (a.put ok.dst x) w' i b := by
  obtain ⟨oi, e, t, z, h1, h2, h3, h4, h5, h6, h7, h8⟩ := h.ex
  refine ⟨⟨oi, e, t, z, h1, h2, h3, h4, h5, h6, ?_, ?_⟩, hI, hB, h.new⟩
  · cases hd : ok.dst with
    | none => exact h7
    | some t' =>
      have hne : t' ≠ t := fun e => h5 k ok hk hki (by rw [hd, e])
      simp only [Act.put]
      rw [Array.getD_eq_getD_getElem?, Array.getElem?_setIfInBounds, if_neg hne, ← Array.getD_eq_getD_getElem?]
      exact h7
  · have := hw.obj b h.lt
    rw [h8] at this
    obtain ⟨c', g1, g2, g3⟩ := this
    rw [g1]
    congr 2
    exact Array.ext_getElem? fun i => g3 i (hX i)

/-- A variable made early: it waits. -/
theorem Rel.early (h : Rel m w₀ I₀ O₀ ρ I S a w) {t : Nat} (ht : lk? S.fr t = none) (o : Obj) (x : Value) : Rel m w₀ I₀ O₀ ρ I S (a.put (some t) x) (w.alloc o) :=
  (h.grow (Keeps.alloc _ w o)).setTmp ht x
theorem PendOk.fresh (h : Rel m w₀ I₀ O₀ ρ I S a w) {P : Program} {ops : Array Oper} {i : Nat} {oi : Oper} {e : TypeId} {t : Nat} {z : Value} (h1 : ops[i]? = some oi) (h2 : oi.op = .alloc e) (h3 : oi.guard = none) (h4 : oi.dst = some t)
    (h5 : ∀ j oj, ops[j]? = some oj → j ≠ i → oj.dst ≠ some t) (h6 : ∀ w I ρ, AllRv w I ρ (zeroOf P FUEL e) z.cells.toList) (ht : t < m) :
    PendOk P ops w₀ ρ I S (a.put (some t) (.pointer (some ⟨w.heap.size, 0, none⟩))) (w.alloc (.cells z.cells e)) i w.heap.size := by
  refine ⟨⟨oi, e, t, z, h1, h2, h3, h4, h5, h6, ?_, heap_alloc_new w _⟩, fun o hi => ?_, fun d br o hl hd hh => ?_, h.keeps.size⟩
  · simp only [Act.put]
    rw [Array.getD_eq_getD_getElem?, Array.getElem?_setIfInBounds]
    simp [h.size, ht]
  · have := h.ilt _ _ hi; omega
  · obtain ⟨⟨y, hy⟩, _⟩ := h.alive d br _ _ hl hd hh
    have := lt_of_cell hy; omega
/-- A variable that has waited comes up. -/
theorem Rel.adopt (h : Rel m w₀ I₀ O₀ ρ I S a w) {P : Program} {ops : Array Oper} {i b : Nat} (hp : PendOk P ops w₀ ρ I S a w i b) {oi : Oper} {e : TypeId} {t : Nat} (h1 : ops[i]? = some oi) (h2 : oi.op = .alloc e) (h4 : oi.dst = some t)
    (hn : lk? S.tab (BOX + t) = none) : ∃ br, br.base = some (b, 0) ∧ Rel m w₀ I₀ O₀ (upd ρ (BOX + t) br) I (St.put { S with tab := S.tab ++ [(BOX + t, .var (zeroOf P FUEL e))] } (some t) (.ptr (BOX + t) 0 0 0)) a w := by
  obtain ⟨oi', e', t', z, g1, g2, g3, g4, g5, g6, g7, g8⟩ := hp.ex
  rw [h1] at g1; cases g1
  rw [h2] at g2; cases g2
  rw [h4] at g4; cases g4
  let br : Real := { base := some (b, 0), sz := (zeroOf P FUEL e).length, n := 1, cap := 1, gen := 0 }
  have hz := g6 w I (upd ρ (BOX + t) br)
  have hcell : ∀ o, o < z.cells.size → w.cell? ⟨b, o, none⟩ = some (z.cells.toList.getD o Go.undef) := fun o ho => by
    rw [cell_eq, g8]; simp [ho]
  have hbox : BoxR w I (upd ρ (BOX + t) br) (.var (zeroOf P FUEL e)) br := ⟨rfl, rfl, rfl, rfl, b, 0, rfl, fun j hj => by
    have hj' : j < z.cells.size := by have := hz.1; simp at this; omega
    exact ⟨_, by rw [Nat.zero_add]; exact hcell j hj', hz.2 j hj⟩⟩
  have hadd := h.addBox hn hbox fun b' o hh => by
    obtain ⟨o₀, k1, k2, k3⟩ := hh
    cases k1
    have ho : o < z.cells.size := by have := hz.1; simp [br] at this k3; omega
    refine ⟨hp.new, hp.noI o, ⟨_, hcell o ho⟩, ?_, fun d br' hl hd => hp.noB d br' o hl hd⟩
    rw [frozen_eq, g8]; simp
  refine ⟨br, rfl, hadd.1.bind ?_⟩
  rw [g7]
  exact .ptr (BOX + t) 0 0 0 br _ (by simp [upd]) (Nat.le_refl _) (fun _ => ⟨Nat.one_pos, b, 0, rfl, by simp⟩) ⟨_, rfl⟩

/-! ### What readers need -/
/-- What operation 'k' keeps is what is shared, or a box that an entry names. -/
def ZInv (Z : Nat → Nat → Nat → Prop) (Pr : List (List Nat × List Nat)) (L : List Nat) (S : St) (ρ : Nat → Option Real) (I : Nat → Nat → Prop) (w : World) : Prop :=
  ∀ k b o, ¬ k ∈ L → Z k b o → b < w.heap.size ∧ (I b o ∨ ∃ p, p ∈ Pr ∧ k ∈ p.1 ∧ ∃ d br, d ∈ p.2 ∧ Live S d ∧ ρ d = some br ∧ br.has b o)
theorem allIn_spec' {xs L : List Nat} (h : allIn xs L = false) : ∃ i, i ∈ xs ∧ ¬ i ∈ L := by
  refine Classical.byContradiction fun hn => ?_
  have : allIn xs L = true := (allIn_spec xs L).2 fun i hi => Classical.byContradiction fun hh => hn ⟨i, hi, hh⟩
  rw [h] at this; cases this
theorem hidOf_mem {L : List Nat} {k : Nat} (hk : ¬ k ∈ L) : ∀ {Pr : List (List Nat × List Nat)} {p : List Nat × List Nat} {d : Nat}, p ∈ Pr → k ∈ p.1 → d ∈ p.2 → d ∈ hidOf L Pr
  | [], _, _, hp, _, _ => by cases hp
  | (C, ds) :: r, p, d, hp, hc, hd => by
    unfold hidOf
    rcases List.mem_cons.1 hp with rfl | hp
    · have : allIn C L = false := by
        rw [Bool.eq_false_iff]; exact fun e => hk ((allIn_spec C L).1 e k hc)
      rw [this, cond_false]; exact List.mem_append_left _ hd
    · have := hidOf_mem hk hp hc hd
      cases allIn C L with
      | true => exact this
      | false => exact List.mem_append_right _ this

end

/-! ### The row is as good as any order -/
theorem mem_readyL {num : List (Nat × Oper)} {L : List Nat} {i : Nat} {o : Oper} : (i, o) ∈ readyL num L ↔ (i, o) ∈ num ∧ ¬ i ∈ L ∧ ∀ k, k ∈ depsOf o → k ∈ L := by
  unfold readyL
  rw [List.mem_filter]
  cases h : memN i L with
  | true => simp [(memN_mem i L).1 h]
  | false =>
    have : ¬ i ∈ L := fun e => by rw [(memN_mem i L).2 e] at h; cases h
    simp only [cond_false, allIn_spec, this, not_false_eq_true, true_and]
theorem LR.congr {ops : Array Oper} {L L' : List Nat} {listed : Array Bool} (h : LR ops L listed) (hL : ∀ i, i ∈ L ↔ i ∈ L') : LR ops L' listed :=
  ⟨h.size, fun i hi => (h.mem i hi).trans (hL i), fun i hi => h.lt i ((hL i).2 hi)⟩
theorem live_tab {S S' : St} (h : S'.tab = S.tab) (d : Nat) : Live S' d ↔ Live S d := by unfold Live; rw [h]
theorem ZInv.tab {Z : Nat → Nat → Nat → Prop} {Pr : List (List Nat × List Nat)} {L : List Nat} {S S' : St} {ρ : Nat → Option Real} {I : Nat → Nat → Prop} {w : World} (h : ZInv Z Pr L S ρ I w) (ht : S'.tab = S.tab) {L' : List Nat} (hL : ∀ k, k ∈ L → k ∈ L') : ZInv Z Pr L' S' ρ I w := fun k b o hk hz => by
  obtain ⟨h1, h2⟩ := h k b o (fun e => hk (hL k e)) hz
  refine ⟨h1, h2.imp id fun ⟨p, g1, g2, d, br, g3, g4, g5⟩ => ⟨p, g1, g2, d, br, g3, (live_tab ht d).2 g4, g5⟩⟩

/-- What waits. -/
structure PS (P : Program) (ops : Array Oper) (w₀ : Base) (ρ : Nat → Option Real) (I : Nat → Nat → Prop) (S : St) (a : Act) (w : World) (L : List Nat) (pend : List (Nat × Nat)) : Prop where
  ok : ∀ p, p ∈ pend → PendOk P ops w₀ ρ I S a w p.1 p.2
  rdy : ∀ p, p ∈ pend → ∃ o, (p.1, o) ∈ readyL (numberFrom 0 ops.toList) L ∧ waitB P (numberFrom 0 ops.toList) p.1 o = true
  inj : ∀ p p', p ∈ pend → p' ∈ pend → p.2 = p'.2 → p.1 = p'.1

theorem PS.next {P : Program} {ops : Array Oper} {w₀ : Base} {ρ ρ' : Nat → Option Real} {I I' : Nat → Nat → Prop} {S S' : St} {a a' : Act} {w w' : World} {L : List Nat} {pend : List (Nat × Nat)} (h : PS P ops w₀ ρ I S a w L pend) {i : Nat}
    (hi : ∀ p, p ∈ pend → p.1 ≠ i) (hok : ∀ p, p ∈ pend → PendOk P ops w₀ ρ' I' S' a' w' p.1 p.2) : PS P ops w₀ ρ' I' S' a' w' (i :: L) pend := by
  refine ⟨hok, fun p hp => ?_, h.inj⟩
  obtain ⟨o, ho, hw⟩ := h.rdy p hp
  obtain ⟨g1, g2, g3⟩ := mem_readyL.1 ho
  exact ⟨o, mem_readyL.2 ⟨g1, fun e => (List.mem_cons.1 e).elim (hi p hp) g2, fun k hk => List.mem_cons_of_mem _ (g3 k hk)⟩, hw⟩

theorem addPr_old {C ds : List Nat} {Pr : List (List Nat × List Nat)} {p : List Nat × List Nat} (h : p ∈ Pr) : p ∈ addPr C ds Pr := by
  cases ds with
  | nil => exact h
  | cons d r => exact List.mem_cons_of_mem _ h
theorem addPr_new {C ds : List Nat} {Pr : List (List Nat × List Nat)} {d : Nat} (h : d ∈ ds) : (C, ds) ∈ addPr C ds Pr := by
  cases ds with
  | nil => cases h
  | cons d r => exact List.mem_cons_self
theorem rdBx_noMem {P : Program} {S : St} {o : Oper} (h : noMem o.op = true) : rdBx P S o = [] := by
  unfold rdBx
  split <;> first | rfl | (rename_i e; rw [e] at h; cases h)
theorem waitB_spec {P : Program} {num : List (Nat × Oper)} {i : Nat} {o : Oper} (h : waitB P num i o = true) : ∃ e t, o.op = .alloc e ∧ o.guard = none ∧ o.dst = some t ∧ zeroOk P e = true ∧ ∀ p ∈ num, p.1 ≠ i → p.2.dst ≠ some t := by
  unfold waitB at h
  split at h
  · rename_i e he
    split at h
    · rename_i hg
      split at h
      · rename_i t ht
        obtain ⟨h1, h2⟩ := cond_and h
        refine ⟨e, t, he, hg, ht, h1, fun p hp hpi hpt => ?_⟩
        have := List.all_eq_true.1 h2 p hp
        have e1 : Nat.beq p.1 i = false := by rw [Bool.eq_false_iff]; exact fun e => hpi (Nat.eq_of_beq_eq_true e)
        rw [e1, hpt] at this
        simp at this
      · cases h
    · cases h
  · cases h
theorem dstL_mem : ∀ {A : List (Nat × Oper)} {i : Nat} {o : Oper} {t : Nat}, (i, o) ∈ A → o.dst = some t → t ∈ dstL A
  | [], _, _, _, h, _ => by cases h
  | (j, o') :: r, i, o, t, h, ht => by
    unfold dstL
    rcases List.mem_cons.1 h with h | h
    · cases h; rw [ht]; exact List.mem_cons_self
    · have := dstL_mem h ht
      cases o'.dst with
      | none => exact this
      | some t' => exact List.mem_cons_of_mem _ this
theorem PendOk.re {P : Program} {ops : Array Oper} {w₀ : Base} {ρ ρ' : Nat → Option Real} {I I' : Nat → Nat → Prop} {S S' : St} {a : Act} {w : World} {i b : Nat} (h : PendOk P ops w₀ ρ I S a w i b)
    (hI : ∀ o, ¬ I' b o) (hB : ∀ d br o, Live S' d → ρ' d = some br → ¬ br.has b o) : PendOk P ops w₀ ρ' I' S' a w i b := ⟨h.ex, hI, hB, h.new⟩

section
variable {m : Nat}
theorem sched_ok {E : Env} (hG : ∀ f D, E.G f = some D → FnOk E.P f D) (ops : Array Oper) (hsel : noSel ops.toList = true) (hd : ∀ o ∈ ops.toList, ∀ d, o.dst = some d → d < m) {K : St → Option R} {q : R} {w₀ : Base} {I₀ O₀ : Nat → Nat → Prop} {Q : Exit → Act → World → Prop}
    (hgd : Good E.P w₀.toWorld I₀ O₀) (hp : ∀ c a w, ¬ Q (.panic c) a w) (hK : ∀ S a w ρ I, Rel m w₀ I₀ O₀ ρ I S a w → K S = some q → Q .normal a w) :
    ∀ (n : Nat) (L : List Nat) (l : List Step), sched E.P ops (numberFrom 0 ops.toList) n L = some l → ∀ (Z : Nat → Nat → Nat → Prop) Pr pend listed, LR ops (pend.map Prod.fst ++ L) listed → ∀ (S : St), evDraw E ops l Pr S K = some q →
      ∀ a w ρ I, Rel m w₀ I₀ O₀ ρ I S a w → PS E.P ops w₀ ρ I S a w L pend → ZInv Z Pr L S ρ I w → ∀ fuel, cnt listed ≤ fuel → wpAnyZ Z E.P .any ops Q fuel listed a w := by
  have sel : ∀ (j : Nat) (o : Oper) cs b, ops[j]? = some o → o.op ≠ .select cs b := fun j o cs b ho => noSel_spec _ hsel o (by
    have := Array.mem_of_getElem? ho
    simpa using this) cs b
  have hdst : ∀ (j : Nat) (o : Oper), ops[j]? = some o → ∀ d, o.dst = some d → d < m := fun j o ho => hd o (by
    have := Array.mem_of_getElem? ho
    simpa using this)
  have done : ∀ (Z : Nat → Nat → Nat → Prop) (L : List Nat) (pend : List (Nat × Nat)) (listed : Array Bool), LR ops (pend.map Prod.fst ++ L) listed → ∀ S a w ρ I, PS E.P ops w₀ ρ I S a w L pend → readyL (numberFrom 0 ops.toList) L = [] → Q .normal a w →
      ∀ fuel, wpAnyZ Z E.P .any ops Q fuel listed a w := fun Z L pend listed hL S a w ρ I hps h hq fuel => by
    have hpe : pend = [] := by
      cases pend with
      | nil => rfl
      | cons p r => obtain ⟨o, ho, _⟩ := hps.rdy p List.mem_cons_self; rw [h] at ho; cases ho
    subst hpe
    have hr : Region.ready .any ops listed = [] := List.eq_nil_iff_forall_not_mem.2 fun i hi => by
      obtain ⟨o, ho⟩ := (hL.ready i).1 hi
      simp only [List.map_nil, List.nil_append] at ho
      rw [h] at ho; cases ho
    cases fuel with
    | zero => exact ⟨hr, hq⟩
    | succ f => exact ⟨fun _ => hq, by rw [hr]; simp⟩
  intro n
  induction n with
  | zero =>
    intro L l h Z Pr pend listed hL S hev a w ρ I hr hps hz fuel hf
    unfold sched at h
    split at h
    · rename_i hrd
      cases h
      exact done Z L pend listed hL S a w ρ I hps hrd (hK S a w ρ I hr hev) fuel
    · cases h
  | succ n ih =>
    intro L l h Z Pr pend listed hL S hev a w ρ I hr hps hz fuel hf
    unfold sched at h
    split at h
    · rename_i hrd
      cases h
      exact done Z L pend listed hL S a w ρ I hps hrd (hK S a w ρ I hr hev) fuel
    · rename_i hne
      split at h
      · -- a reader is taken first
        rename_i i oi C hpick
        split at h
        · rename_i l' hs
          cases h
          obtain ⟨p1, p2, p3, p4⟩ := pickB_spec _ hpick
          obtain ⟨n1, n2, n3⟩ := mem_readyL.1 p1
          have hi := mem_num.1 n1
          have hlt := (Array.getElem?_eq_some_iff.1 hi).1
          have hpi : ∀ p, p ∈ pend → p.1 ≠ i := fun p hp e => by
            obtain ⟨oi', e', t, z, g1, g2, _⟩ := (hps.ok p hp).ex
            rw [e, hi] at g1; cases g1
            rw [g2] at p2; cases p2
          have hni : ¬ i ∈ pend.map Prod.fst ++ L := fun e => by
            rcases List.mem_append.1 e with e | e
            · obtain ⟨p, hp, rfl⟩ := List.mem_map.1 e
              exact hpi p hp rfl
            · exact n2 e
          have hun := (hL.un hlt).2 hni
          have hrdy : i ∈ Region.ready .any ops listed := (hL.ready i).2 ⟨oi, mem_readyL.2 ⟨n1, hni, fun k hk => List.mem_append_right _ (n3 k hk)⟩⟩
          obtain ⟨f, rfl⟩ : ∃ f, fuel = f + 1 := by
            have := cnt_set hun
            exact ⟨fuel - 1, by omega⟩
          have hf' : cnt (listed.setIfInBounds i true) ≤ f := by have := cnt_set hun; omega
          have hL' : LR ops (pend.map Prod.fst ++ (i :: L)) (listed.setIfInBounds i true) := (hL.set hlt).congr fun j => by simp only [List.mem_cons, List.mem_append]; exact ⟨fun h => by rcases h with h | h | h <;> simp [h], fun h => by rcases h with h | h | h <;> simp [h]⟩
          obtain ⟨S', hr', ht, _, hstep⟩ := evDraw_cons hev (hr.drop _)
          have hdi := hdst i oi hi
          have unl : ∀ k ok, ops[k]? = some ok → listed.getD k true = false → ¬ k ∈ L := fun k ok hk hun e => (hL.un (Array.getElem?_eq_some_iff.1 hk).1).1 hun (List.mem_append_right _ e)
          have free : ∀ k ok, ops[k]? = some ok → k ≠ i → listed.getD k true = false → (∀ e ∈ ok.after, Region.binds .any e = true → e.on ≠ i) → oi.apart ops ok = true := fun k ok hk hki hun hno => by
            have := List.all_eq_true.1 p3 (k, ok) (mem_num.2 hk)
            have e1 : Nat.beq k i = false := by rw [Bool.eq_false_iff]; exact fun e => hki (Nat.eq_of_beq_eq_true e)
            have e2 : memN k L = false := memN_not (unl k ok hk hun)
            have e3 : memN i (depsOf ok) = false := memN_not fun e => by
              obtain ⟨e, _, e2, e3⟩ := mem_depsOf.1 e
              exact hno e ‹_› e2 e3
            simpa only [e1, e2, e3, cond_false] using this
          have pnext : ∀ S₂ : St, S₂.tab = S.tab → ∀ x, PS E.P ops w₀ ρ I S₂ (a.put oi.dst x) w (i :: L) pend := fun S₂ ht₂ x => hps.next hpi fun p hp =>
            (hps.ok p hp).next hi (Ne.symm (hpi p hp)) (Keeps.refl (fun _ _ => False) _) (fun _ h => h) (hps.ok p hp).noI fun d br o hl => (hps.ok p hp).noB d br o ((live_tab ht₂ d).1 hl)
          have take : ∀ (T : World → Prop) (C : Nat → Prop) (v : Value) (S₂ : St) (Z' : Nat → Nat → Nat → Prop) Pr', S₂.tab = S.tab → (∀ k b o, Z k b o → Z' k b o) → T w → (∀ k ok, ops[k]? = some ok → k ≠ i → (∀ e ∈ ok.after, Region.binds .any e = true → C e.on) → C k) → (∀ k, k ∈ pend.map Prod.fst ++ L → C k) →
              (∀ k ok, ops[k]? = some ok → C k → ¬ k ∈ L → ∀ w w', Keeps (fun b o => ¬ Z' k b o) w w' → T w → T w') → YieldsIf E.P ops T oi v a → evDraw E ops l' Pr' S₂ K = some q →
              Rel m w₀ I₀ O₀ ρ I S₂ (a.put oi.dst v) w → ZInv Z' Pr' (i :: L) S₂ ρ I w → wpAnyZ Z E.P .any ops Q (f + 1) listed a w := fun T C v S₂ Z' Pr' ht₂ hZ hT hC hCL hCT hy he hr₂ hz₂ => by
            refine wpAnyZ_mono hZ _ _ _ _ (wpAnyZ_first (S := T) (C := C) (v := v) hi sel (fun c a w h => absurd h (hp _ _ _)) hC f listed a w (fun k hk => hCL k ((hL.getF k).1 hk)) (fun k ok hk hc hun => ?_) free hrdy hy hT ?_)
            · exact hCT k ok hk hc (unl k ok hk hun)
            · exact ih (i :: L) l' hs Z' Pr' pend _ hL' S₂ he _ w ρ I hr₂ (pnext S₂ ht₂ v) hz₂ f hf'
          have putTab : ∀ (S₂ : St) d v, (S₂.put d v).tab = S₂.tab := fun S₂ d v => by cases d <;> rfl
          rcases hstep with ⟨hw, he⟩ | ⟨hw, _, he⟩
          · unfold evStep at he
            simp only at he
            obtain ⟨hok, he⟩ := cond_none he
            obtain ⟨v, h1, h2⟩ := evOp_pure (m := m) (K := fun v S₁ => evDraw E ops l' (addPr C (rdBx E.P S' oi) Pr) (S₁.put oi.dst v) K) p2 hok he
            obtain ⟨x, g1, g2⟩ := h2 w₀ I₀ O₀ ρ I a w hr'
            let Cs : Nat → Prop := fun k => noMem oi.op = true ∨ k ∈ C
            refine take (fun w' => Keeps (fun b o => ¬ Pz S' ρ I (rdBx E.P S' oi) b o) w w') Cs x _ (fun k b o => Z k b o ∨ (Cs k ∧ b < w.heap.size ∧ Pz S' ρ I (rdBx E.P S' oi) b o)) _ ((putTab _ _ _).trans ht) (fun _ _ _ h => .inl h) (Keeps.refl _ _)
              (fun k ok hk hki hall => ?_) (fun k hk => ?_) (fun k ok hk hc hkL w₁ w₂ hk₁ hw₁ => ?_) (.inl ⟨hw, fun w' e => g1 w' e⟩) h1 (hr'.put g2 oi.dst hdi) ?_
            · by_cases hm : noMem oi.op = true
              · exact .inl hm
              · refine .inr (Classical.byContradiction fun hn => ?_)
                have p4 := p4.resolve_left hm
                unfold closedB at p4
                obtain ⟨_, p4⟩ := cond_and p4
                have := List.all_eq_true.1 p4 (k, ok) (mem_num.2 hk)
                have e1 : Nat.beq k i = false := by rw [Bool.eq_false_iff]; exact fun e => hki (Nat.eq_of_beq_eq_true e)
                have e2 : allIn (depsOf ok) C = true := (allIn_spec _ _).2 fun d hd' => by
                  obtain ⟨e, h1, h2, rfl⟩ := mem_depsOf.1 hd'
                  exact (hall e h1 h2).resolve_left hm
                simp only [e1, e2, memN_not hn, cond_false] at this
                cases this
            · by_cases hm : noMem oi.op = true
              · exact .inl hm
              · refine .inr ?_
                have p4 := p4.resolve_left hm
                unfold closedB at p4
                obtain ⟨p5, p4⟩ := cond_and p4
                have hin : ∀ k, k ∈ L → k ∈ C := by
                  cases e : memN i C with
                  | true => rw [e] at p5; cases p5
                  | false => rw [e, cond_false] at p5; exact (allIn_spec _ _).1 p5
                rcases List.mem_append.1 hk with e | e
                · obtain ⟨p, hp, rfl⟩ := List.mem_map.1 e
                  obtain ⟨o, ho, _⟩ := hps.rdy p hp
                  obtain ⟨g1, _, g3⟩ := mem_readyL.1 ho
                  have := List.all_eq_true.1 p4 (p.1, o) g1
                  have e1 : Nat.beq p.1 i = false := by rw [Bool.eq_false_iff]; exact fun e => hpi p hp (Nat.eq_of_beq_eq_true e)
                  have e2 : allIn (depsOf o) C = true := (allIn_spec _ _).2 fun d hd' => hin d (g3 d hd')
                  simp only [e1, e2, cond_false] at this
                  cases e3 : memN p.1 C with
                  | true => exact (memN_mem _ _).1 e3
                  | false => rw [e3] at this; cases this
                · exact hin k e
            · exact hw₁.trans hk₁ fun r o hr hy hpz => hy (.inr ⟨hc, hr, hpz⟩)
            · intro k b o hk hz'
              have hkL : ¬ k ∈ L := fun e => hk (List.mem_cons_of_mem _ e)
              have ht' : (S'.put oi.dst v).tab = S.tab := (putTab _ _ _).trans ht
              rcases hz' with hz' | ⟨hc, hb, hpz⟩
              · obtain ⟨f1, f2⟩ := hz k b o hkL hz'
                exact ⟨f1, f2.imp id fun ⟨p, g1, g2, d, br, g3, g4, g5⟩ => ⟨p, addPr_old g1, g2, d, br, g3, (live_tab ht' d).2 g4, g5⟩⟩
              · refine ⟨hb, hpz.imp id fun ⟨d, br, g3, g4, g5⟩ => ?_⟩
                rcases hc with hc | hc
                · rw [rdBx_noMem hc] at g3; cases g3
                · exact ⟨(C, rdBx E.P S' oi), addPr_new g3, hc, d, br, g3, (live_tab (putTab _ _ _) d).2 g4, g5⟩
          · exact take (fun _ => True) (fun _ => True) Go.undef _ Z Pr ((putTab _ _ _).trans ht) (fun _ _ _ h => h) trivial (fun _ _ _ _ _ => trivial) (fun _ _ => trivial) (fun _ _ _ _ _ _ _ _ _ => trivial) (.inr ⟨hw, rfl⟩) he (hr'.put (.tup [] [] rfl fun i hi => by cases hi) oi.dst hdi)
              (hz.tab ((putTab _ _ _).trans ht) fun k hk => List.mem_cons_of_mem _ hk)
        · cases h
      · split at h
        · rename_i kd i oi A hpick
          obtain ⟨hsolo, h⟩ : soloB (numberFrom 0 ops.toList) L i A = true ∧ _ := by
            rcases Bool.eq_false_or_eq_true (soloB (numberFrom 0 ops.toList) L i A) with e | e
            · rw [e] at h; exact ⟨e, h⟩
            · rw [e] at h; cases h
          rw [cond_true] at h
          split at h
          · rename_i l' hs
            cases h
            obtain ⟨q1, q2, q3, q4⟩ := pickD_spec hpick
            obtain ⟨n1, n2, n3⟩ := mem_readyL.1 q1
            have hi := mem_num.1 n1
            have hlt := (Array.getElem?_eq_some_iff.1 hi).1
            have putTab : ∀ (S₂ : St) d v, (S₂.put d v).tab = S₂.tab := fun S₂ d v => by cases d <;> rfl
            generalize hdr : dstL (cond (Nat.beq kd 1) ((i, oi) :: A) A) = dr at hev
            have dt : (S.drop dr).tab = S.tab := drop_tab S dr
            -- one that has waited comes up
            have adopt : ∀ pend listed a w ρ I, LR ops (pend.map Prod.fst ++ L) listed → Rel m w₀ I₀ O₀ ρ I (S.drop dr) a w → PS E.P ops w₀ ρ I S a w L pend → ZInv Z Pr L S ρ I w → ∀ b, (i, b) ∈ pend → ∀ fuel, cnt listed ≤ fuel →
                wpAnyZ Z E.P .any ops Q fuel listed a w := by
              intro pend listed a w ρ I hL hr hps hz b hb fuel hf
              obtain ⟨oi', e, t, z, g1, g2, g3, g4, _⟩ := (hps.ok _ hb).ex
              rw [hi] at g1; cases g1
              have hkd : kd = 1 := by
                rcases q4 with ⟨h, _⟩ | ⟨_, h⟩
                · exact h
                · obtain ⟨o, ho, hw⟩ := hps.rdy _ hb
                  have := mem_num.1 (mem_readyL.1 ho).1
                  rw [hi] at this; cases this
                  simp only at h hw
                  rw [hw] at h; cases h
              subst hkd
              obtain ⟨S', hr', ht, _, hstep⟩ := evDraw_cons hev hr
              simp only at hr ht hstep
              have ht := ht
              rcases hstep with ⟨_, he⟩ | ⟨_, hg, _⟩
              · unfold evStep at he
                simp only at he
                unfold evOp at he
                simp only [g2, g4] at he
                obtain ⟨_, he⟩ := cond_none he
                unfold putBox at he
                split at he
                · rename_i hn
                  have pre : ∀ p, p ∈ pend → PendOk E.P ops w₀ ρ I S' a w p.1 p.2 := fun p hp => (hps.ok p hp).re (hps.ok p hp).noI fun d br o hl => (hps.ok p hp).noB d br o ((live_tab ht d).1 hl)
                  obtain ⟨br, hbr, hr2⟩ := hr'.adopt (pre _ hb) hi g2 g4 hn
                  have hold : ∀ d, Live S d → d ≠ BOX + t := fun d ⟨bx, hbx, _⟩ e => by subst e; rw [ht] at hn; rw [hn] at hbx; cases hbx
                  refine ih (i :: L) l' hs Z Pr (pend.filter fun p => !Nat.beq p.1 i) listed ?_ _ he a w _ I hr2 ⟨fun p hp => ?_, fun p hp => ?_, fun p p' hp hp' => hps.inj p p' (List.mem_filter.1 hp).1 (List.mem_filter.1 hp').1⟩ ?_ fuel hf
                  · refine hL.congr fun j => ?_
                    simp only [List.mem_append, List.mem_map, List.mem_cons, List.mem_filter]
                    constructor
                    · rintro (⟨p, hp, rfl⟩ | hj)
                      · by_cases e : p.1 = i
                        · exact .inr (.inl e)
                        · exact .inl ⟨p, ⟨hp, by rw [show Nat.beq p.1 i = false by rw [Bool.eq_false_iff]; exact fun h => e (Nat.eq_of_beq_eq_true h)]; rfl⟩, rfl⟩
                      · exact .inr (.inr hj)
                    · rintro (⟨p, ⟨hp, _⟩, rfl⟩ | rfl | hj)
                      · exact .inl ⟨p, hp, rfl⟩
                      · exact .inl ⟨_, hb, rfl⟩
                      · exact .inr hj
                  · obtain ⟨hp, hpi⟩ := List.mem_filter.1 hp
                    have hpi : p.1 ≠ i := fun e => by simp [e] at hpi
                    refine (pre p hp).re (pre p hp).noI fun d br' o hl hd' hh => ?_
                    obtain ⟨bx, hbx, hne'⟩ := hl
                    simp only [St.put, St.set, lk_append] at hbx
                    by_cases e : d = BOX + t
                    · subst e
                      simp [upd] at hd'; subst hd'
                      obtain ⟨o₀, k1, _⟩ := hh
                      rw [hbr] at k1; cases k1
                      exact hpi (hps.inj p _ hp hb rfl)
                    · unfold upd at hd'; rw [if_neg e] at hd'
                      refine (pre p hp).noB d br' o ⟨bx, ?_, hne'⟩ hd' hh
                      split at hbx
                      · rename_i x hx; rw [hx]; exact hbx
                      · rw [if_neg e] at hbx; cases hbx
                  · obtain ⟨hp, hpi⟩ := List.mem_filter.1 hp
                    have hpi : p.1 ≠ i := fun e => by simp [e] at hpi
                    obtain ⟨o, ho, hw⟩ := hps.rdy p hp
                    obtain ⟨f1, f2, f3⟩ := mem_readyL.1 ho
                    exact ⟨o, mem_readyL.2 ⟨f1, fun e => (List.mem_cons.1 e).elim hpi f2, fun k hk => List.mem_cons_of_mem _ (f3 k hk)⟩, hw⟩
                  · intro k b' o hk hz'
                    obtain ⟨f1, f2⟩ := hz k b' o (fun e => hk (List.mem_cons_of_mem _ e)) hz'
                    refine ⟨f1, f2.imp id fun ⟨p, k1, k2, d, br', k3, k4, k5, k6⟩ => ⟨p, k1, k2, d, br', k3, ?_, by unfold upd; rw [if_neg (hold d k4)]; exact k5, k6⟩⟩
                    obtain ⟨bx, hbx, hne'⟩ := k4
                    refine ⟨bx, ?_, hne'⟩
                    simp only [St.put, St.set, lk_append, ht, hbx]
                · cases he
              · exact absurd g3 hg
            have main : ∀ fuel pend listed a w ρ I, LR ops (pend.map Prod.fst ++ L) listed → Rel m w₀ I₀ O₀ ρ I (S.drop dr) a w → PS E.P ops w₀ ρ I S a w L pend → ZInv Z Pr L S ρ I w → cnt listed ≤ fuel →
                wpAnyZ Z E.P .any ops Q fuel listed a w := by
              intro fuel
              induction fuel with
              | zero =>
                intro pend listed a w ρ I hL hr hps hz hf
                have hli := (hL.mem i hlt).1 (cnt_zero (by omega) i)
                rcases List.mem_append.1 hli with e | e
                · obtain ⟨p, hp, rfl⟩ := List.mem_map.1 e
                  exact adopt pend listed a w ρ I hL hr hps hz p.2 hp 0 hf
                · exact absurd e n2
              | succ f ihf =>
                intro pend listed a w ρ I hL hr hps hz hf
                by_cases hli : i ∈ pend.map Prod.fst
                · obtain ⟨p, hp, rfl⟩ := List.mem_map.1 hli
                  exact adopt pend listed a w ρ I hL hr hps hz p.2 hp (f + 1) hf
                have hni : ¬ i ∈ pend.map Prod.fst ++ L := fun e => (List.mem_append.1 e).elim hli n2
                have hrdy : i ∈ Region.ready .any ops listed := (hL.ready i).2 ⟨oi, mem_readyL.2 ⟨n1, hni, fun k hk => List.mem_append_right _ (n3 k hk)⟩⟩
                refine ⟨fun h0 => (by rw [h0] at hrdy; cases hrdy), fun k hk => ?_⟩
                obtain ⟨ok, hok⟩ := (hL.ready k).1 hk
                obtain ⟨m1, m2, m3⟩ := mem_readyL.1 hok
                have hko := mem_num.1 m1
                have hklt := (Array.getElem?_eq_some_iff.1 hko).1
                have hkn : ¬ k ∈ L := fun e => m2 (List.mem_append_right _ e)
                have hun := (hL.un hklt).2 m2
                have hf' : cnt (listed.setIfInBounds k true) ≤ f := by have := cnt_set hun; omega
                have hpk : ∀ p, p ∈ pend → p.1 ≠ k := fun p hp e => m2 (List.mem_append_left _ (List.mem_map.2 ⟨p, hp, e⟩))
                have hkA : k = i ∨ (k, ok) ∈ A := by
                  by_cases hkA : k ∈ A.map Prod.fst
                  · obtain ⟨⟨k', o'⟩, hp, rfl⟩ := List.mem_map.1 hkA
                    have := mem_num.1 (mem_readyL.1 (q3 _ hp).1).1
                    simp only at this hko
                    rw [hko] at this; cases this
                    exact .inr hp
                  · have hin : (k, ok) ∈ readyL (numberFrom 0 ops.toList) (A.map Prod.fst ++ L) := mem_readyL.2 ⟨m1, fun e => (List.mem_append.1 e).elim hkA hkn, fun d hd' => by
                      rcases List.mem_append.1 (m3 d hd') with e | e
                      · obtain ⟨p, hp, rfl⟩ := List.mem_map.1 e
                        obtain ⟨o, ho, _⟩ := hps.rdy p hp
                        rcases q2 _ ho with h | h
                        · cases h; exact absurd (List.mem_map.2 ⟨p, hp, rfl⟩) hli
                        · exact List.mem_append_left _ (List.mem_map.2 ⟨_, h, rfl⟩)
                      · exact List.mem_append_right _ e⟩
                    exact .inl (Nat.eq_of_beq_eq_true (List.all_eq_true.1 hsolo _ hin))
                have hkr : (k, ok) ∈ readyL (numberFrom 0 ops.toList) L := by
                  rcases hkA with rfl | h
                  · rw [hi] at hko; cases hko; exact q1
                  · exact (q3 _ h).1
                by_cases hwt : waitB E.P (numberFrom 0 ops.toList) k ok = true
                · -- a variable is made early
                  obtain ⟨e, t, g1, g2, g3, g4, g5⟩ := waitB_spec hwt
                  obtain ⟨z, hz1, hz2⟩ := zeroOk_spec g4
                  have htd : t ∈ dr := by
                    rw [← hdr]
                    rcases hkA with rfl | h
                    · rw [hi] at hko; cases hko
                      rcases q4 with ⟨h, _⟩ | ⟨_, h⟩
                      · subst h; exact dstL_mem List.mem_cons_self g3
                      · simp only at h; rw [hwt] at h; cases h
                    · have := dstL_mem h g3
                      cases Nat.beq kd 1 with
                      | false => exact this
                      | true =>
                        show t ∈ dstL ((i, oi) :: A)
                        unfold dstL
                        cases oi.dst with
                        | none => exact this
                        | some t' => exact List.mem_cons_of_mem _ this
                  have hno : lk? (S.drop dr).fr t = none := by rw [drop_fr, if_pos htd]
                  have g5' : ∀ j oj, ops[j]? = some oj → j ≠ k → oj.dst ≠ some t := fun j oj hj hjk => g5 (j, oj) (mem_num.2 hj) hjk
                  have hfresh := PendOk.fresh hr hko g1 g2 g3 g5' hz2 (hdst k ok hko t g3)
                  unfold wpOp
                  simp only [hko]
                  rw [if_pos (by simp [Region.wanted, g2])]
                  refine .inl (wp_value (x := .pointer (some ⟨w.heap.size, 0, none⟩)) (w' := w.alloc (.cells z.cells e)) ?_ ?_)
                  · simp [execOp, g1, Instr.alloc, hz1, run_newVar']
                  · rw [g3]
                    refine ⟨Keeps.alloc _ _ _, ihf ((k, w.heap.size) :: pend) _ _ _ ρ I ((hL.set hklt).congr fun j => by simp) (hr.early hno _ _) ⟨fun p hp => ?_, fun p hp => ?_, fun p p' hp hp' he => ?_⟩ (fun k' b o hk' hz' => ?_) hf'⟩
                    · rcases List.mem_cons.1 hp with rfl | hp
                      · exact hfresh.re hfresh.noI fun d br o hl => hfresh.noB d br o ((live_tab dt d).2 hl)
                      · have := (hps.ok p hp).next hko (Ne.symm (hpk p hp)) (x := .pointer (some ⟨w.heap.size, 0, none⟩)) (Keeps.alloc (fun _ _ => False) w (.cells z.cells e)) (fun _ h => h) (hps.ok p hp).noI (hps.ok p hp).noB
                        rw [g3] at this
                        exact this
                    · rcases List.mem_cons.1 hp with rfl | hp
                      · exact ⟨ok, hkr, hwt⟩
                      · exact hps.rdy p hp
                    · rcases List.mem_cons.1 hp with rfl | hp <;> rcases List.mem_cons.1 hp' with rfl | hp'
                      · rfl
                      · have := (hps.ok p' hp').lt; simp only at he; omega
                      · have := (hps.ok p hp).lt; simp only at he; omega
                      · exact hps.inj p p' hp hp' he
                    · obtain ⟨f1, f2⟩ := hz k' b o hk' hz'
                      exact ⟨by simp; omega, f2⟩
                · -- the doer
                  have hki : k = i := by
                    rcases hkA with h | h
                    · exact h
                    · exact absurd (q3 _ h).2 hwt
                  subst hki
                  rw [hi] at hko; cases hko
                  have hkd : kd = 2 := by
                    rcases q4 with ⟨_, h⟩ | ⟨h, _⟩
                    · exact absurd h hwt
                    · exact h
                  obtain ⟨S', hr', ht, _, hstep⟩ := evDraw_cons hev hr
                  simp only at ht hstep
                  have hL' : LR ops (pend.map Prod.fst ++ (k :: L)) (listed.setIfInBounds k true) := (hL.set hlt).congr fun j => by simp only [List.mem_cons, List.mem_append]; exact ⟨fun h => by rcases h with h | h | h <;> simp [h], fun h => by rcases h with h | h | h <;> simp [h]⟩
                  unfold wpOp
                  simp only [hi]
                  rcases hstep with ⟨hw, he⟩ | ⟨hw, _, he⟩
                  · rw [if_pos hw]
                    refine .inl ?_
                    obtain ⟨hpres, he⟩ := evStep_do hkd he
                    simp only at hpres he
                    obtain ⟨v, S₁, h1, _, h3⟩ := evOp_ok (m := m) hG (K := fun v S₂ => evDraw E ops l' Pr ((S'.unhide (hidOf L Pr) S₂).put oi.dst v) K) he
                    have hH := presB_spec hpres
                    refine h3 _ _ _ _ _ _ _ (hr'.sub (hidOf L Pr)) (hr'.goodSub hgd _) _ _ fun x w' ρ' I' g1 g2 => ?_
                    obtain ⟨u1, u2⟩ := hr'.unsub hH g1
                    have hkeep : Keeps (Osub S' ρ (hidOf L Pr)) w w' := g1.keeps
                    have iold : ∀ b o, I' b o → b < w.heap.size → I b o ∨ ∃ d sh rows g br, ¬ d ∈ hidOf L Pr ∧ lk? S'.tab d = some (.sl sh rows g) ∧ ρ d = some br ∧ br.has b o := g1.iold
                    have org : ∀ d br b o, Live S₁ d → ρ' d = some br → br.has b o → w.heap.size ≤ b ∨ Osub S' ρ (hidOf L Pr) b o := g1.org
                    have hzk : ∀ b o, b < w.heap.size → Osub S' ρ (hidOf L Pr) b o → ¬ Z k b o := fun b o hb ⟨d, br, k1, k2, k3, k4⟩ hzz => by
                      obtain ⟨_, f2⟩ := hz k b o n2 hzz
                      rcases f2 with f2 | ⟨p, j1, j2, d2, br2, j3, j4, j5, j6⟩
                      · exact hr'.notI d br b o k2 k3 k4 f2
                      · have := hr'.apart d d2 br br2 b o k2 ((live_tab ht d2).2 j4) k3 j5 k4 j6
                        subst this
                        exact k1 (hidOf_mem n2 j1 j2 j3)
                    have noO : ∀ p, p ∈ pend → ∀ o, ¬ Osub S' ρ (hidOf L Pr) p.2 o := fun p hp o ⟨d, br, k1, k2, k3, k4⟩ => (hps.ok p hp).noB d br o ((live_tab ht d).1 k2) k3 k4
                    refine ⟨hkeep.mono hzk, ih (k :: L) l' hs Z Pr pend _ hL' _ h1 _ w' ρ' I' (u1.put g2 oi.dst (hdst k oi hi)) (hps.next hpk fun p hp => ?_) (fun k' b o hk' hz' => ?_) f hf'⟩
                    · have hlt' := (hps.ok p hp).lt
                      refine (hps.ok p hp).next hi (Ne.symm (hpk p hp)) hkeep (noO p hp) (fun o hI => ?_) fun d br o hl hd' hh => ?_
                      · rcases iold p.2 o hI hlt' with h | ⟨d, sh, rows, g, br, k1, k2, k3, k4⟩
                        · exact (hps.ok p hp).noI o h
                        · exact noO p hp o ⟨d, br, k1, ⟨_, k2, by simp⟩, k3, k4⟩
                      · have hl := (live_tab (putTab _ _ _) d).1 hl
                        by_cases hm : d ∈ hidOf L Pr
                        · obtain ⟨e1, e2⟩ := u2 d hm
                          rw [e1] at hd'
                          exact (hps.ok p hp).noB d br o ((live_tab ht d).1 (e2.2 hl)) hd' hh
                        · have hl1 : Live S₁ d := by
                            obtain ⟨bx, hb, hn⟩ := hl
                            exact ⟨bx, by rw [← unhide_out (S := S') hm]; exact hb, hn⟩
                          rcases org d br p.2 o hl1 hd' hh with h | h
                          · omega
                          · exact noO p hp o h
                    · obtain ⟨f1, f2⟩ := hz k' b o (fun e => hk' (List.mem_cons_of_mem _ e)) hz'
                      refine ⟨Nat.lt_of_lt_of_le f1 hkeep.size, f2.imp (g1.imono b o) fun ⟨p, j1, j2, d, br, j3, j4, j5, j6⟩ => ?_⟩
                      have hm := hidOf_mem (fun e => hk' (List.mem_cons_of_mem _ e)) j1 j2 j3
                      obtain ⟨e1, e2⟩ := u2 d hm
                      exact ⟨p, j1, j2, d, br, j3, (live_tab (putTab _ _ _) d).2 (e2.1 ((live_tab ht d).2 j4)), e1.trans j5, j6⟩
                  · rw [if_neg (by rw [hw]; simp)]
                    refine ⟨Keeps.refl _ _, ih (k :: L) l' hs Z Pr pend _ hL' _ he _ w ρ I (hr'.put (.tup [] [] rfl fun i hi => by cases hi) oi.dst (hdst k oi hi)) (hps.next hpk fun p hp => ?_) (hz.tab ((putTab _ _ _).trans ht) fun k hk => List.mem_cons_of_mem _ hk) f hf'⟩
                    exact (hps.ok p hp).next hi (Ne.symm (hpk p hp)) (Keeps.refl (fun _ _ => False) _) (fun _ h => h) (hps.ok p hp).noI fun d br o hl => (hps.ok p hp).noB d br o ((live_tab ((putTab _ _ _).trans ht) d).1 hl)
            exact main fuel pend listed a w ρ I hL (hr.drop dr) hps hz hf
          · cases h
        · cases h

/-- A region whose order is drawn. -/
theorem draw_ok {E : Env} (hG : ∀ f D, E.G f = some D → FnOk E.P f D) {id : Nat} {ops : Array Oper} (hm : E.P.follows .mixedOrders = true) (hsel : noSel ops.toList = true) (hd : ∀ o ∈ ops.toList, ∀ d, o.dst = some d → d < m) {l : List Step}
    (hs : sched E.P ops (numberFrom 0 ops.toList) ops.size [] = some l) {K : St → Option R} {q : R} {S : St} (hev : evDraw E ops l [] S K = some q) {w₀ : Base} {I₀ O₀ : Nat → Nat → Prop} {ρ : Nat → Option Real} {I : Nat → Nat → Prop} {a : Act} {w : World}
    (hr : Rel m w₀ I₀ O₀ ρ I S a w) (hgd : Good E.P w₀.toWorld I₀ O₀) {Q : Exit → Act → World → Prop} (hK : ∀ S a w ρ I, Rel m w₀ I₀ O₀ ρ I S a w → K S = some q → Q .normal a w) : (Code.region id ops true).wp E.P Q a w := by
  let Q' : Exit → Act → World → Prop := fun e a w => match e with | .panic _ => False | e => Q e a w
  have h0 : wpAnyZ (fun _ _ _ => False) E.P .any ops Q' ops.size (Array.replicate ops.size false) a { w with drawn := w.drawn + 1 } :=
    sched_ok (m := m) hG ops hsel hd (Q := Q') hgd (fun c a w h => h) hK ops.size [] l hs _ [] [] _ ⟨by simp, fun i hi => by simp [hi], fun i hi => by cases hi⟩ S hev a _ ρ I (hr.grow (Keeps.drawn _ w _))
      ⟨fun p hp => (by cases hp), fun p hp => (by cases hp), fun p p' hp => (by cases hp)⟩ (fun k b o _ h => h.elim) _ (by simp [cnt])
  exact wp_mono (wp_region_any hm (wpAny_of_z _ _ _ _ h0)) (fun e a w h => by cases e <;> first | exact h | exact h.elim)
end
end Go.Ev
