/- Operations that make or write memory: lemmas, no condition. -/
import Derived.Test.YtajdamefabfoaaaDoorSo2
namespace Go.Ev
open Go Go.RowKit

theorem lk_append (l : List (Nat × Box)) (id : Nat) (b : Box) (d : Nat) : lk? (l ++ [(id, b)]) d = match lk? l d with | some x => some x | none => if d = id then some b else none := by
  induction l with
  | nil =>
    simp only [List.nil_append, lk?]
    cases h : Nat.beq d id with
    | true => simp [Nat.eq_of_beq_eq_true h]
    | false => rw [cond_false, if_neg]; intro e; subst e; simp at h
  | cons p l ih =>
    obtain ⟨j, v⟩ := p
    simp only [List.cons_append, lk?]
    cases Nat.beq d j with
    | true => rfl
    | false => exact ih
theorem lk_up {α : Type} (l : List (Nat × α)) (id : Nat) (b : α) (d : Nat) : lk? (up l id b) d = if d = id then (lk? l d).map (fun _ => b) else lk? l d := by
  induction l with
  | nil => simp [up, lk?]
  | cons p l ih =>
    obtain ⟨j, v⟩ := p
    simp only [up]
    by_cases hj : id = j
    · subst hj
      have e : Nat.beq id id = true := by simp
      rw [e, cond_true]
      simp only [lk?]
      by_cases hd : d = id
      · subst hd; simp
      · have e' : Nat.beq d id = false := by rw [Bool.eq_false_iff]; exact fun hh => hd (Nat.eq_of_beq_eq_true hh)
        rw [e', if_neg hd, cond_false, cond_false]
    · have e : Nat.beq id j = false := by rw [Bool.eq_false_iff]; exact fun hh => hj (Nat.eq_of_beq_eq_true hh)
      rw [e, cond_false]
      simp only [lk?]
      by_cases hd : d = j
      · subst hd
        rw [if_neg (fun e => hj e.symm)]; simp
      · have e' : Nat.beq d j = false := by rw [Bool.eq_false_iff]; exact fun hh => hd (Nat.eq_of_beq_eq_true hh)
        rw [e', cond_false, cond_false, ih]

section
variable {m : Nat} {w₀ : Base} {I₀ O₀ : Nat → Nat → Prop} {ρ : Nat → Option Real} {I : Nat → Nat → Prop} {S : St} {a : Act} {w : World}

def upd (ρ : Nat → Option Real) (id : Nat) (br : Real) : Nat → Option Real := fun d => if d = id then some br else ρ d

theorem Rel.newBox (h : Rel m w₀ I₀ O₀ ρ I S a w) {id : Nat} (hn : lk? S.tab id = none) {w' : World} (k : Keeps (fun _ _ => False) w w') {box : Box} {br : Real}
    (hb : BoxR w' I (upd ρ id br) box br) (hnew : ∀ b o, br.has b o → w.heap.size ≤ b ∧ (∃ x, w'.cell? ⟨b, o, none⟩ = some x) ∧ w'.frozen? ⟨b, o, none⟩ = false) :
    Rel m w₀ I₀ O₀ (upd ρ id br) I { S with tab := S.tab ++ [(id, box)] } a w' ∧ Evo ρ (upd ρ id br) := by
  have hρ : ρ id = none := by
    cases e : ρ id with
    | none => rfl
    | some b => obtain ⟨x, hx⟩ := h.dom id b e; rw [hn] at hx; cases hx
  have he : Evo ρ (upd ρ id br) := fun d b hd => by
    have hne : d ≠ id := fun e => by subst e; rw [hρ] at hd; cases hd
    exact ⟨b, by unfold upd; rw [if_neg hne]; exact hd, .inl rfl⟩
  refine ⟨h.step (fun d => d = id) k (fun _ _ _ h => h.elim) (fun _ _ h => h) (fun _ _ h => .inl h) he rfl ?_ ?_ ?_ ?_ ?_ ?_ ?_ (fun d cells hv => ?_) ?_, he⟩
  · intro d hd
    refine ⟨by unfold upd; rw [if_neg hd], fun bx hbx => ?_⟩
    rw [lk_append] at hbx
    split at hbx
    · rename_i x hx; rw [hx]; exact hbx
    · rw [if_neg hd] at hbx; cases hbx
  · intro d b hd
    simp only [lk_append]
    by_cases e : d = id
    · subst e; rw [hn]; exact ⟨box, by simp⟩
    · unfold upd at hd; rw [if_neg e] at hd
      obtain ⟨x, hx⟩ := h.dom d b hd
      rw [hx]; exact ⟨x, rfl⟩
  · intro d bx hd hbx
    subst hd
    rw [lk_append, hn] at hbx
    simp at hbx; subst hbx
    exact ⟨br, by simp [upd], hb⟩
  · intro d b' r o hd hl hρ' hh
    subst hd
    simp [upd] at hρ'; subst hρ'
    exact .inr (hnew r o hh).1
  · intro d sh rows gen b' r o hd hl hρ' hh
    subst hd
    simp [upd] at hρ'; subst hρ'
    exact .inr (hnew r o hh).1
  · intro d b' r o hd hl hρ' hh _
    subst hd
    simp [upd] at hρ'; subst hρ'
    exact (hnew r o hh).2
  · intro d d' _ _ _ _ hd hd' _ _ _ _ _ _ _; rw [hd, hd']
  · have hne : d ≠ id := fun e => by subst e; rw [hn] at hv; cases hv
    exact ⟨⟨cells, by simp only [lk_append, hv]⟩, by unfold upd; rw [if_neg hne]⟩
  · intro d e; subst e; rw [hn]; simp

theorem cond_none' {α : Type} {b : Bool} {x : Option α} {r : α} (h : cond b x none = some r) : b = true ∧ x = some r := by
  cases b with
  | true => exact ⟨rfl, h⟩
  | false => cases h
/-- A box written anew, where it is or elsewhere. -/
theorem Rel.setBox (h : Rel m w₀ I₀ O₀ ρ I S a w) {d : Nat} {box box' : Box} {br br' : Real} (hd : lk? S.tab d = some box) (hdl : box ≠ .dead) (hρ : ρ d = some br)
    {w' : World} {X : Nat → Nat → Prop} (k : Keeps X w w') (hX : ∀ b o, b < w.heap.size → X b o → br.has b o) (he : br' = br ∨ br.gen < br'.gen)
    (hb : BoxR w' I (upd ρ d br') box' br')
    (hhas : ∀ b o, br'.has b o → br.has b o ∨ (w.heap.size ≤ b ∧ (∃ x, w'.cell? ⟨b, o, none⟩ = some x) ∧ w'.frozen? ⟨b, o, none⟩ = false))
    (hsl : ∀ sh rows gen, box' = .sl sh rows gen → ∃ sh' rows' gen', box = .sl sh' rows' gen') (hvr : ∀ cells, box = .var cells → (∃ cells', box' = .var cells') ∧ br' = br) :
    Rel m w₀ I₀ O₀ (upd ρ d br') I { S with tab := up S.tab d box' } a w' ∧ Evo ρ (upd ρ d br') := by
  have hev : Evo ρ (upd ρ d br') := fun d' b hd' => by
    by_cases e : d' = d
    · subst e; rw [hρ] at hd'; cases hd'; exact ⟨br', by simp [upd], he⟩
    · exact ⟨b, by unfold upd; rw [if_neg e]; exact hd', .inl rfl⟩
  refine ⟨h.step (fun d' => d' = d) k ?_ (fun _ _ h => h) (fun _ _ h => .inl h) hev rfl ?_ ?_ ?_ ?_ ?_ ?_ ?_ (fun d' cells hv => ?_) ?_, hev⟩
  · intro b o hbs hx
    exact ⟨d, br, rfl, ⟨box, hd, hdl⟩, hρ, hX b o hbs hx⟩
  · intro d' hne
    refine ⟨by unfold upd; rw [if_neg hne], fun bx hbx => ?_⟩
    rw [lk_up, if_neg hne] at hbx; exact hbx
  · intro d' b hd'
    simp only [lk_up]
    by_cases e : d' = d
    · subst e; simp [hd]
    · rw [if_neg e]; unfold upd at hd'; rw [if_neg e] at hd'; exact h.dom d' b hd'
  · intro d' bx e hbx
    subst e
    rw [lk_up, if_pos rfl, hd] at hbx
    simp at hbx; subst hbx
    exact ⟨br', by simp [upd], hb⟩
  · intro d' b r o e hl hρ' hh
    subst e
    simp [upd] at hρ'; subst hρ'
    rcases hhas r o hh with h1 | h1
    · exact .inl ⟨br, ⟨box, hd, hdl⟩, hρ, h1⟩
    · exact .inr h1.1
  · intro d' sh rows gen b r o e hl hρ' hh
    subst e
    rw [lk_up, if_pos rfl, hd] at hl
    simp at hl; subst hl
    simp [upd] at hρ'; subst hρ'
    rcases hhas r o hh with h1 | h1
    · obtain ⟨sh', rows', gen', e⟩ := hsl sh rows gen rfl
      subst e
      exact .inl ⟨sh', rows', gen', br, hd, hρ, h1⟩
    · exact .inr h1.1
  · intro d' b r o e hl hρ' hh hge
    subst e
    simp [upd] at hρ'; subst hρ'
    rcases hhas r o hh with h1 | h1
    · obtain ⟨⟨x, hx⟩, _⟩ := h.alive d' br r o ⟨box, hd, hdl⟩ hρ h1
      have := lt_of_cell hx; omega
    · exact h1.2
  · intro d1 d2 _ _ _ _ e1 e2 _ _ _ _ _ _ _; rw [e1, e2]
  · by_cases e : d' = d
    · subst e
      rw [hd] at hv; cases hv
      obtain ⟨⟨cells', e1⟩, e2⟩ := hvr cells rfl
      exact ⟨⟨cells', by rw [lk_up, if_pos rfl, hd, e1]; rfl⟩, by simp [upd, e2, hρ]⟩
    · exact ⟨⟨cells, by rw [lk_up, if_neg e]; exact hv⟩, by unfold upd; rw [if_neg e]⟩
  · intro d' e; subst e; rw [hd]; simp [hdl]

/-- An owned slice shared from now on. -/
theorem Rel.kill (h : Rel m w₀ I₀ O₀ ρ I S a w) {d g : Nat} {sh : List Sh} {rows : List (List V)} {br : Real} (hd : lk? S.tab d = some (.sl sh rows g)) (hρ : ρ d = some br) :
    Rel m w₀ I₀ O₀ ρ (fun b o => I b o ∨ br.has b o) { S with tab := up S.tab d .dead } a w := by
  have hnl : ¬ Live { S with tab := up S.tab d .dead } d := fun ⟨x, hx, hn⟩ => by
    rw [lk_up, if_pos rfl, hd] at hx; simp at hx; exact hn hx.symm
  refine h.step (fun d' => d' = d) (Keeps.refl (fun _ _ => False) w) (fun _ _ _ h => h.elim) (fun _ _ h => .inl h) ?_ (Evo.refl _) rfl ?_ ?_ ?_ ?_ ?_ ?_ ?_ (fun d' cells hv => ⟨⟨cells, by
    have e : d' ≠ d := fun e => by subst e; rw [hd] at hv; cases hv
    rw [lk_up, if_neg e]; exact hv⟩, rfl⟩) (fun d' e => by subst e; rw [hd]; simp)
  · intro b o hi
    rcases hi with hi | hi
    · exact .inl hi
    · exact .inr (.inr ⟨d, br, sh, rows, g, hd, hnl, hρ, hi⟩)
  · intro d' hne
    refine ⟨rfl, fun bx hbx => ?_⟩
    rw [lk_up, if_neg hne] at hbx; exact hbx
  · intro d' b hd'
    simp only [lk_up]
    obtain ⟨x, hx⟩ := h.dom d' b hd'
    by_cases e : d' = d
    · subst e; simp [hd]
    · rw [if_neg e]; exact ⟨x, hx⟩
  · intro d' bx e hbx
    subst e
    rw [lk_up, if_pos rfl, hd] at hbx
    simp at hbx; subst hbx
    exact ⟨br, hρ, trivial⟩
  · intro d' b r o e hl; subst e; exact absurd hl hnl
  · intro d' sh' rows' gen b r o e hl hρ' hh
    subst e
    rw [lk_up, if_pos rfl, hd] at hl; simp at hl
  · intro d' b r o e hl; subst e; exact absurd hl hnl
  · intro d1 d2 _ _ _ _ e1 e2 _ _ _ _ _ _ _; rw [e1, e2]
end

/-! ### New variables -/
theorem Rv.cells_ok {w : World} {I : Nat → Nat → Prop} {ρ : Nat → Option Real} {v : V} {x : Value} (h : Rv w I ρ v x) (hn : 0 < v.cells.length) : AllRv w I ρ v.cells x.cells.toList := by
  have one : ∀ y : Value, (∀ cs, y ≠ .agg cs) → y.cells.toList = [y] := fun y hy => by cases y <;> first | rfl | exact absurd rfl (hy _)
  have sc : ∀ u : V, u.cells = [u] → u = v → (∀ cs, x ≠ .agg cs) → AllRv w I ρ v.cells x.cells.toList := fun u hu e hx => by
    subst e
    rw [hu, one x hx]
    exact ⟨rfl, fun i hi => by simp at hi; subst hi; exact h⟩
  cases h with
  | dat h => cases h <;> exact sc _ rfl rfl (by simp)
  | undef x => simp [V.cells] at hn
  | emp sh q => exact sc _ rfl rfl (by simp)
  | nilp => exact sc _ rfl rfl (by simp)
  | ptr _ _ _ _ _ _ _ _ _ hp => obtain ⟨q, rfl⟩ := hp; exact sc _ rfl rfl (by simp)
  | cref _ _ _ _ _ _ => exact sc _ rfl rfl (by simp)
  | own d g br x hd hg hh hp => obtain ⟨q, n, c, rfl⟩ := hp; exact sc _ rfl rfl (by simp)
  | fn _ _ _ _ _ _ _ _ _ => exact sc _ rfl rfl (by simp)
  | nilf => exact sc _ rfl rfl (by simp)
  | nili => exact sc _ rfl rfl (by simp)
  | agg cells xs l h => exact ⟨by simpa [V.cells, Value.cells] using l, fun i hi => by simpa [V.cells, Value.cells] using h i hi⟩
  | tup _ _ _ _ => simp [V.cells] at hn

theorem zmatch_ok {x : Value} {v : V} (h : zmatch x v = true) (w : World) (I : Nat → Nat → Prop) (ρ : Nat → Option Real) : Rv w I ρ v x := by
  unfold zmatch at h
  split at h
  · have := eq_of_beq h; subst this; exact .dat (.bool _)
  · rename_i k n k' n'
    by_cases hk : k = k'
    · subst hk
      simp at h
      subst h; exact .dat (.int _ _)
    · simp [hk] at h
  · rename_i s s'
    simp only [Bool.and_eq_true, List.isEmpty_iff] at h
    obtain ⟨h1, h2⟩ := h
    subst h2
    have : s = ⟨([] : List UInt8).toArray⟩ := by
      cases s with | mk d => cases d with | mk l => simp at h1; subst h1; rfl
    rw [this]; exact .dat (.str [])
  · exact .dat (.nils _)
  · exact .nilp
  · exact .nilf
  · exact .nili
  · exact .undef _
  · cases h
theorem zmatchL_ok : ∀ (xs : List Value) (vs : List V), zmatchL xs vs = true → ∀ w I ρ, AllRv w I ρ vs xs
  | [], [], _, _, _, _ => ⟨rfl, fun _ h => by cases h⟩
  | [], _ :: _, h, _, _, _ => by cases h
  | _ :: _, [], h, _, _, _ => by cases h
  | x :: xs, v :: vs, h, w, I, ρ => by
    simp only [zmatchL] at h
    cases hz : zmatch x v with
    | false => rw [hz] at h; cases h
    | true =>
      rw [hz] at h
      have ih := zmatchL_ok xs vs h w I ρ
      refine ⟨by simp [ih.1], fun i hi => ?_⟩
      cases i with
      | zero => exact zmatch_ok hz w I ρ
      | succ i => exact ih.2 i (by simpa using hi)
theorem zeroOk_spec' {P : Program} {t : TypeId} (h : zeroOk P t = true) : ∃ (i : TypeInfo) (z : Value), P.info? t = some i ∧ i.zero = some z ∧ z.cells.size = i.size ∧ ∀ w I ρ, AllRv w I ρ (zeroOf P FUEL t) z.cells.toList := by
  unfold zeroOk at h
  cases hi : P.info? t with
  | none => rw [hi] at h; cases h
  | some i =>
    rw [hi] at h
    simp only at h
    cases hz : i.zero with
    | none => rw [hz] at h; cases h
    | some z =>
      rw [hz] at h
      simp only at h
      cases hb : Nat.beq z.cells.size i.size with
      | false => rw [hb] at h; cases h
      | true =>
        rw [hb] at h
        exact ⟨i, z, rfl, hz, Nat.eq_of_beq_eq_true hb, zmatchL_ok _ _ h⟩
theorem zeroOk_spec {P : Program} {t : TypeId} (h : zeroOk P t = true) : ∃ z : Value, (∀ w, (zeroValue t).run P w = .ok z w) ∧ ∀ w I ρ, AllRv w I ρ (zeroOf P FUEL t) z.cells.toList := by
  obtain ⟨i, z, hi, hz, _, h4⟩ := zeroOk_spec' h
  exact ⟨z, fun w => by simp [zeroValue, run_typeInfo' hi, hz], h4⟩

section
variable {P : Program} {m : Nat} {S : St} {dst : Option Tmp} {ty : TypeId} {pos : String} {after : Array Edge} {guard : Option (Nat × Bool)}

theorem run_newVar' (t : TypeId) (v : Value) (w : World) : (newVar t v).run P w = .ok ⟨w.heap.size, 0, none⟩ (w.alloc (.cells v.cells t)) := by
  simp [newVar, newRow]

theorem alloc_cell (w : World) (c : Array Value) (t : TypeId) (i : Nat) (hi : i < c.size) : (w.alloc (.cells c t)).cell? ⟨w.heap.size, i, none⟩ = some c[i] := by
  rw [World.cell?_alloc_new]; simp [hi]
theorem alloc_frozen (w : World) (c : Array Value) (t : TypeId) (i : Nat) : (w.alloc (.cells c t)).frozen? ⟨w.heap.size, i, none⟩ = false := by
  rw [frozen_eq]
  have : (w.alloc (.cells c t)).heap[w.heap.size]? = some (.cells c t (0, 0)) := heap_alloc_new w _
  rw [this]; simp

/-- A new variable. -/
theorem Rel.allocVar {w₀ : Base} {I₀ O₀ : Nat → Nat → Prop} {ρ : Nat → Option Real} {I : Nat → Nat → Prop} {a : Act} {w : World} (h : Rel m w₀ I₀ O₀ ρ I S a w)
    {id : Nat} (hn : lk? S.tab id = none) {cs : List V} {xs : List Value} (hc : AllRv w I ρ cs xs) (t : TypeId) :
    ∃ ρ', Rel m w₀ I₀ O₀ ρ' I { S with tab := S.tab ++ [(id, .var cs)] } a (w.alloc (.cells xs.toArray t)) ∧
      Rv (w.alloc (.cells xs.toArray t)) I ρ' (.ptr id 0 0 0) (.pointer (some ⟨w.heap.size, 0, none⟩)) := by
  let br : Real := { base := some (w.heap.size, 0), sz := cs.length, n := 1, cap := 1, gen := 0 }
  have hρ : ρ id = none := by
    cases e : ρ id with
    | none => rfl
    | some b => obtain ⟨x, hx⟩ := h.dom id b e; rw [hn] at hx; cases hx
  have hev : Evo ρ (upd ρ id br) := fun d b hd => by
    have hne : d ≠ id := fun e => by subst e; rw [hρ] at hd; cases hd
    exact ⟨b, by unfold upd; rw [if_neg hne]; exact hd, .inl rfl⟩
  have hold : ∀ b o, I b o → (w.alloc (.cells xs.toArray t)).cell? ⟨b, o, none⟩ = w.cell? ⟨b, o, none⟩ := fun b o hi => World.cell?_alloc_lt _ _ _ (h.ilt b o hi)
  have := h.newBox hn (Keeps.alloc _ w (.cells xs.toArray t)) (box := .var cs) (br := br) ?_ ?_
  · exact ⟨_, this.1, .ptr id 0 0 0 br _ (by simp [upd]) (Nat.le_refl _) (fun _ => ⟨Nat.one_pos, w.heap.size, 0, rfl, by simp⟩) ⟨_, rfl⟩⟩
  · refine ⟨rfl, rfl, rfl, rfl, w.heap.size, 0, rfl, fun j hj => ?_⟩
    have hj' : j < xs.length := by have := hc.1; omega
    refine ⟨xs[j], by rw [Nat.zero_add, alloc_cell _ _ _ _ (by simpa using hj')]; simp, ?_⟩
    have h2 := (hc.2 j hj).keep hold (fun _ _ h => h) hev
    rwa [List.getD_eq_getElem?_getD (l := xs), List.getElem?_eq_getElem hj', Option.getD_some] at h2
  · rintro b o ⟨o₀, h1, h2, h3⟩
    cases h1
    have h3 : o < xs.length := by have := hc.1; simp [br] at h3; omega
    exact ⟨Nat.le_refl _, ⟨_, alloc_cell _ _ _ _ (by simpa using h3)⟩, alloc_frozen _ _ _ _⟩

theorem ok_alloc {e : TypeId} {d : Tmp} {K : V → St → Option R} {q : R}
    (h : cond (zeroOk P e) (putBox S (BOX + d) (.var (zeroOf P FUEL e)) fun S => K (.ptr (BOX + d) 0 0 0) S) none = some q) :
    ∃ v S', K v S' = some q ∧ OpOk P m S ⟨some d, .alloc e, ty, pos, after, guard⟩ v S' := by
  obtain ⟨hz, h⟩ := cond_none h
  unfold putBox at h
  split at h
  · rename_i hn
    refine ⟨_, _, h, rfl, fun w₀ I₀ O₀ ρ I a w hr hgd next Q hnx => ?_⟩
    obtain ⟨z, hz1, hz2⟩ := zeroOk_spec hz
    obtain ⟨ρ', h1, h2⟩ := hr.allocVar hn (hz2 w I ρ) e
    refine wp_value ?_ (hnx _ _ _ _ h1 h2)
    simp [execOp, Instr.alloc, hz1, run_newVar']
  · cases h

theorem ok_box {e : TypeId} {x : Operand} {d : Tmp} {K : V → St → Option R} {q : R}
    (h : cond (cond (Nat.blt 0 (S.eval P ty x).cells.length) (Nat.beq (S.eval P ty x).cells.length (P.cellsOf e)) false) (putBox S (BOX + d) (.var (S.eval P ty x).cells) fun S => K (.ptr (BOX + d) 0 0 0) S) none = some q) :
    ∃ v S', K v S' = some q ∧ OpOk P m S ⟨some d, .box e x, ty, pos, after, guard⟩ v S' := by
  obtain ⟨hz, h⟩ := cond_none h
  unfold putBox at h
  split at h
  · rename_i hn
    refine ⟨_, _, h, rfl, fun w₀ I₀ O₀ ρ I a w hr hgd next Q hnx => ?_⟩
    have hl : 0 < (S.eval P ty x).cells.length := by
      cases hb : Nat.blt 0 (S.eval P ty x).cells.length with
      | true => exact blt_spec hb
      | false => rw [hb] at hz; cases hz
    obtain ⟨ρ', h1, h2⟩ := hr.allocVar hn ((eval_ok hr P ty x).cells_ok hl) e
    refine wp_value ?_ (hnx _ _ _ _ h1 h2)
    simp [execOp, Instr.box, run_newVar']
  · cases h

/-! ### Stores -/
theorem scal_ok {w : World} {I : Nat → Nat → Prop} {ρ : Nat → Option Real} {v : V} {x : Value} (h : Rv w I ρ v x) (hs : scal v = true) : Flat1 x := by
  cases h with
  | dat h => cases h <;> exact ⟨by simp, by simp⟩
  | undef x => cases hs
  | emp sh q => exact ⟨by simp, by simp⟩
  | nilp => exact ⟨by simp, by simp⟩
  | ptr _ _ _ _ _ _ _ _ _ hp => obtain ⟨q, rfl⟩ := hp; exact ⟨by simp, by simp⟩
  | cref _ _ _ _ _ _ => exact ⟨by simp, by simp⟩
  | own _ _ _ _ _ _ _ hp => obtain ⟨q, n, c, rfl⟩ := hp; exact ⟨by simp, by simp⟩
  | fn _ _ _ _ _ _ _ _ _ => exact ⟨by simp, by simp⟩
  | nilf => exact ⟨by simp, by simp⟩
  | nili => exact ⟨by simp, by simp⟩
  | agg _ _ _ _ => cases hs
  | tup _ _ _ _ => cases hs
theorem scalL_spec : ∀ (vs : List V), scalL vs = true → ∀ i, i < vs.length → scal (vs.getD i .undef) = true
  | [], _, _, h => by cases h
  | v :: vs, h, i, hi => by
    simp only [scalL] at h
    cases hs : scal v with
    | false => rw [hs] at h; cases h
    | true =>
      rw [hs] at h
      cases i with
      | zero => exact hs
      | succ i => exact scalL_spec vs h i (by simpa using hi)

theorem run_store_cell {w : World} {b o : Nat} {v y : Value} (h : w.cell? ⟨b, o, none⟩ = some y) (hf : w.frozen? ⟨b, o, none⟩ = false) (h1 : Flat1 v) :
    (store ⟨b, o, none⟩ v).run P w = .ok () (w.setCell ⟨b, o, none⟩ v) := by
  cases v <;> first
    | exact absurd rfl (h1.1 _)
    | exact absurd rfl (h1.2 _)
    | (simp only [store, Sem.run, h, hf]; rfl)

theorem storeCells_ok (b o : Nat) : ∀ (vs : List Value) (i : Nat) (w : World), (∀ j, j < vs.length → (∃ x, w.cell? ⟨b, o + i + j, none⟩ = some x) ∧ w.frozen? ⟨b, o + i + j, none⟩ = false) →
    (∀ v ∈ vs, Flat1 v) → ∃ w', (storeCells ⟨b, o, none⟩ vs i).run P w = .ok () w' ∧ Keeps (fun b' o' => b' = b ∧ o + i ≤ o' ∧ o' < o + i + vs.length) w w' ∧ w'.heap.size = w.heap.size ∧
      ∀ j, j < vs.length → w'.cell? ⟨b, o + i + j, none⟩ = some (vs.getD j Go.undef)
  | [], i, w, _, _ => ⟨w, rfl, Keeps.refl _ _, rfl, fun j hj => by cases hj⟩
  | v :: vs, i, w, hc, hf => by
    obtain ⟨⟨x, hx⟩, hfz⟩ := hc 0 (by simp)
    rw [Nat.add_zero] at hx hfz
    have hs : (storeCells ⟨b, o, none⟩ (v :: vs) i).run P w = (storeCells ⟨b, o, none⟩ vs (i + 1)).run P (w.setCell ⟨b, o + i, none⟩ v) := by
      simp only [storeCells, Sem.run_bind, add_off, run_store_cell hx hfz (hf v (by simp)), Result.andThen_ok]
    have k1 : Keeps (fun b' o' => b' = b ∧ o' = o + i) w (w.setCell ⟨b, o + i, none⟩ v) := Keeps.setCell w b (o + i) v ⟨rfl, rfl⟩
    have hb := lt_of_cell hx
    obtain ⟨w', h1, h2, h3, h4⟩ := storeCells_ok b o vs (i + 1) (w.setCell ⟨b, o + i, none⟩ v) (fun j hj => by
      obtain ⟨⟨y, hy⟩, hyf⟩ := hc (j + 1) (by simpa using hj)
      rw [show o + (i + 1) + j = o + i + (j + 1) by omega]
      exact ⟨k1.alive hy, (k1.frozen hb).trans hyf⟩) (fun u hu => hf u (by simp [hu]))
    refine ⟨w', hs.trans h1, ?_, by simpa using h3, fun j hj => ?_⟩
    · refine Keeps.trans (X := fun b' o' => b' = b ∧ o + i ≤ o' ∧ o' < o + i + (v :: vs).length) (k1.mono ?_) h2 ?_
      · rintro b' o' _ ⟨rfl, rfl⟩; exact ⟨rfl, Nat.le_refl _, by simp⟩
      · rintro b' o' _ ⟨rfl, h5, h6⟩; exact ⟨rfl, by omega, by simp; omega⟩
    · cases j with
      | zero =>
        rw [Nat.add_zero, List.getD_cons_zero]
        rw [h2.cell (by rintro ⟨_, h5, _⟩; omega) (by simpa using hb)]
        exact World.cell?_setCell_same _ _ _ hx
      | succ j =>
        have := h4 j (by simpa using hj)
        rw [show o + (i + 1) + j = o + i + (j + 1) by omega] at this
        rw [List.getD_cons_succ]; exact this

theorem splice_length (cs : List V) (o : Nat) (new : List V) (h : o + new.length ≤ cs.length) : (splice cs o new).length = cs.length := by
  unfold splice; simp; omega
theorem splice_getD (cs : List V) (o : Nat) (new : List V) (h : o + new.length ≤ cs.length) (j : Nat) :
    (splice cs o new).getD j .undef = if o ≤ j ∧ j < o + new.length then new.getD (j - o) .undef else cs.getD j .undef := by
  unfold splice
  simp only [List.getD_eq_getElem?_getD]
  have ht : (cs.take o).length = o := by simp; omega
  by_cases h1 : j < o
  · rw [if_neg (by omega), List.append_assoc, List.getElem?_append_left (by omega), List.getElem?_take, if_pos h1]
  · by_cases h2 : j < o + new.length
    · rw [if_pos ⟨by omega, h2⟩, List.append_assoc, List.getElem?_append_right (by omega), List.getElem?_append_left (by omega), ht]
    · rw [if_neg (by omega), List.getElem?_append_right (by simp; omega)]
      simp only [List.length_append, ht, List.getElem?_drop]
      congr 2; omega
theorem datL_spec : ∀ (vs : List V), datL vs = true → ∀ i, i < vs.length → datV (vs.getD i .undef) = true
  | [], _, _, h => by cases h
  | v :: vs, h, i, hi => by
    simp only [datL] at h
    cases hs : datV v with
    | false => rw [hs] at h; cases h
    | true =>
      rw [hs] at h
      cases i with
      | zero => exact hs
      | succ i => exact datL_spec vs h i (by simpa using hi)
theorem datV_ok {w : World} {I : Nat → Nat → Prop} {ρ : Nat → Option Real} {v : V} {x : Value} (h : Rv w I ρ v x) (hs : datV v = true) : Dat w I v x := by
  cases h <;> first | assumption | cases hs

theorem mul_apart {i r sz j o : Nat} (h : i ≠ r) (hj : j < sz) (ho : o < sz) : i * sz + j ≠ r * sz + o := by
  intro e
  rcases Nat.lt_or_gt_of_ne h with h | h
  · have : (i + 1) * sz ≤ r * sz := Nat.mul_le_mul_right _ h
    rw [Nat.add_mul] at this; omega
  · have : (r + 1) * sz ≤ i * sz := Nat.mul_le_mul_right _ h
    rw [Nat.add_mul] at this; omega

theorem upd_same {ρ : Nat → Option Real} {d : Nat} {br : Real} (h : ρ d = some br) : upd ρ d br = ρ := by
  funext d'; unfold upd; split
  · subst_vars; exact h.symm
  · rfl

theorem BoxR.write {box box' : Box} {br : Real} {r o g : Nat} {new : List V} (hb : writeBox box r o g new = some box') {w w' : World} {I I' : Nat → Nat → Prop} {ρ ρ' : Nat → Option Real} (hbx : BoxR w I ρ box br)
    {b p : Nat} (hbase : br.base = some (b, p)) (hrn : r < br.n)
    (hout : ∀ o', br.has b o' → ¬ (p + (r * br.sz + o) ≤ o' ∧ o' < p + (r * br.sz + o) + new.length) → w'.cell? ⟨b, o', none⟩ = w.cell? ⟨b, o', none⟩)
    (hshape : ∀ (c : Nat) (cur : Array Value) (e : TypeId) (f : Nat × Nat), w.heap[c]? = some (.cells cur e f) → ∃ cur' : Array Value, w'.heap[c]? = some (.cells cur' e f) ∧ cur'.size = cur.size)
    (hI : ∀ b o, I b o → w'.cell? ⟨b, o, none⟩ = w.cell? ⟨b, o, none⟩) (hI' : ∀ b o, I b o → I' b o) (he : Evo ρ ρ')
    (hnew : ∀ j, j < new.length → ∃ y, w'.cell? ⟨b, p + (r * br.sz + o) + j, none⟩ = some y ∧ Rv w' I' ρ' (new.getD j .undef) y) :
    BoxR w' I' ρ' box' br ∧ box' ≠ .dead ∧ (∀ sh rows gen, box' = .sl sh rows gen → ∃ sh' rows' gen', box = .sl sh' rows' gen') := by
  cases box with
  | dead => cases hb
  | var cells =>
    simp only [writeBox] at hb
    cases h1 : Nat.ble (o + new.length) cells.length with
    | false => rw [h1] at hb; cases hb
    | true =>
      rw [h1] at hb; cases hb
      have h1 := Nat.le_of_ble_eq_true h1
      obtain ⟨e1, e2, e3, e4, b', p', e5, e6⟩ := hbx
      rw [hbase] at e5; cases e5
      have hr0 : r = 0 := by omega
      subst hr0
      simp only [Nat.zero_mul, Nat.zero_add] at hout hnew
      refine ⟨⟨by rw [splice_length _ _ _ h1]; exact e1, e2, e3, e4, b, p, hbase, fun j hj => ?_⟩, by simp, by intro _ _ _ e; cases e⟩
      rw [splice_length _ _ _ h1] at hj
      rw [splice_getD _ _ _ h1]
      by_cases hin : o ≤ j ∧ j < o + new.length
      · rw [if_pos hin]
        obtain ⟨y, hy1, hy2⟩ := hnew (j - o) (by omega)
        rw [show p + o + (j - o) = p + j by omega] at hy1
        exact ⟨y, hy1, hy2⟩
      · rw [if_neg hin]
        obtain ⟨y, hy, hv⟩ := e6 j hj
        exact ⟨y, (hout (p + j) ⟨p, hbase, by omega, by rw [e3, e1]; omega⟩ (by omega)).trans hy, hv.keep hI hI' he⟩
  | sl sh rows gen =>
    simp only [writeBox] at hb
    cases h1 : Nat.beq g gen with
    | false => rw [h1] at hb; cases hb
    | true =>
    cases h2 : Nat.ble (o + new.length) sh.length with
    | false => rw [h1, h2] at hb; cases hb
    | true =>
    cases h3 : datL new with
    | false => rw [h1, h2, h3] at hb; cases hb
    | true =>
    cases h4 : fitsL sh (splice (etaRow sh 0 (rows.getD r [])) o new) with
    | false => rw [h1, h2, h3, h4] at hb; cases hb
    | true =>
      rw [h1, h2, h3, h4] at hb; cases hb
      have h1 := Nat.eq_of_beq_eq_true h1
      have h2 := Nat.le_of_ble_eq_true h2
      obtain ⟨e1, e2, e3, e4, e5, e6, e7, e8⟩ := hbx
      rw [e1] at hout hnew
      have hrl : r < rows.length := by omega
      have has : ∀ i j, i < rows.length → j < sh.length → br.has b (p + (i * sh.length + j)) := fun i j hi hj => ⟨p, hbase, by omega, by
        have : (i + 1) * sh.length ≤ br.cap * sh.length := Nat.mul_le_mul_right _ (by omega)
        rw [Nat.add_mul] at this; rw [e1]; omega⟩
      refine ⟨⟨e1, by simp [e2], e3, by simp; omega, fitsRows_of _ _ fun i hi => ?_, e6, fun b₁ p₁ hb₁ i j hi hj => ?_, fun b₁ p₁ hb₁ => ?_⟩, by simp, by intro _ _ _ _; exact ⟨_, _, _, rfl⟩⟩
      · rw [List.length_set] at hi
        simp only [List.getD_eq_getElem?_getD, List.getElem?_set]
        by_cases hir : r = i
        · subst hir
          have h7' := h4
          simp only [List.getD_eq_getElem?_getD, List.getElem?_eq_getElem hi, Option.getD_some] at h7'
          simpa [hi] using h7'
        · rw [if_neg hir]
          have := fitsRows_spec sh rows e5 i hi
          rwa [List.getD_eq_getElem?_getD] at this
      · rw [hbase] at hb₁; cases hb₁
        rw [List.length_set] at hi
        have hse : o + new.length ≤ (etaRow sh 0 (rows.getD r [])).length := by rw [etaRow_length]; exact h2
        have hrow : rowAt (rows.set r (splice (etaRow sh 0 (rows.getD r [])) o new)) i j =
            if i = r then (splice (etaRow sh 0 (rows.getD r [])) o new).getD j .undef else rowAt rows i j := by
          unfold rowAt
          simp only [List.getD_eq_getElem?_getD, List.getElem?_set]
          by_cases hir : r = i
          · subst hir; simp [hi]
          · rw [if_neg hir, if_neg (fun e => hir e.symm)]
        rw [hrow]
        by_cases hir : i = r
        · subst hir
          rw [if_pos rfl, splice_getD _ _ _ hse]
          by_cases hin : o ≤ j ∧ j < o + new.length
          · rw [if_pos hin]
            obtain ⟨y, hy1, hy2⟩ := hnew (j - o) (by omega)
            rw [show p + (i * sh.length + o) + (j - o) = p + (i * sh.length + j) by omega] at hy1
            exact ⟨y, hy1, datV_ok hy2 (datL_spec _ h3 _ (by omega))⟩
          · rw [if_neg hin]
            obtain ⟨y, hy, hv⟩ := e7 b p hbase i j hi hj
            exact ⟨y, (hout _ (has i j hi hj) (by omega)).trans hy, (eta_row_ok e5 hi hj hv).keep hI hI'⟩
        · rw [if_neg hir]
          obtain ⟨y, hy, hv⟩ := e7 b p hbase i j hi hj
          refine ⟨y, (hout _ (has i j hi hj) ?_).trans hy, hv.keep hI hI'⟩
          rintro ⟨g1, g2⟩
          exact mul_apart hir hj (o := p + (i * sh.length + j) - (p + r * sh.length)) (by omega) (by omega)
      · obtain ⟨c1, c2, cur, e, c3, c4⟩ := e8 b₁ p₁ hb₁
        obtain ⟨cur', c5, c6⟩ := hshape _ _ _ _ c3
        exact ⟨c1, c2, cur', e, c5, c6.trans c4⟩

theorem writeBox_size {box box' : Box} {r o g : Nat} {new : List V} (hb : writeBox box r o g new = some box') {w : World} {I : Nat → Nat → Prop} {ρ : Nat → Option Real} {br : Real} (hbx : BoxR w I ρ box br) :
    o + new.length ≤ br.sz ∧ box ≠ .dead ∧ ∀ sh rows gen, box = .sl sh rows gen → g = gen := by
  cases box with
  | dead => cases hb
  | var cells =>
    simp only [writeBox] at hb
    cases h1 : Nat.ble (o + new.length) cells.length with
    | false => rw [h1] at hb; cases hb
    | true => exact ⟨by rw [hbx.1]; exact Nat.le_of_ble_eq_true h1, by simp, by intro _ _ _ e; cases e⟩
  | sl sh rows gen =>
    simp only [writeBox] at hb
    cases h1 : Nat.beq g gen with
    | false => rw [h1] at hb; cases hb
    | true =>
    cases h2 : Nat.ble (o + new.length) sh.length with
    | false => rw [h1, h2] at hb; cases hb
    | true => exact ⟨by rw [hbx.1]; exact Nat.le_of_ble_eq_true h2, by simp, by intro _ _ _ e; cases e; exact Nat.eq_of_beq_eq_true h1⟩

/-- Where a pointer into a box leads. -/
theorem ptr_real {w₀ : Base} {I₀ O₀ : Nat → Nat → Prop} {ρ : Nat → Option Real} {I : Nat → Nat → Prop} {a : Act} {w : World} (hr : Rel m w₀ I₀ O₀ ρ I S a w) {d r o g : Nat} {x : Value} (hx : Rv w I ρ (.ptr d r o g) x)
    {box : Box} (ht : lk? S.tab d = some box) (hdl : box ≠ .dead) (hg : ∀ sh rows gen, box = .sl sh rows gen → g = gen) :
    ∃ br b p, ρ d = some br ∧ BoxR w I ρ box br ∧ br.base = some (b, p) ∧ r < br.n ∧ r < br.cap ∧ x = .pointer (some ⟨b, p + (r * br.sz + o), none⟩) ∧ ∀ o' k, o' + k ≤ br.sz → ∀ j, j < k → br.has b (p + (r * br.sz + o') + j) := by
  obtain ⟨br, hd, hbx⟩ := hr.tab d _ ht
  cases hx with
  | dat hx => cases hx
  | ptr _ _ _ _ br' _ hd' hgl hh _ =>
    rw [hd] at hd'; cases hd'
    have hgg : g = br.gen ∧ br.n ≤ br.cap := by
      cases box with
      | dead => exact absurd rfl hdl
      | var cells => obtain ⟨_, e2, e3, e4, _⟩ := hbx; exact ⟨by omega, by omega⟩
      | sl sh rows gen => obtain ⟨_, e2, e3, e4, _⟩ := hbx; exact ⟨by rw [e3]; exact hg _ _ _ rfl, by omega⟩
    obtain ⟨hrn, b, p, hb, hx⟩ := hh hgg.1
    refine ⟨br, b, p, hd, hbx, hb, hrn, by omega, hx, fun o' k hok j hj => ⟨p, hb, by omega, ?_⟩⟩
    have : (r + 1) * br.sz ≤ br.cap * br.sz := Nat.mul_le_mul_right _ (by omega)
    rw [Nat.add_mul] at this; omega

theorem writeAt_ok {d r o g : Nat} {new : List V} {K : St → Option R} {q : R} (h : writeAt S d r o g new K = some q) :
    ∃ S', K S' = some q ∧ S'.fr = S.fr ∧ ∀ w₀ I₀ O₀ ρ I a w, Rel m w₀ I₀ O₀ ρ I S a w → ∀ x, Rv w I ρ (.ptr d r o g) x → ∀ xs, AllRv w I ρ new xs →
      ∃ b p, x = .pointer (some ⟨b, p, none⟩) ∧ (∀ j, j < new.length → (∃ y, w.cell? ⟨b, p + j, none⟩ = some y) ∧ w.frozen? ⟨b, p + j, none⟩ = false) ∧
        ∀ w', Keeps (fun b' o' => b' = b ∧ p ≤ o' ∧ o' < p + new.length) w w' → (∀ j, j < new.length → w'.cell? ⟨b, p + j, none⟩ = some (xs.getD j Go.undef)) →
          Rel m w₀ I₀ O₀ ρ I S' a w' := by
  unfold writeAt at h
  split at h
  · rename_i box ht
    split at h
    · rename_i box' hwb
      refine ⟨_, h, rfl, fun w₀ I₀ O₀ ρ I a w hr x hx xs hxs => ?_⟩
      have hdl : box ≠ .dead := by intro e; subst e; cases hwb
      obtain ⟨br₀, hd₀, hbx₀⟩ := hr.tab d _ ht
      obtain ⟨hsz, _, hgen⟩ := writeBox_size hwb hbx₀
      obtain ⟨br, b, p, hd, hbx, hbase, hrn, _, rfl, has⟩ := ptr_real hr hx ht hdl hgen
      rw [hd] at hd₀
      obtain rfl := Option.some.inj hd₀
      have hlive : Live S d := ⟨_, ht, hdl⟩
      refine ⟨b, _, rfl, fun j hj => hr.alive d br b _ hlive hd (has o new.length hsz j hj), fun w' k hw' => ?_⟩
      have inX : ∀ b' o', (b' = b ∧ p + (r * br.sz + o) ≤ o' ∧ o' < p + (r * br.sz + o) + new.length) → br.has b' o' := by
        rintro b' o' ⟨rfl, g1, g2⟩
        have := has o new.length hsz (o' - (p + (r * br.sz + o))) (by omega)
        rwa [show p + (r * br.sz + o) + (o' - (p + (r * br.sz + o))) = o' by omega] at this
      have hIw : ∀ b' o', I b' o' → w'.cell? ⟨b', o', none⟩ = w.cell? ⟨b', o', none⟩ := fun b' o' hi => k.cell (fun hX =>
        hr.notI d br b' o' hlive hd (inX b' o' hX) hi) (hr.ilt b' o' hi)
      have hout : ∀ o', br.has b o' → ¬ (p + (r * br.sz + o) ≤ o' ∧ o' < p + (r * br.sz + o) + new.length) → w'.cell? ⟨b, o', none⟩ = w.cell? ⟨b, o', none⟩ := fun o' hh hn => by
        obtain ⟨⟨y, hy⟩, _⟩ := hr.alive d br b o' hlive hd hh
        exact k.cell (fun hX => hn hX.2) (lt_of_cell hy)
      obtain ⟨f1, f2, f3⟩ := BoxR.write hwb hbx hbase hrn hout k.shape hIw (fun _ _ h => h) (Evo.refl ρ) (fun j hj => ⟨_, hw' j hj, (hxs.2 j hj).keep hIw (fun _ _ h => h) (Evo.refl _)⟩)
      have hfin := hr.setBox ht hdl hd (br' := br) (box' := box') k (fun b' o' _ hX => inX b' o' hX) (.inl rfl) (by rw [upd_same hd]; exact f1) (fun b' o' hh => .inl hh) f3 (fun cells e => by
        subst e
        simp only [writeBox] at hwb
        exact ⟨⟨_, (Option.some.inj (cond_none' hwb).2).symm⟩, rfl⟩)
      rw [upd_same hd] at hfin; exact hfin.1
    · cases h
  · cases h

theorem ok_store {t : TypeId} {x y : Operand} {K : V → St → Option R} {q : R}
    (h : (match S.eval P ty x with
      | .ptr d r o g => cond (cond (Nat.blt 0 (S.eval P ty y).cells.length) (Nat.beq (S.eval P ty y).cells.length (P.cellsOf t)) false) (cond (scalL (S.eval P ty y).cells) (writeAt S d r o g (S.eval P ty y).cells fun S => K .undef S) none) none
      | _ => none) = some q) :
    ∃ v S', K v S' = some q ∧ OpOk P m S ⟨dst, .store t x y, ty, pos, after, guard⟩ v S' := by
  split at h
  · rename_i d r o g hx
    obtain ⟨h1, h⟩ := cond_none h
    obtain ⟨h2, h⟩ := cond_none h
    obtain ⟨S', h3, h4, h5⟩ := writeAt_ok (m := m) h
    have hl : 0 < (S.eval P ty y).cells.length ∧ (S.eval P ty y).cells.length = P.cellsOf t := by
      cases hb : Nat.blt 0 (S.eval P ty y).cells.length with
      | true => rw [hb] at h1; exact ⟨blt_spec hb, Nat.eq_of_beq_eq_true h1⟩
      | false => rw [hb] at h1; cases h1
    refine ⟨_, S', h3, h4, fun w₀ I₀ O₀ ρ I a w hr hgd next Q hn => ?_⟩
    have hv := eval_ok hr P ty x
    rw [hx] at hv
    have hy := (eval_ok hr P ty y).cells_ok hl.1
    obtain ⟨b, p, e1, e2, e3⟩ := h5 w₀ I₀ O₀ ρ I a w hr _ hv _ hy
    have hlen : (a.eval y).cells.toList.length = (S.eval P ty y).cells.length := hy.1.symm
    obtain ⟨w', g1, g2, _, g3⟩ := storeCells_ok (P := P) b p (a.eval y).cells.toList 0 w (fun j hj => by
      rw [Nat.add_zero]; exact e2 j (by omega)) (fun u hu => by
        obtain ⟨j, hj, rfl⟩ := List.getElem_of_mem hu
        have := scal_ok (hy.2 j (by omega)) (scalL_spec _ h2 j (by omega))
        rwa [List.getD_eq_getElem?_getD (l := (a.eval y).cells.toList), List.getElem?_eq_getElem hj, Option.getD_some] at this)
    simp only [Nat.add_zero] at g2 g3
    refine wp_skip' (w' := w') ?_ (hn Go.undef w' ρ I (e3 w' (by rw [hlen] at g2; exact g2) fun j hj => g3 j (by omega)) (.undef _))
    have hz : P.cellsOf t ≠ 0 := by omega
    have hsz : ¬ (a.eval y).cells.size ≠ P.cellsOf t := by
      have : (a.eval y).cells.size = (a.eval y).cells.toList.length := by simp
      omega
    simp only [execOp, e1, Instr.storeAt, Instr.sureAddr, pure_bind, Sem.run_bind, storeVar, run_sizeOf' hz, Result.andThen_ok]
    rw [if_neg hsz, g1]; rfl
  · cases h
end
end Go.Ev
