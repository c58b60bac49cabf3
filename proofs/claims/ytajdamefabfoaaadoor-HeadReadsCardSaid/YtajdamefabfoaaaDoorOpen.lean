/- Arguments of a claim's call, opened as the evaluator's values; a law's answer as a call's: lemmas. -/
import Derived.Test.YtajdamefabfoaaaDoorLoop
import Derived.ProofKit
namespace Go.Ev
open Go Go.RowKit Go.ChangeShapes Go.WideShapes

/-- Are a type's cells laid one behind the other, as its shapes say? -/
def layF (lay : TypeId → Bool) (sh : TypeId → List Sh) (P : Program) : Nat → List Field → Option Nat
  | o, [] => some o
  | o, f :: r => cond (cond (Nat.beq f.offset o) (cond (lay f.type) (Nat.beq (sh f.type).length (P.cellsOf f.type)) false) false) (layF lay sh P (o + P.cellsOf f.type) r) none
def layB (P : Program) : Nat → TypeId → Bool
  | 0, _ => false
  | n + 1, t => match P.underlying t with
    | some .bool => true | some (.int _) => true | some .string => true
    | some (.slice e) => cond (layB P n e) (cond (Nat.blt 0 (P.cellsOf e)) (cond (Nat.beq (shOf P n e).length (P.cellsOf e)) (Sh.beqL (shOf P n e) (shOf P n e)) false) false) false
    | some (.struct fs) => match layF (layB P n) (shOf P n) P 0 fs.toList with
      | some o => Nat.beq o (P.cellsOf t)
      | none => false
    | _ => false

def oldI (w : World) : Nat → Nat → Prop := fun b _ => b < w.heap.size

section
variable {H : Type} {enc : TypeId × Value → H} {P : Program} {w : World} {base : Nat} {spare : Nat → Bool} {held : Bool}

/-- Cells of a kind. -/
def RowOk (w : World) (sh : List Sh) (cs : List Value) (row : List V) : Prop :=
  fitsL sh row = true ∧ wfL row = true ∧ row.length = cs.length ∧ ∀ j, j < row.length → Dat w (oldI w) (row.getD j .undef) (cs.getD j Go.undef)

theorem RowOk.append {s t : List Sh} {cs ds : List Value} {r q : List V} (h : RowOk w s cs r) (k : RowOk w t ds q) : RowOk w (s ++ t) (cs ++ ds) (r ++ q) := by
  obtain ⟨h1, h2, h3, h4⟩ := h
  obtain ⟨k1, k2, k3, k4⟩ := k
  refine ⟨fitsL_append _ _ _ _ h1 k1, by rw [wfL_append, h2, k2]; rfl, by simp [h3, k3], fun j hj => ?_⟩
  by_cases hl : j < r.length
  · have := h4 j hl
    rwa [show (r ++ q).getD j .undef = r.getD j .undef by simp [List.getD_eq_getElem?_getD, List.getElem?_append_left hl],
      show (cs ++ ds).getD j Go.undef = cs.getD j Go.undef by simp [List.getD_eq_getElem?_getD, List.getElem?_append_left (show j < cs.length by omega)]]
  · have := k4 (j - r.length) (by simp at hj; omega)
    rwa [show (r ++ q).getD j .undef = q.getD (j - r.length) .undef by simp [List.getD_eq_getElem?_getD, List.getElem?_append_right (show r.length ≤ j by omega)],
      show (cs ++ ds).getD j Go.undef = ds.getD (j - r.length) Go.undef by simp [List.getD_eq_getElem?_getD, List.getElem?_append_right (show cs.length ≤ j by omega), h3]]

theorem fields_ok {lay : TypeId → Bool} {sh : TypeId → List Sh} : ∀ (fs : List Field) (o n : Nat) (cs : List Value), layF lay sh P o fs = some n → n ≤ o + cs.length →
    (∀ f ∈ fs, lay f.type = true → o ≤ f.offset → ∃ row, RowOk w (sh f.type) ((cs.drop (f.offset - o)).take (P.cellsOf f.type)) row) → ∃ row, RowOk w ((fs.map fun f => sh f.type).flatten) (cs.take (n - o)) row
  | [], o, n, cs, h, _, _ => by
    cases h
    exact ⟨[], rfl, rfl, by simp, fun j hj => by cases hj⟩
  | f :: r, o, n, cs, h, hn, hf => by
    unfold layF at h
    cases h1 : Nat.beq f.offset o with
    | false => simp only [h1, cond_false, reduceCtorEq] at h
    | true =>
      cases h2 : lay f.type with
      | false => simp only [h1, h2, cond_true, cond_false, reduceCtorEq] at h
      | true =>
        cases h3 : Nat.beq (sh f.type).length (P.cellsOf f.type) with
        | false => simp only [h1, h2, h3, cond_true, cond_false, reduceCtorEq] at h
        | true =>
          simp only [h1, h2, h3, cond_true] at h
          have e1 := Nat.eq_of_beq_eq_true h1
          have e3 := Nat.eq_of_beq_eq_true h3
          have mono : ∀ (l : List Field) (a b : Nat), layF lay sh P a l = some b → a ≤ b := by
            intro l
            induction l with
            | nil => intro a b hh; cases hh; exact Nat.le_refl _
            | cons g l ih =>
              intro a b hh
              unfold layF at hh
              cases hc : (cond (Nat.beq g.offset a) (cond (lay g.type) (Nat.beq (sh g.type).length (P.cellsOf g.type)) false) false) with
              | false => rw [hc] at hh; cases hh
              | true => rw [hc] at hh; have := ih _ _ hh; omega
          have hm := mono _ _ _ h
          obtain ⟨r1, k1⟩ := hf f List.mem_cons_self h2 (by omega)
          rw [show f.offset - o = 0 by omega, List.drop_zero] at k1
          obtain ⟨r2, k2⟩ := fields_ok r (o + P.cellsOf f.type) n (cs.drop (P.cellsOf f.type)) h (by simp; omega) fun g hg hl ho => by
            obtain ⟨row, hr⟩ := hf g (List.mem_cons_of_mem _ hg) hl (by omega)
            refine ⟨row, ?_⟩
            rwa [List.drop_drop, show P.cellsOf f.type + (g.offset - (o + P.cellsOf f.type)) = g.offset - o by omega]
          have := k1.append k2
          refine ⟨r1 ++ r2, ?_⟩
          rw [show cs.take (n - o) = cs.take (P.cellsOf f.type) ++ (cs.drop (P.cellsOf f.type)).take (n - (o + P.cellsOf f.type)) by
            rw [← List.take_add]; congr 1; omega]
          exact this

theorem trod_row : ∀ (fuel n : Nat) (t : TypeId) (cs : List Value) (x : DataW H × List MemPlace), DataW.trod enc P w base spare held fuel t cs = some x → layB P n t = true → ∃ row, RowOk w (shOf P n t) cs row
  | 0, _, _, _, _, h, _ => by cases h
  | _ + 1, 0, _, _, _, _, hl => by cases hl
  | fuel + 1, n + 1, t, cs, x, h, hl => by
    have one : ∀ (s : Sh) (v : V) (y : Value), fits s v = true → wfV v = true → Dat w (oldI w) v y → RowOk w [s] [y] [v] := fun s v y h1 h2 h3 =>
      ⟨by simp [fitsL, h1], by simp [wfL, h2], rfl, fun j hj => by
        have : j = 0 := by simp at hj; exact hj
        subst this; exact h3⟩
    unfold layB at hl
    unfold shOf
    cases hu : P.underlying t with
    | none => rw [hu] at hl; cases hl
    | some d =>
      rw [hu] at hl
      cases d with
      | bool =>
        obtain ⟨b, rfl, _⟩ := DataW.trod_bool hu h
        exact ⟨_, one _ (.bool b) _ rfl rfl (.bool b)⟩
      | int k =>
        obtain ⟨m, rfl, _, hw⟩ := DataW.trod_int hu h
        exact ⟨_, one _ (.int k m) _ (by simp [fits]) hw (.int k m)⟩
      | string =>
        obtain ⟨s, rfl, _, hw⟩ := DataW.trod_string hu h
        refine ⟨_, one _ (.str s.data.toList) _ rfl (Nat.ble_eq_true_of_le ?_) ?_⟩
        · have : s.data.toList.length = s.size := Array.length_toList
          unfold maxLen at hw
          omega
        · have : s = ⟨s.data.toList.toArray⟩ := by cases s; simp
          conv => rhs; rw [this]
          exact .str _
      | slice e =>
        obtain ⟨hl1, hl⟩ := bcond hl
        obtain ⟨hpos, hl⟩ := bcond hl
        obtain ⟨hlen, hrf⟩ := bcond hl
        have hpos : 0 < P.cellsOf e := Nat.le_of_ble_eq_true hpos
        have hlen := Nat.eq_of_beq_eq_true hlen
        rcases DataW.trod_slice hu h with ⟨rfl, _⟩ | ⟨a, len, cap, elems, rest, m, hm, rfl, _, hb, hle, hmx, hel, hget, _, _⟩
        · exact ⟨_, one _ (.slc (shOf P n e) []) _ hrf rfl (.slc _ [] _ 0 (fun _ _ => Go.undef) (Nat.le_refl _) rfl (fun h => absurd rfl h) (fun i j hi => by cases hi))⟩
        · cases hm
          have hrow : ∀ i, ∃ row vals, i < len → w.cells? base (a.add (i * P.cellsOf e)) (P.cellsOf e) = some vals ∧ RowOk w (shOf P n e) vals row := fun i => by
            by_cases hi : i < len
            · have := hget i hi
              have hi' : i < elems.length := by omega
              rw [List.getElem?_eq_getElem hi', Option.bind_eq_some_iff] at this
              obtain ⟨vals, h1, h2⟩ := this
              obtain ⟨row, h3⟩ := trod_row fuel n e vals _ h2 hl1
              exact ⟨row, vals, fun _ => ⟨h1, h3⟩⟩
            · exact ⟨[], [], fun h => absurd h hi⟩
          obtain ⟨row, hv⟩ := Classical.axiomOfChoice hrow
          obtain ⟨vals, hh⟩ := Classical.axiomOfChoice hv
          have hg : ∀ i, i < len → ((List.range len).map row).getD i [] = row i := fun i hi => by simp [List.getD_eq_getElem?_getD, hi]
          have hfit : fitsRows (shOf P n e) ((List.range len).map row) = true := fitsRows_of _ _ fun i hi => by
            have hi : i < len := by simpa using hi
            rw [hg i hi]; exact (hh i hi).2.1
          have hwf : wfRs ((List.range len).map row) = true := by
            have : ∀ l : List Nat, (∀ i ∈ l, i < len) → wfRs (l.map row) = true := by
              intro l
              induction l with
              | nil => intro _; rfl
              | cons i l ih =>
                intro hl
                simp only [List.map_cons, wfRs, (hh i (hl i List.mem_cons_self)).2.2.1, cond_true]
                exact ih fun k hk => hl k (List.mem_cons_of_mem _ hk)
            exact this _ fun i hi => List.mem_range.1 hi
          have hle' : len ≤ 9223372036854775807 := by unfold maxLen at hmx; omega
          refine ⟨_, one _ (.slc (shOf P n e) ((List.range len).map row)) _ hrf (by
            show cond (Nat.ble ((List.range len).map row).length 9223372036854775807) (cond (fitsRows (shOf P n e) ((List.range len).map row)) (wfRs ((List.range len).map row)) false) false = true
            rw [hfit, hwf, Nat.ble_eq_true_of_le (by simpa using hle')]; rfl) ?_⟩
          have hcell : ∀ i, i < len → ∀ j, j < P.cellsOf e → w.cell? ((a.add (i * P.cellsOf e)).add j) = some ((vals i).getD j Go.undef) := fun i hi j hj => by
            have := (World.cells?_some (hh i hi).1).2.2 j hj
            rw [this, List.getD_eq_getElem?_getD]
            have hl2 : j < (vals i).length := by rw [(World.cells?_some (hh i hi).1).2.1]; exact hj
            rw [List.getElem?_eq_getElem hl2]; rfl
          have key : Dat w (oldI w) (.slc (shOf P n e) ((List.range len).map row)) (.slice (some a) ((List.range len).map row).length cap) := by
            refine .slc _ _ (some a) cap (fun i j => (vals i).getD j Go.undef) (by simpa using hle) hfit (fun hr => ?_) (fun i j hi hj => ?_)
            · have hpos' : 0 < len := by
                rcases Nat.eq_zero_or_pos len with h0 | h0
                · subst h0; exact absurd rfl hr
                · exact h0
              have hc0 := hcell 0 hpos' 0 hpos
              have hsp : a.spot = none := by
                simp only [Nat.zero_mul, Addr.add, if_true] at hc0
                unfold World.cell? at hc0
                split at hc0
                · cases hs : a.spot with
                  | none => rfl
                  | some q => rw [hs] at hc0; simp at hc0
                · cases hc0
              obtain ⟨b, o, sp⟩ := a
              simp only at hsp
              subst hsp
              refine ⟨b, o, rfl, fun i j hi hj => ?_⟩
              have hi : i < len := by simpa using hi
              have := hcell i hi j (by omega)
              rw [add_off, add_off, Nat.add_assoc] at this
              rw [hlen]
              exact ⟨this, lt_of_cell this⟩
            · have hi : i < len := by simpa using hi
              unfold rowAt
              rw [hg i hi]
              have h4 := (hh i hi).2
              have hl3 : (row i).length = (shOf P n e).length := fitsL_len h4.1
              exact h4.2.2.2 j (by omega)
          have e1 : ((List.range len).map row).length = len := by simp
          rw [e1] at key
          exact key
      | struct fs =>
        obtain ⟨xs, m, hm, _, hcs, hxl, hget⟩ := DataW.trod_struct hu h
        cases hm
        simp only at hl
        cases ho : layF (layB P n) (shOf P n) P 0 fs.toList with
        | none => rw [ho] at hl; cases hl
        | some o =>
          rw [ho] at hl
          have ho' := Nat.eq_of_beq_eq_true hl
          obtain ⟨row, hr⟩ := fields_ok (w := w) (P := P) fs.toList 0 o cs ho (by omega) fun f hf hlay _ => by
            obtain ⟨i, hi⟩ := List.getElem?_of_mem hf
            have hi2 : fs[i]? = some f := by simpa using hi
            have hlt := (Array.getElem?_eq_some_iff.1 hi2).1
            have := hget i f hi2
            rw [List.getElem?_eq_getElem (by omega)] at this
            exact trod_row fuel n f.type _ _ this hlay
          refine ⟨row, ?_⟩
          rwa [Nat.sub_zero, ho', ← hcs, List.take_length] at hr
      | _ => cases hl

/-- An argument that is a struct. -/
theorem open_agg {α : Type} (c : RCod α) {n : Nat} {t : TypeId} {fs : Array Field} {r : Reach} {b0 : Nat} {v : Value} {d : DataW H} {ps : List MemPlace} (ht : P.underlying t = some (.struct fs)) (hs : Sh.beqL (shOf P n t) c.sh = true) (hl : layB P n t = true)
    (hval : Value.okWide P w r b0 t v) (h : DataW.Trod enc P w base spare held t v d ps) : ∃ a : α, wfL (c.enc a) = true ∧ Rv w (oldI w) noRho ((vAgg c).enc a) v := by
  obtain ⟨fuel, h⟩ := h
  obtain ⟨row, h1, h2, h3, h4⟩ := trod_row fuel n t _ _ h hl
  rw [Sh.beqL_eq _ _ hs] at h1
  unfold Value.okWide at hval
  rw [ht] at hval
  obtain ⟨cs, rfl, _, _⟩ := hval
  have hcs : (Value.agg cs).cells.toList = cs.toList := rfl
  rw [hcs] at h3 h4
  refine ⟨c.dec row, c.wf row h1 h2, ?_⟩
  have hl1 := fitsL_len h1
  have hl2 : (c.enc (c.dec row)).length = c.sh.length := fitsL_len (c.fit _)
  have e : cs = cs.toList.toArray := by simp
  rw [e]
  refine .agg _ cs.toList (by omega) fun i hi => ?_
  exact .dat (c.law w (oldI w) row (fun j => cs.toList.getD j Go.undef) h1 (fun j hj => h4 j (by omega)) i (by omega))
/-- An argument of one cell. -/
theorem open_one {α : Type} (c : RCod α) (hc1 : c.sh.length = 1) {n : Nat} {t : TypeId} {r : Reach} {b0 : Nat} {v : Value} {d : DataW H} {ps : List MemPlace} (ht : isAggT P t = false) (hs : Sh.beqL (shOf P n t) c.sh = true) (hl : layB P n t = true)
    (hval : Value.okWide P w r b0 t v) (h : DataW.Trod enc P w base spare held t v d ps) : ∃ a : α, wfL (c.enc a) = true ∧ Rv w (oldI w) noRho ((vOne c hc1).enc a) v := by
  obtain ⟨fuel, h⟩ := h
  obtain ⟨row, h1, h2, h3, h4⟩ := trod_row fuel n t _ _ h hl
  rw [Sh.beqL_eq _ _ hs] at h1
  have hcs : v.cells.toList = [v] := by
    unfold Value.okWide at hval
    cases v with
    | agg cs =>
      exfalso
      unfold isAggT at ht
      cases hu : P.underlying t with
      | none => rw [hu] at hval; simp [Cell.okWide, hu, Cell.ok] at hval
      | some dd =>
        rw [hu] at hval ht
        cases dd <;> first | (cases ht; done) | (simp [Cell.okWide, hu, Cell.ok] at hval; done)
    | _ => rfl
  rw [hcs] at h3 h4
  have hl1 := fitsL_len h1
  have hl2 : (c.enc (c.dec row)).length = c.sh.length := fitsL_len (c.fit _)
  refine ⟨c.dec row, c.wf row h1 h2, ?_⟩
  have := c.law w (oldI w) row (fun j => [v].getD j Go.undef) h1 (fun j hj => h4 j (by omega)) 0 (by omega)
  have e : (vOne c hc1).enc (c.dec row) = (c.enc (c.dec row)).getD 0 .undef := by
    show (c.enc (c.dec row)).headD .undef = _
    cases c.enc (c.dec row) <;> rfl
  rw [e]; exact .dat this
end

/-- A program without a listed table. -/
def glNone (P : Program) : Bool := P.globals.toList.all fun g => (tabNamed g.name).isEmpty
theorem held_of {P : Program} {J : Nat → Nat → Prop} {w : World} (h : glNone P = true) : Held P J w := fun b o x hx => by
  unfold GLv at hx
  split at hx
  · rename_i g hg
    have := List.all_eq_true.1 h g (by have := Array.mem_of_getElem? hg; simpa using this)
    have e : tabNamed g.name = [] := List.isEmpty_iff.1 this
    rw [e] at hx
    simp at hx
  · cases hx
/-- A law's answer, as a call's. -/
theorem law_calls {P : Program} {f : FuncId} {fn : Func} (hf : P.funcs[f]? = some fn) (hb : fn.body.isSome = true) (hnm : (fn.name == "runtime.NumGoroutine") = false) {α : Type} {A : ACod α} {p : α → Unit → Bool} {g : α → Unit → Bool × Unit}
    (h : FnOk P f (den A bNil (oV vBool) p g)) (a : α) (hp : p a () = true) (hg : (g a ()).1 = true) {W : World} {xs : List Value} (hx : AllRv W (oldI W) noRho (A.enc a) xs) (hgl : Held P (oldI W) W) :
    Calls P f xs.toArray W fun e W' => e = .returned (.bool true) ∧ Below W.heap.size W W' := by
  obtain ⟨h1, h2⟩ := A.ed a
  have hpre : (den A bNil (oV vBool) p g).pre (A.enc a) [] = true := by
    show cond (A.ok (A.enc a)) (cond true (p (A.dec (A.enc a)) ()) false) false = true
    rw [h1, h2, hp]; rfl
  have hloc : locReal [] [] = noRho := by funext j; rfl
  have main := h (A.enc a) [] hpre W (oldI W) [] xs rfl (fun b o hb => hb) (hloc ▸ hx) (fun j p cs hj => by cases hj) (fun j j' p p' cs cs' b o hj => by cases hj) hgl
  have fin : ∀ v W', (∃ J', RetOk W W' (oldI W) [] [] ((den A bNil (oV vBool) p g).res (A.enc a) []) v J') → v = .bool true ∧ Below W.heap.size W W' := fun v W' ⟨J', hR⟩ => by
    refine ⟨?_, (hR.keeps.mono fun b o _ hh => ?_).below⟩
    · have e : ((den A bNil (oV vBool) p g).res (A.enc a) []).v = .bool true := by
        show V.bool (g (A.dec (A.enc a)) ()).1 = .bool true
        rw [h2, hg]
      rcases hR.val with ⟨_, hv⟩ | ⟨_, _, hn, _⟩
      · rw [e] at hv; exact hv.bool_inv
      · cases hn
    · obtain ⟨j, p, cs, h1, _⟩ := hh
      cases h1
  rcases main with ⟨_, h4⟩ | ⟨v, W', h3, _⟩
  · exact h4.mono fun e W' ⟨v, he, hr⟩ => by
      obtain ⟨e1, e2⟩ := fin v W' hr
      exact ⟨by rw [he, e1], e2⟩
  · exfalso
    obtain ⟨c, hc⟩ := Option.isSome_iff_exists.1 hb
    have hnm' : ¬ fn.name = "runtime.NumGoroutine" := fun e => by rw [e] at hnm; cases hnm
    have : (callFunc f xs.toArray).run P W = .ok (.enter f xs.toArray) W := by simp [callFunc, hf, hnm', hc]
    rw [this] at h3
    cases h3
end Go.Ev
