/- The evaluator's single operations are the model's: lemmas, no condition. -/
import Derived.Test.YtajdamefabfoaaaDoorSo1
namespace Go.Ev
open Go Go.RowKit

/-- An operation from a state on: its value, the state behind it. -/
def OpOk (P : Program) (m : Nat) (S : St) (o : Oper) (v : V) (S' : St) : Prop :=
  S'.fr = S.fr ∧ ∀ w₀ I₀ O₀ ρ I a w, Rel m w₀ I₀ O₀ ρ I S a w → Good P w₀.toWorld I₀ O₀ → ∀ (next : Act → World → Prop) (Q : Exit → Act → World → Prop),
    (∀ x w' ρ' I', Rel m w₀ I₀ O₀ ρ' I' S' a w' → Rv w' I' ρ' v x → next (a.put o.dst x) w') → o.wp P a w next Q

theorem wp_value {P : Program} {o : Oper} {a : Act} {w w' : World} {x : Value} {next : Act → World → Prop} {Q : Exit → Act → World → Prop}
    (h : (execOp a.eval o).run P w = .ok (.value x) w') (hn : next (a.put o.dst x) w') : o.wp P a w next Q := by
  unfold Oper.wp; rw [h]; exact hn
theorem wp_skip' {P : Program} {o : Oper} {a : Act} {w w' : World} {next : Act → World → Prop} {Q : Exit → Act → World → Prop}
    (h : (execOp a.eval o).run P w = .ok .skip w') (hn : next (a.put o.dst Go.undef) w') : o.wp P a w next Q := by
  unfold Oper.wp; rw [h]; exact hn

/-- What a reader needs to stand still. -/
def Pz (S : St) (ρ : Nat → Option Real) (I : Nat → Nat → Prop) (ds : List Nat) (b o : Nat) : Prop := I b o ∨ ∃ d br, d ∈ ds ∧ Live S d ∧ ρ d = some br ∧ br.has b o
/-- An operation that only reads. -/
def OpRead (P : Program) (m : Nat) (S : St) (o : Oper) (v : V) : Prop :=
  ∀ w₀ I₀ O₀ ρ I a w, Rel m w₀ I₀ O₀ ρ I S a w → ∃ x, (∀ w', Keeps (fun b i => ¬ Pz S ρ I (rdBx P S o) b i) w w' → (execOp a.eval o).run P w' = .ok (.value x) w') ∧ Rv w I ρ v x
/-- An operation that looks at its operands alone. -/
def OpPure (P : Program) (m : Nat) (S : St) (o : Oper) (v : V) : Prop :=
  ∀ w₀ I₀ O₀ ρ I a w, Rel m w₀ I₀ O₀ ρ I S a w → ∃ x, (∀ w', (execOp a.eval o).run P w' = .ok (.value x) w') ∧ Rv w I ρ v x
theorem OpPure.read {P : Program} {m : Nat} {S : St} {o : Oper} {v : V} (h : OpPure P m S o v) : OpRead P m S o v := fun w₀ I₀ O₀ ρ I a w hr => by
  obtain ⟨x, h1, h2⟩ := h w₀ I₀ O₀ ρ I a w hr
  exact ⟨x, fun w' _ => h1 w', h2⟩
theorem OpOk.pure {P : Program} {m : Nat} {S : St} {o : Oper} {v : V}
    (h : ∀ w₀ I₀ O₀ ρ I a w, Rel m w₀ I₀ O₀ ρ I S a w → ∃ x, (execOp a.eval o).run P w = .ok (.value x) w ∧ Rv w I ρ v x) : OpOk P m S o v S := by
  refine ⟨rfl, fun w₀ I₀ O₀ ρ I a w hr hgd next Q hn => ?_⟩
  obtain ⟨x, h1, h2⟩ := h w₀ I₀ O₀ ρ I a w hr
  exact wp_value h1 (hn x w ρ I hr h2)

/-- New memory, some of it shared from now on. -/
theorem Rel.growI {m : Nat} {w₀ : Base} {I₀ O₀ : Nat → Nat → Prop} {ρ : Nat → Option Real} {I : Nat → Nat → Prop} {S : St} {a : Act} {w : World}
    (h : Rel m w₀ I₀ O₀ ρ I S a w) {w' : World} {I' : Nat → Nat → Prop} (k : Keeps (fun _ _ => False) w w') (hI : ∀ b o, I b o → I' b o)
    (hI' : ∀ b o, I' b o → I b o ∨ (w.heap.size ≤ b ∧ b < w'.heap.size)) : Rel m w₀ I₀ O₀ ρ I' S a w' := by
  refine h.step (fun _ => False) k (fun _ _ _ h => h.elim) hI (fun b o hi => ?_) (Evo.refl _) rfl (fun _ _ => ⟨rfl, fun _ h => h⟩) h.dom
    (fun _ _ h => h.elim) (fun _ _ _ _ h => h.elim) (fun _ _ _ _ _ _ _ h => h.elim) (fun _ _ _ _ h => h.elim) (fun _ _ _ _ _ _ h => h.elim) (fun d cells h => ⟨⟨cells, h⟩, rfl⟩) (fun _ h => h.elim)
  rcases hI' b o hi with h1 | ⟨h1, h2⟩
  · exact .inl h1
  · refine .inr (.inl ⟨h1, h2, fun d br hl hd hh => ?_⟩)
    obtain ⟨⟨x, hx⟩, _⟩ := h.alive d br b o hl hd hh
    have := lt_of_cell hx; omega
theorem OpOk.grow {P : Program} {m : Nat} {S : St} {o : Oper} {v : V}
    (h : ∀ w₀ I₀ O₀ ρ I a w, Rel m w₀ I₀ O₀ ρ I S a w → ∃ x w' I', (execOp a.eval o).run P w = .ok (.value x) w' ∧ Keeps (fun _ _ => False) w w' ∧
      (∀ b o, I b o → I' b o) ∧ (∀ b o, I' b o → I b o ∨ (w.heap.size ≤ b ∧ b < w'.heap.size)) ∧ Rv w' I' ρ v x) : OpOk P m S o v S := by
  refine ⟨rfl, fun w₀ I₀ O₀ ρ I a w hr hgd next Q hn => ?_⟩
  obtain ⟨x, w', I', h1, h2, h3, h4, h5⟩ := h w₀ I₀ O₀ ρ I a w hr
  exact wp_value h1 (hn x w' ρ I' (hr.growI h2 h3 h4) h5)

theorem OpRead.ok {P : Program} {m : Nat} {S : St} {o : Oper} {v : V} (h : OpRead P m S o v) : OpOk P m S o v S := .pure fun w₀ I₀ O₀ ρ I a w hr => by
  obtain ⟨x, h1, h2⟩ := h w₀ I₀ O₀ ρ I a w hr
  exact ⟨x, h1 w (Keeps.refl _ _), h2⟩
theorem OpPure.ok {P : Program} {m : Nat} {S : St} {o : Oper} {v : V} (h : OpPure P m S o v) : OpOk P m S o v S := h.read.ok

section
variable {P : Program} {m : Nat} {S : St} {dst : Option Tmp} {ty : TypeId} {pos : String} {after : Array Edge} {guard : Option (Nat × Bool)}
theorem ok_move (x : Operand) : OpPure P m S ⟨dst, .move x, ty, pos, after, guard⟩ (S.eval P ty x) :=
  fun _ _ _ _ _ a w hr => ⟨a.eval x, fun w' => by simp [execOp], eval_ok hr P ty x⟩
theorem ok_assign (x : Operand) : OpPure P m S ⟨dst, .assign x, ty, pos, after, guard⟩ (S.eval P ty x) :=
  fun _ _ _ _ _ a w hr => ⟨a.eval x, fun w' => by simp [execOp], eval_ok hr P ty x⟩
theorem ok_pick {c x y : Operand} {t : Bool} (hc : S.eval P ty c = .bool t) {v : V} (hv : (t = true → v = S.eval P ty x) ∧ (t = false → v = S.eval P ty y)) :
    OpPure P m S ⟨dst, .pick c x y, ty, pos, after, guard⟩ v :=
  fun _ _ _ _ _ a w hr => by
    have h1 := eval_ok hr P ty c
    rw [hc] at h1
    have h1 := h1.bool_inv
    cases t with
    | true => exact ⟨a.eval x, fun w' => by simp [execOp, h1, asBool], by rw [hv.1 rfl]; exact eval_ok hr P ty x⟩
    | false => exact ⟨a.eval y, fun w' => by simp [execOp, h1, asBool], by rw [hv.2 rfl]; exact eval_ok hr P ty y⟩
theorem ok_pick_bool {c x y : Operand} {t p q : Bool} (hc : S.eval P ty c = .bool t) (hx : S.eval P ty x = .bool p) (hy : S.eval P ty y = .bool q) :
    OpPure P m S ⟨dst, .pick c x y, ty, pos, after, guard⟩ (.bool (cond t p q)) :=
  ok_pick hc ⟨fun h => by rw [h, hx]; rfl, fun h => by rw [h, hy]; rfl⟩

theorem ok_binOp {op : BinOp} {t yt : TypeId} {x y : Operand} {K : V → Option R} {r : R} (h : binop P op t (S.eval P t x) (S.eval P yt y) K = some r) :
    ∃ v, K v = some r ∧ OpRead P m S ⟨dst, .binOp op t x y yt, ty, pos, after, guard⟩ v := by
  obtain ⟨v, v', h1, h4, h2⟩ := binop_ok h
  refine ⟨v, h1, fun _ _ _ ρ I a w hr => ⟨v', fun w' hk => ?_, h4 w I ρ⟩⟩
  have old : ∀ b o, I b o → w'.cell? ⟨b, o, none⟩ = w.cell? ⟨b, o, none⟩ := fun b o hi => hk.cell (fun h => h (.inl hi)) (hr.ilt b o hi)
  have h3 := h2 w' I ρ _ _ x y ((eval_ok hr P t x).keep old (fun _ _ h => h) (Evo.refl _)) ((eval_ok hr P yt y).keep old (fun _ _ h => h) (Evo.refl _))
  simp only [execOp, Sem.run_bind] at h3 ⊢; rw [← Sem.run_bind] at *; simp only [Sem.run_bind] at h3 ⊢; rw [h3]; rfl

theorem veq_plain {t : TypeId} (ht : plainT P t = true) (x y : V) : veq P t x y = none := by
  unfold plainT at ht
  unfold veq
  cases hu : P.underlying t with
  | none => rw [hu] at ht; cases ht
  | some d =>
    rw [hu] at ht
    cases d <;> first | (cases ht; done) | (split <;> first | rfl | (simp; done))
theorem ok_binOp_plain {op : BinOp} {t yt : TypeId} {x y : Operand} (ht : plainT P t = true) {K : V → Option R} {r : R} (h : binop P op t (S.eval P t x) (S.eval P yt y) K = some r) :
    ∃ v, K v = some r ∧ OpPure P m S ⟨dst, .binOp op t x y yt, ty, pos, after, guard⟩ v := by
  have key : ∀ (a b : V), S.eval P t x = a → S.eval P yt y = b → binop P op t a b K = some r → ∃ v, K v = some r ∧ OpPure P m S ⟨dst, .binOp op t x y yt, ty, pos, after, guard⟩ v := by
    intro a b ha hb h
    have no : ∀ op' : BinOp, ¬ (match op' with
      | .eql => match veq P t a b with | some e => K (.bool e) | none => none
      | .neq => match veq P t a b with | some e => K (.bool !e) | none => none
      | _ => none) = some r := by
      intro op'; rw [veq_plain ht]; cases op' <;> simp
    cases a with
    | int k n =>
      cases b with
      | int k' n' =>
        obtain ⟨v, v', h1, h2, h3⟩ := binop_int h
        refine ⟨v, h1, fun _ _ _ ρ I a w hr => ⟨v', fun w' => ?_, h2 w I ρ⟩⟩
        have e1 := eval_ok hr P t x
        have e2 := eval_ok hr P yt y
        rw [ha] at e1; rw [hb] at e2
        have h3 := h3 w' x y
        simp only [execOp, e1.int_inv, e2.int_inv]
        rw [Sem.run_bind, h3]; rfl
      | _ => exact absurd h (no op)
    | str s =>
      cases b with
      | str s' =>
        obtain ⟨v, v', h1, h2, h3⟩ := binop_str h
        refine ⟨v, h1, fun _ _ _ ρ I a w hr => ⟨v', fun w' => ?_, h2 w I ρ⟩⟩
        have e1 := eval_ok hr P t x
        have e2 := eval_ok hr P yt y
        rw [ha] at e1; rw [hb] at e2
        have h3 := h3 w' x y
        simp only [execOp, e1.str_inv, e2.str_inv]
        rw [Sem.run_bind, h3]; rfl
      | _ => exact absurd h (no op)
    | _ => exact absurd h (no op)
  exact key _ _ rfl rfl h

theorem ok_unOp {op : UnOp} {t : TypeId} {x : Operand} {K : V → Option R} {r : R} (h : unop op (S.eval P ty x) K = some r) :
    ∃ v, K v = some r ∧ OpPure P m S ⟨dst, .unOp op t x, ty, pos, after, guard⟩ v := by
  cases hx : S.eval P ty x with
  | bool b =>
    rw [hx] at h
    cases op <;> try cases h
    refine ⟨.bool !b, h, fun _ _ _ ρ I a w hr => ?_⟩
    have h1 := eval_ok hr P ty x
    rw [hx] at h1
    exact ⟨.bool !b, fun w' => by simp [execOp, h1.bool_inv, Op.unary], .dat (.bool _)⟩
  | int k n =>
    rw [hx] at h
    cases op <;> try cases h
    refine ⟨.int k (k.wrap (0 - n)), h, fun _ _ _ ρ I a w hr => ?_⟩
    have h1 := eval_ok hr P ty x
    rw [hx] at h1
    exact ⟨.int k (k.wrap (0 - n)), fun w' => by simp [execOp, h1.int_inv, Op.unary, Op.intArith], .dat (.int _ _)⟩
  | _ => rw [hx] at h; cases h

theorem ok_nilCheck {x : Operand} {v : V} (hx : S.eval P ty x = v) (hv : (∃ d r o g, v = .ptr d r o g) ∨ (∃ cs, v = .cref cs) ∨ ∃ f a b, v = .fn f a b) :
    OpPure P m S ⟨dst, .nilCheck x, ty, pos, after, guard⟩ v :=
  fun _ _ _ ρ I a w hr => by
    have h1 := eval_ok hr P ty x
    rw [hx] at h1
    refine ⟨a.eval x, fun w' => ?_, h1⟩
    rcases hv with ⟨d, r, o, g, rfl⟩ | ⟨cs, rfl⟩ | ⟨f, p, q, rfl⟩
    · obtain ⟨q, hq⟩ := h1.ptr_inv; simp [execOp, hq]
    · obtain ⟨q, hq⟩ := h1.cref_inv; simp [execOp, hq]
    · obtain ⟨q1, q2, hq⟩ := h1.fn_inv; simp [execOp, hq]

theorem evalAll {w₀ : Base} {I₀ O₀ : Nat → Nat → Prop} {ρ : Nat → Option Real} {I : Nat → Nat → Prop} {a : Act} {w : World}
    (hr : Rel m w₀ I₀ O₀ ρ I S a w) (xs : List Operand) : AllRv w I ρ (xs.map (S.eval P ty)) (xs.map a.eval) :=
  ⟨by simp, fun i hi => by
    have hi' : i < xs.length := by simpa using hi
    simp only [List.getD_eq_getElem?_getD, List.getElem?_map, List.getElem?_eq_getElem hi', Option.map_some, Option.getD_some]
    exact eval_ok hr P ty _⟩

theorem ok_makeFunc {f : FuncId} {first caps : Array Operand} :
    OpPure P m S ⟨dst, .makeFunc (.func f) first caps, ty, pos, after, guard⟩ (.fn f (first.toList.map (S.eval P ty)) (caps.toList.map (S.eval P ty))) :=
  fun _ _ _ ρ I a w hr => by
    have h1 := evalAll (P := P) (ty := ty) hr first.toList
    have h2 := evalAll (P := P) (ty := ty) hr caps.toList
    refine ⟨.func (.func f) (first.toList.map a.eval).toArray (caps.toList.map a.eval).toArray, fun w' => ?_, .fn f _ _ _ _ h1.1 h1.2 h2.1 h2.2⟩
    have e : ∀ z : Array Operand, z.map a.eval = (z.toList.map a.eval).toArray := fun z => by apply Array.ext'; simp
    simp only [execOp, Instr.makeFunc]
    rw [e first, e caps]
    rfl

theorem ok_extract {x : Operand} {i : Nat} {vs : List V} {v : V} (hx : S.eval P ty x = .tup vs) (hv : vs[i]? = some v) :
    OpPure P m S ⟨dst, .extract x i, ty, pos, after, guard⟩ v :=
  fun _ _ _ ρ I a w hr => by
    have h1 := eval_ok hr P ty x
    rw [hx] at h1
    obtain ⟨xs, h2, h3, h4⟩ := h1.tup_inv
    have hi : i < vs.length := by
      rcases Nat.lt_or_ge i vs.length with h | h
      · exact h
      · rw [List.getElem?_eq_none h] at hv; cases hv
    have h5 := h4 i hi
    rw [List.getD_eq_getElem?_getD, hv] at h5
    refine ⟨xs.getD i Go.undef, fun w' => ?_, h5⟩
    have hi' : i < xs.length := by omega
    simp [execOp, h2, Instr.extract, hi']

/-! ### Places -/
theorem okT_spec {t : TypeId} (h : okT P t = true) : ∃ d, P.underlying t = some d ∧ (isAggT P t = false → P.cellsOf t = 1) := by
  unfold okT at h
  cases hu : P.underlying t with
  | none => rw [hu] at h; cases h
  | some d =>
    refine ⟨d, rfl, fun ha => ?_⟩
    rw [hu, ha] at h
    exact Nat.eq_of_beq_eq_true h

theorem asV_ok {t : TypeId} (h : okT P t = true) {w : World} {I : Nat → Nat → Prop} {ρ : Nat → Option Real} {cs : List V} {xs : List Value} (hc : AllRv w I ρ cs xs) (hl : cs.length = P.cellsOf t) :
    Rv w I ρ (asV P t cs) (asX P t xs) := by
  obtain ⟨d, hu, h1⟩ := okT_spec h
  unfold asV asX
  cases ha : isAggT P t with
  | true => exact .agg cs xs hc.1 hc.2
  | false =>
    have := h1 ha
    match cs, xs, hc, hl with
    | [], _, _, hl => simp at hl; omega
    | c :: cs, [], hc, _ => have := hc.1; simp at this
    | c :: cs, x :: xs, hc, _ => exact hc.2 0 (by simp)

/-- A value read from memory. -/
theorem run_loadAt {t : TypeId} (h : okT P t = true) {w : World} {b o : Nat} (val : Nat → Value) (hc : ∀ j, j < P.cellsOf t → w.cell? ⟨b, o + j, none⟩ = some (val j)) :
    (Instr.loadAt t (.pointer (some ⟨b, o, none⟩))).run P w = .ok (asX P t ((List.range (P.cellsOf t)).map val)) w := by
  obtain ⟨d, hu, h1⟩ := okT_spec h
  simp only [Instr.loadAt, Instr.sureAddr, pure_bind, loadVar, Sem.run_bind, run_isAgg' hu, Result.andThen_ok, asX]
  cases ha : isAggT P t with
  | true =>
    simp only [if_true, cond_true, Sem.run_bind, run_sizeOf_some hu, Result.andThen_ok]
    rw [run_loadCells w ⟨b, o, none⟩ (P.cellsOf t) val (fun j hj => by
      have := hc j hj
      unfold Addr.add
      split
      · subst_vars; simpa using this
      · exact this)]
    rfl
  | false =>
    have e := h1 ha
    simp only [Bool.false_eq_true, if_false, cond_false, run_load]
    have h0 := hc 0 (by omega)
    simp only [Nat.add_zero] at h0
    rw [h0, e]
    rfl

theorem take_drop_getD (cs : List V) (o sz j : Nat) (hj : j < sz) : ((cs.drop o).take sz).getD j .undef = cs.getD (o + j) .undef := getD_drop_take cs o sz j .undef hj

theorem etaRow_length (sh : List Sh) : ∀ j r, (etaRow sh j r).length = sh.length := by
  induction sh with
  | nil => intro j r; rfl
  | cons s ss ih => intro j r; simp [etaRow, ih]
theorem etaRow_getD (sh : List Sh) : ∀ j r i, i < sh.length → (etaRow sh j r).getD i .undef = eta (sh.getD i .oth) (r.getD (j + i) .undef) := by
  induction sh with
  | nil => intro j r i hi; cases hi
  | cons s ss ih =>
    intro j r i hi
    cases i with
    | zero => simp [etaRow]
    | succ i =>
      have := ih (j + 1) r i (by simpa using hi)
      simp only [etaRow, List.getD_cons_succ, this]
      rw [show j + 1 + i = j + (i + 1) by omega]
mutual
theorem Sh.beq_eq : ∀ a b : Sh, Sh.beq a b = true → a = b
  | .bool, b, h => by cases b <;> first | rfl | cases h
  | .int k, b, h => by
    cases b with
    | int k' => simp only [Sh.beq, decide_eq_true_eq] at h; rw [h]
    | _ => cases h
  | .str, b, h => by cases b <;> first | rfl | cases h
  | .slc c, b, h => by
    cases b with
    | slc c' => exact congrArg Sh.slc (Sh.beqL_eq c c' h)
    | _ => cases h
  | .oth, b, h => by cases b <;> cases h
theorem Sh.beqL_eq : ∀ a b : List Sh, Sh.beqL a b = true → a = b
  | [], b, h => by cases b <;> first | rfl | cases h
  | a :: x, b, h => by
    cases b with
    | nil => cases h
    | cons c y =>
      simp only [Sh.beqL] at h
      cases hb : Sh.beq a c with
      | false => rw [hb] at h; cases h
      | true =>
        rw [hb] at h
        rw [Sh.beq_eq a c hb, Sh.beqL_eq x y h]
end
theorem eta_ok {s : Sh} {v : V} (hf : fits s v = true) {w : World} {I : Nat → Nat → Prop} {x : Value} (h : Dat w I v x) : Dat w I (eta s v) x := by
  cases s with
  | bool => cases v <;> first | exact h | cases hf
  | int k =>
    cases v with
    | int k' n => simp only [fits, decide_eq_true_eq] at hf; subst hf; exact h
    | _ => cases hf
  | str => cases v <;> first | exact h | cases hf
  | slc c =>
    cases v with
    | slc c' rows => have := Sh.beqL_eq c c' hf; subst this; exact h
    | nils c' =>
      cases h
      exact .slc c [] _ 0 (fun _ _ => Go.undef) (Nat.le_refl _) rfl (fun h => absurd rfl h) (fun i j hi => by cases hi)
    | _ => cases hf
  | oth => cases v <;> cases hf
theorem fitsL_spec : ∀ (sh : List Sh) (row : List V), fitsL sh row = true → row.length = sh.length ∧ ∀ j, j < sh.length → fits (sh.getD j .oth) (row.getD j .undef) = true
  | [], [], _ => ⟨rfl, fun _ h => by cases h⟩
  | [], _ :: _, h => by cases h
  | _ :: _, [], h => by cases h
  | s :: ss, v :: vs, h => by
    simp only [fitsL] at h
    cases hf : fits s v with
    | false => rw [hf] at h; cases h
    | true =>
      rw [hf] at h
      obtain ⟨h1, h2⟩ := fitsL_spec ss vs h
      refine ⟨by simp [h1], fun j hj => ?_⟩
      cases j with
      | zero => exact hf
      | succ j => exact h2 j (by simpa using hj)
theorem fitsRows_spec : ∀ (sh : List Sh) (rows : List (List V)), fitsRows sh rows = true → ∀ i, i < rows.length → fitsL sh (rows.getD i []) = true
  | _, [], _, _, hi => by cases hi
  | sh, r :: rs, h, i, hi => by
    simp only [fitsRows] at h
    cases hf : fitsL sh r with
    | false => rw [hf] at h; cases h
    | true =>
      rw [hf] at h
      cases i with
      | zero => exact hf
      | succ i => exact fitsRows_spec sh rs h i (by simpa using hi)
theorem fitsRows_of : ∀ (sh : List Sh) (rows : List (List V)), (∀ i, i < rows.length → fitsL sh (rows.getD i []) = true) → fitsRows sh rows = true
  | _, [], _ => rfl
  | sh, r :: rs, h => by
    simp only [fitsRows]
    have h0 := h 0 (by simp)
    simp only [List.getD_cons_zero] at h0
    rw [h0, cond_true]
    exact fitsRows_of sh rs fun i hi => by simpa using h (i + 1) (by simpa using hi)
theorem eta_row_ok {sh : List Sh} {rows : List (List V)} (hf : fitsRows sh rows = true) {i j : Nat} (hi : i < rows.length) (hj : j < sh.length) {w : World} {I : Nat → Nat → Prop} {x : Value}
    (h : Dat w I (rowAt rows i j) x) : Dat w I ((etaRow sh 0 (rows.getD i [])).getD j .undef) x := by
  rw [etaRow_getD sh 0 _ j hj, Nat.zero_add]
  exact eta_ok ((fitsL_spec _ _ (fitsRows_spec sh rows hf i hi)).2 j hj) h

/-- Where a place of a box really is. -/
theorem readAt_ok {d r o g sz : Nat} {K : List V → Option R} {q : R} (h : readAt S d r o g sz K = some q) :
    ∃ cs, K cs = some q ∧ cs.length = sz ∧ ∀ w₀ I₀ O₀ ρ I a w, Rel m w₀ I₀ O₀ ρ I S a w → ∀ x, Rv w I ρ (.ptr d r o g) x →
      ∃ (b p : Nat) (val : Nat → Value), x = .pointer (some ⟨b, p, none⟩) ∧ ∀ j, j < sz → w.cell? ⟨b, p + j, none⟩ = some (val j) ∧ Rv w I ρ (cs.getD j .undef) (val j) := by
  unfold readAt at h
  split at h
  · rename_i cells ht
    obtain ⟨h1, h2⟩ := cond_none h
    have h1 := Nat.le_of_ble_eq_true h1
    refine ⟨_, h2, by simp; omega, fun w₀ I₀ O₀ ρ I a w hr x hx => ?_⟩
    obtain ⟨br, hd, e1, e2, e3, e4, b, p, e5, e6⟩ := hr.tab d _ ht
    cases hx with
    | dat hx => cases hx
    | ptr _ _ _ _ br' _ hd' hg hh _ =>
      rw [hd] at hd'; cases hd'
      obtain ⟨hrn, b', p', hb, hx⟩ := hh (by omega)
      rw [e5] at hb; cases hb
      have hr0 : r = 0 := by omega
      subst hr0
      refine ⟨b, p + o, fun j => (w.cell? ⟨b, p + o + j, none⟩).getD Go.undef, by rw [hx]; simp, fun j hj => ?_⟩
      obtain ⟨y, hy, hv⟩ := e6 (o + j) (by omega)
      rw [← Nat.add_assoc] at hy
      rw [take_drop_getD cells o sz j hj]
      simp only [hy, Option.getD_some]
      exact ⟨trivial, hv⟩
  · rename_i sh rows gen ht
    obtain ⟨h1, h2⟩ := cond_none h
    obtain ⟨h3, h4⟩ := cond_none h2
    have h1 := Nat.eq_of_beq_eq_true h1
    have h3 := Nat.le_of_ble_eq_true h3
    refine ⟨_, h4, by simp [etaRow_length]; omega, fun w₀ I₀ O₀ ρ I a w hr x hx => ?_⟩
    obtain ⟨br, hd, e1, e2, e3, e4, e5, e6, e7, _⟩ := hr.tab d _ ht
    cases hx with
    | dat hx => cases hx
    | ptr _ _ _ _ br' _ hd' hg hh _ =>
      rw [hd] at hd'; cases hd'
      obtain ⟨hrn, b, p, hb, hx⟩ := hh (by omega)
      refine ⟨b, p + (r * br.sz + o), fun j => (w.cell? ⟨b, p + (r * br.sz + o) + j, none⟩).getD Go.undef, hx, fun j hj => ?_⟩
      obtain ⟨y, hy, hv⟩ := e7 b p hb r (o + j) (by omega) (by omega)
      rw [show p + (r * sh.length + (o + j)) = p + (r * br.sz + o) + j by rw [e1]; omega] at hy
      rw [take_drop_getD _ o sz j hj]
      simp only [hy, Option.getD_some]
      exact ⟨trivial, .dat (eta_row_ok e5 (by omega) (by omega) hv)⟩
  · cases h

theorem readAt_has {d r o g sz : Nat} {K : List V → Option R} {q : R} (h : readAt S d r o g sz K = some q) :
    ∀ w₀ I₀ O₀ ρ I a w, Rel m w₀ I₀ O₀ ρ I S a w → ∀ x, Rv w I ρ (.ptr d r o g) x → ∀ b p, x = .pointer (some ⟨b, p, none⟩) → ∀ j, j < sz → ∃ br, Live S d ∧ ρ d = some br ∧ br.has b (p + j) := by
  intro w₀ I₀ O₀ ρ I a w hr x hx b p hxe j hj
  unfold readAt at h
  split at h
  · rename_i cells ht
    obtain ⟨h1, h2⟩ := cond_none h
    have h1 := Nat.le_of_ble_eq_true h1
    obtain ⟨br, hd, e1, e2, e3, e4, b', p', e5, e6⟩ := hr.tab d _ ht
    cases hx with
    | dat hx => cases hx
    | ptr _ _ _ _ br' _ hd' hg hh _ =>
      rw [hd] at hd'; cases hd'
      obtain ⟨hrn, b1, p1, hb, hx⟩ := hh (by omega)
      have hr0 : r = 0 := by omega
      subst hr0
      rw [hxe] at hx
      simp only [Value.pointer.injEq, Option.some.injEq, Addr.mk.injEq] at hx
      obtain ⟨rfl, rfl, _⟩ := hx
      exact ⟨br, ⟨_, ht, by simp⟩, hd, p1, hb, by omega, by rw [e3, e1]; omega⟩
  · rename_i sh rows gen ht
    obtain ⟨h1, h2⟩ := cond_none h
    obtain ⟨h3, h4⟩ := cond_none h2
    have h1 := Nat.eq_of_beq_eq_true h1
    have h3 := Nat.le_of_ble_eq_true h3
    obtain ⟨br, hd, e1, e2, e3, e4, e5, e6, e7, _⟩ := hr.tab d _ ht
    cases hx with
    | dat hx => cases hx
    | ptr _ _ _ _ br' _ hd' hg hh _ =>
      rw [hd] at hd'; cases hd'
      obtain ⟨hrn, b1, p1, hb, hx⟩ := hh (by omega)
      rw [hxe] at hx
      simp only [Value.pointer.injEq, Option.some.injEq, Addr.mk.injEq] at hx
      obtain ⟨rfl, rfl, _⟩ := hx
      refine ⟨br, ⟨_, ht, by simp⟩, hd, p1, hb, by omega, ?_⟩
      have : (r + 1) * br.sz ≤ br.cap * br.sz := Nat.mul_le_mul_right _ (by omega)
      rw [Nat.add_mul] at this
      omega
  · cases h

theorem ok_load {t : TypeId} {x : Operand} {K : V → Option R} {q : R} (ht : okT P t = true)
    (h : (match S.eval P ty x with
      | .ptr d r o g => readAt S d r o g (P.cellsOf t) fun cs => K (asV P t cs)
      | .cref cs => cond (Nat.ble (P.cellsOf t) cs.length) (K (asV P t (cs.take (P.cellsOf t)))) none
      | _ => none) = some q) :
    ∃ v, K v = some q ∧ OpRead P m S ⟨dst, .load t x, ty, pos, after, guard⟩ v := by
  cases hx : S.eval P ty x with
  | ptr d r o g =>
    rw [hx] at h
    have h4 := readAt_has (m := m) h
    obtain ⟨cs, h1, h2, h3⟩ := readAt_ok (m := m) h
    refine ⟨_, h1, fun w₀ I₀ O₀ ρ I a w hr => ?_⟩
    have hv := eval_ok hr P ty x
    rw [hx] at hv
    obtain ⟨b, p, val, e1, e2⟩ := h3 w₀ I₀ O₀ ρ I a w hr _ hv
    refine ⟨_, fun w' hk => by simp only [execOp, e1, Sem.run_bind, run_loadAt ht val (fun j hj => (hk.cell (fun hh => hh (.inr ⟨d, by
      obtain ⟨br, k1, k2, k3⟩ := h4 w₀ I₀ O₀ ρ I a w hr _ hv b p e1 j hj
      exact ⟨br, by simp [rdBx, hx], k1, k2, k3⟩⟩)) (lt_of_cell (e2 j hj).1)).trans (e2 j hj).1)]; rfl, asV_ok ht ⟨by simp [h2], fun j hj => ?_⟩ h2⟩
    rw [h2] at hj
    have : ((List.range (P.cellsOf t)).map val).getD j Go.undef = val j := by simp [List.getD_eq_getElem?_getD, hj]
    rw [this]
    exact (e2 j hj).2
  | cref cs =>
    rw [hx] at h
    obtain ⟨h1, h2⟩ := cond_none h
    have h1 := Nat.le_of_ble_eq_true h1
    refine ⟨_, h2, fun w₀ I₀ O₀ ρ I a w hr => ?_⟩
    have hv := eval_ok hr P ty x
    rw [hx] at hv
    have hl : (cs.take (P.cellsOf t)).length = P.cellsOf t := by simp; omega
    generalize hxe : a.eval x = xv at hv
    cases hv with
    | dat hv => cases hv
    | cref _ b p val hc hd =>
      refine ⟨_, fun w' hk => by simp only [execOp, hxe, Sem.run_bind, run_loadAt ht val (fun j hj => (hk.cell (fun h => h (.inl (hc j (by omega)).2)) (lt_of_cell (hc j (by omega)).1)).trans (hc j (by omega)).1)]; rfl, asV_ok ht ⟨by simp [hl], fun j hj => ?_⟩ hl⟩
      rw [hl] at hj
      have : ((List.range (P.cellsOf t)).map val).getD j Go.undef = val j := by simp [List.getD_eq_getElem?_getD, hj]
      rw [this, show (cs.take (P.cellsOf t)).getD j .undef = cs.getD j .undef by simp [List.getD_eq_getElem?_getD, hj]]
      exact .dat (hd j (by omega))
  | _ => rw [hx] at h; cases h

theorem fieldOff_spec {t : TypeId} {f o : Nat} {ft : TypeId} (h : fieldOff P t f = some (o, ft)) : ∃ (fs : Array Field) (x : Field), P.underlying t = some (.struct fs) ∧ fs[f]? = some x ∧ x.offset = o ∧ x.type = ft := by
  unfold fieldOff at h
  split at h
  · rename_i fs hu
    split at h
    · rename_i x hx
      simp only [Option.some.injEq, Prod.mk.injEq] at h
      exact ⟨fs, x, hu, hx, h.1, h.2⟩
    · cases h
  · cases h
theorem add_off (b p n : Nat) : (⟨b, p, none⟩ : Addr).add n = ⟨b, p + n, none⟩ := by
  unfold Addr.add; split
  · subst_vars; rfl
  · rfl
theorem run_fieldAt {t : TypeId} {f o : Nat} {ft : TypeId} (h : fieldOff P t f = some (o, ft)) (hz : P.cellsOf ft ≠ 0) (q : Addr) (w : World) :
    (Instr.fieldAt t (.pointer (some q)) f).run P w = .ok (.pointer (some (q.add o))) w := by
  obtain ⟨fs, x, h1, h2, rfl, rfl⟩ := fieldOff_spec h
  simp only [Instr.fieldAt, Sem.run_bind, run_underlying' h1, Result.andThen_ok]
  simp [h2, Instr.sureAddr, fieldPlace, run_sizeOf' hz, hz]

theorem ok_fieldAddr {t : TypeId} {x : Operand} {f o : Nat} {ft : TypeId} {K : V → Option R} {q : R} (hf : fieldOff P t f = some (o, ft))
    (h : cond (Nat.beq (P.cellsOf ft) 0) none (match S.eval P ty x with
      | .ptr d r p g => K (.ptr d r (p + o) g)
      | .cref cs => K (.cref (cs.drop o))
      | _ => none) = some q) :
    ∃ v, K v = some q ∧ OpPure P m S ⟨dst, .fieldAddr t x f, ty, pos, after, guard⟩ v := by
  obtain ⟨hz, h⟩ := none_cond h
  have hz : P.cellsOf ft ≠ 0 := fun e => by rw [e] at hz; cases hz
  cases hx : S.eval P ty x with
  | ptr d r p g =>
    rw [hx] at h
    refine ⟨_, h, fun w₀ I₀ O₀ ρ I a w hr => ?_⟩
    have hv := eval_ok hr P ty x
    rw [hx] at hv
    generalize hxe : a.eval x = xv at hv
    cases hv with
    | dat hv => cases hv
    | ptr _ _ _ _ br _ hd hg hh hp =>
      obtain ⟨q', rfl⟩ := hp
      refine ⟨.pointer (some (q'.add o)), fun w' => by simp only [execOp, hxe, Sem.run_bind, run_fieldAt hf hz]; rfl, .ptr d r (p + o) g br _ hd hg (fun hgg => ?_) ⟨_, rfl⟩⟩
      obtain ⟨h1, b, o₀, h2, h3⟩ := hh hgg
      refine ⟨h1, b, o₀, h2, ?_⟩
      cases h3
      rw [add_off]; congr 3; omega
  | cref cs =>
    rw [hx] at h
    refine ⟨_, h, fun w₀ I₀ O₀ ρ I a w hr => ?_⟩
    have hv := eval_ok hr P ty x
    rw [hx] at hv
    generalize hxe : a.eval x = xv at hv
    cases hv with
    | dat hv => cases hv
    | cref _ b p val hc hd =>
      refine ⟨.pointer (some ⟨b, p + o, none⟩), fun w' => by simp only [execOp, hxe, Sem.run_bind, run_fieldAt hf hz, add_off]; rfl, ?_⟩
      refine .cref _ b (p + o) (fun j => val (o + j)) (fun j hj => ?_) (fun j hj => ?_)
      · have := hc (o + j) (by simp at hj; omega)
        rw [← Nat.add_assoc] at this
        exact this
      · have := hd (o + j) (by simp at hj; omega)
        rw [show (cs.drop o).getD j .undef = cs.getD (o + j) .undef by simp [List.getD_eq_getElem?_getD]]
        exact this
  | _ => rw [hx] at h; cases h

theorem ok_field {t : TypeId} {x : Operand} {f o : Nat} {ft : TypeId} {cs : List V} (hf : fieldOff P t f = some (o, ft)) (hx : S.eval P ty x = .agg cs)
    (ht : okT P ft = true) (hl : o + P.cellsOf ft ≤ cs.length) (hz : P.cellsOf ft ≠ 0) :
    OpPure P m S ⟨dst, .field t x f, ty, pos, after, guard⟩ (asV P ft ((cs.drop o).take (P.cellsOf ft))) :=
  fun _ _ _ ρ I a w hr => by
    have h1 := eval_ok hr P ty x
    rw [hx] at h1
    obtain ⟨xs, e1, e2, e3⟩ := h1.agg_inv
    obtain ⟨fs, y, h2, h3, rfl, rfl⟩ := fieldOff_spec hf
    obtain ⟨ud, hu, _⟩ := okT_spec ht
    refine ⟨asX P y.type ((xs.drop y.offset).take (P.cellsOf y.type)), fun w' => ?_, asV_ok ht (AllRv.part ⟨e2, e3⟩ _ _) (by simp; omega)⟩
    simp only [execOp, Instr.field, e1, Sem.run_bind, run_underlying' h2, Result.andThen_ok]
    simp [h3, asAgg, run_part' hu xs y.offset (by omega) hz]

theorem ints_spec {x : V} {K : Int → Option R} {q : R} (h : ints x K = some q) : ∃ k n, x = .int k n ∧ K n = some q := by
  cases x <;> first | exact ⟨_, _, rfl, h⟩ | cases h

theorem run_indexAt_slice {t e : TypeId} (ht : P.underlying t = some (.slice e)) (hz : P.cellsOf e ≠ 0) (k : IntKind) (i : Int) (q : Addr) (len cap : Nat) (hi : 0 ≤ i ∧ i < len) (w : World) :
    (Instr.indexAt t (.slice (some q) len cap) (.int k i)).run P w = .ok (.pointer (some (q.add (i.toNat * P.cellsOf e)))) w := by
  simp only [Instr.indexAt, asIntOf, pure_bind, Sem.run_bind, run_underlying' ht, Result.andThen_ok]
  simp [hi, run_sizeOf' hz]
theorem run_indexAt_array {t e : TypeId} {n : Nat} (ht : P.underlying t = some (.array n e)) (hz : P.cellsOf e ≠ 0) (k : IntKind) (i : Int) (q : Addr) (hi : 0 ≤ i ∧ i < n) (w : World) :
    (Instr.indexAt t (.pointer (some q)) (.int k i)).run P w = .ok (.pointer (some (q.add (i.toNat * P.cellsOf e)))) w := by
  simp only [Instr.indexAt, asIntOf, pure_bind, Sem.run_bind, run_underlying' ht, Result.andThen_ok]
  simp [hi, run_sizeOf' hz, Instr.sureAddr]

theorem blt_spec {a b : Nat} (h : Nat.blt a b = true) : a < b := Nat.le_of_ble_eq_true h
theorem withOwn_spec {d g : Nat} {K : List Sh → List (List V) → Option R} {q : R} (h : withOwn S d g K = some q) :
    ∃ sh rows, lk? S.tab d = some (.sl sh rows g) ∧ K sh rows = some q := by
  unfold withOwn at h
  split at h
  · rename_i sh rows gen ht
    obtain ⟨h1, h2⟩ := cond_none h
    have := Nat.eq_of_beq_eq_true h1
    subst this
    exact ⟨sh, rows, ht, h2⟩
  · cases h
/-- What an owned slice is. -/
theorem own_real {d g : Nat} {sh : List Sh} {rows : List (List V)} (ht : lk? S.tab d = some (.sl sh rows g)) {w₀ : Base} {I₀ O₀ : Nat → Nat → Prop} {ρ : Nat → Option Real} {I : Nat → Nat → Prop} {a : Act} {w : World}
    (hr : Rel m w₀ I₀ O₀ ρ I S a w) {x : Value} (hx : Rv w I ρ (.own d g) x) : ∃ br, ρ d = some br ∧ BoxR w I ρ (.sl sh rows g) br ∧ x = br.slice := by
  obtain ⟨br, hd, hb⟩ := hr.tab d _ ht
  refine ⟨br, hd, hb, ?_⟩
  cases hx with
  | dat hx => cases hx
  | own _ _ br' _ hd' hg hh _ => rw [hd] at hd'; cases hd'; exact hh hb.2.2.1.symm
theorem own_base {w : World} {I : Nat → Nat → Prop} {ρ : Nat → Option Real} {sh : List Sh} {rows : List (List V)} {g : Nat} {br : Real} (hb : BoxR w I ρ (.sl sh rows g) br) (hn : 0 < rows.length) :
    ∃ b o, br.base = some (b, o) := by
  obtain ⟨_, _, _, h4, _, h6, _, _⟩ := hb
  cases he : br.base with
  | none => have := h6 he; omega
  | some p => exact ⟨p.1, p.2, rfl⟩

theorem ok_indexAddr {E : Env} {t : TypeId} {x i : Operand} {K : V → Option R} {q : R} (h : indexAddrOp E t (S.eval E.P ty x) (S.eval E.P ty i) S K = some q) :
    ∃ v, K v = some q ∧ OpPure E.P m S ⟨dst, .indexAddr t x i, ty, pos, after, guard⟩ v := by
  unfold indexAddrOp at h
  obtain ⟨k, n, hi, h⟩ := ints_spec h
  split at h
  · rename_i e sh rows hu hx
    obtain ⟨hc, h⟩ := cond_none h
    obtain ⟨hb, h⟩ := cond_none h
    have hb : 0 ≤ n ∧ n < (rows.length : Int) := by simpa using hb
    have hc : 0 < sh.length ∧ sh.length = E.P.cellsOf e := by
      cases hz : Nat.blt 0 sh.length with
      | false => rw [hz] at hc; cases hc
      | true => rw [hz] at hc; exact ⟨blt_spec hz, Nat.eq_of_beq_eq_true hc⟩
    refine ⟨_, h, fun w₀ I₀ O₀ ρ I a w hr => ?_⟩
    have h1 := eval_ok hr E.P ty x
    have h2 := eval_ok hr E.P ty i
    rw [hx] at h1
    rw [hi] at h2
    generalize hxe : a.eval x = xv at h1
    cases h1 with
    | dat h1 =>
      cases h1 with
      | slc _ _ al cap val hcap hfit ha hd =>
        have hne : rows ≠ [] := by intro he; subst he; simp at hb; omega
        obtain ⟨b, o, rfl, hcell⟩ := ha hne
        refine ⟨_, fun w' => by simp only [execOp, hxe, h2.int_inv, Sem.run_bind, run_indexAt_slice hu (by omega) k n _ _ _ hb, add_off]; rfl, ?_⟩
        refine .cref _ b _ (fun j => val n.toNat j) (fun j hj => ?_) (fun j hj => ?_)
        · rw [etaRow_length] at hj
          have := hcell n.toNat j (by omega) hj
          rw [← hc.2]
          rw [← Nat.add_assoc] at this
          exact this
        · rw [etaRow_length] at hj
          exact eta_row_ok hfit (by omega) hj (hd n.toNat j (by omega) hj)
  · rename_i e d g hu hx
    obtain ⟨sh, rows, ht, h⟩ := withOwn_spec h
    obtain ⟨hc, h⟩ := cond_none h
    obtain ⟨hb, h⟩ := cond_none h
    have hb : 0 ≤ n ∧ n < (rows.length : Int) := by simpa using hb
    have hc : 0 < sh.length ∧ sh.length = E.P.cellsOf e := by
      cases hz : Nat.blt 0 sh.length with
      | false => rw [hz] at hc; cases hc
      | true => rw [hz] at hc; exact ⟨blt_spec hz, Nat.eq_of_beq_eq_true hc⟩
    refine ⟨_, h, fun w₀ I₀ O₀ ρ I a w hr => ?_⟩
    have h1 := eval_ok hr E.P ty x
    have h2 := eval_ok hr E.P ty i
    rw [hx] at h1
    rw [hi] at h2
    obtain ⟨br, hd, hbx, e1⟩ := own_real ht hr h1
    obtain ⟨b, o, hbase⟩ := own_base hbx (by omega)
    have e2 : a.eval x = .slice (some ⟨b, o, none⟩) rows.length br.cap := by rw [e1]; simp [Real.slice, hbase, hbx.2.1]
    refine ⟨_, fun w' => by simp only [execOp, e2, h2.int_inv, Sem.run_bind, run_indexAt_slice hu (by omega) k n _ _ _ hb, add_off]; rfl, ?_⟩
    refine .ptr d n.toNat 0 g br _ hd (by have := hbx.2.2.1; omega) (fun _ => ⟨by have := hbx.2.1; omega, b, o, hbase, ?_⟩) ⟨_, rfl⟩
    rw [hbx.1, hc.2]; rfl
  · rename_i mm e d r o g hu hx
    obtain ⟨hc, h⟩ := cond_none h
    obtain ⟨hb, h⟩ := cond_none h
    have hb : 0 ≤ n ∧ n < (mm : Int) := by simpa using hb
    have hc := blt_spec hc
    refine ⟨_, h, fun w₀ I₀ O₀ ρ I a w hr => ?_⟩
    have h1 := eval_ok hr E.P ty x
    have h2 := eval_ok hr E.P ty i
    rw [hx] at h1
    rw [hi] at h2
    generalize hxe : a.eval x = xv at h1
    cases h1 with
    | dat h1 => cases h1
    | ptr _ _ _ _ br _ hd hg hh hp =>
      obtain ⟨q', rfl⟩ := hp
      refine ⟨_, fun w' => by simp only [execOp, hxe, h2.int_inv, Sem.run_bind, run_indexAt_array hu (by omega) k n _ hb]; rfl, .ptr d r _ g br _ hd hg (fun hgg => ?_) ⟨_, rfl⟩⟩
      obtain ⟨h3, b, o₀, h4, h5⟩ := hh hgg
      refine ⟨h3, b, o₀, h4, ?_⟩
      cases h5
      rw [add_off]; congr 3; omega
  · rename_i mm e cs hu hx
    obtain ⟨hc, h⟩ := cond_none h
    obtain ⟨hb, h⟩ := cond_none h
    have hb : 0 ≤ n ∧ n < (mm : Int) := by simpa using hb
    have hc := blt_spec hc
    refine ⟨_, h, fun w₀ I₀ O₀ ρ I a w hr => ?_⟩
    have h1 := eval_ok hr E.P ty x
    have h2 := eval_ok hr E.P ty i
    rw [hx] at h1
    rw [hi] at h2
    generalize hxe : a.eval x = xv at h1
    cases h1 with
    | dat h1 => cases h1
    | cref _ b p val hcc hd =>
      refine ⟨_, fun w' => by simp only [execOp, hxe, h2.int_inv, Sem.run_bind, run_indexAt_array hu (by omega) k n _ hb, add_off]; rfl, ?_⟩
      refine .cref _ b _ (fun j => val (n.toNat * E.P.cellsOf e + j)) (fun j hj => ?_) (fun j hj => ?_)
      · have := hcc (n.toNat * E.P.cellsOf e + j) (by simp at hj; omega)
        rw [← Nat.add_assoc] at this
        exact this
      · have := hd (n.toNat * E.P.cellsOf e + j) (by simp at hj; omega)
        rw [show (cs.drop (n.toNat * E.P.cellsOf e)).getD j .undef = cs.getD (n.toNat * E.P.cellsOf e + j) .undef by simp [List.getD_eq_getElem?_getD]]
        exact this
  · cases h

theorem dat_slc_len {w : World} {I : Nat → Nat → Prop} {ρ : Nat → Option Real} {sh : List Sh} {rows : List (List V)} {x : Value} (h : Rv w I ρ (.slc sh rows) x) : ∃ a cap, x = .slice a rows.length cap := by
  cases h with | dat h => cases h with | slc _ _ al cap val _ _ _ _ => exact ⟨_, _, rfl⟩

theorem run_len {c : Call} {x : Operand} {t : TypeId} (hc : c.callee = .builtin .len) (ha : c.args.toList = [x]) (ht : c.argTypes.toList = [t]) (a : Act) (w : World) :
    (execOp a.eval ⟨dst, .call c, ty, pos, after, guard⟩).run P w = ((Builtin.len_ #[t] ty #[a.eval x]).run P w).andThen fun v w' => .ok (.value v) w' := by
  obtain ⟨callee, args, argTypes⟩ := c
  simp only at hc ha ht
  subst hc
  have h1 : args = #[x] := by apply Array.ext'; simpa using ha
  have h2 : argTypes = #[t] := by apply Array.ext'; simpa using ht
  subst h1 h2
  simp [execOp, resolve, invoke, builtin]

theorem ok_len {E : Env} {c : Call} {x : Operand} {t : TypeId} (hc : c.callee = .builtin .len) (ha : c.args.toList = [x]) (ht : c.argTypes.toList = [t]) {K : V → Option R} {q : R}
    (h : lenOp E t (S.eval E.P t x) S K = some q) : ∃ v, K v = some q ∧ OpPure E.P m S ⟨dst, .call c, ty, pos, after, guard⟩ v := by
  unfold lenOp at h
  have fin : ∀ n : Nat, K (.int .i64 n) = some q → (∀ w₀ I₀ O₀ ρ I a w, Rel m w₀ I₀ O₀ ρ I S a w → ∀ w, (Builtin.len_ #[t] ty #[a.eval x]).run E.P w = .ok (.int .i64 n) w) →
      ∃ v, K v = some q ∧ OpPure E.P m S ⟨dst, .call c, ty, pos, after, guard⟩ v := fun n h1 h2 =>
    ⟨_, h1, fun w₀ I₀ O₀ ρ I a w hr => ⟨.int .i64 n, fun w' => by rw [run_len hc ha ht, h2 w₀ I₀ O₀ ρ I a w hr]; rfl, .dat (.int _ _)⟩⟩
  split at h
  · rename_i s hu hx
    refine fin _ h fun w₀ I₀ O₀ ρ I a w hr => ?_
    have h1 := eval_ok hr E.P t x
    rw [hx] at h1
    rw [h1.str_inv]
    intro w'; simp [Builtin.len_, run_underlying' hu, goInt, bytes_size]
  · rename_i e sh rows hu hx
    refine fin _ h fun w₀ I₀ O₀ ρ I a w hr => ?_
    have h1 := eval_ok hr E.P t x
    rw [hx] at h1
    obtain ⟨al, cap, e⟩ := dat_slc_len h1
    rw [e]
    intro w'; simp [Builtin.len_, run_underlying' hu, goInt]
  · rename_i e sh hu hx
    refine fin 0 h fun w₀ I₀ O₀ ρ I a w hr => ?_
    have h1 := eval_ok hr E.P t x
    rw [hx] at h1
    generalize hxe : a.eval x = xv at h1
    cases h1 with
    | dat h1 => cases h1; intro w'; simp [Builtin.len_, run_underlying' hu, goInt]
  · rename_i e d g hu hx
    obtain ⟨sh, rows, htb, h⟩ := withOwn_spec h
    refine fin _ h fun w₀ I₀ O₀ ρ I a w hr => ?_
    have h1 := eval_ok hr E.P t x
    rw [hx] at h1
    obtain ⟨br, hd, hbx, e1⟩ := own_real htb hr h1
    rw [e1]
    intro w'; simp [Builtin.len_, run_underlying' hu, goInt, Real.slice, hbx.2.1]
  · cases h

theorem run_index_str {t : TypeId} (ht : P.underlying t = some .string) (k : IntKind) (i : Int) (s : List UInt8) (hi : 0 ≤ i ∧ i < s.length) (w : World) :
    (Instr.index t (.string ⟨s.toArray⟩) (.int k i)).run P w = .ok (.int .u8 (s.getD i.toNat 0).toNat) w := by
  simp only [Instr.index, asIntOf, pure_bind, Sem.run_bind, run_underlying' ht, Result.andThen_ok]
  have hl : i.toNat < s.length := by omega
  have e : (⟨s.toArray⟩ : ByteArray)[i.toNat]? = some (s.getD i.toNat 0) := by
    have : i.toNat < (⟨s.toArray⟩ : ByteArray).size := by rw [bytes_size]; exact hl
    rw [getElem?_pos (⟨s.toArray⟩ : ByteArray) i.toNat this]
    simp [List.getD_eq_getElem?_getD, hl, ByteArray.getElem_eq_getElem_data]
  simp [hi.1, e]

theorem ok_index_str {t : TypeId} {x i : Operand} {s : List UInt8} {n : Int} {k : IntKind} (hu : P.underlying t = some .string) (hx : S.eval P ty x = .str s) (hi : S.eval P ty i = .int k n)
    (hb : 0 ≤ n ∧ n < (s.length : Int)) : OpPure P m S ⟨dst, .index t x i, ty, pos, after, guard⟩ (.int .u8 (s.getD n.toNat 0).toNat) :=
  fun _ _ _ ρ I a w hr => by
    have h1 := eval_ok hr P ty x
    have h2 := eval_ok hr P ty i
    rw [hx] at h1
    rw [hi] at h2
    exact ⟨_, fun w' => by simp only [execOp, h1.str_inv, h2.int_inv, Sem.run_bind, run_index_str hu k n s hb]; rfl, .dat (.int _ _)⟩
end
end Go.Ev
