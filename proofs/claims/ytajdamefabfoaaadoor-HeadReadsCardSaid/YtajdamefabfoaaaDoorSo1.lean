/- The evaluator's operators and places are the model's: lemmas, no condition. -/
import Derived.Test.YtajdamefabfoaaaDoorRel
namespace Go.Ev
open Go Go.RowKit

section
variable {w : World} {I : Nat → Nat → Prop} {ρ : Nat → Option Real} {x : Value}
theorem Rv.int_inv {k : IntKind} {n : Int} (h : Rv w I ρ (.int k n) x) : x = .int k n := by cases h with | dat h => cases h; rfl
theorem Rv.bool_inv {b : Bool} (h : Rv w I ρ (.bool b) x) : x = .bool b := by cases h with | dat h => cases h; rfl
theorem Rv.str_inv {s : List UInt8} (h : Rv w I ρ (.str s) x) : x = .string ⟨s.toArray⟩ := by cases h with | dat h => cases h; rfl
theorem Rv.nilp_inv (h : Rv w I ρ .nilp x) : x = .pointer none := by cases h with | dat h => cases h | nilp => rfl
theorem Rv.nilf_inv (h : Rv w I ρ .nilf x) : x = .nilFunc := by cases h with | dat h => cases h | nilf => rfl
theorem Rv.ptr_inv {d r o g : Nat} (h : Rv w I ρ (.ptr d r o g) x) : ∃ a, x = .pointer (some a) := by cases h with | dat h => cases h | ptr _ _ _ _ _ _ _ _ _ hp => exact hp
theorem Rv.cref_inv {cs : List V} (h : Rv w I ρ (.cref cs) x) : ∃ a, x = .pointer (some a) := by cases h with | dat h => cases h | cref _ _ _ _ _ _ => exact ⟨_, rfl⟩
theorem Rv.fn_inv {f : FuncId} {a b : List V} (h : Rv w I ρ (.fn f a b) x) : ∃ xs ys, x = .func (.func f) xs ys := by
  cases h with | dat h => cases h | fn _ _ _ xs ys _ _ _ _ => exact ⟨_, _, rfl⟩
theorem Rv.agg_inv {cs : List V} (h : Rv w I ρ (.agg cs) x) : ∃ xs : List Value, x = .agg xs.toArray ∧ cs.length = xs.length ∧ ∀ i, i < cs.length → Rv w I ρ (cs.getD i .undef) (xs.getD i Go.undef) := by
  cases h with | dat h => cases h | agg _ xs l h => exact ⟨xs, rfl, l, h⟩
theorem Rv.tup_inv {cs : List V} (h : Rv w I ρ (.tup cs) x) : ∃ xs : List Value, x = .tuple xs.toArray ∧ cs.length = xs.length ∧ ∀ i, i < cs.length → Rv w I ρ (cs.getD i .undef) (xs.getD i Go.undef) := by
  cases h with | dat h => cases h | tup _ xs l h => exact ⟨xs, rfl, l, h⟩
end

theorem run_underlying' {P : Program} {t : TypeId} {d : TypeDesc} (h : P.underlying t = some d) (w : World) : (underlying t).run P w = .ok d w := by
  simp [underlying, program, Sem.run, h]
theorem run_typeInfo' {P : Program} {t : TypeId} {i : TypeInfo} (h : P.info? t = some i) (w : World) : (typeInfo t).run P w = .ok i w := by
  simp [typeInfo, program, Sem.run, h]
theorem run_sizeOf' {P : Program} {t : TypeId} (h : P.cellsOf t ≠ 0) (w : World) : (sizeOf t).run P w = .ok (P.cellsOf t) w := by
  unfold Program.cellsOf at h ⊢
  cases hi : P.info? t with
  | none => rw [hi] at h; exact absurd rfl h
  | some i => simp [sizeOf, run_typeInfo' hi]
theorem run_sizeOf_some {P : Program} {t : TypeId} {d : TypeDesc} (h : P.underlying t = some d) (w : World) : (sizeOf t).run P w = .ok (P.cellsOf t) w := by
  unfold Program.cellsOf
  cases hi : P.info? t with
  | none => simp [Program.underlying, hi] at h
  | some i => simp [sizeOf, run_typeInfo' hi]
theorem run_isAgg' {P : Program} {t : TypeId} {d : TypeDesc} (h : P.underlying t = some d) (w : World) : (isAgg t).run P w = .ok (isAggT P t) w := by
  simp only [isAgg, Sem.run_bind, run_underlying' h, Result.andThen_ok, isAggT, h]
  cases d <;> rfl

theorem bytes_list (l : List UInt8) : (⟨l.toArray⟩ : ByteArray).toList = l := by rw [ByteArray.toList_eq]
theorem bytes_append (a b : List UInt8) : (⟨a.toArray⟩ : ByteArray) ++ ⟨b.toArray⟩ = ⟨(a ++ b).toArray⟩ := by
  apply ByteArray.ext
  simp [ByteArray.data_append]
theorem bytes_size (a : List UInt8) : (⟨a.toArray⟩ : ByteArray).size = a.length := by simp [ByteArray.size]
/-! ### Operands -/
theorem lk_getD {α : Type} (d : α) (l : List (Nat × α)) (i : Nat) : lk d l i = (lk? l i).getD d := by
  induction l with
  | nil => rfl
  | cons p l ih =>
    obtain ⟨j, v⟩ := p
    simp only [lk, lk?]
    cases Nat.beq i j <;> simp [ih]

theorem eval_ok {m : Nat} {w₀ : Base} {I₀ O₀ : Nat → Nat → Prop} {ρ : Nat → Option Real} {I : Nat → Nat → Prop} {S : St} {a : Act} {w : World}
    (h : Rel m w₀ I₀ O₀ ρ I S a w) (P : Program) (t : TypeId) (x : Operand) : Rv w I ρ (S.eval P t x) (a.eval x) := by
  cases x with
  | tmp i =>
    simp only [St.eval, St.get, Act.eval, lk_getD]
    cases hl : lk? S.fr i with
    | none => exact .undef _
    | some v => exact h.fr i v hl
  | const v =>
    cases v with
    | bool b => exact .dat (.bool b)
    | int k n => exact .dat (.int k n)
    | string s =>
      refine .dat ?_
      have : s = ⟨s.data.toList.toArray⟩ := by cases s; simp
      show Dat w I (.str s.data.toList) (.string s)
      conv => rhs; rw [this]
      exact .str _
    | pointer q => cases q with
      | none => exact .nilp
      | some q => exact .undef _
    | slice q n c =>
      cases q with
      | some q => exact .undef _
      | none =>
        cases n with
        | succ n => exact .undef _
        | zero =>
          cases c with
          | succ c => exact .undef _
          | zero =>
            simp only [St.eval, Act.eval, constV]
            split
            · exact .dat (.nils _)
            · exact .undef _
    | nilFunc => exact .nilf
    | nilIface => exact .nili
    | _ => exact .undef _
  | global g => exact .undef _
  | func f => exact .fn f [] [] [] [] rfl (fun _ h => by cases h) rfl (fun _ h => by cases h)

theorem cond_some {b : Bool} {x y : Option R} {r : R} (h : cond b x y = some r) : (b = true ∧ x = some r) ∨ (b = false ∧ y = some r) := by
  cases b
  · exact .inr ⟨rfl, h⟩
  · exact .inl ⟨rfl, h⟩
theorem cond_none {b : Bool} {x : Option R} {r : R} (h : cond b x none = some r) : b = true ∧ x = some r := by
  cases b
  · cases h
  · exact ⟨rfl, h⟩
theorem none_cond {b : Bool} {x : Option R} {r : R} (h : cond b none x = some r) : b = false ∧ x = some r := by
  cases b
  · exact ⟨rfl, h⟩
  · cases h

/-! ### Operators -/
theorem wrap_bits_and (k : IntKind) (x y : Int) : ibits .and k x y = k.wrap (BitVec.ofInt k.bits x &&& BitVec.ofInt k.bits y).toNat := rfl

theorem binop_int {P : Program} {op : BinOp} {t : TypeId} {k k' : IntKind} {a b : Int} {K : V → Option R} {r : R} (h : binop P op t (.int k a) (.int k' b) K = some r) :
    ∃ v v', K v = some r ∧ (∀ w I ρ, Rv w I ρ v v') ∧ ∀ w xo yo, (do eqGuard op t xo yo (.int k a) (.int k' b); binOp op t (.int k a) (.int k' b) : Sem Value).run P w = .ok v' w := by
  have g : ∀ w xo yo, (eqGuard op t xo yo (.int k a) (.int k' b)).run P w = .ok () w := by
    intro w xo yo; cases op <;> simp [eqGuard]
  have fin : ∀ (v : V) (v' : Value), K v = some r → (∀ w I ρ, Rv w I ρ v v') → (∀ w, (binOp op t (.int k a) (.int k' b)).run P w = .ok v' w) →
      ∃ v v', K v = some r ∧ (∀ w I ρ, Rv w I ρ v v') ∧ ∀ w xo yo, (do eqGuard op t xo yo (.int k a) (.int k' b); binOp op t (.int k a) (.int k' b) : Sem Value).run P w = .ok v' w :=
    fun v v' h1 h2 h3 => ⟨v, v', h1, h2, fun w xo yo => by rw [Sem.run_bind, g]; exact h3 w⟩
  have hint : ∀ (n : Int), ∀ w I ρ, Rv w I ρ (.int k n) (.int k n) := fun n _ _ _ => .dat (.int k n)
  have hbool : ∀ (c : Bool), ∀ w I ρ, Rv w I ρ (.bool c) (.bool c) := fun c _ _ _ => .dat (.bool c)
  cases op
  case shl =>
    obtain ⟨h1, h2⟩ := none_cond h
    have h1 : ¬ b < 0 := by simpa using h1
    exact fin _ _ h2 (hint _) fun w => by simp [binOp, Op.shift, h1, shl]
  case shr =>
    obtain ⟨h1, h2⟩ := none_cond h
    have h1 : ¬ b < 0 := by simpa using h1
    exact fin _ _ h2 (hint _) fun w => by simp [binOp, Op.shift, h1, shr]
  all_goals
    obtain ⟨hk, hh⟩ := cond_none h
    have hk : k = k' := by simpa using hk
    subst hk
    clear h
  case quo =>
    obtain ⟨h1, h2⟩ := none_cond hh
    have h1 : ¬ b = 0 := by simpa using h1
    exact fin _ _ h2 (hint _) fun w => by simp [binOp, Op.intDiv, h1]
  case rem =>
    obtain ⟨h1, h2⟩ := none_cond hh
    have h1 : ¬ b = 0 := by simpa using h1
    exact fin _ _ h2 (hint _) fun w => by simp [binOp, Op.intDiv, h1]
  all_goals first
    | (refine fin _ _ hh (hint _) fun w => ?_; simp [binOp, Op.intArith]; done)
    | (refine fin _ _ hh (hint _) fun w => ?_; simp [binOp]; rfl)
    | (refine fin _ _ hh (hbool _) fun w => ?_; simp [binOp, Op.intCmp, ile_eq, ilt_eq]; done)
    | (refine fin _ _ hh (hbool _) fun w => ?_; simp [binOp, Op.intCmp]; done)

theorem binop_str {P : Program} {op : BinOp} {t : TypeId} {a b : List UInt8} {K : V → Option R} {r : R} (h : binop P op t (.str a) (.str b) K = some r) :
    ∃ v v', K v = some r ∧ (∀ w I ρ, Rv w I ρ v v') ∧ ∀ w xo yo, (do eqGuard op t xo yo (.string ⟨a.toArray⟩) (.string ⟨b.toArray⟩); binOp op t (.string ⟨a.toArray⟩) (.string ⟨b.toArray⟩) : Sem Value).run P w = .ok v' w := by
  have g : ∀ w xo yo, (eqGuard op t xo yo (.string ⟨a.toArray⟩) (.string ⟨b.toArray⟩)).run P w = .ok () w := by
    intro w xo yo; cases op <;> simp [eqGuard]
  have fin : ∀ (v : V) (v' : Value), K v = some r → (∀ w I ρ, Rv w I ρ v v') → (∀ w, (binOp op t (.string ⟨a.toArray⟩) (.string ⟨b.toArray⟩)).run P w = .ok v' w) →
      ∃ v v', K v = some r ∧ (∀ w I ρ, Rv w I ρ v v') ∧ ∀ w xo yo, (do eqGuard op t xo yo (.string ⟨a.toArray⟩) (.string ⟨b.toArray⟩); binOp op t (.string ⟨a.toArray⟩) (.string ⟨b.toArray⟩) : Sem Value).run P w = .ok v' w :=
    fun v v' h1 h2 h3 => ⟨v, v', h1, h2, fun w xo yo => by rw [Sem.run_bind, g]; exact h3 w⟩
  have hbool : ∀ (c : Bool), ∀ w I ρ, Rv w I ρ (.bool c) (.bool c) := fun c _ _ _ => .dat (.bool c)
  cases op
  case add =>
    obtain ⟨h1, h2⟩ := cond_none h
    have h1 : ((a.length + b.length : Nat) : Int) ≤ 9223372036854775807 := by have := Nat.le_of_ble_eq_true h1; omega
    refine fin (.str (a ++ b)) (.string ⟨(a ++ b).toArray⟩) h2 (fun _ _ _ => .dat (.str _)) fun w => ?_
    simp only [binOp, Op.stringOp, bytes_size]
    rw [if_neg (by show ¬ _ > (9223372036854775807 : Int); omega), bytes_append]
    rfl
  case eql => exact fin _ _ h (hbool _) fun w => by simp [binOp, Op.stringOp]
  case neq => exact fin _ _ h (hbool _) fun w => by simp [binOp, Op.stringOp]
  all_goals cases h

/-- A part of a struct's cells. -/
theorem run_part {P : Program} {t : TypeId} {d : TypeDesc} (h : P.underlying t = some d) (cs : List Value) (off : Nat) (hl : off + P.cellsOf t ≤ cs.length) (hz : P.cellsOf t ≠ 0) (w : World) :
    (part t cs.toArray off).run P w = .ok (bif isAggT P t then .agg ((cs.drop off).take (P.cellsOf t)).toArray else cs.getD off Go.undef) w := by
  simp only [part, Sem.run_bind, run_isAgg' h, Result.andThen_ok]
  cases hg : isAggT P t with
  | true =>
    simp only [if_true, cond_true, Sem.run_bind, run_sizeOf' hz, Result.andThen_ok, Sem.run_pure]
    congr 2
    apply Array.ext'
    simp [List.take_drop]
  | false =>
    simp only [cond_false]
    have : off < cs.length := by omega
    simp [this]

/-! ### '==' by types -/
theorem getD_drop_take {α : Type} (l : List α) (o n i : Nat) (d : α) (hi : i < n) : ((l.drop o).take n).getD i d = l.getD (o + i) d := by
  simp only [List.getD_eq_getElem?_getD, List.getElem?_take, List.getElem?_drop, if_pos hi]
def AllRv (w : World) (I : Nat → Nat → Prop) (ρ : Nat → Option Real) (vs : List V) (xs : List Value) : Prop :=
  vs.length = xs.length ∧ ∀ i, i < vs.length → Rv w I ρ (vs.getD i .undef) (xs.getD i Go.undef)
theorem AllRv.part {w : World} {I : Nat → Nat → Prop} {ρ : Nat → Option Real} {vs : List V} {xs : List Value} (h : AllRv w I ρ vs xs) (o n : Nat) :
    AllRv w I ρ ((vs.drop o).take n) ((xs.drop o).take n) := by
  refine ⟨by simp [h.1], fun i hi => ?_⟩
  have hi' : i < n ∧ o + i < vs.length := by simp at hi; omega
  rw [getD_drop_take _ _ _ _ _ hi'.1, getD_drop_take _ _ _ _ _ hi'.1]
  exact h.2 _ hi'.2
/-- Cells as the model's value of a type. -/
def asX (P : Program) (t : TypeId) (xs : List Value) : Value := bif isAggT P t then .agg xs.toArray else xs.getD 0 Go.undef

theorem run_part' {P : Program} {t : TypeId} {d : TypeDesc} (h : P.underlying t = some d) (cs : List Value) (off : Nat) (hl : off + P.cellsOf t ≤ cs.length) (hz : P.cellsOf t ≠ 0) (w : World) :
    (part t cs.toArray off).run P w = .ok (asX P t ((cs.drop off).take (P.cellsOf t))) w := by
  rw [run_part h cs off hl hz]
  unfold asX
  cases isAggT P t with
  | true => rfl
  | false =>
    simp only [cond_false]
    rw [getD_drop_take _ _ _ _ _ (by omega)]
    rfl

theorem AllRv.one {w : World} {I : Nat → Nat → Prop} {ρ : Nat → Option Real} {v : V} {xs : List Value} (h : AllRv w I ρ [v] xs) : ∃ x, xs = [x] ∧ Rv w I ρ v x := by
  obtain ⟨h1, h2⟩ := h
  match xs, h1 with
  | [x], _ => exact ⟨x, rfl, h2 0 (by simp)⟩

theorem veqT_ok {P : Program} : ∀ n t xs ys e, veqT P n t xs ys = some e → ∀ w I ρ xs' ys', AllRv w I ρ xs xs' → AllRv w I ρ ys ys' → ∀ d, n ≤ d →
    P.underlying t ≠ none ∧ (Op.equalIn d t (asX P t xs') (asX P t ys')).run P w = .ok e w := by
  intro n
  induction n with
  | zero => intro t xs ys e h; simp [veqT] at h
  | succ n ih =>
    intro t xs ys e h w I ρ xs' ys' hx hy d hd
    obtain ⟨d, rfl⟩ : ∃ d', d = d' + 1 := ⟨d - 1, by omega⟩
    simp only [veqT] at h
    split at h
    · rename_i fs hu
      refine ⟨by rw [hu]; simp, ?_⟩
      cases hs : P.stoodInHeld t with
      | true => rw [hs] at h; cases h
      | false =>
        rw [hs, cond_false] at h
        have hagg : isAggT P t = true := by simp [isAggT, hu]
        have hf : P.fieldsOf t = fs := by simp [Program.fieldsOf, hu]
        simp only [asX, hagg, cond_true]
        rw [run_equalIn_agg w d t _ _ (by rw [hf]; exact hu) hs, hf]
        clear hu hs hagg hf
        generalize fs.toList = l at h ⊢
        induction l generalizing e with
        | nil => simp only [fieldsEq, Option.some.injEq] at h; subst h; simp [Op.eqFields]
        | cons f l ihl =>
          simp only [fieldsEq] at h
          by_cases hn : f.name = "_"
          · simp [hn] at h
          · simp only [hn, decide_false, cond_false] at h
            cases hz : Nat.beq (P.cellsOf f.type) 0 with
            | true => rw [hz] at h; cases h
            | false =>
              rw [hz, cond_false] at h
              cases hl1 : Nat.ble (f.offset + P.cellsOf f.type) xs.length with
              | false => rw [hl1] at h; cases h
              | true =>
              cases hl2 : Nat.ble (f.offset + P.cellsOf f.type) ys.length with
              | false => rw [hl1, hl2] at h; cases h
              | true =>
              rw [hl1, hl2, cond_true, cond_true] at h
              have hz' : P.cellsOf f.type ≠ 0 := fun e => by rw [e] at hz; cases hz
              have hl1 := Nat.le_of_ble_eq_true hl1
              have hl2 := Nat.le_of_ble_eq_true hl2
              split at h
              · rename_i e1 he1
                split at h
                · rename_i e2 he2
                  simp only [Option.some.injEq] at h
                  subst h
                  obtain ⟨hu, hr⟩ := ih _ _ _ _ he1 w I ρ _ _ (hx.part f.offset _) (hy.part f.offset _) d (by omega)
                  obtain ⟨ut, hut⟩ := Option.ne_none_iff_exists'.1 hu
                  have h2 := ihl e2 he2
                  simp only [Op.eqFields]
                  rw [if_pos hn]
                  simp only [Sem.run_bind, run_part' hut xs' f.offset (by have := hx.1; omega) hz', run_part' hut ys' f.offset (by have := hy.1; omega) hz', Result.andThen_ok, hr, h2, Sem.run_ite]
                  cases e1 <;> simp
                · cases h
              · cases h
    · rename_i hu
      split at h
      · obtain ⟨x, rfl, rx⟩ := hx.one
        obtain ⟨y, rfl, ry⟩ := hy.one
        simp only [Option.some.injEq] at h; subst h
        refine ⟨by rw [hu]; simp, ?_⟩
        simp only [asX, isAggT, hu, cond_false, List.getD_cons_zero, rx.bool_inv, ry.bool_inv]
        exact run_equalIn_bool' w d t _ _ hu
      · cases h
    · rename_i hu
      split at h
      · obtain ⟨x, rfl, rx⟩ := hx.one
        obtain ⟨y, rfl, ry⟩ := hy.one
        rename_i k a k' b
        by_cases hk : k = k'
        · simp only [hk, decide_true, cond_true, Option.some.injEq] at h; subst h
          refine ⟨by rw [hu]; simp, ?_⟩
          simp only [asX, isAggT, hu, cond_false, List.getD_cons_zero, rx.int_inv, ry.int_inv, hk]
          exact run_equalIn_int w d t _ _ _ _ hu
        · simp [hk] at h
      · cases h
    · rename_i hu
      split at h
      · obtain ⟨x, rfl, rx⟩ := hx.one
        obtain ⟨y, rfl, ry⟩ := hy.one
        simp only [Option.some.injEq] at h; subst h
        refine ⟨by rw [hu]; simp, ?_⟩
        simp only [asX, isAggT, hu, cond_false, List.getD_cons_zero, rx.str_inv, ry.str_inv]
        rw [run_equalIn_string w d t _ _ hu, bytes_list, bytes_list]
      · cases h
    · cases h

theorem run_eqGuard_plain {P : Program} (op : BinOp) (t : TypeId) (xo yo : Operand) (x y : Value) (h1 : ∀ cs, x ≠ .agg cs) (h2 : x ≠ .nilIface) (w : World) :
    (eqGuard op t xo yo x y).run P w = .ok () w := by
  unfold eqGuard
  cases op <;> simp
  all_goals
    split
    · exact absurd rfl h2
    · exact absurd rfl (h1 _)
    · rfl

section
variable {P : Program} (d : Nat) {t : TypeId} (w : World)
theorem eqIn_none_ptr {e : TypeId} (hu : P.underlying t = some (.pointer e)) (b : Option Addr) : (Op.equalIn (d + 1) t (.pointer none) (.pointer b)).run P w = .ok b.isNone w := by
  simp [Op.equalIn, run_underlying' hu]
theorem eqIn_ptr_none {e : TypeId} (hu : P.underlying t = some (.pointer e)) (a : Addr) : (Op.equalIn (d + 1) t (.pointer (some a)) (.pointer none)).run P w = .ok false w := by
  simp [Op.equalIn, run_underlying' hu]
theorem eqIn_nilf_nilf {a b : Array TypeId} {c : Bool} (hu : P.underlying t = some (.func a b c)) : (Op.equalIn (d + 1) t .nilFunc .nilFunc).run P w = .ok true w := by
  simp [Op.equalIn, run_underlying' hu]
theorem eqIn_nilf_fn {a b : Array TypeId} {c : Bool} (hu : P.underlying t = some (.func a b c)) (f : Fn) (x y : Array Value) : (Op.equalIn (d + 1) t .nilFunc (.func f x y)).run P w = .ok false w := by
  simp [Op.equalIn, run_underlying' hu]
theorem eqIn_fn_nilf {a b : Array TypeId} {c : Bool} (hu : P.underlying t = some (.func a b c)) (f : Fn) (x y : Array Value) : (Op.equalIn (d + 1) t (.func f x y) .nilFunc).run P w = .ok false w := by
  simp [Op.equalIn, run_underlying' hu]
end

def NotNum : Value → Prop
  | .int .. => False | .string _ => False | .float .. => False | .complex .. => False | _ => True
theorem binop_eq {P : Program} {t : TypeId} {x y : V} {e : Bool} (h : veq P t x y = some e) {w : World} {I : Nat → Nat → Prop} {ρ : Nat → Option Real} {x' y' : Value}
    (hx : Rv w I ρ x x') (hy : Rv w I ρ y y') (xo yo : Operand) :
    NotNum x' ∧ (∀ op, (eqGuard op t xo yo x' y').run P w = .ok () w) ∧ (Op.equal t x' y').run P w = .ok e w := by
  cases x with
  | bool a =>
    cases y with
    | bool b =>
      rw [hx.bool_inv, hy.bool_inv]
      simp only [veq] at h
      split at h
      · rename_i hu
        simp only [Option.some.injEq] at h; subst h
        exact ⟨trivial, fun op => run_eqGuard_plain op t xo yo _ _ (by simp) (by simp) w, run_equalIn_bool' w 9999 t a b hu⟩
      · cases h
    | _ => cases h
  | agg xs =>
    cases y with
    | agg ys =>
      obtain ⟨xs', rfl, l1, r1⟩ := hx.agg_inv
      obtain ⟨ys', rfl, l2, r2⟩ := hy.agg_inv
      simp only [veq] at h
      cases hg : P.eqGuardType P.depth t with
      | true => rw [hg] at h; cases h
      | false =>
        rw [hg, cond_false] at h
        split at h
        · rename_i fs hu
          obtain ⟨_, h2⟩ := veqT_ok FUEL t xs ys e h w I ρ xs' ys' ⟨l1, r1⟩ ⟨l2, r2⟩ 10000 (by decide)
          have hagg : isAggT P t = true := by simp [isAggT, hu]
          simp only [asX, hagg, cond_true] at h2
          exact ⟨trivial, fun op => run_eqGuard_agg w op t xo yo _ _ hg, h2⟩
        · cases h
    | _ => cases h
  | nilp =>
    rw [hx.nilp_inv]
    have g : ∀ op, (eqGuard op t xo yo (.pointer none) y').run P w = .ok () w := fun op => run_eqGuard_plain op t xo yo _ _ (by simp) (by simp) w
    cases y with
    | nilp =>
      rw [hy.nilp_inv] at g ⊢
      simp only [veq] at h
      split at h
      · rename_i hu; simp only [Option.some.injEq] at h; subst h
        exact ⟨trivial, g, eqIn_none_ptr 9999 w hu none⟩
      · cases h
    | ptr d r o g' =>
      obtain ⟨q, rfl⟩ := hy.ptr_inv
      simp only [veq] at h
      split at h
      · rename_i hu; simp only [Option.some.injEq] at h; subst h
        exact ⟨trivial, g, eqIn_none_ptr 9999 w hu (some q)⟩
      · cases h
    | cref cs =>
      obtain ⟨q, rfl⟩ := hy.cref_inv
      simp only [veq] at h
      split at h
      · rename_i hu; simp only [Option.some.injEq] at h; subst h
        exact ⟨trivial, g, eqIn_none_ptr 9999 w hu (some q)⟩
      · cases h
    | _ => cases h
  | ptr d r o g' =>
    obtain ⟨q, rfl⟩ := hx.ptr_inv
    have g : ∀ op, (eqGuard op t xo yo (.pointer (some q)) y').run P w = .ok () w := fun op => run_eqGuard_plain op t xo yo _ _ (by simp) (by simp) w
    cases y with
    | nilp =>
      rw [hy.nilp_inv] at g ⊢
      simp only [veq] at h
      split at h
      · rename_i hu; simp only [Option.some.injEq] at h; subst h
        exact ⟨trivial, g, eqIn_ptr_none 9999 w hu q⟩
      · cases h
    | _ => cases h
  | cref cs =>
    obtain ⟨q, rfl⟩ := hx.cref_inv
    have g : ∀ op, (eqGuard op t xo yo (.pointer (some q)) y').run P w = .ok () w := fun op => run_eqGuard_plain op t xo yo _ _ (by simp) (by simp) w
    cases y with
    | nilp =>
      rw [hy.nilp_inv] at g ⊢
      simp only [veq] at h
      split at h
      · rename_i hu; simp only [Option.some.injEq] at h; subst h
        exact ⟨trivial, g, eqIn_ptr_none 9999 w hu q⟩
      · cases h
    | _ => cases h
  | nilf =>
    rw [hx.nilf_inv]
    have g : ∀ op, (eqGuard op t xo yo .nilFunc y').run P w = .ok () w := fun op => run_eqGuard_plain op t xo yo _ _ (by simp) (by simp) w
    cases y with
    | nilf =>
      rw [hy.nilf_inv] at g ⊢
      simp only [veq] at h
      split at h
      · rename_i hu; simp only [Option.some.injEq] at h; subst h
        exact ⟨trivial, g, eqIn_nilf_nilf 9999 w hu⟩
      · cases h
    | fn f a b =>
      obtain ⟨q1, q2, rfl⟩ := hy.fn_inv
      simp only [veq] at h
      split at h
      · rename_i hu; simp only [Option.some.injEq] at h; subst h
        exact ⟨trivial, g, eqIn_nilf_fn 9999 w hu _ _ _⟩
      · cases h
    | _ => cases h
  | fn f a b =>
    obtain ⟨q1, q2, rfl⟩ := hx.fn_inv
    have g : ∀ op, (eqGuard op t xo yo (.func (.func f) q1 q2) y').run P w = .ok () w := fun op => run_eqGuard_plain op t xo yo _ _ (by simp) (by simp) w
    cases y with
    | nilf =>
      rw [hy.nilf_inv] at g ⊢
      simp only [veq] at h
      split at h
      · rename_i hu; simp only [Option.some.injEq] at h; subst h
        exact ⟨trivial, g, eqIn_fn_nilf 9999 w hu _ _ _⟩
      · cases h
    | _ => cases h
  | _ => cases h

theorem binOp_eql_run {P : Program} {t : TypeId} {x y : Value} {w : World} (h : NotNum x) :
    (binOp .eql t x y).run P w = ((Op.equal t x y).run P w).andThen fun b w' => .ok (.bool b) w' := by
  cases x <;> first | exact h.elim | (cases y <;> simp [binOp])
theorem binOp_neq_run {P : Program} {t : TypeId} {x y : Value} {w : World} (h : NotNum x) :
    (binOp .neq t x y).run P w = ((Op.equal t x y).run P w).andThen fun b w' => .ok (.bool !b) w' := by
  cases x <;> first | exact h.elim | (cases y <;> simp [binOp])

theorem binop_ok {P : Program} {op : BinOp} {t : TypeId} {x y : V} {K : V → Option R} {r : R} (h : binop P op t x y K = some r) :
    ∃ v v', K v = some r ∧ (∀ w I ρ, Rv w I ρ v v') ∧ ∀ w I ρ x' y' xo yo, Rv w I ρ x x' → Rv w I ρ y y' →
      (do eqGuard op t xo yo x' y'; binOp op t x' y' : Sem Value).run P w = .ok v' w := by
  have key : (∀ k a, x ≠ .int k a) ∨ (∀ k a, y ≠ .int k a) → (∀ a, x ≠ .str a) ∨ (∀ a, y ≠ .str a) →
      ∃ v v', K v = some r ∧ (∀ w I ρ, Rv w I ρ v v') ∧ ∀ w I ρ x' y' xo yo, Rv w I ρ x x' → Rv w I ρ y y' →
      (do eqGuard op t xo yo x' y'; binOp op t x' y' : Sem Value).run P w = .ok v' w := by
    intro h1 h2
    have e : (op = .eql ∧ ∃ e, veq P t x y = some e ∧ K (.bool e) = some r) ∨ (op = .neq ∧ ∃ e, veq P t x y = some e ∧ K (.bool !e) = some r) := by
      unfold binop at h
      split at h
      · rcases h1 with h1 | h1
        · exact absurd rfl (h1 _ _)
        · exact absurd rfl (h1 _ _)
      · rcases h2 with h2 | h2
        · exact absurd rfl (h2 _)
        · exact absurd rfl (h2 _)
      · split at h
        · split at h
          · rename_i e he; exact .inl ⟨rfl, e, he, h⟩
          · cases h
        · split at h
          · rename_i e he; exact .inr ⟨rfl, e, he, h⟩
          · cases h
        · cases h
    rcases e with ⟨rfl, e, he, hk⟩ | ⟨rfl, e, he, hk⟩
    · refine ⟨_, .bool e, hk, fun _ _ _ => .dat (.bool e), fun w I ρ x' y' xo yo hx hy => ?_⟩
      obtain ⟨q1, q2, q3⟩ := binop_eq he hx hy xo yo
      rw [Sem.run_bind, q2, Result.andThen_ok, binOp_eql_run q1, q3]; rfl
    · refine ⟨_, .bool !e, hk, fun _ _ _ => .dat (.bool !e), fun w I ρ x' y' xo yo hx hy => ?_⟩
      obtain ⟨q1, q2, q3⟩ := binop_eq he hx hy xo yo
      rw [Sem.run_bind, q2, Result.andThen_ok, binOp_neq_run q1, q3]; rfl
  cases x with
  | int k a =>
    cases y with
    | int k' b =>
      obtain ⟨v, v', h1, h2, h3⟩ := binop_int h
      refine ⟨v, v', h1, h2, fun w I ρ x' y' xo yo hx hy => ?_⟩
      rw [hx.int_inv, hy.int_inv]; exact h3 w xo yo
    | _ => exact key (.inr (by intros; simp)) (.inl (by intros; simp))
  | str a =>
    cases y with
    | str b =>
      obtain ⟨v, v', h1, h2, h3⟩ := binop_str h
      refine ⟨v, v', h1, h2, fun w I ρ x' y' xo yo hx hy => ?_⟩
      rw [hx.str_inv, hy.str_inv]; exact h3 w xo yo
    | _ => exact key (.inl (by intros; simp)) (.inr (by intros; simp))
  | _ => exact key (.inl (by intros; simp)) (.inl (by intros; simp))
end Go.Ev
