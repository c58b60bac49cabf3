/- What the statements on labels reckon: lemmas; the function that writes numbers is a premise. -/
import Derived.Test.YtajdamefabfoaaaBL
import Derived.Test.YtajdamefabfoaaaQ3
namespace Go.Ev
open Go Go.Proofs
set_option maxRecDepth 100000

noncomputable def eOrder : Env := env Try.prog [(6, dTrue), (7, dUnder)] [] []
theorem q_order (a b c : Label) : evFn eOrder 3 ((aCons (vAgg cLabel) (aCons (vAgg cLabel) (aOne (vAgg cLabel)))).enc (a, b, c)) (bNil.enc ()) some =
    cond (!N.under a a)
      (some { v := V.bool false, bx := [] })
      (cond (N.under a b)
        (cond (!N.under b a == (Label.level a == Label.level b && (Label.set a == Label.set b && true)))
          (some { v := V.bool false, bx := [] })
          (cond (!N.under a b)
            (some { v := V.bool true, bx := [] })
            (cond (!N.under b c)
              (some { v := V.bool true, bx := [] })
              (some { v := V.bool (N.under a c), bx := [] }))))
        (cond (!false == (Label.level a == Label.level b && (Label.set a == Label.set b && true)))
          (some { v := V.bool false, bx := [] })
          (cond (!N.under a b)
            (some { v := V.bool true, bx := [] })
            (cond (!N.under b c)
              (some { v := V.bool true, bx := [] })
              (some { v := V.bool (N.under a c), bx := [] }))))) := by kernel_rfl
theorem ok_order (hN : FnOk Try.prog 17 dOutNum) : FnOk Try.prog 3
    (den (aCons (vAgg cLabel) (aCons (vAgg cLabel) (aOne (vAgg cLabel)))) bNil (oV vBool) (fun _ _ => true) fun a _ => (N.orderL a.1 a.2.1 a.2.2, ())) := by
  refine den_okF (env_ok (((TOk.nil _).cons ok_under).cons (ok_aw3 hN))) (E := eOrder) Try.func3 [] (by kernel_rfl) none0 fun a _ _ => ?_
  refine (q_order a.1 a.2.1 a.2.2).trans ?_
  obtain ⟨a, b, c⟩ := a
  show _ = some (⟨.bool (N.orderL a b c), [], []⟩ : DRes)
  unfold N.orderL N.eqL
  cases N.under a a with
  | false => rfl
  | true =>
    cases h1 : N.under a b with
    | true => cases (!N.under b a == (a.level == b.level && (a.set == b.set && true))) <;> cases N.under b c <;> rfl
    | false => cases (!false == (a.level == b.level && (a.set == b.set && true))) <;> rfl

def dHas : Den := den (aCons (vAgg cLabel) (aOne (vInt .i64))) bNil (oV vBool) (fun a _ => ile 0 a.2) fun a _ => (N.refHas a.1 a.2, ())
noncomputable def eHas : Env := env Try.prog [] [] []
theorem q_has (a : Label) (i : Int) : evFn eHas 14 ((aCons (vAgg cLabel) (aOne (vInt .i64))).enc (a, i)) (bNil.enc ()) some =
    cond (decide (i < (0 : Int)))
      (none)
      (some { v := V.bool (Int.tmod (shr IntKind.u32 (Label.set a) i) (2 : Int) == (1 : Int)), bx := [] }) := by kernel_rfl
theorem ok_has : FnOk Try.prog 14 dHas := by
  refine den_okF (env_ok (TOk.nil _)) (E := eHas) Try.func14 [] (by kernel_rfl) none0 fun a _ h => ?_
  refine (q_has a.1 a.2).trans ?_
  have h : ile 0 a.2 = true := h
  rw [ile_eq] at h
  have h := of_decide_eq_true h
  rw [decide_eq_false (by omega)]
  rfl
def schRefUnder : SSch := { fr := [(2, .ptr 10000 0 0), (3, .ptr 10001 0 0), (5, .int .i64)], tab := [(10000, .var [.int .u8, .int .u32]), (10001, .var [.int .u8, .int .u32])] }
def gRefUnder : List Leaf → (Ex → St → Option R) → Option R
  | [.i i, .i a1, .i a2, .i b1, .i b2], K => cond (ile 0 i) (cond (ile i 32)
      (cond (N.refLoop ⟨a1, a2⟩ ⟨b1, b2⟩ (32 - i).toNat i) (K (.exit 0) { fr := [], tab := [] }) (K .ret { fr := [(4, .bool false)], tab := [] })) none) none
  | _, _ => none
noncomputable def eRefUnder : Env := env Try.prog [(14, dHas)] [(4, loopF schRefUnder gRefUnder)] [(4, [(0, [2, 3, 5]), (1, []), (1000, [4])])]
theorem q_refUnder (a b : Label) : evFn eRefUnder 8 ((aCons (vAgg cLabel) (aOne (vAgg cLabel))).enc (a, b)) (bNil.enc ()) some =
    cond (ilt (Label.level b) (Label.level a))
      (some { v := V.bool false, bx := [] })
      (cond (N.refLoop a b (32 : Nat) (0 : Int))
        (some { v := V.bool true, bx := [] })
        (some { v := V.bool false, bx := [] })) := by kernel_rfl
theorem q_refUnderR (a b : Label) (i : Int) (K : Ex → St → Option R) : evRound eRefUnder 8 4 { fr := [(2, .ptr 10000 0 0 0), (3, .ptr 10001 0 0 0), (5, .int .i64 i)], tab := [(10000, .var (cLabel.enc a)), (10001, .var (cLabel.enc b))] } K =
    cond (ilt i (32 : Int))
      (cond (ile (0 : Int) i)
        (cond (N.refHas a i)
          (cond (ile (0 : Int) i)
            (cond (!N.refHas b i)
              (K Ex.ret { fr := [((4 : Nat), V.bool false)], tab := [] })
              (K Ex.normal
      {
        fr :=
          [((2 : Nat), V.ptr (10000 : Nat) (0 : Nat) (0 : Nat) (0 : Nat)),
            ((3 : Nat), V.ptr (10001 : Nat) (0 : Nat) (0 : Nat) (0 : Nat)),
            ((5 : Nat), V.int IntKind.i64 (IntKind.wrap IntKind.i64 (i + (1 : Int))))],
        tab :=
          [((10000 : Nat), Box.var [V.int IntKind.u8 (Label.level a), V.int IntKind.u32 (Label.set a)]),
            ((10001 : Nat), Box.var [V.int IntKind.u8 (Label.level b), V.int IntKind.u32 (Label.set b)])] }))
            (none))
          (K Ex.normal
      {
        fr :=
          [((2 : Nat), V.ptr (10000 : Nat) (0 : Nat) (0 : Nat) (0 : Nat)),
            ((3 : Nat), V.ptr (10001 : Nat) (0 : Nat) (0 : Nat) (0 : Nat)),
            ((5 : Nat), V.int IntKind.i64 (IntKind.wrap IntKind.i64 (i + (1 : Int))))],
        tab :=
          [((10000 : Nat), Box.var [V.int IntKind.u8 (Label.level a), V.int IntKind.u32 (Label.set a)]),
            ((10001 : Nat), Box.var [V.int IntKind.u8 (Label.level b), V.int IntKind.u32 (Label.set b)])] }))
        (none))
      (K (Ex.exit (0 : Nat)) { fr := [], tab := [] }) := by kernel_rfl
theorem refUnderR_ok (a b : Label) (K : Ex → St → Option R) (q : R) : ∀ (d : Nat) (i : Int), d = (32 - i).toNat → 0 ≤ i → i ≤ 32 →
    cond (N.refLoop a b d i) (K (.exit 0) { fr := [], tab := [] }) (K .ret { fr := [(4, .bool false)], tab := [] }) = some q →
    ∃ m, iterR eRefUnder 8 4 m { fr := [(2, .ptr 10000 0 0 0), (3, .ptr 10001 0 0 0), (5, .int .i64 i)], tab := [(10000, .var (cLabel.enc a)), (10001, .var (cLabel.enc b))] } K = some q
  | 0, i, hd, h0, h1, h => by
    refine ⟨1, ?_⟩
    show evRound eRefUnder _ 4 _ _ = some q
    rw [q_refUnderR, show ilt i 32 = false by rw [ilt_eq, decide_eq_false_iff_not]; omega]
    exact h
  | d + 1, i, hd, h0, h1, h => by
    have b1 : ilt i 32 = true := by rw [ilt_eq, decide_eq_true_iff]; omega
    have b2 : ile 0 i = true := by rw [ile_eq, decide_eq_true_iff]; omega
    have main : ∀ m, evRound eRefUnder 8 4 { fr := [(2, .ptr 10000 0 0 0), (3, .ptr 10001 0 0 0), (5, .int .i64 i)], tab := [(10000, .var (cLabel.enc a)), (10001, .var (cLabel.enc b))] } (fun e S => match e with
        | .normal => iterR eRefUnder 8 4 m S K
        | e => K e S) = some q → ∃ m, iterR eRefUnder 8 4 m { fr := [(2, .ptr 10000 0 0 0), (3, .ptr 10001 0 0 0), (5, .int .i64 i)], tab := [(10000, .var (cLabel.enc a)), (10001, .var (cLabel.enc b))] } K = some q := fun m h => ⟨m + 1, h⟩
    have next : cond (N.refLoop a b d (i + 1)) (K (.exit 0) { fr := [], tab := [] }) (K .ret { fr := [(4, .bool false)], tab := [] }) = some q → (N.refHas a i = false ∨ N.refHas b i = true) → ∃ m, iterR eRefUnder 8 4 m { fr := [(2, .ptr 10000 0 0 0), (3, .ptr 10001 0 0 0), (5, .int .i64 i)], tab := [(10000, .var (cLabel.enc a)), (10001, .var (cLabel.enc b))] } K = some q := fun h hc => by
      obtain ⟨m, hm⟩ := refUnderR_ok a b K q d (i + 1) (by omega) (by omega) (by omega) h
      refine main m ?_
      rw [q_refUnderR, b1, b2, wrap_i64 (by omega) (by omega)]
      cases ha : N.refHas a i with
      | false => exact hm
      | true =>
        have hb : N.refHas b i = true := hc.resolve_left (by rw [ha]; simp)
        rw [hb]; exact hm
    simp only [N.refLoop] at h
    cases ha : N.refHas a i with
    | false => rw [ha] at h; exact next h (.inl ha)
    | true =>
      rw [ha] at h
      cases hb : N.refHas b i with
      | true => rw [hb] at h; exact next h (.inr hb)
      | false =>
        rw [hb] at h
        refine main 0 ?_
        rw [q_refUnderR, b1, b2, ha, hb]
        exact h
def dRefUnder : Den := den (aCons (vAgg cLabel) (aOne (vAgg cLabel))) bNil (oV vBool) (fun _ _ => true) fun a _ => (N.refUnder a.1 a.2, ())
theorem ok_refUnder : FnOk Try.prog 8 dRefUnder := by
  refine den_okF (env_ok ((TOk.nil _).cons ok_has)) (E := eRefUnder) Try.func8 [4] (by kernel_rfl) (one1 (rounds_of rfl fun l K q h => ?_)) fun a _ _ => ?_
  · unfold gRefUnder at h
    split at h
    · rename_i i a1 a2 b1 b2
      obtain ⟨h1, h⟩ := cond_none h
      obtain ⟨h2, h⟩ := cond_none h
      rw [ile_eq] at h1 h2
      exact refUnderR_ok ⟨a1, a2⟩ ⟨b1, b2⟩ K q _ i rfl (of_decide_eq_true h1) (of_decide_eq_true h2) h
    · cases h
  · refine (q_refUnder a.1 a.2).trans ?_
    obtain ⟨a, b⟩ := a
    show _ = some (⟨.bool (N.refUnder a b), [], []⟩ : DRes)
    unfold N.refUnder
    cases ilt b.level a.level with
    | true => rfl
    | false =>
      show cond (N.refLoop a b 32 0) _ _ = _
      simp only [cond_false]
      cases N.refLoop a b 32 0 <;> rfl
noncomputable def eUnder3 : Env := env Try.prog [(8, dRefUnder), (9, dRight), (6, dTrue), (7, dUnder)] [] []
theorem q_lawUnder (a b : Label) : evFn eUnder3 4 ((aCons (vAgg cLabel) (aOne (vAgg cLabel))).enc (a, b)) (bNil.enc ()) some =
    cond (N.under a b == N.refUnder a b)
      (some { v := V.bool (N.right a == ile (Label.level a) (15 : Int)), bx := [] })
      (some { v := V.bool false, bx := [] }) := by kernel_rfl
theorem ok_lawUnder (hN : FnOk Try.prog 17 dOutNum) : FnOk Try.prog 4
    (den (aCons (vAgg cLabel) (aOne (vAgg cLabel))) bNil (oV vBool) (fun _ _ => true) fun a _ => (cond (N.under a.1 a.2 == N.refUnder a.1 a.2) (N.right a.1 == ile a.1.level 15) false, ())) := by
  refine den_okF (env_ok (((((TOk.nil _).cons ok_under).cons (ok_aw3 hN)).cons ok_right).cons ok_refUnder)) (E := eUnder3) Try.func4 [] (by kernel_rfl) none0 fun a _ _ => ?_
  refine (q_lawUnder a.1 a.2).trans ?_
  obtain ⟨a, b⟩ := a
  show _ = some (⟨.bool (cond (N.under a b == N.refUnder a b) (N.right a == ile a.level 15) false), [], []⟩ : DRes)
  cases N.under a b == N.refUnder a b <;> rfl
theorem lawUnder_true {a b : Label} (ha : a.ok) (hb : b.ok) : cond (N.under a b == N.refUnder a b) (N.right a == ile a.level 15) false = true := by
  rw [refUnder_eq ha hb, beq_self_eq_true]
  unfold N.right
  rw [beq_self_eq_true]; rfl
end Go.Ev
