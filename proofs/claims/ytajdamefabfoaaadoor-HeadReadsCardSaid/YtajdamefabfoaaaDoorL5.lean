/- What the statements on words reckon: lemmas, no condition. -/
import Derived.Test.YtajdamefabfoaaaDoorBW
namespace Go.Ev
open Go Go.Proofs
set_option maxRecDepth 100000

def dTrueW : Den := den aNil bNil (oV vBool) (fun _ _ => true) fun _ _ => (true, ())
noncomputable def eName : Env := env Tryd.prog [(46, dPlain)] [] []
theorem q_name (s : Bytes) : evFn eName 16 ((aOne vStr).enc s) ([]) some =
    cond (s == [])
      (some { v := V.int IntKind.i64 (15 : Int), bx := [] })
      (cond (ilt (16 : Int) (↑(List.length s) : Int))
        (some { v := V.int IntKind.i64 (5 : Int), bx := [] })
        (cond (Nat.ble (List.length s) (1000000 : Nat))
          (cond (!N.plain s)
            (some { v := V.int IntKind.i64 (4 : Int), bx := [] })
            (some { v := V.int IntKind.i64 (0 : Int), bx := [] }))
          (none))) := by kernel_rfl
theorem ok_name : FnOk Tryd.prog 16 dName := by
  refine den_okF (env_ok ((TOk.nil _).cons ok_plain)) (E := eName) Tryd.func16 [] (by kernel_rfl) none0 fun s _ h => ?_
  refine (q_name s).trans ?_
  show _ = some (⟨.int .i64 (N.name s), [], []⟩ : DRes)
  unfold N.name
  cases s == [] with
  | true => rfl
  | false =>
    cases h : ilt 16 s.length with
    | true => rfl
    | false =>
      have h := ilt_nof h
      simp (disch := omega) only [evs]
      cases N.plain s <;> rfl
noncomputable def eAwW : Env := env Tryd.prog [(13, dMatches), (16, dName)] [] []
theorem q_awW  : evFn eAwW 11 [] [] some =
    some { v := V.bool true, bx := [] } := by kernel_rfl
theorem ok_awW : FnOk Tryd.prog 11 dTrueW :=
  den_okF (env_ok (((TOk.nil _).cons ok_name).cons ok_matches)) (E := eAwW) Tryd.func11 [] (by kernel_rfl) none0 fun _ _ _ => q_awW
noncomputable def eWM : Env := env Tryd.prog [(11, dTrueW), (12, dRefKey), (13, dMatches), (15, dWords), (14, dRefMatches)] [] []
theorem q_lawWM (p k : Bytes) : evFn eWM 3 ((aCons vStr (aOne vStr)).enc (p, k)) ([]) some =
    cond (N.refKey p true != (0 : Int))
      (some { v := V.bool true, bx := [] })
      (cond (N.refKey k false != (0 : Int))
        (some { v := V.bool true, bx := [] })
        (cond (bif Nat.ble (List.length p) (1000000 : Nat) then Nat.ble (List.length k) (1000000 : Nat) else false)
          (cond (Nat.ble (List.length p) (1000000 : Nat))
            (cond (Nat.ble (List.length k) (1000000 : Nat))
              (cond (bif
        Nat.ble
          (List.length
            (List.map (fun r => V.toStr (List.getD r (0 : Nat) V.undef)) (List.map (fun n => [V.str n]) (N.words p))))
          (1000000 : Nat) then
      Nat.ble
        (List.length
          (List.map (fun r => V.toStr (List.getD r (0 : Nat) V.undef)) (List.map (fun n => [V.str n]) (N.words k))))
        (1000000 : Nat)
    else false)
                (some
      {
        v :=
          V.bool
            (N.matchW (N.words p) (N.words k) ==
              N.refMatches
                (List.map (fun r => V.toStr (List.getD r (0 : Nat) V.undef)) (List.map (fun n => [V.str n]) (N.words p)))
                (List.map (fun r => V.toStr (List.getD r (0 : Nat) V.undef)) (List.map (fun n => [V.str n]) (N.words k)))),
        bx := [] })
                (none))
              (none))
            (none))
          (none))) := by kernel_rfl
def lawWM (p k : Bytes) : Bool := cond (N.refKey p true != 0) true (cond (N.refKey k false != 0) true (N.matchW (N.words p) (N.words k) == N.refMatches (N.words p) (N.words k)))
theorem refKey_len {s : Bytes} {b : Bool} (h : (N.refKey s b != 0) = false) : s.length ≤ 64 := by
  unfold N.refKey at h
  cases e : ilt 64 s.length with
  | true => rw [e] at h; cases h
  | false => have := ilt_nof e; omega
theorem ok_lawWM : FnOk Tryd.prog 3 (den (aCons vStr (aOne vStr)) bNil (oV vBool) (fun _ _ => true) fun a _ => (lawWM a.1 a.2, ())) := by
  refine den_okF (env_ok ((((((TOk.nil _).cons ok_refMatches).cons ok_refSplit).cons ok_matches).cons ok_refKey).cons ok_awW)) (E := eWM) Tryd.func3 [] (by kernel_rfl) none0 fun a _ _ => ?_
  refine (q_lawWM a.1 a.2).trans ?_
  obtain ⟨p, k⟩ := a
  show _ = some (⟨.bool (lawWM p k), [], []⟩ : DRes)
  unfold lawWM
  cases h1 : N.refKey p true != 0 with
  | true => rfl
  | false =>
    cases h2 : N.refKey k false != 0 with
    | true => rfl
    | false =>
      have h1 := refKey_len h1
      have h2 := refKey_len h2
      have w1 := (words_small p).1
      have w2 := (words_small k).1
      have e : ∀ l : List Bytes, (l.map (fun n => [V.str n])).map (fun r => V.toStr (List.getD r 0 V.undef)) = l := fun l => rowsS_enc l
      simp (disch := omega) only [evs, e]
theorem lawWM_true (p k : Bytes) : lawWM p k = true := by
  unfold lawWM
  rw [matchW_eq, beq_self_eq_true]
  cases N.refKey p true != 0 <;> cases N.refKey k false != 0 <;> rfl
end Go.Ev
