/- The functions on messages answer what the plain ones do: lemmas; the function that writes numbers is a premise. -/
import Derived.Test.YtaelkcinofhhcaaGreatDoorGc
import Derived.Test.YtaelkcinofhhcaaGreatDoorGd
namespace Go.Ev
open Go Go.Proofs
set_option maxRecDepth 100000

noncomputable def eClone : Env := env Tryz.prog [] [] []
theorem q_clone (l : List HPair) : evFn eClone 64 ((aOne (vSl cPair)).enc l) ([]) some =
 cond (!Nat.beq (List.length (List.map (fun p => [V.str (HPair.key p), V.int IntKind.u8 (HPair.kind p), V.int IntKind.i64 (HPair.num p), V.str (HPair.text p)]) l)) (0 : Nat)) (cond (Nat.beq (List.length (List.map (fun p => [V.str (HPair.key p), V.int IntKind.u8 (HPair.kind p), V.int IntKind.i64 (HPair.num p), V.str (HPair.text p)]) l)) (0 : Nat)) (some { v := V.slc [Sh.str, Sh.int IntKind.u8, Sh.int IntKind.i64, Sh.str] [], bx := [] : DRes }) (cond (decide (List.length (List.map (fun p => [V.str (HPair.key p), V.int IntKind.u8 (HPair.kind p), V.int IntKind.i64 (HPair.num p), V.str (HPair.text p)]) l) * (48 : Nat) ≤ (140737488355328 : Nat))) (some { v := V.slc [Sh.str, Sh.int IntKind.u8, Sh.int IntKind.i64, Sh.str] (List.map (fun p => [V.str (HPair.key p), V.int IntKind.u8 (HPair.kind p), V.int IntKind.i64 (HPair.num p), V.str (HPair.text p)]) l), bx := [] : DRes }) (none))) (none) := by kernel_rfl
theorem q_cloneN  : evFn eClone 64 [.nils [.str, .int .u8, .int .i64, .str]] ([]) some =
 some { v := V.slc [Sh.str, Sh.int IntKind.u8, Sh.int IntKind.i64, Sh.str] [], bx := [] : DRes } := by kernel_rfl
theorem q_cloneE  : evFn eClone 64 [.nn [.str, .int .u8, .int .i64, .str]] ([]) some =
 some { v := V.slc [Sh.str, Sh.int IntKind.u8, Sh.int IntKind.i64, Sh.str] [], bx := [] : DRes } := by kernel_rfl
theorem ok_clone : FnOk Tryz.prog 64 dClone := by
  refine den_of fun l b h => ?_
  have h : l.length ≤ 1000000 := ble_of h
  have fo := fun a r => fn_okF (E := eClone) (env_ok (TOk.nil _)) Tryz.func64 [] (by kernel_rfl) none0 a [] r
  cases l with
  | nil => exact FnOk.empty (fo _ _ q_cloneN) (fo _ _ q_cloneE)
  | cons p r =>
    refine fo _ _ ((q_clone (p :: r)).trans ?_)
    show _ = some (⟨.slc [.str, .int .u8, .int .i64, .str] ((p :: r).map fun p => [V.str p.key, V.int .u8 p.kind, V.int .i64 p.num, V.str p.text]), [], []⟩ : DRes)
    rw [show Nat.beq (List.length ((p :: r).map fun p => [V.str p.key, V.int .u8 p.kind, V.int .i64 p.num, V.str p.text])) 0 = false from rfl]
    simp (disch := omega) only [evs, Bool.not_false]
noncomputable def eMailCopy : Env := env Tryz.prog [(64, dClone)] [] []
theorem q_mailCopy (m : HMail) : evFn eMailCopy 38 ((aOne (vAgg cMail)).enc m) ([]) some =
 cond (Nat.ble (List.length (List.map (fun r => { key := V.toStr (List.getD r (0 : Nat) V.undef), kind := V.toInt (List.getD r (1 : Nat) V.undef), num := V.toInt (List.getD r (2 : Nat) V.undef), text := V.toStr (List.getD r (3 : Nat) V.undef) : HPair }) (List.map (fun p => [V.str (HPair.key p), V.int IntKind.u8 (HPair.kind p), V.int IntKind.i64 (HPair.num p), V.str (HPair.text p)]) (HMail.head m)))) (1000000 : Nat)) (some { v := V.agg [V.int IntKind.u64 (HMail.id m), V.str (HMail.shop m), V.str (HMail.key m), V.slc [Sh.str, Sh.int IntKind.u8, Sh.int IntKind.i64, Sh.str] (List.map (fun p => [V.str (HPair.key p), V.int IntKind.u8 (HPair.kind p), V.int IntKind.i64 (HPair.num p), V.str (HPair.text p)]) (List.map (fun r => { key := V.toStr (List.getD r (0 : Nat) V.undef), kind := V.toInt (List.getD r (1 : Nat) V.undef), num := V.toInt (List.getD r (2 : Nat) V.undef), text := V.toStr (List.getD r (3 : Nat) V.undef) : HPair }) (List.map (fun p => [V.str (HPair.key p), V.int IntKind.u8 (HPair.kind p), V.int IntKind.i64 (HPair.num p), V.str (HPair.text p)]) (HMail.head m)))), V.str (HMail.body m), V.int IntKind.u64 (HMail.due m), V.int IntKind.u8 (HMail.hops m)], bx := [] : DRes }) (none) := by kernel_rfl
theorem ok_mailCopy : FnOk Tryz.prog 38 dMailCopy := by
  refine den_okF (env_ok ((TOk.nil _).cons ok_clone)) (E := eMailCopy) Tryz.func38 [] (by kernel_rfl) none0 fun m _ h => ?_
  have h : m.head.length ≤ 1000000 := ble_of h
  refine (q_mailCopy m).trans ?_
  simp (disch := omega) only [evs, pairs_enc]
  rfl
noncomputable def eMailCheck : Env := env Tryz.prog [(60, dName), (61, dKey), (62, dHeadCheck)] [] []
theorem q_mailCheck (m : HMail) : evFn eMailCheck 36 ((aOne (vAgg cMail)).enc m) ([]) some =
 cond (N.name (HMail.shop m) != (0 : Int)) (some { v := V.int IntKind.i64 (N.name (HMail.shop m)), bx := [] : DRes }) (cond (N.key (HMail.key m) [] != (0 : Int)) (some { v := V.int IntKind.i64 (N.key (HMail.key m) []), bx := [] : DRes }) (cond (N.headCheck (List.map (fun r => { key := V.toStr (List.getD r (0 : Nat) V.undef), kind := V.toInt (List.getD r (1 : Nat) V.undef), num := V.toInt (List.getD r (2 : Nat) V.undef), text := V.toStr (List.getD r (3 : Nat) V.undef) : HPair }) (List.map (fun p => [V.str (HPair.key p), V.int IntKind.u8 (HPair.kind p), V.int IntKind.i64 (HPair.num p), V.str (HPair.text p)]) (HMail.head m))) != (0 : Int)) (some { v := V.int IntKind.i64 (N.headCheck (List.map (fun r => { key := V.toStr (List.getD r (0 : Nat) V.undef), kind := V.toInt (List.getD r (1 : Nat) V.undef), num := V.toInt (List.getD r (2 : Nat) V.undef), text := V.toStr (List.getD r (3 : Nat) V.undef) : HPair }) (List.map (fun p => [V.str (HPair.key p), V.int IntKind.u8 (HPair.kind p), V.int IntKind.i64 (HPair.num p), V.str (HPair.text p)]) (HMail.head m)))), bx := [] : DRes }) (cond (ilt (256 : Int) (↑(List.length (HMail.body m)) : Int)) (some { v := V.int IntKind.i64 (5 : Int), bx := [] : DRes }) (cond (ilt (4 : Int) (HMail.hops m)) (some { v := V.int IntKind.i64 (7 : Int), bx := [] : DRes }) (some { v := V.int IntKind.i64 (0 : Int), bx := [] : DRes }))))) := by kernel_rfl
noncomputable def eRefMailCheck : Env := env Tryz.prog [(65, dName), (66, dRefKey), (67, dHeadCheck)] [] []
theorem q_refMailCheck (m : HMail) : evFn eRefMailCheck 39 ((aOne (vAgg cMail)).enc m) ([]) some =
 cond (N.name (HMail.shop m) == (0 : Int)) (cond (N.refKey (HMail.key m) false == (0 : Int)) (cond (N.headCheck (List.map (fun r => { key := V.toStr (List.getD r (0 : Nat) V.undef), kind := V.toInt (List.getD r (1 : Nat) V.undef), num := V.toInt (List.getD r (2 : Nat) V.undef), text := V.toStr (List.getD r (3 : Nat) V.undef) : HPair }) (List.map (fun p => [V.str (HPair.key p), V.int IntKind.u8 (HPair.kind p), V.int IntKind.i64 (HPair.num p), V.str (HPair.text p)]) (HMail.head m))) == (0 : Int)) (cond (ilt (256 : Int) (↑(List.length (HMail.body m)) : Int)) (some { v := V.int IntKind.i64 (5 : Int), bx := [] : DRes }) (cond (N.headCheck (List.map (fun r => { key := V.toStr (List.getD r (0 : Nat) V.undef), kind := V.toInt (List.getD r (1 : Nat) V.undef), num := V.toInt (List.getD r (2 : Nat) V.undef), text := V.toStr (List.getD r (3 : Nat) V.undef) : HPair }) (List.map (fun p => [V.str (HPair.key p), V.int IntKind.u8 (HPair.kind p), V.int IntKind.i64 (HPair.num p), V.str (HPair.text p)]) (HMail.head m))) == (0 : Int)) (cond (ilt (4 : Int) (HMail.hops m)) (some { v := V.int IntKind.i64 (7 : Int), bx := [] : DRes }) (some { v := V.int IntKind.i64 (N.headCheck (List.map (fun r => { key := V.toStr (List.getD r (0 : Nat) V.undef), kind := V.toInt (List.getD r (1 : Nat) V.undef), num := V.toInt (List.getD r (2 : Nat) V.undef), text := V.toStr (List.getD r (3 : Nat) V.undef) : HPair }) (List.map (fun p => [V.str (HPair.key p), V.int IntKind.u8 (HPair.kind p), V.int IntKind.i64 (HPair.num p), V.str (HPair.text p)]) (HMail.head m)))), bx := [] : DRes })) (some { v := V.int IntKind.i64 (N.headCheck (List.map (fun r => { key := V.toStr (List.getD r (0 : Nat) V.undef), kind := V.toInt (List.getD r (1 : Nat) V.undef), num := V.toInt (List.getD r (2 : Nat) V.undef), text := V.toStr (List.getD r (3 : Nat) V.undef) : HPair }) (List.map (fun p => [V.str (HPair.key p), V.int IntKind.u8 (HPair.kind p), V.int IntKind.i64 (HPair.num p), V.str (HPair.text p)]) (HMail.head m)))), bx := [] : DRes }))) (cond (N.headCheck (List.map (fun r => { key := V.toStr (List.getD r (0 : Nat) V.undef), kind := V.toInt (List.getD r (1 : Nat) V.undef), num := V.toInt (List.getD r (2 : Nat) V.undef), text := V.toStr (List.getD r (3 : Nat) V.undef) : HPair }) (List.map (fun p => [V.str (HPair.key p), V.int IntKind.u8 (HPair.kind p), V.int IntKind.i64 (HPair.num p), V.str (HPair.text p)]) (HMail.head m))) == (0 : Int)) (cond (ilt (4 : Int) (HMail.hops m)) (some { v := V.int IntKind.i64 (7 : Int), bx := [] : DRes }) (some { v := V.int IntKind.i64 (N.headCheck (List.map (fun r => { key := V.toStr (List.getD r (0 : Nat) V.undef), kind := V.toInt (List.getD r (1 : Nat) V.undef), num := V.toInt (List.getD r (2 : Nat) V.undef), text := V.toStr (List.getD r (3 : Nat) V.undef) : HPair }) (List.map (fun p => [V.str (HPair.key p), V.int IntKind.u8 (HPair.kind p), V.int IntKind.i64 (HPair.num p), V.str (HPair.text p)]) (HMail.head m)))), bx := [] : DRes })) (some { v := V.int IntKind.i64 (N.headCheck (List.map (fun r => { key := V.toStr (List.getD r (0 : Nat) V.undef), kind := V.toInt (List.getD r (1 : Nat) V.undef), num := V.toInt (List.getD r (2 : Nat) V.undef), text := V.toStr (List.getD r (3 : Nat) V.undef) : HPair }) (List.map (fun p => [V.str (HPair.key p), V.int IntKind.u8 (HPair.kind p), V.int IntKind.i64 (HPair.num p), V.str (HPair.text p)]) (HMail.head m)))), bx := [] : DRes }))) (cond (N.refKey (HMail.key m) false == (0 : Int)) (cond (ilt (256 : Int) (↑(List.length (HMail.body m)) : Int)) (some { v := V.int IntKind.i64 (5 : Int), bx := [] : DRes }) (cond (N.refKey (HMail.key m) false == (0 : Int)) (cond (ilt (4 : Int) (HMail.hops m)) (some { v := V.int IntKind.i64 (7 : Int), bx := [] : DRes }) (some { v := V.int IntKind.i64 (N.refKey (HMail.key m) false), bx := [] : DRes })) (some { v := V.int IntKind.i64 (N.refKey (HMail.key m) false), bx := [] : DRes }))) (cond (N.refKey (HMail.key m) false == (0 : Int)) (cond (ilt (4 : Int) (HMail.hops m)) (some { v := V.int IntKind.i64 (7 : Int), bx := [] : DRes }) (some { v := V.int IntKind.i64 (N.refKey (HMail.key m) false), bx := [] : DRes })) (some { v := V.int IntKind.i64 (N.refKey (HMail.key m) false), bx := [] : DRes })))) (cond (N.name (HMail.shop m) == (0 : Int)) (cond (N.headCheck (List.map (fun r => { key := V.toStr (List.getD r (0 : Nat) V.undef), kind := V.toInt (List.getD r (1 : Nat) V.undef), num := V.toInt (List.getD r (2 : Nat) V.undef), text := V.toStr (List.getD r (3 : Nat) V.undef) : HPair }) (List.map (fun p => [V.str (HPair.key p), V.int IntKind.u8 (HPair.kind p), V.int IntKind.i64 (HPair.num p), V.str (HPair.text p)]) (HMail.head m))) == (0 : Int)) (cond (ilt (256 : Int) (↑(List.length (HMail.body m)) : Int)) (some { v := V.int IntKind.i64 (5 : Int), bx := [] : DRes }) (cond (N.headCheck (List.map (fun r => { key := V.toStr (List.getD r (0 : Nat) V.undef), kind := V.toInt (List.getD r (1 : Nat) V.undef), num := V.toInt (List.getD r (2 : Nat) V.undef), text := V.toStr (List.getD r (3 : Nat) V.undef) : HPair }) (List.map (fun p => [V.str (HPair.key p), V.int IntKind.u8 (HPair.kind p), V.int IntKind.i64 (HPair.num p), V.str (HPair.text p)]) (HMail.head m))) == (0 : Int)) (cond (ilt (4 : Int) (HMail.hops m)) (some { v := V.int IntKind.i64 (7 : Int), bx := [] : DRes }) (some { v := V.int IntKind.i64 (N.headCheck (List.map (fun r => { key := V.toStr (List.getD r (0 : Nat) V.undef), kind := V.toInt (List.getD r (1 : Nat) V.undef), num := V.toInt (List.getD r (2 : Nat) V.undef), text := V.toStr (List.getD r (3 : Nat) V.undef) : HPair }) (List.map (fun p => [V.str (HPair.key p), V.int IntKind.u8 (HPair.kind p), V.int IntKind.i64 (HPair.num p), V.str (HPair.text p)]) (HMail.head m)))), bx := [] : DRes })) (some { v := V.int IntKind.i64 (N.headCheck (List.map (fun r => { key := V.toStr (List.getD r (0 : Nat) V.undef), kind := V.toInt (List.getD r (1 : Nat) V.undef), num := V.toInt (List.getD r (2 : Nat) V.undef), text := V.toStr (List.getD r (3 : Nat) V.undef) : HPair }) (List.map (fun p => [V.str (HPair.key p), V.int IntKind.u8 (HPair.kind p), V.int IntKind.i64 (HPair.num p), V.str (HPair.text p)]) (HMail.head m)))), bx := [] : DRes }))) (cond (N.headCheck (List.map (fun r => { key := V.toStr (List.getD r (0 : Nat) V.undef), kind := V.toInt (List.getD r (1 : Nat) V.undef), num := V.toInt (List.getD r (2 : Nat) V.undef), text := V.toStr (List.getD r (3 : Nat) V.undef) : HPair }) (List.map (fun p => [V.str (HPair.key p), V.int IntKind.u8 (HPair.kind p), V.int IntKind.i64 (HPair.num p), V.str (HPair.text p)]) (HMail.head m))) == (0 : Int)) (cond (ilt (4 : Int) (HMail.hops m)) (some { v := V.int IntKind.i64 (7 : Int), bx := [] : DRes }) (some { v := V.int IntKind.i64 (N.headCheck (List.map (fun r => { key := V.toStr (List.getD r (0 : Nat) V.undef), kind := V.toInt (List.getD r (1 : Nat) V.undef), num := V.toInt (List.getD r (2 : Nat) V.undef), text := V.toStr (List.getD r (3 : Nat) V.undef) : HPair }) (List.map (fun p => [V.str (HPair.key p), V.int IntKind.u8 (HPair.kind p), V.int IntKind.i64 (HPair.num p), V.str (HPair.text p)]) (HMail.head m)))), bx := [] : DRes })) (some { v := V.int IntKind.i64 (N.headCheck (List.map (fun r => { key := V.toStr (List.getD r (0 : Nat) V.undef), kind := V.toInt (List.getD r (1 : Nat) V.undef), num := V.toInt (List.getD r (2 : Nat) V.undef), text := V.toStr (List.getD r (3 : Nat) V.undef) : HPair }) (List.map (fun p => [V.str (HPair.key p), V.int IntKind.u8 (HPair.kind p), V.int IntKind.i64 (HPair.num p), V.str (HPair.text p)]) (HMail.head m)))), bx := [] : DRes }))) (cond (N.name (HMail.shop m) == (0 : Int)) (cond (ilt (256 : Int) (↑(List.length (HMail.body m)) : Int)) (some { v := V.int IntKind.i64 (5 : Int), bx := [] : DRes }) (cond (N.name (HMail.shop m) == (0 : Int)) (cond (ilt (4 : Int) (HMail.hops m)) (some { v := V.int IntKind.i64 (7 : Int), bx := [] : DRes }) (some { v := V.int IntKind.i64 (N.name (HMail.shop m)), bx := [] : DRes })) (some { v := V.int IntKind.i64 (N.name (HMail.shop m)), bx := [] : DRes }))) (cond (N.name (HMail.shop m) == (0 : Int)) (cond (ilt (4 : Int) (HMail.hops m)) (some { v := V.int IntKind.i64 (7 : Int), bx := [] : DRes }) (some { v := V.int IntKind.i64 (N.name (HMail.shop m)), bx := [] : DRes })) (some { v := V.int IntKind.i64 (N.name (HMail.shop m)), bx := [] : DRes })))) := by kernel_rfl
theorem ok_mailCheck : FnOk Tryz.prog 36 dMailCheck := by
  refine den_okF (env_ok ((((TOk.nil _).cons ok_headCheck).cons ok_key).cons ok_name)) (E := eMailCheck) Tryz.func36 [] (by kernel_rfl) none0 fun m _ _ => ?_
  refine (q_mailCheck m).trans ?_
  show _ = some (⟨.int .i64 (N.mailCheck m), [], []⟩ : DRes)
  unfold N.mailCheck
  simp only [pairs_enc]
  cases h1 : N.name m.shop != 0 <;> cases h2 : N.key m.key [] != 0 <;> cases h3 : N.headCheck m.head != 0 <;> cases h4 : ilt 256 (m.body.length : Int) <;> cases h5 : ilt 4 m.hops <;> simp only [cond_true, cond_false]
theorem ok_refMailCheck : FnOk Tryz.prog 39 dMailCheck := by
  refine den_okF (env_ok ((((TOk.nil _).cons ok_refCheck).cons ok_refKey).cons ok_refName)) (E := eRefMailCheck) Tryz.func39 [] (by kernel_rfl) none0 fun m _ _ => ?_
  refine (q_refMailCheck m).trans ?_
  show _ = some (⟨.int .i64 (N.mailCheck m), [], []⟩ : DRes)
  unfold N.mailCheck
  simp only [pairs_enc, key_eq, bne]
  cases h1 : N.name m.shop == 0 with
  | false => simp only [Bool.not_false, cond_true, cond_false]
  | true =>
    cases h2 : N.refKey m.key false == 0 with
    | false => simp only [Bool.not_false, Bool.not_true, cond_true, cond_false]
    | true =>
      cases h3 : N.headCheck m.head == 0 with
      | false => simp only [Bool.not_false, Bool.not_true, cond_true, cond_false]
      | true =>
        have e3 := ieq_of h3
        rw [e3]
        cases h4 : ilt 256 (m.body.length : Int) <;> cases h5 : ilt 4 m.hops <;> first | rfl | simp only [Bool.not_false, Bool.not_true, cond_true, cond_false, h3, h4, h5]
noncomputable def eRefMailSame : Env := env Tryz.prog [(57, dSameP)] [] []
theorem q_refMailSame (a b : HMail) : evFn eRefMailSame 33 ((aCons (vAgg cMail) (aOne (vAgg cMail))).enc (a, b)) ([]) some =
 cond (HMail.id a == HMail.id b) (cond (HMail.shop a == HMail.shop b) (cond (HMail.key a == HMail.key b) (cond (Nat.ble (List.length (List.map (fun r => { key := V.toStr (List.getD r (0 : Nat) V.undef), kind := V.toInt (List.getD r (1 : Nat) V.undef), num := V.toInt (List.getD r (2 : Nat) V.undef), text := V.toStr (List.getD r (3 : Nat) V.undef) : HPair }) (List.map (fun p => [V.str (HPair.key p), V.int IntKind.u8 (HPair.kind p), V.int IntKind.i64 (HPair.num p), V.str (HPair.text p)]) (HMail.head a)))) (1000000 : Nat)) (cond (N.samePs (List.map (fun r => { key := V.toStr (List.getD r (0 : Nat) V.undef), kind := V.toInt (List.getD r (1 : Nat) V.undef), num := V.toInt (List.getD r (2 : Nat) V.undef), text := V.toStr (List.getD r (3 : Nat) V.undef) : HPair }) (List.map (fun p => [V.str (HPair.key p), V.int IntKind.u8 (HPair.kind p), V.int IntKind.i64 (HPair.num p), V.str (HPair.text p)]) (HMail.head a))) (List.map (fun r => { key := V.toStr (List.getD r (0 : Nat) V.undef), kind := V.toInt (List.getD r (1 : Nat) V.undef), num := V.toInt (List.getD r (2 : Nat) V.undef), text := V.toStr (List.getD r (3 : Nat) V.undef) : HPair }) (List.map (fun p => [V.str (HPair.key p), V.int IntKind.u8 (HPair.kind p), V.int IntKind.i64 (HPair.num p), V.str (HPair.text p)]) (HMail.head b)))) (cond (HMail.body a == HMail.body b) (cond (HMail.due a == HMail.due b) (some { v := V.bool (HMail.hops a == HMail.hops b), bx := [] : DRes }) (some { v := V.bool false, bx := [] : DRes })) (some { v := V.bool false, bx := [] : DRes })) (some { v := V.bool false, bx := [] : DRes })) (none)) (some { v := V.bool false, bx := [] : DRes })) (some { v := V.bool false, bx := [] : DRes })) (some { v := V.bool false, bx := [] : DRes }) := by kernel_rfl
theorem ok_refMailSame : FnOk Tryz.prog 33 dMailSame := by
  refine den_okF (env_ok ((TOk.nil _).cons ok_refSame)) (E := eRefMailSame) Tryz.func33 [] (by kernel_rfl) none0 fun a _ h => ?_
  obtain ⟨a, b⟩ := a
  have h : a.head.length ≤ 1000000 := ble_of h
  refine (q_refMailSame a b).trans ?_
  show _ = some (⟨.bool (N.mailSame a b), [], []⟩ : DRes)
  unfold N.mailSame
  cases a.id == b.id <;> cases a.shop == b.shop <;> cases a.key == b.key <;> first | rfl | skip
  simp (disch := omega) only [evs, pairs_enc]
  cases N.samePs a.head b.head <;> cases a.body == b.body <;> cases a.due == b.due <;> rfl
noncomputable def eLightM : Env := env Tryz.prog [(25, dLight)] [] []
theorem q_lightM (m : HMail) : evFn eLightM 6 ((aOne (vAgg cMail)).enc m) ([]) some =
 cond (ile (↑(List.length (HMail.shop m)) : Int) (40 : Int)) (cond (ile (↑(List.length (HMail.key m)) : Int) (100 : Int)) (cond (N.light (List.map (fun r => { key := V.toStr (List.getD r (0 : Nat) V.undef), kind := V.toInt (List.getD r (1 : Nat) V.undef), num := V.toInt (List.getD r (2 : Nat) V.undef), text := V.toStr (List.getD r (3 : Nat) V.undef) : HPair }) (List.map (fun p => [V.str (HPair.key p), V.int IntKind.u8 (HPair.kind p), V.int IntKind.i64 (HPair.num p), V.str (HPair.text p)]) (HMail.head m)))) (some { v := V.bool (ile (↑(List.length (HMail.body m)) : Int) (300 : Int)), bx := [] : DRes }) (some { v := V.bool false, bx := [] : DRes })) (some { v := V.bool false, bx := [] : DRes })) (some { v := V.bool false, bx := [] : DRes }) := by kernel_rfl
theorem ok_lightM : FnOk Tryz.prog 6 dLightM := by
  refine den_okF (env_ok ((TOk.nil _).cons ok_light)) (E := eLightM) Tryz.func6 [] (by kernel_rfl) none0 fun m _ _ => ?_
  refine (q_lightM m).trans ?_
  show _ = some (⟨.bool (N.lightM m), [], []⟩ : DRes)
  unfold N.lightM
  simp only [pairs_enc]
  cases ile (m.shop.length : Int) 40 <;> cases ile (m.key.length : Int) 100 <;> cases N.light m.head <;> rfl
theorem nrm_rows (h : List HPair) : (h.map (fun p => [V.str p.key, V.int .u8 p.kind, V.int .i64 p.num, V.str p.text])).map (fun r => ({ key := V.toStr (List.getD r 0 .undef), kind := V.toInt (List.getD r 1 .undef), num := V.toInt (List.getD r 2 .undef), text := V.toStr (List.getD r 3 .undef) } : HPair)) = h := rowsP_enc h
noncomputable def eMailRead : Env := env Tryz.prog [(26, dNum), (52, dInText), (53, dHeadRead), (10, dInErr), (27, dFail), (36, dMailCheck)] [] []
theorem q_mailRead (i : InS) : evFn eMailRead 28 ((aOne (vPtr 0)).enc ()) ((bOne cIn).enc i) some =
 cond (InS.err (Prod.snd (N.inNum (Prod.snd (N.inNum (Prod.snd (N.inText (Prod.snd (N.headRead (Prod.snd (N.inText (Prod.snd (N.inText (Prod.snd (N.inNum i (8 : Int))) (16 : Int))) (64 : Int))))) (256 : Int))) (8 : Int))) (1 : Int))) == (0 : Int)) (cond (InS.err (N.inFail (Prod.snd (N.inNum (Prod.snd (N.inNum (Prod.snd (N.inText (Prod.snd (N.headRead (Prod.snd (N.inText (Prod.snd (N.inText (Prod.snd (N.inNum i (8 : Int))) (16 : Int))) (64 : Int))))) (256 : Int))) (8 : Int))) (1 : Int))) (N.mailCheck { id := Prod.fst (N.inNum i (8 : Int)), shop := Prod.fst (N.inText (Prod.snd (N.inNum i (8 : Int))) (16 : Int)), key := Prod.fst (N.inText (Prod.snd (N.inText (Prod.snd (N.inNum i (8 : Int))) (16 : Int))) (64 : Int)), head := List.map (fun r => { key := V.toStr (List.getD r (0 : Nat) V.undef), kind := V.toInt (List.getD r (1 : Nat) V.undef), num := V.toInt (List.getD r (2 : Nat) V.undef), text := V.toStr (List.getD r (3 : Nat) V.undef) : HPair }) (List.map (fun p => [V.str (HPair.key p), V.int IntKind.u8 (HPair.kind p), V.int IntKind.i64 (HPair.num p), V.str (HPair.text p)]) (Prod.fst (N.headRead (Prod.snd (N.inText (Prod.snd (N.inText (Prod.snd (N.inNum i (8 : Int))) (16 : Int))) (64 : Int)))))), body := Prod.fst (N.inText (Prod.snd (N.headRead (Prod.snd (N.inText (Prod.snd (N.inText (Prod.snd (N.inNum i (8 : Int))) (16 : Int))) (64 : Int))))) (256 : Int)), due := Prod.fst (N.inNum (Prod.snd (N.inText (Prod.snd (N.headRead (Prod.snd (N.inText (Prod.snd (N.inText (Prod.snd (N.inNum i (8 : Int))) (16 : Int))) (64 : Int))))) (256 : Int))) (8 : Int)), hops := IntKind.wrap IntKind.u8 (Prod.fst (N.inNum (Prod.snd (N.inNum (Prod.snd (N.inText (Prod.snd (N.headRead (Prod.snd (N.inText (Prod.snd (N.inText (Prod.snd (N.inNum i (8 : Int))) (16 : Int))) (64 : Int))))) (256 : Int))) (8 : Int))) (1 : Int))) : HMail })) != (0 : Int)) (some { v := V.agg [V.int IntKind.u64 (0 : Int), V.str [], V.str [], V.slc [Sh.str, Sh.int IntKind.u8, Sh.int IntKind.i64, Sh.str] [], V.str [], V.int IntKind.u64 (0 : Int), V.int IntKind.u8 (0 : Int)], bx := [[V.str (InS.s (N.inFail (Prod.snd (N.inNum (Prod.snd (N.inNum (Prod.snd (N.inText (Prod.snd (N.headRead (Prod.snd (N.inText (Prod.snd (N.inText (Prod.snd (N.inNum i (8 : Int))) (16 : Int))) (64 : Int))))) (256 : Int))) (8 : Int))) (1 : Int))) (N.mailCheck { id := Prod.fst (N.inNum i (8 : Int)), shop := Prod.fst (N.inText (Prod.snd (N.inNum i (8 : Int))) (16 : Int)), key := Prod.fst (N.inText (Prod.snd (N.inText (Prod.snd (N.inNum i (8 : Int))) (16 : Int))) (64 : Int)), head := List.map (fun r => { key := V.toStr (List.getD r (0 : Nat) V.undef), kind := V.toInt (List.getD r (1 : Nat) V.undef), num := V.toInt (List.getD r (2 : Nat) V.undef), text := V.toStr (List.getD r (3 : Nat) V.undef) : HPair }) (List.map (fun p => [V.str (HPair.key p), V.int IntKind.u8 (HPair.kind p), V.int IntKind.i64 (HPair.num p), V.str (HPair.text p)]) (Prod.fst (N.headRead (Prod.snd (N.inText (Prod.snd (N.inText (Prod.snd (N.inNum i (8 : Int))) (16 : Int))) (64 : Int)))))), body := Prod.fst (N.inText (Prod.snd (N.headRead (Prod.snd (N.inText (Prod.snd (N.inText (Prod.snd (N.inNum i (8 : Int))) (16 : Int))) (64 : Int))))) (256 : Int)), due := Prod.fst (N.inNum (Prod.snd (N.inText (Prod.snd (N.headRead (Prod.snd (N.inText (Prod.snd (N.inText (Prod.snd (N.inNum i (8 : Int))) (16 : Int))) (64 : Int))))) (256 : Int))) (8 : Int)), hops := IntKind.wrap IntKind.u8 (Prod.fst (N.inNum (Prod.snd (N.inNum (Prod.snd (N.inText (Prod.snd (N.headRead (Prod.snd (N.inText (Prod.snd (N.inText (Prod.snd (N.inNum i (8 : Int))) (16 : Int))) (64 : Int))))) (256 : Int))) (8 : Int))) (1 : Int))) : HMail }))), V.int IntKind.i64 (InS.err (N.inFail (Prod.snd (N.inNum (Prod.snd (N.inNum (Prod.snd (N.inText (Prod.snd (N.headRead (Prod.snd (N.inText (Prod.snd (N.inText (Prod.snd (N.inNum i (8 : Int))) (16 : Int))) (64 : Int))))) (256 : Int))) (8 : Int))) (1 : Int))) (N.mailCheck { id := Prod.fst (N.inNum i (8 : Int)), shop := Prod.fst (N.inText (Prod.snd (N.inNum i (8 : Int))) (16 : Int)), key := Prod.fst (N.inText (Prod.snd (N.inText (Prod.snd (N.inNum i (8 : Int))) (16 : Int))) (64 : Int)), head := List.map (fun r => { key := V.toStr (List.getD r (0 : Nat) V.undef), kind := V.toInt (List.getD r (1 : Nat) V.undef), num := V.toInt (List.getD r (2 : Nat) V.undef), text := V.toStr (List.getD r (3 : Nat) V.undef) : HPair }) (List.map (fun p => [V.str (HPair.key p), V.int IntKind.u8 (HPair.kind p), V.int IntKind.i64 (HPair.num p), V.str (HPair.text p)]) (Prod.fst (N.headRead (Prod.snd (N.inText (Prod.snd (N.inText (Prod.snd (N.inNum i (8 : Int))) (16 : Int))) (64 : Int)))))), body := Prod.fst (N.inText (Prod.snd (N.headRead (Prod.snd (N.inText (Prod.snd (N.inText (Prod.snd (N.inNum i (8 : Int))) (16 : Int))) (64 : Int))))) (256 : Int)), due := Prod.fst (N.inNum (Prod.snd (N.inText (Prod.snd (N.headRead (Prod.snd (N.inText (Prod.snd (N.inText (Prod.snd (N.inNum i (8 : Int))) (16 : Int))) (64 : Int))))) (256 : Int))) (8 : Int)), hops := IntKind.wrap IntKind.u8 (Prod.fst (N.inNum (Prod.snd (N.inNum (Prod.snd (N.inText (Prod.snd (N.headRead (Prod.snd (N.inText (Prod.snd (N.inText (Prod.snd (N.inNum i (8 : Int))) (16 : Int))) (64 : Int))))) (256 : Int))) (8 : Int))) (1 : Int))) : HMail })))]] : DRes }) (some { v := V.agg [V.int IntKind.u64 (Prod.fst (N.inNum i (8 : Int))), V.str (Prod.fst (N.inText (Prod.snd (N.inNum i (8 : Int))) (16 : Int))), V.str (Prod.fst (N.inText (Prod.snd (N.inText (Prod.snd (N.inNum i (8 : Int))) (16 : Int))) (64 : Int))), V.slc [Sh.str, Sh.int IntKind.u8, Sh.int IntKind.i64, Sh.str] (List.map (fun p => [V.str (HPair.key p), V.int IntKind.u8 (HPair.kind p), V.int IntKind.i64 (HPair.num p), V.str (HPair.text p)]) (Prod.fst (N.headRead (Prod.snd (N.inText (Prod.snd (N.inText (Prod.snd (N.inNum i (8 : Int))) (16 : Int))) (64 : Int)))))), V.str (Prod.fst (N.inText (Prod.snd (N.headRead (Prod.snd (N.inText (Prod.snd (N.inText (Prod.snd (N.inNum i (8 : Int))) (16 : Int))) (64 : Int))))) (256 : Int))), V.int IntKind.u64 (Prod.fst (N.inNum (Prod.snd (N.inText (Prod.snd (N.headRead (Prod.snd (N.inText (Prod.snd (N.inText (Prod.snd (N.inNum i (8 : Int))) (16 : Int))) (64 : Int))))) (256 : Int))) (8 : Int))), V.int IntKind.u8 (IntKind.wrap IntKind.u8 (Prod.fst (N.inNum (Prod.snd (N.inNum (Prod.snd (N.inText (Prod.snd (N.headRead (Prod.snd (N.inText (Prod.snd (N.inText (Prod.snd (N.inNum i (8 : Int))) (16 : Int))) (64 : Int))))) (256 : Int))) (8 : Int))) (1 : Int))))], bx := [[V.str (InS.s (N.inFail (Prod.snd (N.inNum (Prod.snd (N.inNum (Prod.snd (N.inText (Prod.snd (N.headRead (Prod.snd (N.inText (Prod.snd (N.inText (Prod.snd (N.inNum i (8 : Int))) (16 : Int))) (64 : Int))))) (256 : Int))) (8 : Int))) (1 : Int))) (N.mailCheck { id := Prod.fst (N.inNum i (8 : Int)), shop := Prod.fst (N.inText (Prod.snd (N.inNum i (8 : Int))) (16 : Int)), key := Prod.fst (N.inText (Prod.snd (N.inText (Prod.snd (N.inNum i (8 : Int))) (16 : Int))) (64 : Int)), head := List.map (fun r => { key := V.toStr (List.getD r (0 : Nat) V.undef), kind := V.toInt (List.getD r (1 : Nat) V.undef), num := V.toInt (List.getD r (2 : Nat) V.undef), text := V.toStr (List.getD r (3 : Nat) V.undef) : HPair }) (List.map (fun p => [V.str (HPair.key p), V.int IntKind.u8 (HPair.kind p), V.int IntKind.i64 (HPair.num p), V.str (HPair.text p)]) (Prod.fst (N.headRead (Prod.snd (N.inText (Prod.snd (N.inText (Prod.snd (N.inNum i (8 : Int))) (16 : Int))) (64 : Int)))))), body := Prod.fst (N.inText (Prod.snd (N.headRead (Prod.snd (N.inText (Prod.snd (N.inText (Prod.snd (N.inNum i (8 : Int))) (16 : Int))) (64 : Int))))) (256 : Int)), due := Prod.fst (N.inNum (Prod.snd (N.inText (Prod.snd (N.headRead (Prod.snd (N.inText (Prod.snd (N.inText (Prod.snd (N.inNum i (8 : Int))) (16 : Int))) (64 : Int))))) (256 : Int))) (8 : Int)), hops := IntKind.wrap IntKind.u8 (Prod.fst (N.inNum (Prod.snd (N.inNum (Prod.snd (N.inText (Prod.snd (N.headRead (Prod.snd (N.inText (Prod.snd (N.inText (Prod.snd (N.inNum i (8 : Int))) (16 : Int))) (64 : Int))))) (256 : Int))) (8 : Int))) (1 : Int))) : HMail }))), V.int IntKind.i64 (InS.err (N.inFail (Prod.snd (N.inNum (Prod.snd (N.inNum (Prod.snd (N.inText (Prod.snd (N.headRead (Prod.snd (N.inText (Prod.snd (N.inText (Prod.snd (N.inNum i (8 : Int))) (16 : Int))) (64 : Int))))) (256 : Int))) (8 : Int))) (1 : Int))) (N.mailCheck { id := Prod.fst (N.inNum i (8 : Int)), shop := Prod.fst (N.inText (Prod.snd (N.inNum i (8 : Int))) (16 : Int)), key := Prod.fst (N.inText (Prod.snd (N.inText (Prod.snd (N.inNum i (8 : Int))) (16 : Int))) (64 : Int)), head := List.map (fun r => { key := V.toStr (List.getD r (0 : Nat) V.undef), kind := V.toInt (List.getD r (1 : Nat) V.undef), num := V.toInt (List.getD r (2 : Nat) V.undef), text := V.toStr (List.getD r (3 : Nat) V.undef) : HPair }) (List.map (fun p => [V.str (HPair.key p), V.int IntKind.u8 (HPair.kind p), V.int IntKind.i64 (HPair.num p), V.str (HPair.text p)]) (Prod.fst (N.headRead (Prod.snd (N.inText (Prod.snd (N.inText (Prod.snd (N.inNum i (8 : Int))) (16 : Int))) (64 : Int)))))), body := Prod.fst (N.inText (Prod.snd (N.headRead (Prod.snd (N.inText (Prod.snd (N.inText (Prod.snd (N.inNum i (8 : Int))) (16 : Int))) (64 : Int))))) (256 : Int)), due := Prod.fst (N.inNum (Prod.snd (N.inText (Prod.snd (N.headRead (Prod.snd (N.inText (Prod.snd (N.inText (Prod.snd (N.inNum i (8 : Int))) (16 : Int))) (64 : Int))))) (256 : Int))) (8 : Int)), hops := IntKind.wrap IntKind.u8 (Prod.fst (N.inNum (Prod.snd (N.inNum (Prod.snd (N.inText (Prod.snd (N.headRead (Prod.snd (N.inText (Prod.snd (N.inText (Prod.snd (N.inNum i (8 : Int))) (16 : Int))) (64 : Int))))) (256 : Int))) (8 : Int))) (1 : Int))) : HMail })))]] : DRes })) (cond (InS.err (Prod.snd (N.inNum (Prod.snd (N.inNum (Prod.snd (N.inText (Prod.snd (N.headRead (Prod.snd (N.inText (Prod.snd (N.inText (Prod.snd (N.inNum i (8 : Int))) (16 : Int))) (64 : Int))))) (256 : Int))) (8 : Int))) (1 : Int))) != (0 : Int)) (some { v := V.agg [V.int IntKind.u64 (0 : Int), V.str [], V.str [], V.slc [Sh.str, Sh.int IntKind.u8, Sh.int IntKind.i64, Sh.str] [], V.str [], V.int IntKind.u64 (0 : Int), V.int IntKind.u8 (0 : Int)], bx := [[V.str (InS.s (Prod.snd (N.inNum (Prod.snd (N.inNum (Prod.snd (N.inText (Prod.snd (N.headRead (Prod.snd (N.inText (Prod.snd (N.inText (Prod.snd (N.inNum i (8 : Int))) (16 : Int))) (64 : Int))))) (256 : Int))) (8 : Int))) (1 : Int)))), V.int IntKind.i64 (InS.err (Prod.snd (N.inNum (Prod.snd (N.inNum (Prod.snd (N.inText (Prod.snd (N.headRead (Prod.snd (N.inText (Prod.snd (N.inText (Prod.snd (N.inNum i (8 : Int))) (16 : Int))) (64 : Int))))) (256 : Int))) (8 : Int))) (1 : Int))))]] : DRes }) (some { v := V.agg [V.int IntKind.u64 (Prod.fst (N.inNum i (8 : Int))), V.str (Prod.fst (N.inText (Prod.snd (N.inNum i (8 : Int))) (16 : Int))), V.str (Prod.fst (N.inText (Prod.snd (N.inText (Prod.snd (N.inNum i (8 : Int))) (16 : Int))) (64 : Int))), V.slc [Sh.str, Sh.int IntKind.u8, Sh.int IntKind.i64, Sh.str] (List.map (fun p => [V.str (HPair.key p), V.int IntKind.u8 (HPair.kind p), V.int IntKind.i64 (HPair.num p), V.str (HPair.text p)]) (Prod.fst (N.headRead (Prod.snd (N.inText (Prod.snd (N.inText (Prod.snd (N.inNum i (8 : Int))) (16 : Int))) (64 : Int)))))), V.str (Prod.fst (N.inText (Prod.snd (N.headRead (Prod.snd (N.inText (Prod.snd (N.inText (Prod.snd (N.inNum i (8 : Int))) (16 : Int))) (64 : Int))))) (256 : Int))), V.int IntKind.u64 (Prod.fst (N.inNum (Prod.snd (N.inText (Prod.snd (N.headRead (Prod.snd (N.inText (Prod.snd (N.inText (Prod.snd (N.inNum i (8 : Int))) (16 : Int))) (64 : Int))))) (256 : Int))) (8 : Int))), V.int IntKind.u8 (IntKind.wrap IntKind.u8 (Prod.fst (N.inNum (Prod.snd (N.inNum (Prod.snd (N.inText (Prod.snd (N.headRead (Prod.snd (N.inText (Prod.snd (N.inText (Prod.snd (N.inNum i (8 : Int))) (16 : Int))) (64 : Int))))) (256 : Int))) (8 : Int))) (1 : Int))))], bx := [[V.str (InS.s (Prod.snd (N.inNum (Prod.snd (N.inNum (Prod.snd (N.inText (Prod.snd (N.headRead (Prod.snd (N.inText (Prod.snd (N.inText (Prod.snd (N.inNum i (8 : Int))) (16 : Int))) (64 : Int))))) (256 : Int))) (8 : Int))) (1 : Int)))), V.int IntKind.i64 (InS.err (Prod.snd (N.inNum (Prod.snd (N.inNum (Prod.snd (N.inText (Prod.snd (N.headRead (Prod.snd (N.inText (Prod.snd (N.inText (Prod.snd (N.inNum i (8 : Int))) (16 : Int))) (64 : Int))))) (256 : Int))) (8 : Int))) (1 : Int))))]] : DRes })) := by kernel_rfl
noncomputable def eRMail : Env := env Tryz.prog [(29, dRNum), (55, dRText), (56, dRHead), (30, dRFail), (39, dMailCheck)] [] []
theorem q_rMail (q : RIn) : evFn eRMail 31 ((aOne (vPtr 0)).enc ()) ((bOne cRIn).enc q) some =
 cond (N.goodR q) (cond (N.goodR (Prod.snd (N.rNum q (8 : Int)))) (cond (N.goodR (Prod.snd (N.rText (Prod.snd (N.rNum q (8 : Int))) (16 : Int)))) (cond (N.goodR (Prod.snd (N.rText (Prod.snd (N.rText (Prod.snd (N.rNum q (8 : Int))) (16 : Int))) (64 : Int)))) (cond (N.goodR (Prod.snd (N.rHead (Prod.snd (N.rText (Prod.snd (N.rText (Prod.snd (N.rNum q (8 : Int))) (16 : Int))) (64 : Int)))))) (cond (N.goodR (Prod.snd (N.rText (Prod.snd (N.rHead (Prod.snd (N.rText (Prod.snd (N.rText (Prod.snd (N.rNum q (8 : Int))) (16 : Int))) (64 : Int))))) (256 : Int)))) (cond (N.goodR (Prod.snd (N.rNum (Prod.snd (N.rText (Prod.snd (N.rHead (Prod.snd (N.rText (Prod.snd (N.rText (Prod.snd (N.rNum q (8 : Int))) (16 : Int))) (64 : Int))))) (256 : Int))) (8 : Int)))) (cond (RIn.code (Prod.snd (N.rNum (Prod.snd (N.rNum (Prod.snd (N.rText (Prod.snd (N.rHead (Prod.snd (N.rText (Prod.snd (N.rText (Prod.snd (N.rNum q (8 : Int))) (16 : Int))) (64 : Int))))) (256 : Int))) (8 : Int))) (1 : Int))) == (0 : Int)) (cond (RIn.code (N.rFail (Prod.snd (N.rNum (Prod.snd (N.rNum (Prod.snd (N.rText (Prod.snd (N.rHead (Prod.snd (N.rText (Prod.snd (N.rText (Prod.snd (N.rNum q (8 : Int))) (16 : Int))) (64 : Int))))) (256 : Int))) (8 : Int))) (1 : Int))) (N.mailCheck { id := Prod.fst (N.rNum q (8 : Int)), shop := Prod.fst (N.rText (Prod.snd (N.rNum q (8 : Int))) (16 : Int)), key := Prod.fst (N.rText (Prod.snd (N.rText (Prod.snd (N.rNum q (8 : Int))) (16 : Int))) (64 : Int)), head := List.map (fun r => { key := V.toStr (List.getD r (0 : Nat) V.undef), kind := V.toInt (List.getD r (1 : Nat) V.undef), num := V.toInt (List.getD r (2 : Nat) V.undef), text := V.toStr (List.getD r (3 : Nat) V.undef) : HPair }) (List.map (fun p => [V.str (HPair.key p), V.int IntKind.u8 (HPair.kind p), V.int IntKind.i64 (HPair.num p), V.str (HPair.text p)]) (Prod.fst (N.rHead (Prod.snd (N.rText (Prod.snd (N.rText (Prod.snd (N.rNum q (8 : Int))) (16 : Int))) (64 : Int)))))), body := Prod.fst (N.rText (Prod.snd (N.rHead (Prod.snd (N.rText (Prod.snd (N.rText (Prod.snd (N.rNum q (8 : Int))) (16 : Int))) (64 : Int))))) (256 : Int)), due := Prod.fst (N.rNum (Prod.snd (N.rText (Prod.snd (N.rHead (Prod.snd (N.rText (Prod.snd (N.rText (Prod.snd (N.rNum q (8 : Int))) (16 : Int))) (64 : Int))))) (256 : Int))) (8 : Int)), hops := IntKind.wrap IntKind.u8 (Prod.fst (N.rNum (Prod.snd (N.rNum (Prod.snd (N.rText (Prod.snd (N.rHead (Prod.snd (N.rText (Prod.snd (N.rText (Prod.snd (N.rNum q (8 : Int))) (16 : Int))) (64 : Int))))) (256 : Int))) (8 : Int))) (1 : Int))) : HMail })) != (0 : Int)) (some { v := V.agg [V.int IntKind.u64 (0 : Int), V.str [], V.str [], V.slc [Sh.str, Sh.int IntKind.u8, Sh.int IntKind.i64, Sh.str] [], V.str [], V.int IntKind.u64 (0 : Int), V.int IntKind.u8 (0 : Int)], bx := [[V.str (RIn.s (N.rFail (Prod.snd (N.rNum (Prod.snd (N.rNum (Prod.snd (N.rText (Prod.snd (N.rHead (Prod.snd (N.rText (Prod.snd (N.rText (Prod.snd (N.rNum q (8 : Int))) (16 : Int))) (64 : Int))))) (256 : Int))) (8 : Int))) (1 : Int))) (N.mailCheck { id := Prod.fst (N.rNum q (8 : Int)), shop := Prod.fst (N.rText (Prod.snd (N.rNum q (8 : Int))) (16 : Int)), key := Prod.fst (N.rText (Prod.snd (N.rText (Prod.snd (N.rNum q (8 : Int))) (16 : Int))) (64 : Int)), head := List.map (fun r => { key := V.toStr (List.getD r (0 : Nat) V.undef), kind := V.toInt (List.getD r (1 : Nat) V.undef), num := V.toInt (List.getD r (2 : Nat) V.undef), text := V.toStr (List.getD r (3 : Nat) V.undef) : HPair }) (List.map (fun p => [V.str (HPair.key p), V.int IntKind.u8 (HPair.kind p), V.int IntKind.i64 (HPair.num p), V.str (HPair.text p)]) (Prod.fst (N.rHead (Prod.snd (N.rText (Prod.snd (N.rText (Prod.snd (N.rNum q (8 : Int))) (16 : Int))) (64 : Int)))))), body := Prod.fst (N.rText (Prod.snd (N.rHead (Prod.snd (N.rText (Prod.snd (N.rText (Prod.snd (N.rNum q (8 : Int))) (16 : Int))) (64 : Int))))) (256 : Int)), due := Prod.fst (N.rNum (Prod.snd (N.rText (Prod.snd (N.rHead (Prod.snd (N.rText (Prod.snd (N.rText (Prod.snd (N.rNum q (8 : Int))) (16 : Int))) (64 : Int))))) (256 : Int))) (8 : Int)), hops := IntKind.wrap IntKind.u8 (Prod.fst (N.rNum (Prod.snd (N.rNum (Prod.snd (N.rText (Prod.snd (N.rHead (Prod.snd (N.rText (Prod.snd (N.rText (Prod.snd (N.rNum q (8 : Int))) (16 : Int))) (64 : Int))))) (256 : Int))) (8 : Int))) (1 : Int))) : HMail }))), V.int IntKind.i64 (RIn.at' (N.rFail (Prod.snd (N.rNum (Prod.snd (N.rNum (Prod.snd (N.rText (Prod.snd (N.rHead (Prod.snd (N.rText (Prod.snd (N.rText (Prod.snd (N.rNum q (8 : Int))) (16 : Int))) (64 : Int))))) (256 : Int))) (8 : Int))) (1 : Int))) (N.mailCheck { id := Prod.fst (N.rNum q (8 : Int)), shop := Prod.fst (N.rText (Prod.snd (N.rNum q (8 : Int))) (16 : Int)), key := Prod.fst (N.rText (Prod.snd (N.rText (Prod.snd (N.rNum q (8 : Int))) (16 : Int))) (64 : Int)), head := List.map (fun r => { key := V.toStr (List.getD r (0 : Nat) V.undef), kind := V.toInt (List.getD r (1 : Nat) V.undef), num := V.toInt (List.getD r (2 : Nat) V.undef), text := V.toStr (List.getD r (3 : Nat) V.undef) : HPair }) (List.map (fun p => [V.str (HPair.key p), V.int IntKind.u8 (HPair.kind p), V.int IntKind.i64 (HPair.num p), V.str (HPair.text p)]) (Prod.fst (N.rHead (Prod.snd (N.rText (Prod.snd (N.rText (Prod.snd (N.rNum q (8 : Int))) (16 : Int))) (64 : Int)))))), body := Prod.fst (N.rText (Prod.snd (N.rHead (Prod.snd (N.rText (Prod.snd (N.rText (Prod.snd (N.rNum q (8 : Int))) (16 : Int))) (64 : Int))))) (256 : Int)), due := Prod.fst (N.rNum (Prod.snd (N.rText (Prod.snd (N.rHead (Prod.snd (N.rText (Prod.snd (N.rText (Prod.snd (N.rNum q (8 : Int))) (16 : Int))) (64 : Int))))) (256 : Int))) (8 : Int)), hops := IntKind.wrap IntKind.u8 (Prod.fst (N.rNum (Prod.snd (N.rNum (Prod.snd (N.rText (Prod.snd (N.rHead (Prod.snd (N.rText (Prod.snd (N.rText (Prod.snd (N.rNum q (8 : Int))) (16 : Int))) (64 : Int))))) (256 : Int))) (8 : Int))) (1 : Int))) : HMail }))), V.int IntKind.i64 (RIn.code (N.rFail (Prod.snd (N.rNum (Prod.snd (N.rNum (Prod.snd (N.rText (Prod.snd (N.rHead (Prod.snd (N.rText (Prod.snd (N.rText (Prod.snd (N.rNum q (8 : Int))) (16 : Int))) (64 : Int))))) (256 : Int))) (8 : Int))) (1 : Int))) (N.mailCheck { id := Prod.fst (N.rNum q (8 : Int)), shop := Prod.fst (N.rText (Prod.snd (N.rNum q (8 : Int))) (16 : Int)), key := Prod.fst (N.rText (Prod.snd (N.rText (Prod.snd (N.rNum q (8 : Int))) (16 : Int))) (64 : Int)), head := List.map (fun r => { key := V.toStr (List.getD r (0 : Nat) V.undef), kind := V.toInt (List.getD r (1 : Nat) V.undef), num := V.toInt (List.getD r (2 : Nat) V.undef), text := V.toStr (List.getD r (3 : Nat) V.undef) : HPair }) (List.map (fun p => [V.str (HPair.key p), V.int IntKind.u8 (HPair.kind p), V.int IntKind.i64 (HPair.num p), V.str (HPair.text p)]) (Prod.fst (N.rHead (Prod.snd (N.rText (Prod.snd (N.rText (Prod.snd (N.rNum q (8 : Int))) (16 : Int))) (64 : Int)))))), body := Prod.fst (N.rText (Prod.snd (N.rHead (Prod.snd (N.rText (Prod.snd (N.rText (Prod.snd (N.rNum q (8 : Int))) (16 : Int))) (64 : Int))))) (256 : Int)), due := Prod.fst (N.rNum (Prod.snd (N.rText (Prod.snd (N.rHead (Prod.snd (N.rText (Prod.snd (N.rText (Prod.snd (N.rNum q (8 : Int))) (16 : Int))) (64 : Int))))) (256 : Int))) (8 : Int)), hops := IntKind.wrap IntKind.u8 (Prod.fst (N.rNum (Prod.snd (N.rNum (Prod.snd (N.rText (Prod.snd (N.rHead (Prod.snd (N.rText (Prod.snd (N.rText (Prod.snd (N.rNum q (8 : Int))) (16 : Int))) (64 : Int))))) (256 : Int))) (8 : Int))) (1 : Int))) : HMail })))]] : DRes }) (some { v := V.agg [V.int IntKind.u64 (Prod.fst (N.rNum q (8 : Int))), V.str (Prod.fst (N.rText (Prod.snd (N.rNum q (8 : Int))) (16 : Int))), V.str (Prod.fst (N.rText (Prod.snd (N.rText (Prod.snd (N.rNum q (8 : Int))) (16 : Int))) (64 : Int))), V.slc [Sh.str, Sh.int IntKind.u8, Sh.int IntKind.i64, Sh.str] (List.map (fun p => [V.str (HPair.key p), V.int IntKind.u8 (HPair.kind p), V.int IntKind.i64 (HPair.num p), V.str (HPair.text p)]) (Prod.fst (N.rHead (Prod.snd (N.rText (Prod.snd (N.rText (Prod.snd (N.rNum q (8 : Int))) (16 : Int))) (64 : Int)))))), V.str (Prod.fst (N.rText (Prod.snd (N.rHead (Prod.snd (N.rText (Prod.snd (N.rText (Prod.snd (N.rNum q (8 : Int))) (16 : Int))) (64 : Int))))) (256 : Int))), V.int IntKind.u64 (Prod.fst (N.rNum (Prod.snd (N.rText (Prod.snd (N.rHead (Prod.snd (N.rText (Prod.snd (N.rText (Prod.snd (N.rNum q (8 : Int))) (16 : Int))) (64 : Int))))) (256 : Int))) (8 : Int))), V.int IntKind.u8 (IntKind.wrap IntKind.u8 (Prod.fst (N.rNum (Prod.snd (N.rNum (Prod.snd (N.rText (Prod.snd (N.rHead (Prod.snd (N.rText (Prod.snd (N.rText (Prod.snd (N.rNum q (8 : Int))) (16 : Int))) (64 : Int))))) (256 : Int))) (8 : Int))) (1 : Int))))], bx := [[V.str (RIn.s (N.rFail (Prod.snd (N.rNum (Prod.snd (N.rNum (Prod.snd (N.rText (Prod.snd (N.rHead (Prod.snd (N.rText (Prod.snd (N.rText (Prod.snd (N.rNum q (8 : Int))) (16 : Int))) (64 : Int))))) (256 : Int))) (8 : Int))) (1 : Int))) (N.mailCheck { id := Prod.fst (N.rNum q (8 : Int)), shop := Prod.fst (N.rText (Prod.snd (N.rNum q (8 : Int))) (16 : Int)), key := Prod.fst (N.rText (Prod.snd (N.rText (Prod.snd (N.rNum q (8 : Int))) (16 : Int))) (64 : Int)), head := List.map (fun r => { key := V.toStr (List.getD r (0 : Nat) V.undef), kind := V.toInt (List.getD r (1 : Nat) V.undef), num := V.toInt (List.getD r (2 : Nat) V.undef), text := V.toStr (List.getD r (3 : Nat) V.undef) : HPair }) (List.map (fun p => [V.str (HPair.key p), V.int IntKind.u8 (HPair.kind p), V.int IntKind.i64 (HPair.num p), V.str (HPair.text p)]) (Prod.fst (N.rHead (Prod.snd (N.rText (Prod.snd (N.rText (Prod.snd (N.rNum q (8 : Int))) (16 : Int))) (64 : Int)))))), body := Prod.fst (N.rText (Prod.snd (N.rHead (Prod.snd (N.rText (Prod.snd (N.rText (Prod.snd (N.rNum q (8 : Int))) (16 : Int))) (64 : Int))))) (256 : Int)), due := Prod.fst (N.rNum (Prod.snd (N.rText (Prod.snd (N.rHead (Prod.snd (N.rText (Prod.snd (N.rText (Prod.snd (N.rNum q (8 : Int))) (16 : Int))) (64 : Int))))) (256 : Int))) (8 : Int)), hops := IntKind.wrap IntKind.u8 (Prod.fst (N.rNum (Prod.snd (N.rNum (Prod.snd (N.rText (Prod.snd (N.rHead (Prod.snd (N.rText (Prod.snd (N.rText (Prod.snd (N.rNum q (8 : Int))) (16 : Int))) (64 : Int))))) (256 : Int))) (8 : Int))) (1 : Int))) : HMail }))), V.int IntKind.i64 (RIn.at' (N.rFail (Prod.snd (N.rNum (Prod.snd (N.rNum (Prod.snd (N.rText (Prod.snd (N.rHead (Prod.snd (N.rText (Prod.snd (N.rText (Prod.snd (N.rNum q (8 : Int))) (16 : Int))) (64 : Int))))) (256 : Int))) (8 : Int))) (1 : Int))) (N.mailCheck { id := Prod.fst (N.rNum q (8 : Int)), shop := Prod.fst (N.rText (Prod.snd (N.rNum q (8 : Int))) (16 : Int)), key := Prod.fst (N.rText (Prod.snd (N.rText (Prod.snd (N.rNum q (8 : Int))) (16 : Int))) (64 : Int)), head := List.map (fun r => { key := V.toStr (List.getD r (0 : Nat) V.undef), kind := V.toInt (List.getD r (1 : Nat) V.undef), num := V.toInt (List.getD r (2 : Nat) V.undef), text := V.toStr (List.getD r (3 : Nat) V.undef) : HPair }) (List.map (fun p => [V.str (HPair.key p), V.int IntKind.u8 (HPair.kind p), V.int IntKind.i64 (HPair.num p), V.str (HPair.text p)]) (Prod.fst (N.rHead (Prod.snd (N.rText (Prod.snd (N.rText (Prod.snd (N.rNum q (8 : Int))) (16 : Int))) (64 : Int)))))), body := Prod.fst (N.rText (Prod.snd (N.rHead (Prod.snd (N.rText (Prod.snd (N.rText (Prod.snd (N.rNum q (8 : Int))) (16 : Int))) (64 : Int))))) (256 : Int)), due := Prod.fst (N.rNum (Prod.snd (N.rText (Prod.snd (N.rHead (Prod.snd (N.rText (Prod.snd (N.rText (Prod.snd (N.rNum q (8 : Int))) (16 : Int))) (64 : Int))))) (256 : Int))) (8 : Int)), hops := IntKind.wrap IntKind.u8 (Prod.fst (N.rNum (Prod.snd (N.rNum (Prod.snd (N.rText (Prod.snd (N.rHead (Prod.snd (N.rText (Prod.snd (N.rText (Prod.snd (N.rNum q (8 : Int))) (16 : Int))) (64 : Int))))) (256 : Int))) (8 : Int))) (1 : Int))) : HMail }))), V.int IntKind.i64 (RIn.code (N.rFail (Prod.snd (N.rNum (Prod.snd (N.rNum (Prod.snd (N.rText (Prod.snd (N.rHead (Prod.snd (N.rText (Prod.snd (N.rText (Prod.snd (N.rNum q (8 : Int))) (16 : Int))) (64 : Int))))) (256 : Int))) (8 : Int))) (1 : Int))) (N.mailCheck { id := Prod.fst (N.rNum q (8 : Int)), shop := Prod.fst (N.rText (Prod.snd (N.rNum q (8 : Int))) (16 : Int)), key := Prod.fst (N.rText (Prod.snd (N.rText (Prod.snd (N.rNum q (8 : Int))) (16 : Int))) (64 : Int)), head := List.map (fun r => { key := V.toStr (List.getD r (0 : Nat) V.undef), kind := V.toInt (List.getD r (1 : Nat) V.undef), num := V.toInt (List.getD r (2 : Nat) V.undef), text := V.toStr (List.getD r (3 : Nat) V.undef) : HPair }) (List.map (fun p => [V.str (HPair.key p), V.int IntKind.u8 (HPair.kind p), V.int IntKind.i64 (HPair.num p), V.str (HPair.text p)]) (Prod.fst (N.rHead (Prod.snd (N.rText (Prod.snd (N.rText (Prod.snd (N.rNum q (8 : Int))) (16 : Int))) (64 : Int)))))), body := Prod.fst (N.rText (Prod.snd (N.rHead (Prod.snd (N.rText (Prod.snd (N.rText (Prod.snd (N.rNum q (8 : Int))) (16 : Int))) (64 : Int))))) (256 : Int)), due := Prod.fst (N.rNum (Prod.snd (N.rText (Prod.snd (N.rHead (Prod.snd (N.rText (Prod.snd (N.rText (Prod.snd (N.rNum q (8 : Int))) (16 : Int))) (64 : Int))))) (256 : Int))) (8 : Int)), hops := IntKind.wrap IntKind.u8 (Prod.fst (N.rNum (Prod.snd (N.rNum (Prod.snd (N.rText (Prod.snd (N.rHead (Prod.snd (N.rText (Prod.snd (N.rText (Prod.snd (N.rNum q (8 : Int))) (16 : Int))) (64 : Int))))) (256 : Int))) (8 : Int))) (1 : Int))) : HMail })))]] : DRes })) (cond (RIn.code (Prod.snd (N.rNum (Prod.snd (N.rNum (Prod.snd (N.rText (Prod.snd (N.rHead (Prod.snd (N.rText (Prod.snd (N.rText (Prod.snd (N.rNum q (8 : Int))) (16 : Int))) (64 : Int))))) (256 : Int))) (8 : Int))) (1 : Int))) != (0 : Int)) (some { v := V.agg [V.int IntKind.u64 (0 : Int), V.str [], V.str [], V.slc [Sh.str, Sh.int IntKind.u8, Sh.int IntKind.i64, Sh.str] [], V.str [], V.int IntKind.u64 (0 : Int), V.int IntKind.u8 (0 : Int)], bx := [[V.str (RIn.s (Prod.snd (N.rNum (Prod.snd (N.rNum (Prod.snd (N.rText (Prod.snd (N.rHead (Prod.snd (N.rText (Prod.snd (N.rText (Prod.snd (N.rNum q (8 : Int))) (16 : Int))) (64 : Int))))) (256 : Int))) (8 : Int))) (1 : Int)))), V.int IntKind.i64 (RIn.at' (Prod.snd (N.rNum (Prod.snd (N.rNum (Prod.snd (N.rText (Prod.snd (N.rHead (Prod.snd (N.rText (Prod.snd (N.rText (Prod.snd (N.rNum q (8 : Int))) (16 : Int))) (64 : Int))))) (256 : Int))) (8 : Int))) (1 : Int)))), V.int IntKind.i64 (RIn.code (Prod.snd (N.rNum (Prod.snd (N.rNum (Prod.snd (N.rText (Prod.snd (N.rHead (Prod.snd (N.rText (Prod.snd (N.rText (Prod.snd (N.rNum q (8 : Int))) (16 : Int))) (64 : Int))))) (256 : Int))) (8 : Int))) (1 : Int))))]] : DRes }) (some { v := V.agg [V.int IntKind.u64 (Prod.fst (N.rNum q (8 : Int))), V.str (Prod.fst (N.rText (Prod.snd (N.rNum q (8 : Int))) (16 : Int))), V.str (Prod.fst (N.rText (Prod.snd (N.rText (Prod.snd (N.rNum q (8 : Int))) (16 : Int))) (64 : Int))), V.slc [Sh.str, Sh.int IntKind.u8, Sh.int IntKind.i64, Sh.str] (List.map (fun p => [V.str (HPair.key p), V.int IntKind.u8 (HPair.kind p), V.int IntKind.i64 (HPair.num p), V.str (HPair.text p)]) (Prod.fst (N.rHead (Prod.snd (N.rText (Prod.snd (N.rText (Prod.snd (N.rNum q (8 : Int))) (16 : Int))) (64 : Int)))))), V.str (Prod.fst (N.rText (Prod.snd (N.rHead (Prod.snd (N.rText (Prod.snd (N.rText (Prod.snd (N.rNum q (8 : Int))) (16 : Int))) (64 : Int))))) (256 : Int))), V.int IntKind.u64 (Prod.fst (N.rNum (Prod.snd (N.rText (Prod.snd (N.rHead (Prod.snd (N.rText (Prod.snd (N.rText (Prod.snd (N.rNum q (8 : Int))) (16 : Int))) (64 : Int))))) (256 : Int))) (8 : Int))), V.int IntKind.u8 (IntKind.wrap IntKind.u8 (Prod.fst (N.rNum (Prod.snd (N.rNum (Prod.snd (N.rText (Prod.snd (N.rHead (Prod.snd (N.rText (Prod.snd (N.rText (Prod.snd (N.rNum q (8 : Int))) (16 : Int))) (64 : Int))))) (256 : Int))) (8 : Int))) (1 : Int))))], bx := [[V.str (RIn.s (Prod.snd (N.rNum (Prod.snd (N.rNum (Prod.snd (N.rText (Prod.snd (N.rHead (Prod.snd (N.rText (Prod.snd (N.rText (Prod.snd (N.rNum q (8 : Int))) (16 : Int))) (64 : Int))))) (256 : Int))) (8 : Int))) (1 : Int)))), V.int IntKind.i64 (RIn.at' (Prod.snd (N.rNum (Prod.snd (N.rNum (Prod.snd (N.rText (Prod.snd (N.rHead (Prod.snd (N.rText (Prod.snd (N.rText (Prod.snd (N.rNum q (8 : Int))) (16 : Int))) (64 : Int))))) (256 : Int))) (8 : Int))) (1 : Int)))), V.int IntKind.i64 (RIn.code (Prod.snd (N.rNum (Prod.snd (N.rNum (Prod.snd (N.rText (Prod.snd (N.rHead (Prod.snd (N.rText (Prod.snd (N.rText (Prod.snd (N.rNum q (8 : Int))) (16 : Int))) (64 : Int))))) (256 : Int))) (8 : Int))) (1 : Int))))]] : DRes }))) (none)) (none)) (none)) (none)) (none)) (none)) (none) := by kernel_rfl
theorem ok_mailRead : FnOk Tryz.prog 28 dMailRead := by
  refine den_okF (env_ok (((((((TOk.nil _).cons ok_mailCheck).cons ok_fail).cons ok_inErr).cons ok_headRead).cons ok_inText).cons ok_num)) (E := eMailRead) Tryz.func28 [] (by kernel_rfl) none0 fun _ i _ => ?_
  refine (q_mailRead i).trans ?_
  show _ = some (⟨.agg (cMail.enc (N.mailRead i).1), [cIn.enc (N.mailRead i).2], []⟩ : DRes)
  simp only [nrm_rows]
  unfold N.mailRead
  dsimp only
  generalize N.inNum i 8 = a
  generalize N.inText a.2 16 = b
  generalize N.inText b.2 64 = c
  generalize N.headRead c.2 = d
  generalize N.inText d.2 256 = e
  generalize N.inNum e.2 8 = f
  generalize N.inNum f.2 1 = g
  unfold N.mailEnd
  cases h1 : g.2.err == 0 with
  | true =>
    simp only [cond_true]
    generalize N.inFail g.2 _ = z
    cases z.err != 0 <;> rfl
  | false =>
    simp only [cond_false]
    cases g.2.err != 0 <;> rfl
theorem ok_rMail : FnOk Tryz.prog 31 dRMail := by
  refine den_okF (env_ok ((((((TOk.nil _).cons ok_refMailCheck).cons ok_rFail).cons ok_rHead).cons ok_rText).cons ok_rNum)) (E := eRMail) Tryz.func31 [] (by kernel_rfl) none0 fun _ q h => ?_
  refine (q_rMail q).trans ?_
  show _ = some (⟨.agg (cMail.enc (N.rMail q).1), [cRIn.enc (N.rMail q).2], []⟩ : DRes)
  have h : N.goodR q = true := h
  have g1 := good_num h 8
  have g2 := good_text g1 16
  have g3 := good_text g2 64
  have g4 := rl_good (rl_read (good_rl g3).1).2 (good_rl g3).2
  have g5 := good_text g4 256
  have g6 := good_num g5 8
  have g7 := good_num g6 1
  simp only [nrm_rows]
  unfold N.rMail
  dsimp only
  generalize N.rNum q 8 = a at *
  generalize N.rText a.2 16 = b at *
  generalize N.rText b.2 64 = c at *
  generalize N.rHead c.2 = d at *
  generalize N.rText d.2 256 = e at *
  generalize N.rNum e.2 8 = f at *
  generalize N.rNum f.2 1 = g at *
  rw [h, g1, g2, g3, g4, g5, g6]
  simp only [cond_true]
  unfold N.rMailEnd
  cases h1 : g.2.code == 0 with
  | true =>
    simp only [cond_true]
    generalize N.rFail g.2 _ = z
    cases z.code != 0 <;> rfl
  | false =>
    simp only [cond_false]
    cases g.2.code != 0 <;> rfl
theorem raw_le (x s : Bytes) : N.outRaw ⟨x, 0⟩ s = ⟨x ++ s, 0⟩ := rfl
noncomputable def eMailBytes : Env := env Tryz.prog [(36, dMailCheck), (71, dHeadBytes), (44, dOutNum), (72, dOutText), (46, dOutRaw), (47, dOutString)] [] []
theorem q_mailBytes (m : HMail) : evFn eMailBytes 45 ((aOne (vAgg cMail)).enc m) ([]) some =
 cond (N.mailCheck { id := HMail.id m, shop := HMail.shop m, key := HMail.key m, head := List.map (fun r => { key := V.toStr (List.getD r (0 : Nat) V.undef), kind := V.toInt (List.getD r (1 : Nat) V.undef), num := V.toInt (List.getD r (2 : Nat) V.undef), text := V.toStr (List.getD r (3 : Nat) V.undef) : HPair }) (List.map (fun p => [V.str (HPair.key p), V.int IntKind.u8 (HPair.kind p), V.int IntKind.i64 (HPair.num p), V.str (HPair.text p)]) (HMail.head m)), body := HMail.body m, due := HMail.due m, hops := HMail.hops m : HMail } != (0 : Int)) (some { v := V.tup [V.str [], V.int IntKind.i64 (N.mailCheck { id := HMail.id m, shop := HMail.shop m, key := HMail.key m, head := List.map (fun r => { key := V.toStr (List.getD r (0 : Nat) V.undef), kind := V.toInt (List.getD r (1 : Nat) V.undef), num := V.toInt (List.getD r (2 : Nat) V.undef), text := V.toStr (List.getD r (3 : Nat) V.undef) : HPair }) (List.map (fun p => [V.str (HPair.key p), V.int IntKind.u8 (HPair.kind p), V.int IntKind.i64 (HPair.num p), V.str (HPair.text p)]) (HMail.head m)), body := HMail.body m, due := HMail.due m, hops := HMail.hops m : HMail })], bx := [] : DRes }) (cond (bif ile (0 : Int) (HMail.id m) then bif ilt (HMail.id m) (18446744073709551616 : Int) then true else false else false) (cond (Nat.ble ((8 : Nat) + List.length (HMail.shop m)) (9223372036854775790 : Nat)) (cond (Nat.ble (List.length (OutS.s (N.outText (N.outNum { s := [], err := (0 : Int) : OutS } (HMail.id m) (8 : Int)) (HMail.shop m))) + List.length (HMail.key m)) (9223372036854775790 : Nat)) (cond (Nat.ble (List.length (OutS.s (N.outText (N.outText (N.outNum { s := [], err := (0 : Int) : OutS } (HMail.id m) (8 : Int)) (HMail.shop m)) (HMail.key m))) + List.length (Prod.fst (bif N.headCheck (List.map (fun r => { key := V.toStr (List.getD r (0 : Nat) V.undef), kind := V.toInt (List.getD r (1 : Nat) V.undef), num := V.toInt (List.getD r (2 : Nat) V.undef), text := V.toStr (List.getD r (3 : Nat) V.undef) : HPair }) (List.map (fun p => [V.str (HPair.key p), V.int IntKind.u8 (HPair.kind p), V.int IntKind.i64 (HPair.num p), V.str (HPair.text p)]) (HMail.head m))) != (0 : Int) then ([], N.headCheck (List.map (fun r => { key := V.toStr (List.getD r (0 : Nat) V.undef), kind := V.toInt (List.getD r (1 : Nat) V.undef), num := V.toInt (List.getD r (2 : Nat) V.undef), text := V.toStr (List.getD r (3 : Nat) V.undef) : HPair }) (List.map (fun p => [V.str (HPair.key p), V.int IntKind.u8 (HPair.kind p), V.int IntKind.i64 (HPair.num p), V.str (HPair.text p)]) (HMail.head m)))) else (N.headBytes (List.map (fun r => { key := V.toStr (List.getD r (0 : Nat) V.undef), kind := V.toInt (List.getD r (1 : Nat) V.undef), num := V.toInt (List.getD r (2 : Nat) V.undef), text := V.toStr (List.getD r (3 : Nat) V.undef) : HPair }) (List.map (fun p => [V.str (HPair.key p), V.int IntKind.u8 (HPair.kind p), V.int IntKind.i64 (HPair.num p), V.str (HPair.text p)]) (HMail.head m))), (0 : Int))))) (9223372036854775807 : Nat)) (cond (Nat.ble (List.length (OutS.s (N.outRaw (N.outText (N.outText (N.outNum { s := [], err := (0 : Int) : OutS } (HMail.id m) (8 : Int)) (HMail.shop m)) (HMail.key m)) (Prod.fst (bif N.headCheck (List.map (fun r => { key := V.toStr (List.getD r (0 : Nat) V.undef), kind := V.toInt (List.getD r (1 : Nat) V.undef), num := V.toInt (List.getD r (2 : Nat) V.undef), text := V.toStr (List.getD r (3 : Nat) V.undef) : HPair }) (List.map (fun p => [V.str (HPair.key p), V.int IntKind.u8 (HPair.kind p), V.int IntKind.i64 (HPair.num p), V.str (HPair.text p)]) (HMail.head m))) != (0 : Int) then ([], N.headCheck (List.map (fun r => { key := V.toStr (List.getD r (0 : Nat) V.undef), kind := V.toInt (List.getD r (1 : Nat) V.undef), num := V.toInt (List.getD r (2 : Nat) V.undef), text := V.toStr (List.getD r (3 : Nat) V.undef) : HPair }) (List.map (fun p => [V.str (HPair.key p), V.int IntKind.u8 (HPair.kind p), V.int IntKind.i64 (HPair.num p), V.str (HPair.text p)]) (HMail.head m)))) else (N.headBytes (List.map (fun r => { key := V.toStr (List.getD r (0 : Nat) V.undef), kind := V.toInt (List.getD r (1 : Nat) V.undef), num := V.toInt (List.getD r (2 : Nat) V.undef), text := V.toStr (List.getD r (3 : Nat) V.undef) : HPair }) (List.map (fun p => [V.str (HPair.key p), V.int IntKind.u8 (HPair.kind p), V.int IntKind.i64 (HPair.num p), V.str (HPair.text p)]) (HMail.head m))), (0 : Int)))))) + List.length (HMail.body m)) (9223372036854775790 : Nat)) (cond (bif ile (0 : Int) (HMail.due m) then bif ilt (HMail.due m) (18446744073709551616 : Int) then Nat.ble (List.length (OutS.s (N.outText (N.outRaw (N.outText (N.outText (N.outNum { s := [], err := (0 : Int) : OutS } (HMail.id m) (8 : Int)) (HMail.shop m)) (HMail.key m)) (Prod.fst (bif N.headCheck (List.map (fun r => { key := V.toStr (List.getD r (0 : Nat) V.undef), kind := V.toInt (List.getD r (1 : Nat) V.undef), num := V.toInt (List.getD r (2 : Nat) V.undef), text := V.toStr (List.getD r (3 : Nat) V.undef) : HPair }) (List.map (fun p => [V.str (HPair.key p), V.int IntKind.u8 (HPair.kind p), V.int IntKind.i64 (HPair.num p), V.str (HPair.text p)]) (HMail.head m))) != (0 : Int) then ([], N.headCheck (List.map (fun r => { key := V.toStr (List.getD r (0 : Nat) V.undef), kind := V.toInt (List.getD r (1 : Nat) V.undef), num := V.toInt (List.getD r (2 : Nat) V.undef), text := V.toStr (List.getD r (3 : Nat) V.undef) : HPair }) (List.map (fun p => [V.str (HPair.key p), V.int IntKind.u8 (HPair.kind p), V.int IntKind.i64 (HPair.num p), V.str (HPair.text p)]) (HMail.head m)))) else (N.headBytes (List.map (fun r => { key := V.toStr (List.getD r (0 : Nat) V.undef), kind := V.toInt (List.getD r (1 : Nat) V.undef), num := V.toInt (List.getD r (2 : Nat) V.undef), text := V.toStr (List.getD r (3 : Nat) V.undef) : HPair }) (List.map (fun p => [V.str (HPair.key p), V.int IntKind.u8 (HPair.kind p), V.int IntKind.i64 (HPair.num p), V.str (HPair.text p)]) (HMail.head m))), (0 : Int))))) (HMail.body m)))) (9223372036854775799 : Nat) else false else false) (cond (bif ile (0 : Int) (IntKind.wrap IntKind.u64 (HMail.hops m)) then bif ilt (IntKind.wrap IntKind.u64 (HMail.hops m)) (18446744073709551616 : Int) then Nat.ble (List.length (OutS.s (N.outNum (N.outText (N.outRaw (N.outText (N.outText (N.outNum { s := [], err := (0 : Int) : OutS } (HMail.id m) (8 : Int)) (HMail.shop m)) (HMail.key m)) (Prod.fst (bif N.headCheck (List.map (fun r => { key := V.toStr (List.getD r (0 : Nat) V.undef), kind := V.toInt (List.getD r (1 : Nat) V.undef), num := V.toInt (List.getD r (2 : Nat) V.undef), text := V.toStr (List.getD r (3 : Nat) V.undef) : HPair }) (List.map (fun p => [V.str (HPair.key p), V.int IntKind.u8 (HPair.kind p), V.int IntKind.i64 (HPair.num p), V.str (HPair.text p)]) (HMail.head m))) != (0 : Int) then ([], N.headCheck (List.map (fun r => { key := V.toStr (List.getD r (0 : Nat) V.undef), kind := V.toInt (List.getD r (1 : Nat) V.undef), num := V.toInt (List.getD r (2 : Nat) V.undef), text := V.toStr (List.getD r (3 : Nat) V.undef) : HPair }) (List.map (fun p => [V.str (HPair.key p), V.int IntKind.u8 (HPair.kind p), V.int IntKind.i64 (HPair.num p), V.str (HPair.text p)]) (HMail.head m)))) else (N.headBytes (List.map (fun r => { key := V.toStr (List.getD r (0 : Nat) V.undef), kind := V.toInt (List.getD r (1 : Nat) V.undef), num := V.toInt (List.getD r (2 : Nat) V.undef), text := V.toStr (List.getD r (3 : Nat) V.undef) : HPair }) (List.map (fun p => [V.str (HPair.key p), V.int IntKind.u8 (HPair.kind p), V.int IntKind.i64 (HPair.num p), V.str (HPair.text p)]) (HMail.head m))), (0 : Int))))) (HMail.body m)) (HMail.due m) (8 : Int)))) (9223372036854775799 : Nat) else false else false) (some { v := V.tup [V.str (OutS.s (N.outNum (N.outNum (N.outText (N.outRaw (N.outText (N.outText (N.outNum { s := [], err := (0 : Int) : OutS } (HMail.id m) (8 : Int)) (HMail.shop m)) (HMail.key m)) (Prod.fst (bif N.headCheck (List.map (fun r => { key := V.toStr (List.getD r (0 : Nat) V.undef), kind := V.toInt (List.getD r (1 : Nat) V.undef), num := V.toInt (List.getD r (2 : Nat) V.undef), text := V.toStr (List.getD r (3 : Nat) V.undef) : HPair }) (List.map (fun p => [V.str (HPair.key p), V.int IntKind.u8 (HPair.kind p), V.int IntKind.i64 (HPair.num p), V.str (HPair.text p)]) (HMail.head m))) != (0 : Int) then ([], N.headCheck (List.map (fun r => { key := V.toStr (List.getD r (0 : Nat) V.undef), kind := V.toInt (List.getD r (1 : Nat) V.undef), num := V.toInt (List.getD r (2 : Nat) V.undef), text := V.toStr (List.getD r (3 : Nat) V.undef) : HPair }) (List.map (fun p => [V.str (HPair.key p), V.int IntKind.u8 (HPair.kind p), V.int IntKind.i64 (HPair.num p), V.str (HPair.text p)]) (HMail.head m)))) else (N.headBytes (List.map (fun r => { key := V.toStr (List.getD r (0 : Nat) V.undef), kind := V.toInt (List.getD r (1 : Nat) V.undef), num := V.toInt (List.getD r (2 : Nat) V.undef), text := V.toStr (List.getD r (3 : Nat) V.undef) : HPair }) (List.map (fun p => [V.str (HPair.key p), V.int IntKind.u8 (HPair.kind p), V.int IntKind.i64 (HPair.num p), V.str (HPair.text p)]) (HMail.head m))), (0 : Int))))) (HMail.body m)) (HMail.due m) (8 : Int)) (IntKind.wrap IntKind.u64 (HMail.hops m)) (1 : Int))), V.int IntKind.i64 (0 : Int)], bx := [] : DRes }) (none)) (none)) (none)) (none)) (none)) (none)) (none)) := by kernel_rfl
theorem mailCheck_fit {m : HMail} (h : N.mailCheck m = 0) : m.shop.length ≤ 16 ∧ m.key.length ≤ 64 ∧ N.headCheck m.head = 0 ∧ m.body.length ≤ 256 ∧ m.hops ≤ 4 ∧ N.name m.shop = 0 ∧ N.key m.key [] = 0 := by
  unfold N.mailCheck at h
  have key : ∀ x y : Int, cond (x != 0) x y = 0 → x = 0 ∧ y = 0 := fun x y h => by
    cases e : x != 0 with
    | true => rw [e, cond_true] at h; rw [h] at e; cases e
    | false => rw [e, cond_false] at h; exact ⟨by simpa using e, h⟩
  obtain ⟨h1, h⟩ := key _ _ h
  obtain ⟨h2, h⟩ := key _ _ h
  obtain ⟨h3, h⟩ := key _ _ h
  cases h4 : ilt 256 (m.body.length : Int) with
  | true => rw [h4] at h; cases h
  | false =>
    rw [h4] at h
    cases h5 : ilt 4 m.hops with
    | true => rw [h5] at h; cases h
    | false =>
      have a4 := ilt_nof h4
      have a5 := ilt_nof h5
      have a1 : m.shop.length ≤ 16 := by
        unfold N.name at h1
        cases e1 : m.shop == [] with
        | true => rw [e1] at h1; cases h1
        | false =>
          rw [e1] at h1
          cases e2 : ilt 16 m.shop.length with
          | true => rw [e2] at h1; cases h1
          | false => have := ilt_nof e2; omega
      have a2 : m.key.length ≤ 64 := by
        rw [key_eq] at h2
        exact refKey_len (b := false) (by rw [h2]; rfl)
      exact ⟨a1, a2, h3, by omega, a5, h1, h2⟩
theorem pairsB_len : ∀ {l : List HPair}, l.all N.fitP = true → (N.pairsB l).length ≤ 150 * l.length
  | [], _ => Nat.le_refl _
  | p :: r, h => by
    rw [List.all_cons, Bool.and_eq_true] at h
    have ih := pairsB_len h.2
    obtain ⟨f1, f2⟩ := bcond h.1
    have f1 := ble_of f1
    have f2 := ble_of f2
    have hlen : (N.pairB p).length ≤ 150 := by
      unfold N.pairB
      simp only [List.length_append, textB_len, numB_len]
      cases p.kind == 0 <;> cases p.kind == 1 <;> cases p.kind == 2 <;> simp only [cond_true, cond_false, numB_len, textB_len, List.length_nil] <;> omega
    show (N.pairB p ++ N.pairsB r).length ≤ _
    rw [List.length_append, List.length_cons]; omega
theorem headB_len {h : List HPair} (hz : N.headCheck h = 0) : (N.headBytes h).length ≤ 1201 := by
  obtain ⟨c1, c2⟩ := check_fit hz
  have := pairsB_len c2
  unfold N.headBytes
  rw [List.length_append, numB_len]; omega
theorem ok_mailBytes (hN : FnOk Tryz.prog 44 dOutNum) : FnOk Tryz.prog 45 dMailBytes := by
  refine den_okF (env_ok (((((((TOk.nil _).cons ok_outString).cons ok_outRaw).cons (ok_outText hN)).cons hN).cons (ok_headBytes hN)).cons ok_mailCheck)) (E := eMailBytes) Tryz.func45 [] (by kernel_rfl) none0 fun m _ h => ?_
  obtain ⟨id, shop, key, head, body, due, hops⟩ := m
  obtain ⟨b1, h⟩ := bcond h
  obtain ⟨b2, h⟩ := bcond h
  obtain ⟨i1, i2⟩ := bcond b1
  obtain ⟨i3, i4⟩ := bcond b2
  obtain ⟨i5, i6⟩ := bcond h
  simp only at i1 i2 i3 i4 i5 i6
  refine (q_mailBytes ⟨id, shop, key, head, body, due, hops⟩).trans ?_
  simp only [nrm_rows]
  show _ = some (⟨.tup [.str (cond (N.mailCheck ⟨id, shop, key, head, body, due, hops⟩ != 0) (([] : Bytes), N.mailCheck ⟨id, shop, key, head, body, due, hops⟩) (N.mailB ⟨id, shop, key, head, body, due, hops⟩, 0)).1,
    .int .i64 (cond (N.mailCheck ⟨id, shop, key, head, body, due, hops⟩ != 0) (([] : Bytes), N.mailCheck ⟨id, shop, key, head, body, due, hops⟩) (N.mailB ⟨id, shop, key, head, body, due, hops⟩, 0)).2], [], []⟩ : DRes)
  cases hc : N.mailCheck ⟨id, shop, key, head, body, due, hops⟩ != 0 with
  | true => rfl
  | false =>
    have hz : N.mailCheck ⟨id, shop, key, head, body, due, hops⟩ = 0 := by simpa using hc
    obtain ⟨c1, c2, c3, c4, c5, _⟩ := mailCheck_fit hz
    simp only at c1 c2 c3 c4 c5
    have hl := headB_len c3
    have wh : IntKind.wrap .u64 hops = hops := wrap_u64 (by have := ile_of i5; omega) (by omega)
    have i5' := ile_of i5
    have hb : cond (N.headCheck head != 0) (([] : Bytes), N.headCheck head) (N.headBytes head, 0) = (N.headBytes head, 0) := by rw [c3]; rfl
    have o1 : ∀ (x s : Bytes), s.length ≤ 65535 → N.outText ⟨x, 0⟩ s = ⟨x ++ N.textB s, 0⟩ := fun x s hs => outText_le hs
    unfold N.mailB
    simp only
    simp (disch := omega) only [evs, raw_le, i1, i2, i3, i4, o1, outNum_8, outNum_1, numB_len, textB_len, wh, List.nil_append]
noncomputable def eMailSize : Env := env Tryz.prog [(45, dMailBytes)] [] []
theorem q_mailSize (m : HMail) : evFn eMailSize 58 ((aOne (vAgg cMail)).enc m) ([]) some =
 cond (N.okM { id := HMail.id m, shop := HMail.shop m, key := HMail.key m, head := List.map (fun r => { key := V.toStr (List.getD r (0 : Nat) V.undef), kind := V.toInt (List.getD r (1 : Nat) V.undef), num := V.toInt (List.getD r (2 : Nat) V.undef), text := V.toStr (List.getD r (3 : Nat) V.undef) : HPair }) (List.map (fun p => [V.str (HPair.key p), V.int IntKind.u8 (HPair.kind p), V.int IntKind.i64 (HPair.num p), V.str (HPair.text p)]) (HMail.head m)), body := HMail.body m, due := HMail.due m, hops := HMail.hops m : HMail }) (some { v := V.int IntKind.i64 (↑(List.length (Prod.fst (bif N.mailCheck { id := HMail.id m, shop := HMail.shop m, key := HMail.key m, head := List.map (fun r => { key := V.toStr (List.getD r (0 : Nat) V.undef), kind := V.toInt (List.getD r (1 : Nat) V.undef), num := V.toInt (List.getD r (2 : Nat) V.undef), text := V.toStr (List.getD r (3 : Nat) V.undef) : HPair }) (List.map (fun p => [V.str (HPair.key p), V.int IntKind.u8 (HPair.kind p), V.int IntKind.i64 (HPair.num p), V.str (HPair.text p)]) (HMail.head m)), body := HMail.body m, due := HMail.due m, hops := HMail.hops m : HMail } != (0 : Int) then ([], N.mailCheck { id := HMail.id m, shop := HMail.shop m, key := HMail.key m, head := List.map (fun r => { key := V.toStr (List.getD r (0 : Nat) V.undef), kind := V.toInt (List.getD r (1 : Nat) V.undef), num := V.toInt (List.getD r (2 : Nat) V.undef), text := V.toStr (List.getD r (3 : Nat) V.undef) : HPair }) (List.map (fun p => [V.str (HPair.key p), V.int IntKind.u8 (HPair.kind p), V.int IntKind.i64 (HPair.num p), V.str (HPair.text p)]) (HMail.head m)), body := HMail.body m, due := HMail.due m, hops := HMail.hops m : HMail }) else (N.mailB { id := HMail.id m, shop := HMail.shop m, key := HMail.key m, head := List.map (fun r => { key := V.toStr (List.getD r (0 : Nat) V.undef), kind := V.toInt (List.getD r (1 : Nat) V.undef), num := V.toInt (List.getD r (2 : Nat) V.undef), text := V.toStr (List.getD r (3 : Nat) V.undef) : HPair }) (List.map (fun p => [V.str (HPair.key p), V.int IntKind.u8 (HPair.kind p), V.int IntKind.i64 (HPair.num p), V.str (HPair.text p)]) (HMail.head m)), body := HMail.body m, due := HMail.due m, hops := HMail.hops m : HMail }, (0 : Int))))) : Int), bx := [] : DRes }) (none) := by kernel_rfl
def N.fitM (m : HMail) : Bool := cond (N.okM m) (cond (Nat.ble m.shop.length 64) (cond (Nat.ble m.key.length 64) (cond (cond (Nat.ble m.head.length 8) (m.head.all N.fitP) false) (Nat.ble m.body.length 256) false) false) false) false
def N.refMailB (m : HMail) : Bytes := N.numB m.id 8 ++ N.textB m.shop ++ N.textB m.key ++ N.refHeadBytes m.head ++ N.textB m.body ++ N.numB m.due 8 ++ N.numB (IntKind.wrap .u64 m.hops) 1
def dRefMailB : Den := den (aOne (vAgg cMail)) bNil (oV vStr) (fun m _ => N.fitM m) fun m _ => (N.refMailB m, ())
noncomputable def eRefMailB : Env := env Tryz.prog [(48, dRefNum 8), (73, dRefText), (74, dRefBytes)] [] []
theorem q_refMailB (m : HMail) : evFn eRefMailB 49 ((aOne (vAgg cMail)).enc m) ([]) some =
 cond (bif ile (0 : Int) (HMail.id m) then bif ilt (HMail.id m) (18446744073709551616 : Int) then N.fuelOk (8 : Nat) (8 : Int) else false else false) (cond (Nat.ble (List.length (HMail.shop m)) (65535 : Nat)) (cond (Nat.ble ((8 : Nat) + List.length (N.textB (HMail.shop m))) (9223372036854775807 : Nat)) (cond (Nat.ble (List.length (HMail.key m)) (65535 : Nat)) (cond (Nat.ble (List.length (N.numB (HMail.id m) (N.clamp (8 : Int)) ++ N.textB (HMail.shop m)) + List.length (N.textB (HMail.key m))) (9223372036854775807 : Nat)) (cond (bif Nat.ble (List.length (List.map (fun r => { key := V.toStr (List.getD r (0 : Nat) V.undef), kind := V.toInt (List.getD r (1 : Nat) V.undef), num := V.toInt (List.getD r (2 : Nat) V.undef), text := V.toStr (List.getD r (3 : Nat) V.undef) : HPair }) (List.map (fun p => [V.str (HPair.key p), V.int IntKind.u8 (HPair.kind p), V.int IntKind.i64 (HPair.num p), V.str (HPair.text p)]) (HMail.head m)))) (8 : Nat) then List.all (List.map (fun r => { key := V.toStr (List.getD r (0 : Nat) V.undef), kind := V.toInt (List.getD r (1 : Nat) V.undef), num := V.toInt (List.getD r (2 : Nat) V.undef), text := V.toStr (List.getD r (3 : Nat) V.undef) : HPair }) (List.map (fun p => [V.str (HPair.key p), V.int IntKind.u8 (HPair.kind p), V.int IntKind.i64 (HPair.num p), V.str (HPair.text p)]) (HMail.head m))) N.fitP else false) (cond (Nat.ble (List.length (N.numB (HMail.id m) (N.clamp (8 : Int)) ++ N.textB (HMail.shop m) ++ N.textB (HMail.key m)) + List.length (N.refHeadBytes (List.map (fun r => { key := V.toStr (List.getD r (0 : Nat) V.undef), kind := V.toInt (List.getD r (1 : Nat) V.undef), num := V.toInt (List.getD r (2 : Nat) V.undef), text := V.toStr (List.getD r (3 : Nat) V.undef) : HPair }) (List.map (fun p => [V.str (HPair.key p), V.int IntKind.u8 (HPair.kind p), V.int IntKind.i64 (HPair.num p), V.str (HPair.text p)]) (HMail.head m))))) (9223372036854775807 : Nat)) (cond (Nat.ble (List.length (HMail.body m)) (65535 : Nat)) (cond (Nat.ble (List.length (N.numB (HMail.id m) (N.clamp (8 : Int)) ++ N.textB (HMail.shop m) ++ N.textB (HMail.key m) ++ N.refHeadBytes (List.map (fun r => { key := V.toStr (List.getD r (0 : Nat) V.undef), kind := V.toInt (List.getD r (1 : Nat) V.undef), num := V.toInt (List.getD r (2 : Nat) V.undef), text := V.toStr (List.getD r (3 : Nat) V.undef) : HPair }) (List.map (fun p => [V.str (HPair.key p), V.int IntKind.u8 (HPair.kind p), V.int IntKind.i64 (HPair.num p), V.str (HPair.text p)]) (HMail.head m)))) + List.length (N.textB (HMail.body m))) (9223372036854775807 : Nat)) (cond (bif ile (0 : Int) (HMail.due m) then bif ilt (HMail.due m) (18446744073709551616 : Int) then N.fuelOk (8 : Nat) (8 : Int) else false else false) (cond (Nat.ble (List.length (N.numB (HMail.id m) (N.clamp (8 : Int)) ++ N.textB (HMail.shop m) ++ N.textB (HMail.key m) ++ N.refHeadBytes (List.map (fun r => { key := V.toStr (List.getD r (0 : Nat) V.undef), kind := V.toInt (List.getD r (1 : Nat) V.undef), num := V.toInt (List.getD r (2 : Nat) V.undef), text := V.toStr (List.getD r (3 : Nat) V.undef) : HPair }) (List.map (fun p => [V.str (HPair.key p), V.int IntKind.u8 (HPair.kind p), V.int IntKind.i64 (HPair.num p), V.str (HPair.text p)]) (HMail.head m))) ++ N.textB (HMail.body m)) + (8 : Nat)) (9223372036854775807 : Nat)) (cond (bif ile (0 : Int) (IntKind.wrap IntKind.u64 (HMail.hops m)) then bif ilt (IntKind.wrap IntKind.u64 (HMail.hops m)) (18446744073709551616 : Int) then N.fuelOk (8 : Nat) (1 : Int) else false else false) (cond (Nat.ble (List.length (N.numB (HMail.id m) (N.clamp (8 : Int)) ++ N.textB (HMail.shop m) ++ N.textB (HMail.key m) ++ N.refHeadBytes (List.map (fun r => { key := V.toStr (List.getD r (0 : Nat) V.undef), kind := V.toInt (List.getD r (1 : Nat) V.undef), num := V.toInt (List.getD r (2 : Nat) V.undef), text := V.toStr (List.getD r (3 : Nat) V.undef) : HPair }) (List.map (fun p => [V.str (HPair.key p), V.int IntKind.u8 (HPair.kind p), V.int IntKind.i64 (HPair.num p), V.str (HPair.text p)]) (HMail.head m))) ++ N.textB (HMail.body m) ++ N.numB (HMail.due m) (N.clamp (8 : Int))) + (1 : Nat)) (9223372036854775807 : Nat)) (some { v := V.str (N.numB (HMail.id m) (N.clamp (8 : Int)) ++ N.textB (HMail.shop m) ++ N.textB (HMail.key m) ++ N.refHeadBytes (List.map (fun r => { key := V.toStr (List.getD r (0 : Nat) V.undef), kind := V.toInt (List.getD r (1 : Nat) V.undef), num := V.toInt (List.getD r (2 : Nat) V.undef), text := V.toStr (List.getD r (3 : Nat) V.undef) : HPair }) (List.map (fun p => [V.str (HPair.key p), V.int IntKind.u8 (HPair.kind p), V.int IntKind.i64 (HPair.num p), V.str (HPair.text p)]) (HMail.head m))) ++ N.textB (HMail.body m) ++ N.numB (HMail.due m) (N.clamp (8 : Int)) ++ N.numB (IntKind.wrap IntKind.u64 (HMail.hops m)) (N.clamp (1 : Int))), bx := [] : DRes }) (none)) (none)) (none)) (none)) (none)) (none)) (none)) (none)) (none)) (none)) (none)) (none)) (none) := by kernel_rfl
theorem ok_mailSize (hN : FnOk Tryz.prog 44 dOutNum) : FnOk Tryz.prog 58 dMailSize := by
  refine den_okF (env_ok ((TOk.nil _).cons (ok_mailBytes hN))) (E := eMailSize) Tryz.func58 [] (by kernel_rfl) none0 fun m _ h => ?_
  have h : N.okM m = true := h
  obtain ⟨id, shop, key, head, body, due, hops⟩ := m
  refine (q_mailSize ⟨id, shop, key, head, body, due, hops⟩).trans ?_
  simp only [nrm_rows]
  show _ = some (⟨.int .i64 (N.mailSize ⟨id, shop, key, head, body, due, hops⟩), [], []⟩ : DRes)
  unfold N.mailSize
  simp (disch := omega) only [evs, h]
  cases N.mailCheck ⟨id, shop, key, head, body, due, hops⟩ != 0 <;> rfl
theorem okM_of {m : HMail} (h : N.okM m = true) : (0 ≤ m.id ∧ m.id < 18446744073709551616) ∧ (0 ≤ m.due ∧ m.due < 18446744073709551616) ∧ (0 ≤ m.hops ∧ m.hops < 256) := by
  obtain ⟨b1, h⟩ := bcond h
  obtain ⟨b2, h⟩ := bcond h
  obtain ⟨i1, i2⟩ := bcond b1
  obtain ⟨i3, i4⟩ := bcond b2
  obtain ⟨i5, i6⟩ := bcond h
  exact ⟨⟨ile_of i1, ilt_of i2⟩, ⟨ile_of i3, ilt_of i4⟩, ⟨ile_of i5, ilt_of i6⟩⟩
theorem refPairsB_len : ∀ {l : List HPair}, l.all N.fitP = true → (N.refPairsB l).length ≤ 150 * l.length
  | [], _ => Nat.le_refl _
  | p :: r, h => by
    rw [List.all_cons, Bool.and_eq_true] at h
    have ih := refPairsB_len h.2
    obtain ⟨f1, f2⟩ := bcond h.1
    have f1 := ble_of f1
    have f2 := ble_of f2
    have hlen : (N.refPairB p).length ≤ 150 := by
      unfold N.refPairB
      cases p.kind == 0 <;> cases p.kind == 1 <;> simp only [cond_true, cond_false, List.length_append, numB_len, textB_len] <;> omega
    show (N.refPairB p ++ N.refPairsB r).length ≤ _
    rw [List.length_append, List.length_cons]; omega
theorem ok_refMailB : FnOk Tryz.prog 49 dRefMailB := by
  refine den_okF (env_ok ((((TOk.nil _).cons (ok_refBytes (ok_refNum 8))).cons (ok_refText (ok_refNum 8))).cons (ok_refNum 8))) (E := eRefMailB) Tryz.func49 [] (by kernel_rfl) none0 fun m _ h => ?_
  obtain ⟨id, shop, key, head, body, due, hops⟩ := m
  obtain ⟨h0, h⟩ := bcond h
  obtain ⟨h1, h⟩ := bcond h
  obtain ⟨h2, h⟩ := bcond h
  obtain ⟨h3, h4⟩ := bcond h
  have ho := okM_of h0
  simp only at ho
  obtain ⟨⟨a1, a2⟩, ⟨a3, a4⟩, ⟨a5, a6⟩⟩ := ho
  have h1 : shop.length ≤ 64 := ble_of h1
  have h2 : key.length ≤ 64 := ble_of h2
  have h4 : body.length ≤ 256 := ble_of h4
  obtain ⟨h5, h6⟩ := bcond h3
  have h5 : head.length ≤ 8 := ble_of h5
  have h6 : head.all N.fitP = true := h6
  have hl := refPairsB_len h6
  refine (q_refMailB ⟨id, shop, key, head, body, due, hops⟩).trans ?_
  simp only [nrm_rows]
  show _ = some (⟨.str (N.refMailB ⟨id, shop, key, head, body, due, hops⟩), [], []⟩ : DRes)
  have wh : IntKind.wrap .u64 hops = hops := wrap_u64 (by omega) (by omega)
  have hlen : (N.refHeadBytes head).length ≤ 1201 := by unfold N.refHeadBytes; rw [List.length_append, numB_len]; omega
  unfold N.refMailB
  simp only
  simp (disch := omega) only [evs, show N.fuelOk 8 8 = true from rfl, show N.fuelOk 8 1 = true from rfl, show N.clamp 8 = 8 from rfl, show N.clamp 1 = 1 from rfl, h6, wh, numB_len, textB_len]
noncomputable def eRefMailSize : Env := env Tryz.prog [(39, dMailCheck), (49, dRefMailB)] [] []
theorem q_refMailSize (m : HMail) : evFn eRefMailSize 59 ((aOne (vAgg cMail)).enc m) ([]) some =
 cond (N.mailCheck { id := HMail.id m, shop := HMail.shop m, key := HMail.key m, head := List.map (fun r => { key := V.toStr (List.getD r (0 : Nat) V.undef), kind := V.toInt (List.getD r (1 : Nat) V.undef), num := V.toInt (List.getD r (2 : Nat) V.undef), text := V.toStr (List.getD r (3 : Nat) V.undef) : HPair }) (List.map (fun p => [V.str (HPair.key p), V.int IntKind.u8 (HPair.kind p), V.int IntKind.i64 (HPair.num p), V.str (HPair.text p)]) (HMail.head m)), body := HMail.body m, due := HMail.due m, hops := HMail.hops m : HMail } != (0 : Int)) (some { v := V.int IntKind.i64 (0 : Int), bx := [] : DRes }) (cond (N.fitM { id := HMail.id m, shop := HMail.shop m, key := HMail.key m, head := List.map (fun r => { key := V.toStr (List.getD r (0 : Nat) V.undef), kind := V.toInt (List.getD r (1 : Nat) V.undef), num := V.toInt (List.getD r (2 : Nat) V.undef), text := V.toStr (List.getD r (3 : Nat) V.undef) : HPair }) (List.map (fun p => [V.str (HPair.key p), V.int IntKind.u8 (HPair.kind p), V.int IntKind.i64 (HPair.num p), V.str (HPair.text p)]) (HMail.head m)), body := HMail.body m, due := HMail.due m, hops := HMail.hops m : HMail }) (some { v := V.int IntKind.i64 (↑(List.length (N.refMailB { id := HMail.id m, shop := HMail.shop m, key := HMail.key m, head := List.map (fun r => { key := V.toStr (List.getD r (0 : Nat) V.undef), kind := V.toInt (List.getD r (1 : Nat) V.undef), num := V.toInt (List.getD r (2 : Nat) V.undef), text := V.toStr (List.getD r (3 : Nat) V.undef) : HPair }) (List.map (fun p => [V.str (HPair.key p), V.int IntKind.u8 (HPair.kind p), V.int IntKind.i64 (HPair.num p), V.str (HPair.text p)]) (HMail.head m)), body := HMail.body m, due := HMail.due m, hops := HMail.hops m : HMail })) : Int), bx := [] : DRes }) (none)) := by kernel_rfl
end Go.Ev

/- slices.Concat and slices.Grow at messages answer what the plain ones do: lemmas, no condition. -/
namespace Go.Ev
open Go Go.Proofs
set_option maxRecDepth 100000
-- FOLD

/-- A nil slice. -/
def vNils {α : Type} (c : RCod α) : VCod Unit where
  ok := fun | .nils s => Sh.beqL c.sh s | _ => false
  enc _ := .nils c.sh
  dec _ := ()
  ed _ := ⟨c.rf, rfl⟩
  law w I ρ v x h hx := by
    split at h
    · have := Sh.beqL_eq _ _ h; subst this; exact hx
    · cases h
def dGrow {α : Type} (c : RCod α) : Den := den (aCons (vNils c) (aOne (vInt .i64))) bNil (oOwn c) (fun a _ => cond (ile 0 a.2) (ile a.2 1000000) false) fun _ _ => (([] : List α), ())
/-- Lists one behind the other. -/
def N.flat {α : Type} : List (List α) → List α
  | [] => [] | l :: r => l ++ N.flat r
def sumLen {α : Type} : List (List α) → Nat
  | [] => 0 | l :: r => l.length + sumLen r
theorem flat_len {α : Type} : ∀ l : List (List α), (N.flat l).length = sumLen l
  | [] => rfl
  | l :: r => by show (l ++ N.flat r).length = _; rw [List.length_append, flat_len r]; rfl
def dConcat {α : Type} (c : RCod α) : Den := den (aOne (vSl (rSl c))) bNil (oV (vSl c)) (fun l _ => cond (Nat.ble l.length 1000) (Nat.ble (sumLen l) 100000) false) fun l _ => (N.flat l, ())
noncomputable def eGrowM : Env := { env Tryz.prog [] [] [] [63] with tr := true }
theorem q_growM (n : Int) : evFn eGrowM 63 ((aCons (vNils cMail) (aOne (vInt .i64))).enc ((), n)) ([]) some =
 cond (ilt n (0 : Int)) (none) (cond (ilt (0 : Int) (IntKind.wrap IntKind.i64 (n - IntKind.wrap IntKind.i64 ((0 : Int) - (0 : Int))))) (cond (decide ((0 : Int) ≤ IntKind.wrap IntKind.i64 (n - IntKind.wrap IntKind.i64 ((0 : Int) - (0 : Int))) ∧ IntKind.wrap IntKind.i64 (n - IntKind.wrap IntKind.i64 ((0 : Int) - (0 : Int))) * (↑(96 : Nat) : Int) ≤ (140737488355328 : Int) ∧ IntKind.wrap IntKind.i64 (n - IntKind.wrap IntKind.i64 ((0 : Int) - (0 : Int))) ≤ (140737488355328 : Int))) (some { v := V.own (1000 : Nat) (0 : Nat), bx := [], nb := [Box.sl [Sh.int IntKind.u64, Sh.str, Sh.str, Sh.slc [Sh.str, Sh.int IntKind.u8, Sh.int IntKind.i64, Sh.str], Sh.str, Sh.int IntKind.u64, Sh.int IntKind.u8] [] (0 : Nat)] : DRes }) (none)) (some { v := V.own (1000 : Nat) (0 : Nat), bx := [], nb := [Box.sl [Sh.int IntKind.u64, Sh.str, Sh.str, Sh.slc [Sh.str, Sh.int IntKind.u8, Sh.int IntKind.i64, Sh.str], Sh.str, Sh.int IntKind.u64, Sh.int IntKind.u8] [] (0 : Nat)] : DRes })) := by kernel_rfl
theorem ok_growM : FnOk Tryz.prog 63 (dGrow cMail) := by
  refine den_okF (E := eGrowM) (fun f D h => by cases h) Tryz.func63 [] (by kernel_rfl) none0 fun a _ h => ?_
  obtain ⟨⟨⟩, n⟩ := a
  obtain ⟨h1, h2⟩ := bcond h
  have h1 : 0 ≤ n := ile_of h1
  have h2 : n ≤ 1000000 := ile_of h2
  refine (q_growM n).trans ?_
  have w0 : IntKind.wrap .i64 ((0 : Int) - 0) = 0 := rfl
  have w : IntKind.wrap .i64 (n - 0) = n := by rw [Int.sub_zero]; exact wr_i64 (by omega) (by omega)
  rw [w0, w]
  have d : decide (0 ≤ n ∧ n * ((96 : Nat) : Int) ≤ 140737488355328 ∧ n ≤ 140737488355328) = true := decide_eq_true (by omega)
  rw [d, ilt_f h1]
  cases ilt 0 n <;> rfl
/-- The rows in rows. -/
def flatR : List (List V) → List (List V)
  | [] => [] | r :: rs => V.toRows (List.getD r 0 .undef) ++ flatR rs
theorem flatR_enc {α : Type} (c : RCod α) : ∀ l : List (List α), flatR (l.map (rSl c).enc) = (N.flat l).map c.enc
  | [] => rfl
  | l :: r => by
    show l.map c.enc ++ flatR (r.map (rSl c).enc) = (l ++ N.flat r).map c.enc
    rw [flatR_enc c r, List.map_append]
def schConcatM3 : SSch := { fr := [(0, .slc [.slc [.int .u64, .str, .str, .slc [.str, .int .u8, .int .i64, .str], .str, .int .u64, .int .u8]]), (3, .int .i64), (9, .slc [.slc [.int .u64, .str, .str, .slc [.str, .int .u8, .int .i64, .str], .str, .int .u64, .int .u8]]), (10, .int .i64), (11, .int .i64)], tab := [] }
def gConcatM3 : List Leaf → (Ex → St → Option R) → Option R
  | [.r r0, .i i3, .r r9, .i i10, .i i11], K => cond (i10 == r9.length) (cond (i11 == 0) (cond (i3 == 0) (cond (Nat.ble (flatR r9).length LIM) (cond (Nat.ble r9.length LIM)
      (K (.exit 0) { fr := [(0, .slc [.slc [.int .u64, .str, .str, .slc [.str, .int .u8, .int .i64, .str], .str, .int .u64, .int .u8]] r0), (3, .int .i64 (flatR r9).length)], tab := [] }) none) none) none) none) none
  | _, _ => none
def schConcatM11 : SSch := { fr := [(6, .own 10000), (25, .slc [.slc [.int .u64, .str, .str, .slc [.str, .int .u8, .int .i64, .str], .str, .int .u64, .int .u8]]), (26, .int .i64), (27, .int .i64)], tab := [(10000, .sl [.int .u64, .str, .str, .slc [.str, .int .u8, .int .i64, .str], .str, .int .u64, .int .u8])] }
def gConcatM11 : List Leaf → (Ex → St → Option R) → Option R
  | [.r r25, .i i26, .i i27, .r rx0], K => cond (i26 == r25.length) (cond (i27 == 0) (cond (Nat.beq rx0.length 0) (cond (Nat.ble (flatR r25).length LIM) (cond (Nat.ble r25.length LIM)
      (K (.exit 2) { fr := [(6, .own 10000 0)], tab := [(10000, .sl [.int .u64, .str, .str, .slc [.str, .int .u8, .int .i64, .str], .str, .int .u64, .int .u8] (flatR r25) 0)] }) none) none) none) none) none
  | _, _ => none
noncomputable def eConcatM : Env := env Tryz.prog [(63, dGrow cMail)] [(11, loopF schConcatM11 gConcatM11), (3, loopF schConcatM3 gConcatM3)] [(3, [(0, [0, 3, 9, 10, 11]), (1, [0, 3]), (1000, [2])]), (11, [(0, [6, 25, 26, 27]), (3, [6]), (1000, [2])])]
theorem q_concatM (l : List (List HMail)) : evFn eConcatM 37 ((aOne (vSl (rSl cMail))).enc l) ([]) some =
 cond ((↑(List.length (List.map (RCod.enc (rSl cMail)) l)) : Int) == (↑(List.length (List.map (RCod.enc (rSl cMail)) l)) : Int)) (cond (Nat.ble (List.length (flatR (List.map (RCod.enc (rSl cMail)) l))) (1000000 : Nat)) (cond (Nat.ble (List.length (List.map (RCod.enc (rSl cMail)) l)) (1000000 : Nat)) (cond (ile (↑(List.length (flatR (List.map (RCod.enc (rSl cMail)) l))) : Int) (1000000 : Int)) (cond ((↑(List.length (List.map (RCod.enc (rSl cMail)) l)) : Int) == (↑(List.length (List.map (RCod.enc (rSl cMail)) l)) : Int)) (cond (Nat.ble (List.length (flatR (List.map (RCod.enc (rSl cMail)) l))) (1000000 : Nat)) (cond (Nat.ble (List.length (List.map (RCod.enc (rSl cMail)) l)) (1000000 : Nat)) (some { v := V.slc [Sh.int IntKind.u64, Sh.str, Sh.str, Sh.slc [Sh.str, Sh.int IntKind.u8, Sh.int IntKind.i64, Sh.str], Sh.str, Sh.int IntKind.u64, Sh.int IntKind.u8] (flatR (List.map (RCod.enc (rSl cMail)) l)), bx := [] : DRes }) (none)) (none)) (none)) (none)) (none)) (none)) (none) := by kernel_rfl
theorem q_concatMR3 (r0 : List (List V)) (i3 : Int) (r9 : List (List V)) (i10 : Int) (i11 : Int) (K : Ex → St → Option R) : evRound eConcatM 37 3 { fr := [(0, .slc [.slc [.int .u64, .str, .str, .slc [.str, .int .u8, .int .i64, .str], .str, .int .u64, .int .u8]] r0), (3, .int .i64 i3), (9, .slc [.slc [.int .u64, .str, .str, .slc [.str, .int .u8, .int .i64, .str], .str, .int .u64, .int .u8]] r9), (10, .int .i64 i10), (11, .int .i64 i11)], tab := [] } K =
 cond (ilt i11 i10) (cond (decide ((0 : Int) ≤ i11 ∧ i11 < (↑(List.length r9) : Int))) (cond (ilt (IntKind.wrap IntKind.i64 (i3 + (↑(List.length (V.toRows (List.getD (List.getD r9 (Int.toNat i11) []) (0 : Nat) V.undef))) : Int))) (0 : Int)) (none) (K Ex.normal { fr := [((0 : Nat), V.slc [Sh.slc [Sh.int IntKind.u64, Sh.str, Sh.str, Sh.slc [Sh.str, Sh.int IntKind.u8, Sh.int IntKind.i64, Sh.str], Sh.str, Sh.int IntKind.u64, Sh.int IntKind.u8]] r0), ((3 : Nat), V.int IntKind.i64 (IntKind.wrap IntKind.i64 (i3 + (↑(List.length (V.toRows (List.getD (List.getD r9 (Int.toNat i11) []) (0 : Nat) V.undef))) : Int)))), ((9 : Nat), V.slc [Sh.slc [Sh.int IntKind.u64, Sh.str, Sh.str, Sh.slc [Sh.str, Sh.int IntKind.u8, Sh.int IntKind.i64, Sh.str], Sh.str, Sh.int IntKind.u64, Sh.int IntKind.u8]] r9), ((10 : Nat), V.int IntKind.i64 i10), ((11 : Nat), V.int IntKind.i64 (IntKind.wrap IntKind.i64 (i11 + (1 : Int))))], tab := [] : St })) (none)) (K (Ex.exit (0 : Nat)) { fr := [((0 : Nat), V.slc [Sh.slc [Sh.int IntKind.u64, Sh.str, Sh.str, Sh.slc [Sh.str, Sh.int IntKind.u8, Sh.int IntKind.i64, Sh.str], Sh.str, Sh.int IntKind.u64, Sh.int IntKind.u8]] r0), ((3 : Nat), V.int IntKind.i64 i3)], tab := [] : St }) := by kernel_rfl
theorem q_concatMR11 (r25 : List (List V)) (i26 : Int) (i27 : Int) (rx0 : List (List V)) (K : Ex → St → Option R) : evRound eConcatM 37 11 { fr := [(6, .own 10000 0), (25, .slc [.slc [.int .u64, .str, .str, .slc [.str, .int .u8, .int .i64, .str], .str, .int .u64, .int .u8]] r25), (26, .int .i64 i26), (27, .int .i64 i27)], tab := [(10000, .sl [.int .u64, .str, .str, .slc [.str, .int .u8, .int .i64, .str], .str, .int .u64, .int .u8] rx0 0)] } K =
 cond (ilt i27 i26) (cond (decide ((0 : Int) ≤ i27 ∧ i27 < (↑(List.length r25) : Int))) (cond (decide ((List.length rx0 + List.length (V.toRows (List.getD (List.getD r25 (Int.toNat i27) []) (0 : Nat) V.undef))) * (96 : Nat) ≤ (140737488355328 : Nat))) (K Ex.normal { fr := [((6 : Nat), V.own (10000 : Nat) (0 : Nat)), ((25 : Nat), V.slc [Sh.slc [Sh.int IntKind.u64, Sh.str, Sh.str, Sh.slc [Sh.str, Sh.int IntKind.u8, Sh.int IntKind.i64, Sh.str], Sh.str, Sh.int IntKind.u64, Sh.int IntKind.u8]] r25), ((26 : Nat), V.int IntKind.i64 i26), ((27 : Nat), V.int IntKind.i64 (IntKind.wrap IntKind.i64 (i27 + (1 : Int))))], tab := [((10000 : Nat), Box.sl [Sh.int IntKind.u64, Sh.str, Sh.str, Sh.slc [Sh.str, Sh.int IntKind.u8, Sh.int IntKind.i64, Sh.str], Sh.str, Sh.int IntKind.u64, Sh.int IntKind.u8] (rx0 ++ V.toRows (List.getD (List.getD r25 (Int.toNat i27) []) (0 : Nat) V.undef)) (0 : Nat))] : St }) (none)) (none)) (K (Ex.exit (2 : Nat)) { fr := [((6 : Nat), V.own (10000 : Nat) (0 : Nat))], tab := [((10000 : Nat), Box.sl [Sh.int IntKind.u64, Sh.str, Sh.str, Sh.slc [Sh.str, Sh.int IntKind.u8, Sh.int IntKind.i64, Sh.str], Sh.str, Sh.int IntKind.u64, Sh.int IntKind.u8] rx0 (0 : Nat))] : St }) := by kernel_rfl
theorem flatR_cons (x : List V) (l : List (List V)) : flatR (x :: l) = V.toRows (List.getD x 0 .undef) ++ flatR l := rfl
theorem ok_concatM : FnOk Tryz.prog 37 (dConcat cMail) := by
  refine den_okF (env_ok ((TOk.nil _).cons ok_growM)) (E := eConcatM) Tryz.func37 [3, 11] (by kernel_rfl) (two2 (rounds_of rfl fun l K q h => ?_) (rounds_of rfl fun l K q h => ?_)) fun a _ h => ?_
  · unfold gConcatM3 at h
    split at h
    · rename_i r0 i3 r i10 i11
      have h1 := (cond_none h).1; replace h := (cond_none h).2; have h2 := (cond_none h).1; replace h := (cond_none h).2; have h3 := (cond_none h).1; replace h := (cond_none h).2; have h4 := (cond_none h).1; replace h := (cond_none h).2; have h5 := (cond_none h).1; replace h := (cond_none h).2
      have e1 := ieq_of h1
      have e2 := ieq_of h2
      have e3 := ieq_of h3
      subst e1 e2 e3
      have h4 : (flatR r).length ≤ 1000000 := ble_of h4
      have h5 : r.length ≤ 1000000 := ble_of h5
      refine range_ind (E := eConcatM) (f := 37) (id := 3) (A := Int) r (fun n i => { fr := [(0, .slc [.slc [.int .u64, .str, .str, .slc [.str, .int .u8, .int .i64, .str], .str, .int .u64, .int .u8]] r0), (3, .int .i64 n), (9, .slc [.slc [.int .u64, .str, .str, .slc [.str, .int .u8, .int .i64, .str], .str, .int .u64, .int .u8]] r), (10, .int .i64 r.length), (11, .int .i64 i)], tab := [] })
        (fun n i => 0 ≤ n ∧ n + ((flatR (r.drop i)).length : Int) ≤ 1000000)
        (fun n l K => K (.exit 0) { fr := [(0, .slc [.slc [.int .u64, .str, .str, .slc [.str, .int .u8, .int .i64, .str], .str, .int .u64, .int .u8]] r0), (3, .int .i64 (n + ((flatR l).length : Int)))], tab := [] }) (fun n i ⟨hn, hn2⟩ hi => ?_) (fun n _ => ?_) 0 0 (Int.le_refl _) (by omega) ⟨Int.le_refl _, by simp; omega⟩ K q (by simpa using h)
      · rw [drop_row hi, flatR_cons, List.length_append] at hn2
        have w := wr_i64 (n := n + ((V.toRows (List.getD (r.getD i []) 0 .undef)).length : Int)) (by omega) (by omega)
        have w2 := wr_i64 (n := (i : Int) + 1) (by omega) (by omega)
        refine .inl ⟨n + ((V.toRows (List.getD (r.getD i []) 0 .undef)).length : Int), ⟨by omega, by omega⟩, fun K => ?_, fun K => ?_⟩
        · rw [q_concatMR3, ilt_t (by omega), decide_eq_true (by omega), Int.toNat_natCast, w, w2, ilt_f (by omega)]
          rfl
        · show K _ _ = K _ _
          rw [flatR_cons, List.length_append, Int.natCast_add, Int.add_assoc]
      · refine ⟨.exit 0, { fr := [(0, .slc [.slc [.int .u64, .str, .str, .slc [.str, .int .u8, .int .i64, .str], .str, .int .u64, .int .u8]] r0), (3, .int .i64 n)], tab := [] }, by simp, fun K => ?_, fun K => ?_⟩
        · rw [q_concatMR3, ilt_f (Int.le_refl _)]
          rfl
        · show K _ _ = K _ _
          rw [show ((flatR []).length : Int) = 0 from rfl, Int.add_zero]
    · cases h
  · unfold gConcatM11 at h
    split at h
    · rename_i r i26 i27 acc
      have h1 := (cond_none h).1; replace h := (cond_none h).2; have h2 := (cond_none h).1; replace h := (cond_none h).2; have h3 := (cond_none h).1; replace h := (cond_none h).2; have h4 := (cond_none h).1; replace h := (cond_none h).2; have h5 := (cond_none h).1; replace h := (cond_none h).2
      have e1 := ieq_of h1
      have e2 := ieq_of h2
      subst e1 e2
      have h3 : acc.length = 0 := Nat.eq_of_beq_eq_true h3
      obtain rfl : acc = [] := List.length_eq_zero_iff.1 h3
      have h4 : (flatR r).length ≤ 1000000 := ble_of h4
      have h5 : r.length ≤ 1000000 := ble_of h5
      refine range_ind (E := eConcatM) (f := 37) (id := 11) (A := List (List V)) r (fun n i => { fr := [(6, .own 10000 0), (25, .slc [.slc [.int .u64, .str, .str, .slc [.str, .int .u8, .int .i64, .str], .str, .int .u64, .int .u8]] r), (26, .int .i64 r.length), (27, .int .i64 i)], tab := [(10000, .sl [.int .u64, .str, .str, .slc [.str, .int .u8, .int .i64, .str], .str, .int .u64, .int .u8] n 0)] })
        (fun n i => n.length + (flatR (r.drop i)).length ≤ 1000000)
        (fun n l K => K (.exit 2) { fr := [(6, .own 10000 0)], tab := [(10000, .sl [.int .u64, .str, .str, .slc [.str, .int .u8, .int .i64, .str], .str, .int .u64, .int .u8] (n ++ flatR l) 0)] }) (fun n i hn hi => ?_) (fun n _ => ?_) [] 0 (Int.le_refl _) (by omega) (by simp; omega) K q (by simpa using h)
      · rw [drop_row hi, flatR_cons, List.length_append] at hn
        have w2 := wr_i64 (n := (i : Int) + 1) (by omega) (by omega)
        refine .inl ⟨n ++ V.toRows (List.getD (r.getD i []) 0 .undef), by rw [List.length_append]; omega, fun K => ?_, fun K => ?_⟩
        · rw [q_concatMR11, ilt_t (by omega), decide_eq_true (by omega), Int.toNat_natCast, w2]
          rw [decide_eq_true (by omega)]
          rfl
        · show K _ _ = K _ _
          rw [flatR_cons, List.append_assoc]
      · refine ⟨.exit 2, { fr := [(6, .own 10000 0)], tab := [(10000, .sl [.int .u64, .str, .str, .slc [.str, .int .u8, .int .i64, .str], .str, .int .u64, .int .u8] n 0)] }, by simp, fun K => ?_, fun K => ?_⟩
        · rw [q_concatMR11, ilt_f (Int.le_refl _)]
          rfl
        · show K _ _ = K _ _
          rw [show flatR [] = [] from rfl, List.append_nil]
    · cases h
  · obtain ⟨h1, h2⟩ := bcond h
    have h1 : a.length ≤ 1000 := ble_of h1
    have h2 : sumLen a ≤ 100000 := ble_of h2
    refine (q_concatM a).trans ?_
    have e : (flatR (a.map (rSl cMail).enc)).length = sumLen a := by rw [flatR_enc, List.length_map, flat_len]
    rw [e, List.length_map, ble_t (show sumLen a ≤ 1000000 by omega), ble_t (show a.length ≤ 1000000 by omega), ile_t (by omega), flatR_enc]
    rw [show (((a.length : Int)) == (a.length : Int)) = true from beq_self_eq_true _]
    rfl
end Go.Ev

/- The functions on rises answer what the plain ones do: lemmas, no condition. -/
namespace Go.Ev
open Go Go.Proofs
set_option maxRecDepth 100000
-- FOLD

structure HRise where
  total : Int
  kept : List HMail
def rowRise (r : List V) : HRise := ⟨(r.getD 0 .undef).toInt, (r.getD 1 .undef).toRows.map cMail.dec⟩
def cRise : RCod HRise := (((rInt .u64).and (rSl cMail)).iso (fun p => (⟨p.1, p.2⟩ : HRise)) (fun o => (o.total, o.kept)) (fun _ => rfl) fun _ => rfl).spelt
  [.int .u64, .slc [.int .u64, .str, .str, .slc [.str, .int .u8, .int .i64, .str], .str, .int .u64, .int .u8]]
  (fun x => [.int .u64 x.total, .slc [.int .u64, .str, .str, .slc [.str, .int .u8, .int .i64, .str], .str, .int .u64, .int .u8] (x.kept.map cMail.enc)]) rowRise rfl (fun _ => rfl) fun r => by
    show (⟨((r.take 1).getD 0 .undef).toInt, ((r.drop 1).getD 0 .undef).toRows.map cMail.dec⟩ : HRise) = rowRise r
    simp only [getD_take_one, getD_drop_one]; rfl
def rise0 : HRise := ⟨0, []⟩
theorem dec_encs {α : Type} (c : RCod α) (l : List α) : (l.map c.enc).map c.dec = l := by
  rw [List.map_map]
  exact (List.map_congr_left (fun a _ => c.de a)).trans (List.map_id _)
namespace N
def risePut (x : HRise) (m : HMail) : HRise × Int :=
  cond (mailCheck m != 0) (x, mailCheck m) (cond (x.total == 18446744073709551615) (x, 18)
    (⟨x.total + 1, (x.kept ++ [m]).drop (x.kept.length + 1 - 16)⟩, 0))
end N
def goodRise (x : HRise) : Bool := cond (cond (ile 0 x.total) (ile x.total 18446744073709551615) false) (cond (Nat.ble x.kept.length 16) (x.kept.all smallM) false) false
def dTotal : Den := den (aOne (vAgg cRise)) bNil (oV (vInt .u64)) (fun _ _ => true) fun x _ => (x.total, ())
def dRisePut : Den := den (aCons (vAgg cRise) (aOne (vAgg cMail))) bNil (oTup (aCons (vAgg cRise) (aOne (vInt .i64)))) (fun a _ => cond (goodRise a.1) (smallM a.2) false) fun a _ => (N.risePut a.1 a.2, ())
noncomputable def eTotal : Env := env Tryz.prog [] [] []
theorem q_total (x : HRise) : evFn eTotal 40 ((aOne (vAgg cRise)).enc x) ([]) some =
 some { v := V.int IntKind.u64 (HRise.total x), bx := [] : DRes } := by kernel_rfl
theorem ok_total : FnOk Tryz.prog 40 dTotal := by
  refine den_okF (env_ok (TOk.nil _)) (E := eTotal) Tryz.func40 [] (by kernel_rfl) none0 fun x _ _ => ?_
  exact q_total x
noncomputable def eRisePut : Env := env Tryz.prog [(36, dMailCheck), (38, dMailCopy), (37, dConcat cMail)] [] []
theorem q_risePut (x : HRise) (m : HMail) : evFn eRisePut 14 ((aCons (vAgg cRise) (aOne (vAgg cMail))).enc (x, m)) ([]) some =
 cond (N.mailCheck { id := HMail.id m, shop := HMail.shop m, key := HMail.key m, head := List.map (fun r => { key := V.toStr (List.getD r (0 : Nat) V.undef), kind := V.toInt (List.getD r (1 : Nat) V.undef), num := V.toInt (List.getD r (2 : Nat) V.undef), text := V.toStr (List.getD r (3 : Nat) V.undef) : HPair }) (List.map (fun p => [V.str (HPair.key p), V.int IntKind.u8 (HPair.kind p), V.int IntKind.i64 (HPair.num p), V.str (HPair.text p)]) (HMail.head m)), body := HMail.body m, due := HMail.due m, hops := HMail.hops m : HMail } != (0 : Int)) (some { v := V.tup [V.agg [V.int IntKind.u64 (HRise.total x), V.slc [Sh.int IntKind.u64, Sh.str, Sh.str, Sh.slc [Sh.str, Sh.int IntKind.u8, Sh.int IntKind.i64, Sh.str], Sh.str, Sh.int IntKind.u64, Sh.int IntKind.u8] (List.map (RCod.enc cMail) (HRise.kept x))], V.int IntKind.i64 (N.mailCheck { id := HMail.id m, shop := HMail.shop m, key := HMail.key m, head := List.map (fun r => { key := V.toStr (List.getD r (0 : Nat) V.undef), kind := V.toInt (List.getD r (1 : Nat) V.undef), num := V.toInt (List.getD r (2 : Nat) V.undef), text := V.toStr (List.getD r (3 : Nat) V.undef) : HPair }) (List.map (fun p => [V.str (HPair.key p), V.int IntKind.u8 (HPair.kind p), V.int IntKind.i64 (HPair.num p), V.str (HPair.text p)]) (HMail.head m)), body := HMail.body m, due := HMail.due m, hops := HMail.hops m : HMail })], bx := [] : DRes }) (cond (HRise.total x == (18446744073709551615 : Int)) (some { v := V.tup [V.agg [V.int IntKind.u64 (HRise.total x), V.slc [Sh.int IntKind.u64, Sh.str, Sh.str, Sh.slc [Sh.str, Sh.int IntKind.u8, Sh.int IntKind.i64, Sh.str], Sh.str, Sh.int IntKind.u64, Sh.int IntKind.u8] (List.map (RCod.enc cMail) (HRise.kept x))], V.int IntKind.i64 (18 : Int)], bx := [] : DRes }) (cond (Nat.ble (List.length (List.map (fun r => { key := V.toStr (List.getD r (0 : Nat) V.undef), kind := V.toInt (List.getD r (1 : Nat) V.undef), num := V.toInt (List.getD r (2 : Nat) V.undef), text := V.toStr (List.getD r (3 : Nat) V.undef) : HPair }) (List.map (fun p => [V.str (HPair.key p), V.int IntKind.u8 (HPair.kind p), V.int IntKind.i64 (HPair.num p), V.str (HPair.text p)]) (HMail.head m)))) (1000000 : Nat)) (cond (Nat.ble (List.length (List.map (RCod.dec cMail) (List.map (RCod.enc cMail) (HRise.kept x))) + (1 : Nat)) (100000 : Nat)) (cond (decide (((0 : Int) ≤ bif ilt (0 : Int) (IntKind.wrap IntKind.i64 ((↑(List.length (List.map (RCod.enc cMail) (N.flat [List.map (RCod.dec cMail) (List.map (RCod.enc cMail) (HRise.kept x)), List.map (RCod.dec cMail) [[V.int IntKind.u64 (HMail.id m), V.str (HMail.shop m), V.str (HMail.key m), V.slc [Sh.str, Sh.int IntKind.u8, Sh.int IntKind.i64, Sh.str] (List.map (fun p => [V.str (HPair.key p), V.int IntKind.u8 (HPair.kind p), V.int IntKind.i64 (HPair.num p), V.str (HPair.text p)]) (List.map (fun r => { key := V.toStr (List.getD r (0 : Nat) V.undef), kind := V.toInt (List.getD r (1 : Nat) V.undef), num := V.toInt (List.getD r (2 : Nat) V.undef), text := V.toStr (List.getD r (3 : Nat) V.undef) : HPair }) (List.map (fun p => [V.str (HPair.key p), V.int IntKind.u8 (HPair.kind p), V.int IntKind.i64 (HPair.num p), V.str (HPair.text p)]) (HMail.head m)))), V.str (HMail.body m), V.int IntKind.u64 (HMail.due m), V.int IntKind.u8 (HMail.hops m)]]]))) : Int) - (16 : Int))) then IntKind.wrap IntKind.i64 ((↑(List.length (List.map (RCod.enc cMail) (N.flat [List.map (RCod.dec cMail) (List.map (RCod.enc cMail) (HRise.kept x)), List.map (RCod.dec cMail) [[V.int IntKind.u64 (HMail.id m), V.str (HMail.shop m), V.str (HMail.key m), V.slc [Sh.str, Sh.int IntKind.u8, Sh.int IntKind.i64, Sh.str] (List.map (fun p => [V.str (HPair.key p), V.int IntKind.u8 (HPair.kind p), V.int IntKind.i64 (HPair.num p), V.str (HPair.text p)]) (List.map (fun r => { key := V.toStr (List.getD r (0 : Nat) V.undef), kind := V.toInt (List.getD r (1 : Nat) V.undef), num := V.toInt (List.getD r (2 : Nat) V.undef), text := V.toStr (List.getD r (3 : Nat) V.undef) : HPair }) (List.map (fun p => [V.str (HPair.key p), V.int IntKind.u8 (HPair.kind p), V.int IntKind.i64 (HPair.num p), V.str (HPair.text p)]) (HMail.head m)))), V.str (HMail.body m), V.int IntKind.u64 (HMail.due m), V.int IntKind.u8 (HMail.hops m)]]]))) : Int) - (16 : Int)) else (0 : Int)) ∧ (bif ilt (0 : Int) (IntKind.wrap IntKind.i64 ((↑(List.length (List.map (RCod.enc cMail) (N.flat [List.map (RCod.dec cMail) (List.map (RCod.enc cMail) (HRise.kept x)), List.map (RCod.dec cMail) [[V.int IntKind.u64 (HMail.id m), V.str (HMail.shop m), V.str (HMail.key m), V.slc [Sh.str, Sh.int IntKind.u8, Sh.int IntKind.i64, Sh.str] (List.map (fun p => [V.str (HPair.key p), V.int IntKind.u8 (HPair.kind p), V.int IntKind.i64 (HPair.num p), V.str (HPair.text p)]) (List.map (fun r => { key := V.toStr (List.getD r (0 : Nat) V.undef), kind := V.toInt (List.getD r (1 : Nat) V.undef), num := V.toInt (List.getD r (2 : Nat) V.undef), text := V.toStr (List.getD r (3 : Nat) V.undef) : HPair }) (List.map (fun p => [V.str (HPair.key p), V.int IntKind.u8 (HPair.kind p), V.int IntKind.i64 (HPair.num p), V.str (HPair.text p)]) (HMail.head m)))), V.str (HMail.body m), V.int IntKind.u64 (HMail.due m), V.int IntKind.u8 (HMail.hops m)]]]))) : Int) - (16 : Int))) then IntKind.wrap IntKind.i64 ((↑(List.length (List.map (RCod.enc cMail) (N.flat [List.map (RCod.dec cMail) (List.map (RCod.enc cMail) (HRise.kept x)), List.map (RCod.dec cMail) [[V.int IntKind.u64 (HMail.id m), V.str (HMail.shop m), V.str (HMail.key m), V.slc [Sh.str, Sh.int IntKind.u8, Sh.int IntKind.i64, Sh.str] (List.map (fun p => [V.str (HPair.key p), V.int IntKind.u8 (HPair.kind p), V.int IntKind.i64 (HPair.num p), V.str (HPair.text p)]) (List.map (fun r => { key := V.toStr (List.getD r (0 : Nat) V.undef), kind := V.toInt (List.getD r (1 : Nat) V.undef), num := V.toInt (List.getD r (2 : Nat) V.undef), text := V.toStr (List.getD r (3 : Nat) V.undef) : HPair }) (List.map (fun p => [V.str (HPair.key p), V.int IntKind.u8 (HPair.kind p), V.int IntKind.i64 (HPair.num p), V.str (HPair.text p)]) (HMail.head m)))), V.str (HMail.body m), V.int IntKind.u64 (HMail.due m), V.int IntKind.u8 (HMail.hops m)]]]))) : Int) - (16 : Int)) else (0 : Int)) ≤ (↑(List.length (List.map (RCod.enc cMail) (N.flat [List.map (RCod.dec cMail) (List.map (RCod.enc cMail) (HRise.kept x)), List.map (RCod.dec cMail) [[V.int IntKind.u64 (HMail.id m), V.str (HMail.shop m), V.str (HMail.key m), V.slc [Sh.str, Sh.int IntKind.u8, Sh.int IntKind.i64, Sh.str] (List.map (fun p => [V.str (HPair.key p), V.int IntKind.u8 (HPair.kind p), V.int IntKind.i64 (HPair.num p), V.str (HPair.text p)]) (List.map (fun r => { key := V.toStr (List.getD r (0 : Nat) V.undef), kind := V.toInt (List.getD r (1 : Nat) V.undef), num := V.toInt (List.getD r (2 : Nat) V.undef), text := V.toStr (List.getD r (3 : Nat) V.undef) : HPair }) (List.map (fun p => [V.str (HPair.key p), V.int IntKind.u8 (HPair.kind p), V.int IntKind.i64 (HPair.num p), V.str (HPair.text p)]) (HMail.head m)))), V.str (HMail.body m), V.int IntKind.u64 (HMail.due m), V.int IntKind.u8 (HMail.hops m)]]]))) : Int))) (some { v := V.tup [V.agg [V.int IntKind.u64 (IntKind.wrap IntKind.u64 (HRise.total x + (1 : Int))), V.slc [Sh.int IntKind.u64, Sh.str, Sh.str, Sh.slc [Sh.str, Sh.int IntKind.u8, Sh.int IntKind.i64, Sh.str], Sh.str, Sh.int IntKind.u64, Sh.int IntKind.u8] (List.drop (Int.toNat (bif ilt (0 : Int) (IntKind.wrap IntKind.i64 ((↑(List.length (List.map (RCod.enc cMail) (N.flat [List.map (RCod.dec cMail) (List.map (RCod.enc cMail) (HRise.kept x)), List.map (RCod.dec cMail) [[V.int IntKind.u64 (HMail.id m), V.str (HMail.shop m), V.str (HMail.key m), V.slc [Sh.str, Sh.int IntKind.u8, Sh.int IntKind.i64, Sh.str] (List.map (fun p => [V.str (HPair.key p), V.int IntKind.u8 (HPair.kind p), V.int IntKind.i64 (HPair.num p), V.str (HPair.text p)]) (List.map (fun r => { key := V.toStr (List.getD r (0 : Nat) V.undef), kind := V.toInt (List.getD r (1 : Nat) V.undef), num := V.toInt (List.getD r (2 : Nat) V.undef), text := V.toStr (List.getD r (3 : Nat) V.undef) : HPair }) (List.map (fun p => [V.str (HPair.key p), V.int IntKind.u8 (HPair.kind p), V.int IntKind.i64 (HPair.num p), V.str (HPair.text p)]) (HMail.head m)))), V.str (HMail.body m), V.int IntKind.u64 (HMail.due m), V.int IntKind.u8 (HMail.hops m)]]]))) : Int) - (16 : Int))) then IntKind.wrap IntKind.i64 ((↑(List.length (List.map (RCod.enc cMail) (N.flat [List.map (RCod.dec cMail) (List.map (RCod.enc cMail) (HRise.kept x)), List.map (RCod.dec cMail) [[V.int IntKind.u64 (HMail.id m), V.str (HMail.shop m), V.str (HMail.key m), V.slc [Sh.str, Sh.int IntKind.u8, Sh.int IntKind.i64, Sh.str] (List.map (fun p => [V.str (HPair.key p), V.int IntKind.u8 (HPair.kind p), V.int IntKind.i64 (HPair.num p), V.str (HPair.text p)]) (List.map (fun r => { key := V.toStr (List.getD r (0 : Nat) V.undef), kind := V.toInt (List.getD r (1 : Nat) V.undef), num := V.toInt (List.getD r (2 : Nat) V.undef), text := V.toStr (List.getD r (3 : Nat) V.undef) : HPair }) (List.map (fun p => [V.str (HPair.key p), V.int IntKind.u8 (HPair.kind p), V.int IntKind.i64 (HPair.num p), V.str (HPair.text p)]) (HMail.head m)))), V.str (HMail.body m), V.int IntKind.u64 (HMail.due m), V.int IntKind.u8 (HMail.hops m)]]]))) : Int) - (16 : Int)) else (0 : Int))) (List.take (List.length (List.map (RCod.enc cMail) (N.flat [List.map (RCod.dec cMail) (List.map (RCod.enc cMail) (HRise.kept x)), List.map (RCod.dec cMail) [[V.int IntKind.u64 (HMail.id m), V.str (HMail.shop m), V.str (HMail.key m), V.slc [Sh.str, Sh.int IntKind.u8, Sh.int IntKind.i64, Sh.str] (List.map (fun p => [V.str (HPair.key p), V.int IntKind.u8 (HPair.kind p), V.int IntKind.i64 (HPair.num p), V.str (HPair.text p)]) (List.map (fun r => { key := V.toStr (List.getD r (0 : Nat) V.undef), kind := V.toInt (List.getD r (1 : Nat) V.undef), num := V.toInt (List.getD r (2 : Nat) V.undef), text := V.toStr (List.getD r (3 : Nat) V.undef) : HPair }) (List.map (fun p => [V.str (HPair.key p), V.int IntKind.u8 (HPair.kind p), V.int IntKind.i64 (HPair.num p), V.str (HPair.text p)]) (HMail.head m)))), V.str (HMail.body m), V.int IntKind.u64 (HMail.due m), V.int IntKind.u8 (HMail.hops m)]]]))) (List.map (RCod.enc cMail) (N.flat [List.map (RCod.dec cMail) (List.map (RCod.enc cMail) (HRise.kept x)), List.map (RCod.dec cMail) [[V.int IntKind.u64 (HMail.id m), V.str (HMail.shop m), V.str (HMail.key m), V.slc [Sh.str, Sh.int IntKind.u8, Sh.int IntKind.i64, Sh.str] (List.map (fun p => [V.str (HPair.key p), V.int IntKind.u8 (HPair.kind p), V.int IntKind.i64 (HPair.num p), V.str (HPair.text p)]) (List.map (fun r => { key := V.toStr (List.getD r (0 : Nat) V.undef), kind := V.toInt (List.getD r (1 : Nat) V.undef), num := V.toInt (List.getD r (2 : Nat) V.undef), text := V.toStr (List.getD r (3 : Nat) V.undef) : HPair }) (List.map (fun p => [V.str (HPair.key p), V.int IntKind.u8 (HPair.kind p), V.int IntKind.i64 (HPair.num p), V.str (HPair.text p)]) (HMail.head m)))), V.str (HMail.body m), V.int IntKind.u64 (HMail.due m), V.int IntKind.u8 (HMail.hops m)]]]))))], V.int IntKind.i64 (0 : Int)], bx := [] : DRes }) (none)) (none)) (none))) := by kernel_rfl
theorem wr_u64 {n : Int} (h1 : 0 ≤ n) (h2 : n ≤ 18446744073709551615) : IntKind.wrap .u64 n = n := by
  simp only [IntKind.wrap, IntKind.signed, IntKind.bits]
  simp
  omega
theorem mail_row (m : HMail) : cMail.dec [V.int .u64 m.id, .str m.shop, .str m.key, .slc [.str, .int .u8, .int .i64, .str] (m.head.map fun p => [V.str p.key, V.int .u8 p.kind, V.int .i64 p.num, V.str p.text]), .str m.body, .int .u64 m.due, .int .u8 m.hops] = m := cMail.de m
theorem flat_two {α : Type} (a b : List α) : N.flat [a, b] = a ++ b := by
  show a ++ (b ++ []) = _
  rw [List.append_nil]
theorem ok_risePut : FnOk Tryz.prog 14 dRisePut := by
  refine den_okF (env_ok ((((TOk.nil _).cons ok_concatM).cons ok_mailCopy).cons ok_mailCheck)) (E := eRisePut) Tryz.func14 [] (by kernel_rfl) none0 fun a _ h => ?_
  obtain ⟨x, m⟩ := a
  obtain ⟨h1, h2⟩ := bcond h
  obtain ⟨h3, h4⟩ := bcond h1
  obtain ⟨h3, h5⟩ := bcond h3
  obtain ⟨h4, h6⟩ := bcond h4
  have h2 : m.head.length ≤ 1000000 := ble_of h2
  have h3 : 0 ≤ x.total := ile_of h3
  have h5 : x.total ≤ 18446744073709551615 := ile_of h5
  have h4 : x.kept.length ≤ 16 := ble_of h4
  refine (q_risePut x m).trans ?_
  show _ = some (⟨.tup [.agg (cRise.enc (N.risePut x m).1), .int .i64 (N.risePut x m).2], [], []⟩ : DRes)
  simp only [pairs_enc, dec_encs, List.map_cons, List.map_nil, mail_row, flat_two]
  unfold N.risePut
  cases hc : N.mailCheck m != 0 with
  | true => rfl
  | false =>
    cases ht : x.total == 18446744073709551615 with
    | true => rfl
    | false =>
      have ht : x.total ≠ 18446744073709551615 := fun e => by rw [e] at ht; cases ht
      have l1 : (List.map (RCod.enc cMail) (x.kept ++ [m])).length = x.kept.length + 1 := by simp
      have w : IntKind.wrap .i64 (((x.kept.length + 1 : Nat) : Int) - 16) = ((x.kept.length + 1 : Nat) : Int) - 16 := wr_i64 (by omega) (by omega)
      have w2 : IntKind.wrap .u64 (x.total + 1) = x.total + 1 := wr_u64 (by omega) (by omega)
      rw [l1, w, w2, List.take_of_length_le (Nat.le_of_eq l1), ble_t h2, ble_t (show x.kept.length + 1 ≤ 100000 by omega)]
      cases hl : ilt 0 (((x.kept.length + 1 : Nat) : Int) - 16) with
      | true =>
        have hl := ilt_of hl
        simp only [cond_true, cond_false]
        rw [decide_eq_true (by omega), ← List.map_drop, show ((((x.kept.length + 1 : Nat) : Int) - 16)).toNat = x.kept.length + 1 - 16 by omega]
        rfl
      | false =>
        have hl := ilt_nof hl
        simp only [cond_true, cond_false]
        rw [decide_eq_true (by omega), show x.kept.length + 1 - 16 = 0 by omega]
        rfl
end Go.Ev

/- What a rise tells behind a number: lemmas, no condition. -/
namespace Go.Ev
open Go Go.Proofs
set_option maxRecDepth 100000
-- FOLD

namespace N
def riseAfter (x : HRise) (n : Int) : Int × HMail × Bool :=
  cond (ile x.total n) (0, mail0, false) (cond (ilt (x.total - x.kept.length + 1) (n + 1)) (n + 1, x.kept.getD (n + 1 - (x.total - x.kept.length + 1)).toNat mail0, true) (x.total - x.kept.length + 1, x.kept.getD 0 mail0, true))
end N
def fullRise (x : HRise) : Bool := cond (goodRise x) (cond (ile x.kept.length x.total) (cond (Nat.beq x.kept.length 0) (x.total == 0) true) false) false
def dRiseAfter : Den := den (aCons (vAgg cRise) (aOne (vInt .u64))) bNil (oTup (aCons (vInt .u64) (aCons (vAgg cMail) (aOne vBool)))) (fun a _ => cond (fullRise a.1) (cond (ile 0 a.2) (ile a.2 18446744073709551615) false) false) fun a _ => (N.riseAfter a.1 a.2, ())
noncomputable def eRiseAfter : Env := env Tryz.prog [(38, dMailCopy)] [] []
theorem q_riseAfter (x : HRise) (n : Int) : evFn eRiseAfter 23 ((aCons (vAgg cRise) (aOne (vInt .u64))).enc (x, n)) ([]) some =
 cond (ile (HRise.total x) n) (some { v := V.tup [V.int IntKind.u64 (0 : Int), V.agg [V.int IntKind.u64 (0 : Int), V.str [], V.str [], V.slc [Sh.str, Sh.int IntKind.u8, Sh.int IntKind.i64, Sh.str] [], V.str [], V.int IntKind.u64 (0 : Int), V.int IntKind.u8 (0 : Int)], V.bool false], bx := [] : DRes }) (cond (decide ((0 : Int) ≤ IntKind.wrap IntKind.u64 ((bif ilt (IntKind.wrap IntKind.u64 (IntKind.wrap IntKind.u64 (HRise.total x - IntKind.wrap IntKind.u64 (↑(List.length (List.map (RCod.enc cMail) (HRise.kept x))) : Int)) + (1 : Int))) (IntKind.wrap IntKind.u64 (n + (1 : Int))) then IntKind.wrap IntKind.u64 (n + (1 : Int)) else IntKind.wrap IntKind.u64 (IntKind.wrap IntKind.u64 (HRise.total x - IntKind.wrap IntKind.u64 (↑(List.length (List.map (RCod.enc cMail) (HRise.kept x))) : Int)) + (1 : Int))) - IntKind.wrap IntKind.u64 (IntKind.wrap IntKind.u64 (HRise.total x - IntKind.wrap IntKind.u64 (↑(List.length (List.map (RCod.enc cMail) (HRise.kept x))) : Int)) + (1 : Int))) ∧ IntKind.wrap IntKind.u64 ((bif ilt (IntKind.wrap IntKind.u64 (IntKind.wrap IntKind.u64 (HRise.total x - IntKind.wrap IntKind.u64 (↑(List.length (List.map (RCod.enc cMail) (HRise.kept x))) : Int)) + (1 : Int))) (IntKind.wrap IntKind.u64 (n + (1 : Int))) then IntKind.wrap IntKind.u64 (n + (1 : Int)) else IntKind.wrap IntKind.u64 (IntKind.wrap IntKind.u64 (HRise.total x - IntKind.wrap IntKind.u64 (↑(List.length (List.map (RCod.enc cMail) (HRise.kept x))) : Int)) + (1 : Int))) - IntKind.wrap IntKind.u64 (IntKind.wrap IntKind.u64 (HRise.total x - IntKind.wrap IntKind.u64 (↑(List.length (List.map (RCod.enc cMail) (HRise.kept x))) : Int)) + (1 : Int))) < (↑(List.length (List.map (RCod.enc cMail) (HRise.kept x))) : Int))) (cond (Nat.ble (List.length (List.map (fun r => { key := V.toStr (List.getD r (0 : Nat) V.undef), kind := V.toInt (List.getD r (1 : Nat) V.undef), num := V.toInt (List.getD r (2 : Nat) V.undef), text := V.toStr (List.getD r (3 : Nat) V.undef) : HPair }) (V.toRows (List.getD (List.getD (List.map (RCod.enc cMail) (HRise.kept x)) (Int.toNat (IntKind.wrap IntKind.u64 ((bif ilt (IntKind.wrap IntKind.u64 (IntKind.wrap IntKind.u64 (HRise.total x - IntKind.wrap IntKind.u64 (↑(List.length (List.map (RCod.enc cMail) (HRise.kept x))) : Int)) + (1 : Int))) (IntKind.wrap IntKind.u64 (n + (1 : Int))) then IntKind.wrap IntKind.u64 (n + (1 : Int)) else IntKind.wrap IntKind.u64 (IntKind.wrap IntKind.u64 (HRise.total x - IntKind.wrap IntKind.u64 (↑(List.length (List.map (RCod.enc cMail) (HRise.kept x))) : Int)) + (1 : Int))) - IntKind.wrap IntKind.u64 (IntKind.wrap IntKind.u64 (HRise.total x - IntKind.wrap IntKind.u64 (↑(List.length (List.map (RCod.enc cMail) (HRise.kept x))) : Int)) + (1 : Int))))) []) (3 : Nat) V.undef)))) (1000000 : Nat)) (some { v := V.tup [V.int IntKind.u64 (bif ilt (IntKind.wrap IntKind.u64 (IntKind.wrap IntKind.u64 (HRise.total x - IntKind.wrap IntKind.u64 (↑(List.length (List.map (RCod.enc cMail) (HRise.kept x))) : Int)) + (1 : Int))) (IntKind.wrap IntKind.u64 (n + (1 : Int))) then IntKind.wrap IntKind.u64 (n + (1 : Int)) else IntKind.wrap IntKind.u64 (IntKind.wrap IntKind.u64 (HRise.total x - IntKind.wrap IntKind.u64 (↑(List.length (List.map (RCod.enc cMail) (HRise.kept x))) : Int)) + (1 : Int))), V.agg [V.int IntKind.u64 (V.toInt (List.getD (List.getD (List.map (RCod.enc cMail) (HRise.kept x)) (Int.toNat (IntKind.wrap IntKind.u64 ((bif ilt (IntKind.wrap IntKind.u64 (IntKind.wrap IntKind.u64 (HRise.total x - IntKind.wrap IntKind.u64 (↑(List.length (List.map (RCod.enc cMail) (HRise.kept x))) : Int)) + (1 : Int))) (IntKind.wrap IntKind.u64 (n + (1 : Int))) then IntKind.wrap IntKind.u64 (n + (1 : Int)) else IntKind.wrap IntKind.u64 (IntKind.wrap IntKind.u64 (HRise.total x - IntKind.wrap IntKind.u64 (↑(List.length (List.map (RCod.enc cMail) (HRise.kept x))) : Int)) + (1 : Int))) - IntKind.wrap IntKind.u64 (IntKind.wrap IntKind.u64 (HRise.total x - IntKind.wrap IntKind.u64 (↑(List.length (List.map (RCod.enc cMail) (HRise.kept x))) : Int)) + (1 : Int))))) []) (0 : Nat) V.undef)), V.str (V.toStr (List.getD (List.getD (List.map (RCod.enc cMail) (HRise.kept x)) (Int.toNat (IntKind.wrap IntKind.u64 ((bif ilt (IntKind.wrap IntKind.u64 (IntKind.wrap IntKind.u64 (HRise.total x - IntKind.wrap IntKind.u64 (↑(List.length (List.map (RCod.enc cMail) (HRise.kept x))) : Int)) + (1 : Int))) (IntKind.wrap IntKind.u64 (n + (1 : Int))) then IntKind.wrap IntKind.u64 (n + (1 : Int)) else IntKind.wrap IntKind.u64 (IntKind.wrap IntKind.u64 (HRise.total x - IntKind.wrap IntKind.u64 (↑(List.length (List.map (RCod.enc cMail) (HRise.kept x))) : Int)) + (1 : Int))) - IntKind.wrap IntKind.u64 (IntKind.wrap IntKind.u64 (HRise.total x - IntKind.wrap IntKind.u64 (↑(List.length (List.map (RCod.enc cMail) (HRise.kept x))) : Int)) + (1 : Int))))) []) (1 : Nat) V.undef)), V.str (V.toStr (List.getD (List.getD (List.map (RCod.enc cMail) (HRise.kept x)) (Int.toNat (IntKind.wrap IntKind.u64 ((bif ilt (IntKind.wrap IntKind.u64 (IntKind.wrap IntKind.u64 (HRise.total x - IntKind.wrap IntKind.u64 (↑(List.length (List.map (RCod.enc cMail) (HRise.kept x))) : Int)) + (1 : Int))) (IntKind.wrap IntKind.u64 (n + (1 : Int))) then IntKind.wrap IntKind.u64 (n + (1 : Int)) else IntKind.wrap IntKind.u64 (IntKind.wrap IntKind.u64 (HRise.total x - IntKind.wrap IntKind.u64 (↑(List.length (List.map (RCod.enc cMail) (HRise.kept x))) : Int)) + (1 : Int))) - IntKind.wrap IntKind.u64 (IntKind.wrap IntKind.u64 (HRise.total x - IntKind.wrap IntKind.u64 (↑(List.length (List.map (RCod.enc cMail) (HRise.kept x))) : Int)) + (1 : Int))))) []) (2 : Nat) V.undef)), V.slc [Sh.str, Sh.int IntKind.u8, Sh.int IntKind.i64, Sh.str] (List.map (fun p => [V.str (HPair.key p), V.int IntKind.u8 (HPair.kind p), V.int IntKind.i64 (HPair.num p), V.str (HPair.text p)]) (List.map (fun r => { key := V.toStr (List.getD r (0 : Nat) V.undef), kind := V.toInt (List.getD r (1 : Nat) V.undef), num := V.toInt (List.getD r (2 : Nat) V.undef), text := V.toStr (List.getD r (3 : Nat) V.undef) : HPair }) (V.toRows (List.getD (List.getD (List.map (RCod.enc cMail) (HRise.kept x)) (Int.toNat (IntKind.wrap IntKind.u64 ((bif ilt (IntKind.wrap IntKind.u64 (IntKind.wrap IntKind.u64 (HRise.total x - IntKind.wrap IntKind.u64 (↑(List.length (List.map (RCod.enc cMail) (HRise.kept x))) : Int)) + (1 : Int))) (IntKind.wrap IntKind.u64 (n + (1 : Int))) then IntKind.wrap IntKind.u64 (n + (1 : Int)) else IntKind.wrap IntKind.u64 (IntKind.wrap IntKind.u64 (HRise.total x - IntKind.wrap IntKind.u64 (↑(List.length (List.map (RCod.enc cMail) (HRise.kept x))) : Int)) + (1 : Int))) - IntKind.wrap IntKind.u64 (IntKind.wrap IntKind.u64 (HRise.total x - IntKind.wrap IntKind.u64 (↑(List.length (List.map (RCod.enc cMail) (HRise.kept x))) : Int)) + (1 : Int))))) []) (3 : Nat) V.undef)))), V.str (V.toStr (List.getD (List.getD (List.map (RCod.enc cMail) (HRise.kept x)) (Int.toNat (IntKind.wrap IntKind.u64 ((bif ilt (IntKind.wrap IntKind.u64 (IntKind.wrap IntKind.u64 (HRise.total x - IntKind.wrap IntKind.u64 (↑(List.length (List.map (RCod.enc cMail) (HRise.kept x))) : Int)) + (1 : Int))) (IntKind.wrap IntKind.u64 (n + (1 : Int))) then IntKind.wrap IntKind.u64 (n + (1 : Int)) else IntKind.wrap IntKind.u64 (IntKind.wrap IntKind.u64 (HRise.total x - IntKind.wrap IntKind.u64 (↑(List.length (List.map (RCod.enc cMail) (HRise.kept x))) : Int)) + (1 : Int))) - IntKind.wrap IntKind.u64 (IntKind.wrap IntKind.u64 (HRise.total x - IntKind.wrap IntKind.u64 (↑(List.length (List.map (RCod.enc cMail) (HRise.kept x))) : Int)) + (1 : Int))))) []) (4 : Nat) V.undef)), V.int IntKind.u64 (V.toInt (List.getD (List.getD (List.map (RCod.enc cMail) (HRise.kept x)) (Int.toNat (IntKind.wrap IntKind.u64 ((bif ilt (IntKind.wrap IntKind.u64 (IntKind.wrap IntKind.u64 (HRise.total x - IntKind.wrap IntKind.u64 (↑(List.length (List.map (RCod.enc cMail) (HRise.kept x))) : Int)) + (1 : Int))) (IntKind.wrap IntKind.u64 (n + (1 : Int))) then IntKind.wrap IntKind.u64 (n + (1 : Int)) else IntKind.wrap IntKind.u64 (IntKind.wrap IntKind.u64 (HRise.total x - IntKind.wrap IntKind.u64 (↑(List.length (List.map (RCod.enc cMail) (HRise.kept x))) : Int)) + (1 : Int))) - IntKind.wrap IntKind.u64 (IntKind.wrap IntKind.u64 (HRise.total x - IntKind.wrap IntKind.u64 (↑(List.length (List.map (RCod.enc cMail) (HRise.kept x))) : Int)) + (1 : Int))))) []) (5 : Nat) V.undef)), V.int IntKind.u8 (V.toInt (List.getD (List.getD (List.map (RCod.enc cMail) (HRise.kept x)) (Int.toNat (IntKind.wrap IntKind.u64 ((bif ilt (IntKind.wrap IntKind.u64 (IntKind.wrap IntKind.u64 (HRise.total x - IntKind.wrap IntKind.u64 (↑(List.length (List.map (RCod.enc cMail) (HRise.kept x))) : Int)) + (1 : Int))) (IntKind.wrap IntKind.u64 (n + (1 : Int))) then IntKind.wrap IntKind.u64 (n + (1 : Int)) else IntKind.wrap IntKind.u64 (IntKind.wrap IntKind.u64 (HRise.total x - IntKind.wrap IntKind.u64 (↑(List.length (List.map (RCod.enc cMail) (HRise.kept x))) : Int)) + (1 : Int))) - IntKind.wrap IntKind.u64 (IntKind.wrap IntKind.u64 (HRise.total x - IntKind.wrap IntKind.u64 (↑(List.length (List.map (RCod.enc cMail) (HRise.kept x))) : Int)) + (1 : Int))))) []) (6 : Nat) V.undef))], V.bool true], bx := [] : DRes }) (none)) (none)) := by kernel_rfl
theorem getD_enc {α : Type} (c : RCod α) (l : List α) (i : Nat) (d : α) (h : i < l.length) : (l.map c.enc).getD i [] = c.enc (l.getD i d) := by
  rw [List.getD_eq_getElem?_getD, List.getD_eq_getElem?_getD, List.getElem?_map, List.getElem?_eq_getElem h]
  rfl
theorem all_getD {α : Type} {p : α → Bool} {l : List α} (h : l.all p = true) (i : Nat) (d : α) (hi : i < l.length) : p (l.getD i d) = true := by
  rw [List.getD_eq_getElem?_getD, List.getElem?_eq_getElem hi]
  exact List.all_eq_true.1 h _ (List.getElem_mem hi)
/-- A message that was read of a row. -/
theorem mail_got (m : HMail) (sm : m.head.length ≤ 1000000) (n : Int) (b : Bool) :
    cond (Nat.ble (V.toRows (List.getD (cMail.enc m) 3 .undef)).length 1000000)
      (some (⟨.tup [.int .u64 n, .agg [.int .u64 (V.toInt (List.getD (cMail.enc m) 0 .undef)), .str (V.toStr (List.getD (cMail.enc m) 1 .undef)), .str (V.toStr (List.getD (cMail.enc m) 2 .undef)),
        .slc [.str, .int .u8, .int .i64, .str] (((V.toRows (List.getD (cMail.enc m) 3 .undef)).map fun r => ({ key := V.toStr (List.getD r 0 .undef), kind := V.toInt (List.getD r 1 .undef), num := V.toInt (List.getD r 2 .undef), text := V.toStr (List.getD r 3 .undef) } : HPair)).map fun p => [V.str p.key, V.int .u8 p.kind, V.int .i64 p.num, V.str p.text]),
        .str (V.toStr (List.getD (cMail.enc m) 4 .undef)), .int .u64 (V.toInt (List.getD (cMail.enc m) 5 .undef)), .int .u8 (V.toInt (List.getD (cMail.enc m) 6 .undef))], .bool b], [], []⟩ : DRes)) none =
    some (⟨.tup [.int .u64 n, .agg (cMail.enc m), .bool b], [], []⟩ : DRes) := by
  have e : ((V.toRows (List.getD (cMail.enc m) 3 .undef)).map fun r => ({ key := V.toStr (List.getD r 0 .undef), kind := V.toInt (List.getD r 1 .undef), num := V.toInt (List.getD r 2 .undef), text := V.toStr (List.getD r 3 .undef) } : HPair)) = m.head := pairs_enc m.head
  have e2 : (V.toRows (List.getD (cMail.enc m) 3 .undef)).length = m.head.length := List.length_map ..
  rw [e, e2, ble_t sm]
  rfl
theorem ok_riseAfter : FnOk Tryz.prog 23 dRiseAfter := by
  refine den_okF (env_ok ((TOk.nil _).cons ok_mailCopy)) (E := eRiseAfter) Tryz.func23 [] (by kernel_rfl) none0 fun a _ h => ?_
  obtain ⟨x, n⟩ := a
  obtain ⟨h1, h2⟩ := bcond h
  obtain ⟨h1, h7⟩ := bcond h1
  obtain ⟨h7, h8⟩ := bcond h7
  obtain ⟨h3, h4⟩ := bcond h1
  obtain ⟨h3, h5⟩ := bcond h3
  obtain ⟨h4, h6⟩ := bcond h4
  obtain ⟨h2, h9⟩ := bcond h2
  have h2 : 0 ≤ n := ile_of h2
  have h3 : 0 ≤ x.total := ile_of h3
  have h5 : x.total ≤ 18446744073709551615 := ile_of h5
  have h4 : x.kept.length ≤ 16 := ble_of h4
  have h7 : (x.kept.length : Int) ≤ x.total := ile_of h7
  refine (q_riseAfter x n).trans ?_
  show _ = some (⟨.tup [.int .u64 (N.riseAfter x n).1, .agg (cMail.enc (N.riseAfter x n).2.1), .bool (N.riseAfter x n).2.2], [], []⟩ : DRes)
  unfold N.riseAfter
  cases ht : ile x.total n with
  | true => rfl
  | false =>
    have ht := ile_nof ht
    have h8 : x.kept.length ≠ 0 := fun e => by
      rw [e] at h8
      have h8 : x.total = 0 := ieq_of h8
      omega
    have w1 := wr_u64 (n := (x.kept.length : Int)) (by omega) (by omega)
    have w2 := wr_u64 (n := x.total - x.kept.length) (by omega) (by omega)
    have w3 := wr_u64 (n := x.total - x.kept.length + 1) (by omega) (by omega)
    have w4 := wr_u64 (n := n + 1) (by omega) (by omega)
    simp only [List.length_map, w1, w2, w3, w4]
    cases hl : ilt (x.total - x.kept.length + 1) (n + 1) with
    | true =>
      have hl := ilt_of hl
      have w5 := wr_u64 (n := n + 1 - (x.total - x.kept.length + 1)) (by omega) (by omega)
      have d : decide (0 ≤ n + 1 - (x.total - x.kept.length + 1) ∧ n + 1 - (x.total - x.kept.length + 1) < x.kept.length) = true := decide_eq_true (by omega)
      have hi : (n + 1 - (x.total - x.kept.length + 1)).toNat < x.kept.length := by omega
      simp only [cond_true, cond_false, w5, d, getD_enc cMail x.kept _ mail0 hi, List.length_map]
      have sm : (x.kept.getD (n + 1 - (x.total - x.kept.length + 1)).toNat mail0).head.length ≤ 1000000 := ble_of (all_getD h6 _ mail0 hi)
      generalize x.kept.getD (n + 1 - (x.total - x.kept.length + 1)).toNat mail0 = m at sm ⊢
      exact mail_got m sm _ _
    | false =>
      have hl := ilt_nof hl
      have w5 := wr_u64 (n := x.total - x.kept.length + 1 - (x.total - x.kept.length + 1)) (by omega) (by omega)
      have e5 : x.total - x.kept.length + 1 - (x.total - x.kept.length + 1) = 0 := by omega
      rw [e5] at w5
      have d : decide ((0 : Int) ≤ 0 ∧ (0 : Int) < x.kept.length) = true := decide_eq_true (by omega)
      have hi : 0 < x.kept.length := by omega
      simp only [cond_true, cond_false, e5, w5, d, Int.toNat_zero, getD_enc cMail x.kept 0 mail0 hi, List.length_map]
      have sm : (x.kept.getD 0 mail0).head.length ≤ 1000000 := ble_of (all_getD h6 _ mail0 hi)
      generalize x.kept.getD 0 mail0 = m at sm ⊢
      exact mail_got m sm _ _
end Go.Ev

/- What rises tell, in plain terms: lemmas, no condition. -/
namespace Go.Ev
open Go Go.Proofs
set_option maxRecDepth 100000

namespace N
def tell (x : HRise) : Nat → Int → List HMail → Int × List HMail
  | 0, last, got => (last, got)
  | n + 1, last, got => cond (riseAfter x last).2.2 (tell x n (riseAfter x last).1 (got ++ [(riseAfter x last).2.1])) (last, got)
def many (asks : List Int) (n k : Nat) : Nat := cond (Nat.blt k n) (cond (Nat.blt k asks.length) (Int.tmod (IntKind.wrap .i64 (asks.getD k 0)) 3).toNat 0) 16
def play (asks : List Int) (l : List HMail) : Nat → Nat → HRise → Int → List HMail → List HMail → Option (HRise × Int × List HMail × List HMail)
  | 0, _, x, last, good, got => some (x, last, good, got)
  | f + 1, k, x, last, good, got => cond (ilt 16 (x.total - last)) none
      (cond (Nat.blt k l.length)
        (play asks l f (k + 1) (risePut x (l.getD k mail0)).1 (tell x (many asks l.length k) last got).1 (cond ((risePut x (l.getD k mail0)).2 == 0) (good ++ [l.getD k mail0]) good) (tell x (many asks l.length k) last got).2)
        (play asks l f (k + 1) x (tell x (many asks l.length k) last got).1 good (tell x (many asks l.length k) last got).2))
end N
/-- A rise that has had just these. -/
structure RInv (x : HRise) (g : List HMail) : Prop where
  total : x.total = g.length
  kept : x.kept = g.drop (g.length - 16)
  small : g.all smallM = true
  few : g.length < 1000
theorem RInv.len {x : HRise} {g : List HMail} (h : RInv x g) : x.kept.length = g.length - (g.length - 16) := by rw [h.kept, List.length_drop]
theorem RInv.good {x : HRise} {g : List HMail} (h : RInv x g) : goodRise x = true := by
  have := h.few
  have hl := h.len
  unfold goodRise
  rw [h.total, ile_t (by omega), ile_t (by omega), ble_t (by omega), h.kept]
  show (List.all (g.drop _) smallM) = true
  rw [List.all_eq_true]
  intro m hm
  exact List.all_eq_true.1 h.small m (List.mem_of_mem_drop hm)
theorem RInv.full {x : HRise} {g : List HMail} (h : RInv x g) : fullRise x = true := by
  have hl := h.len
  unfold fullRise
  rw [h.good, h.total, ile_t (by omega)]
  simp only [cond_true]
  cases e : Nat.beq x.kept.length 0 with
  | false => rfl
  | true =>
    have := Nat.eq_of_beq_eq_true e
    show (((g.length : Nat) : Int) == 0) = true
    exact ieq_t (by omega)
end Go.Ev

/- What the statement on heads that are read reckons: lemmas; the function that writes numbers is a premise. -/
namespace Go.Ev
open Go Go.Proofs
set_option maxRecDepth 100000

theorem headRead_len (i : InS) : (N.headRead i).1.length ≤ 255 := by
  obtain ⟨b1, b2⟩ := inNum1 i
  have w : IntKind.wrap .i64 (N.inNum i 1).1 = (N.inNum i 1).1 := wrap_i64 (by omega) (by omega)
  unfold N.headRead
  rw [w]
  have := readFrom_len (N.inNum i 1).1.toNat (cond (ilt 8 (N.inNum i 1).1) (N.inFail (N.inNum i 1).2 6) (N.inNum i 1).2) []
  rw [List.length_nil] at this
  omega
end Go.Ev

/- What the statement on heads' bytes reckons: lemmas; the functions that write numbers are premises. -/
namespace Go.Ev
open Go Go.Proofs
set_option maxRecDepth 100000

/-- The search from behind. -/
def N.back (key : Bytes) (l : List HPair) : Nat → HPair × Bool → HPair × Bool
  | 0, w => w
  | k + 1, w => back key l k (cond ((l.getD k pair0).key == key) (l.getD k pair0, true) w)
end Go.Ev

/- What the statement on heads' bytes reckons: it is true; the functions that write numbers are premises. -/
namespace Go.Ev
open Go Go.Proofs
set_option maxRecDepth 100000

def N.okP (p : HPair) : Bool := cond (ile 0 p.kind) (cond (ilt p.kind 256) (cond (ile (-9223372036854775808) p.num) (ile p.num 9223372036854775807) false) false) false
theorem okP_of {p : HPair} (h : N.okP p = true) : PairOk p := by
  obtain ⟨h1, h⟩ := bcond h
  obtain ⟨h2, h⟩ := bcond h
  obtain ⟨h3, h4⟩ := bcond h
  exact ⟨ile_of h1, ilt_of h2, ile_of h3, ile_of h4⟩
theorem refPairB_eq {p : HPair} {l : List HPair} (ho : PairOk p) (h : N.pairE p l = 0) : N.refPairB p = N.pairB p := by
  obtain ⟨_, h2, _⟩ := pairE_zero h
  have h1 := ho.1
  unfold N.refPairB N.pairB
  rcases (by omega : p.kind = 0 ∨ p.kind = 1 ∨ p.kind = 2) with k | k | k <;> rw [k] <;> rfl
theorem refPairs_eq (h : List HPair) (ho : ∀ p ∈ h, PairOk p) (hc : ∀ j, j < h.length → N.pairE (h.getD j pair0) (h.take j) = 0) : ∀ (f i : Nat), i + f = h.length → N.refPairsB (h.drop i) = N.pairsB (h.drop i)
  | 0, i, hi => by rw [List.drop_eq_nil_of_le (by omega)]; rfl
  | f + 1, i, hi => by
    have hlt : i < h.length := by omega
    have hm : h.getD i pair0 ∈ h := by rw [List.getD_eq_getElem?_getD, List.getElem?_eq_getElem hlt]; exact List.getElem_mem _
    rw [getD_drop pair0 hlt]
    show N.refPairB _ ++ N.refPairsB (h.drop (i + 1)) = N.pairB _ ++ N.pairsB (h.drop (i + 1))
    rw [refPairB_eq (ho _ hm) (hc i hlt), refPairs_eq h ho hc f (i + 1) (by omega)]
theorem refHead_eq (h : List HPair) (ho : ∀ p ∈ h, PairOk p) (hz : N.headCheck h = 0) : N.refHeadBytes h = N.headBytes h := by
  unfold N.headCheck at hz
  cases e : ilt 8 h.length with
  | true => rw [e] at hz; cases hz
  | false =>
    have e' := ilt_nof e
    rw [e, cond_false] at hz
    have hc : ∀ j, j < h.length → N.pairE (h.getD j pair0) (h.take j) = 0 := fun j hj => checkFrom_all h h.length 0 (Int.le_refl _) hz j (by omega) (by omega)
    unfold N.refHeadBytes N.headBytes
    have := refPairs_eq h ho hc h.length 0 (by omega)
    rw [List.drop_zero] at this
    rw [this, wrap_u64 (n := (h.length : Int)) (by omega) (by omega)]
end Go.Ev

/- Messages: what was written is read again; the program's reader and the document's go together: lemmas on the plain functions. -/
namespace Go.Ev
open Go

theorem rl_mail {s : Bytes} {i : InS} {q : RIn} (h : Rl s i q) : (N.mailRead i).1 = (N.rMail q).1 ∧ Rl s (N.mailRead i).2 (N.rMail q).2 := by
  unfold N.mailRead N.rMail
  dsimp only
  have t1 := rl_num h 8
  have t2 := rl_text t1.2 16
  have t3 := rl_text t2.2 64
  have t4 := rl_read t3.2
  have t5 := rl_text t4.2 256
  have t6 := rl_num t5.2 8
  have t7 := rl_num t6.2 1
  rw [t1.1, t2.1, t3.1, t4.1, t5.1, t6.1, t7.1]
  revert t7
  generalize (N.inNum _ 1).2 = i'
  generalize (N.rNum _ 1).2 = q'
  intro t7
  replace t7 := t7.2
  generalize (⟨_, _, _, _, _, _, _⟩ : HMail) = m
  unfold N.mailEnd N.rMailEnd
  have he : i'.err = q'.code := t7.2.2.2.1
  have tf := rl_fail t7 (N.mailCheck m)
  have hf : (N.inFail i' (N.mailCheck m)).err = (N.rFail q' (N.mailCheck m)).code := tf.2.2.2.1
  rw [he]
  cases q'.code == 0 with
  | true =>
    simp only [cond_true]
    rw [hf]
    cases (N.rFail q' (N.mailCheck m)).code != 0 <;> exact ⟨rfl, tf⟩
  | false =>
    simp only [cond_false]
    rw [he]
    cases q'.code != 0 <;> exact ⟨rfl, t7⟩
theorem refMailB_eq {m : HMail} (ho : ∀ p ∈ m.head, PairOk p) (hz : N.mailCheck m = 0) : N.refMailB m = N.mailB m := by
  unfold N.refMailB N.mailB
  rw [refHead_eq m.head ho (mailCheck_fit hz).2.2.1]
theorem fitM_of {m : HMail} (hk : N.okM m = true) (hz : N.mailCheck m = 0) : N.fitM m = true := by
  obtain ⟨c1, c2, c3, c4, c5, _⟩ := mailCheck_fit hz
  obtain ⟨c6, c7⟩ := check_fit c3
  unfold N.fitM
  rw [hk, ble_t (by omega), ble_t (by omega), ble_t (by omega), c7, ble_t (by omega)]; rfl
theorem mailSame_refl (m : HMail) : N.mailSame m m = true := by
  unfold N.mailSame
  simp only [beq_self_eq_true, samePs_refl, cond_true]
theorem mailB_len {m : HMail} (hz : N.mailCheck m = 0) : (N.mailB m).length ≤ 1570 := by
  obtain ⟨c1, c2, c3, c4, c5, _⟩ := mailCheck_fit hz
  have := headB_len c3
  unfold N.mailB
  simp only [List.length_append, numB_len, textB_len]; omega
end Go.Ev

/- Rules: the program's way and the document's are one: lemmas on the plain functions. -/
namespace Go.Ev
open Go

end Go.Ev

/- The functions that tell which messages go by a rule answer what the plain ones do: lemmas, no condition. -/
namespace Go.Ev
open Go Go.Proofs
set_option maxRecDepth 100000

end Go.Ev

/- Words joined again, patterns of stars: plain lemmas, no condition. -/
namespace Go.Ev
open Go
namespace N
end N
/-! ### Keys as patterns -/
end Go.Ev

/- What the statements on rules reckon: each is true; lemmas; the function that writes numbers is a premise. -/
namespace Go.Ev
open Go Go.Proofs
set_option maxRecDepth 100000

noncomputable def eAw9' : Env := env Tryz.prog [(85, dTrue)] [] []
theorem q_aw9'  : evFn eAw9' 75 [] [] some =
 some { v := V.bool true, bx := [] : DRes } := by kernel_rfl
theorem ok_aw9' (hN : FnOk Tryz.prog 44 dOutNum) : FnOk Tryz.prog 75 dTrue := den_okF (env_ok ((TOk.nil _).cons (ok_aw9 hN))) (E := eAw9') Tryz.func75 [] (by kernel_rfl) none0 fun _ _ _ => q_aw9'
theorem int_wf' {k : IntKind} {n : Int} (h : wfV (.int k n) = true) : k.min ≤ n ∧ n ≤ k.max := by
  unfold wfV Lit.wf at h
  simp at h
  exact h
end Go.Ev

/- The statement on heads' bytes: what it reckons is true of what comes in; lemmas, no condition. -/
namespace Go.Ev
open Go Go.Proofs
set_option maxRecDepth 100000

theorem int_wf {k : IntKind} {n : Int} (h : wfV (.int k n) = true) : k.min ≤ n ∧ n ≤ k.max := by
  unfold wfV Lit.wf at h
  simp at h
  exact h
theorem pair_wf {p : HPair} (h : wfL (cPair.enc p) = true) : N.okP p = true := by
  have h : cond (wfV (.str p.key)) (cond (wfV (.int .u8 p.kind)) (cond (wfV (.int .i64 p.num)) (wfL [V.str p.text]) false) false) false = true := h
  obtain ⟨_, h⟩ := bcond h
  obtain ⟨h1, h⟩ := bcond h
  obtain ⟨h2, _⟩ := bcond h
  obtain ⟨a1, a2⟩ := int_wf h1
  obtain ⟨b1, b2⟩ := int_wf h2
  have e1 : IntKind.u8.min = 0 := rfl
  have e2 : IntKind.u8.max = 255 := rfl
  have e3 : IntKind.i64.min = -9223372036854775808 := rfl
  have e4 : IntKind.i64.max = 9223372036854775807 := rfl
  unfold N.okP
  rw [ile_t (by omega), ilt_t (by omega), ile_t (by omega), ile_t (by omega)]; rfl
theorem pairs_wfR : ∀ l : List HPair, wfRs (l.map cPair.enc) = true → l.all N.okP = true
  | [], _ => rfl
  | p :: r, h => by
    have h : cond (wfL (cPair.enc p)) (wfRs (r.map cPair.enc)) false = true := h
    obtain ⟨h1, h2⟩ := bcond h
    rw [List.all_cons, pair_wf h1, pairs_wfR r h2]; rfl
theorem pairs_wf {l : List HPair} (h : wfL ((rSl cPair).enc l) = true) : l.all N.okP = true := by
  have h : cond (cond (Nat.ble (l.map cPair.enc).length 9223372036854775807) (cond (fitsRows cPair.sh (l.map cPair.enc)) (wfRs (l.map cPair.enc)) false) false) true false = true := h
  obtain ⟨h, _⟩ := bcond h
  obtain ⟨_, h⟩ := bcond h
  obtain ⟨_, h⟩ := bcond h
  exact pairs_wfR l h
end Go.Ev

/- What the statements on messages' bytes reckon: each is true; lemmas; the function that writes numbers is a premise. -/
namespace Go.Ev
open Go Go.Proofs
set_option maxRecDepth 100000

theorem ok_refMailSize : FnOk Tryz.prog 59 dMailSizeP := by
  refine den_okF (env_ok (((TOk.nil _).cons ok_refMailB).cons ok_refMailCheck)) (E := eRefMailSize) Tryz.func59 [] (by kernel_rfl) none0 fun m _ h => ?_
  obtain ⟨h, hp⟩ := bcond h
  have hp : ∀ p ∈ m.head, PairOk p := fun p hm => okP_of (List.all_eq_true.1 hp p hm)
  obtain ⟨id, shop, key, head, body, due, hops⟩ := m
  refine (q_refMailSize ⟨id, shop, key, head, body, due, hops⟩).trans ?_
  simp only [nrm_rows]
  show _ = some (⟨.int .i64 (N.mailSize ⟨id, shop, key, head, body, due, hops⟩), [], []⟩ : DRes)
  unfold N.mailSize
  cases hc : N.mailCheck ⟨id, shop, key, head, body, due, hops⟩ != 0 with
  | true => rfl
  | false =>
    have hz : N.mailCheck ⟨id, shop, key, head, body, due, hops⟩ = 0 := by simpa using hc
    simp (disch := omega) only [evs, fitM_of h hz, refMailB_eq hp hz]
noncomputable def eAw13 : Env := env Tryz.prog [(75, dTrue), (45, dMailBytes)] [] []
theorem q_aw13 : evFn eAw13 50 [] [] some = some { v := .bool true, bx := [] } := by kernel_rfl
theorem ok_aw13 (hN : FnOk Tryz.prog 44 dOutNum) : FnOk Tryz.prog 50 dTrue :=
  den_okF (env_ok (((TOk.nil _).cons (ok_mailBytes hN)).cons (ok_aw9' hN))) (E := eAw13) Tryz.func50 [] (by kernel_rfl) none0 fun _ _ _ => q_aw13
theorem rl_len {s : Bytes} {i : InS} {q : RIn} (h : Rl s i q) : i.err = q.code := h.2.2.2.1
theorem mailRead_head (i : InS) : (N.mailRead i).1.head.length ≤ 255 := by
  unfold N.mailRead
  dsimp only
  have := headRead_len (N.inText (N.inText (N.inNum i 8).2 16).2 64).2
  generalize N.headRead (N.inText (N.inText (N.inNum i 8).2 16).2 64).2 = d at *
  unfold N.mailEnd
  generalize (cond _ _ _ : InS) = z
  cases z.err != 0 with
  | true => show (0 : Nat) ≤ 255; omega
  | false => exact this
theorem mail_wf {m : HMail} (h : wfL (cMail.enc m) = true) : cond (N.okM m) (m.head.all N.okP) false = true := by
  have h : cond (wfV (.int .u64 m.id)) (cond (wfV (.str m.shop)) (cond (wfV (.str m.key)) (cond (wfV (.slc [.str, .int .u8, .int .i64, .str] (m.head.map cPair.enc))) (cond (wfV (.str m.body)) (cond (wfV (.int .u64 m.due)) (cond (wfV (.int .u8 m.hops)) true false) false) false) false) false) false) false = true := h
  obtain ⟨h1, h⟩ := bcond h
  obtain ⟨_, h⟩ := bcond h
  obtain ⟨_, h⟩ := bcond h
  obtain ⟨h4, h⟩ := bcond h
  obtain ⟨_, h⟩ := bcond h
  obtain ⟨h6, h⟩ := bcond h
  obtain ⟨h7, _⟩ := bcond h
  have a := int_wf' h1
  have b := int_wf' h6
  have c := int_wf' h7
  have e1 : IntKind.u64.min = 0 := rfl
  have e2 : IntKind.u64.max = 18446744073709551615 := rfl
  have e3 : IntKind.u8.min = 0 := rfl
  have e4 : IntKind.u8.max = 255 := rfl
  have hh : m.head.all N.okP = true := pairs_wf (l := m.head) (by show cond (wfV (.slc [.str, .int .u8, .int .i64, .str] (m.head.map cPair.enc))) true false = true; rw [h4]; rfl)
  unfold N.okM
  rw [ile_t (show 0 ≤ m.id by omega), ilt_t (show m.id < 18446744073709551616 by omega), ile_t (show 0 ≤ m.due by omega), ilt_t (show m.due < 18446744073709551616 by omega), ile_t (show 0 ≤ m.hops by omega), ilt_t (show m.hops < 256 by omega), hh]; rfl
end Go.Ev

/- The example of the statements on rises, and which messages they go through: lemmas; the function that writes numbers is a premise. -/
namespace Go.Ev
open Go Go.Proofs
set_option maxRecDepth 100000
-- FOLD

noncomputable def eAw13' : Env := env Tryz.prog [(50, dTrue)] [] []
theorem q_aw13'  : evFn eAw13' 24 [] [] some =
 some { v := V.bool true, bx := [] : DRes } := by kernel_rfl
theorem ok_aw13' (hN : FnOk Tryz.prog 44 dOutNum) : FnOk Tryz.prog 24 dTrue :=
  den_okF (env_ok ((TOk.nil _).cons (ok_aw13 hN))) (E := eAw13') Tryz.func24 [] (by kernel_rfl) none0 fun _ _ _ => q_aw13'
def schAw20 : SSch := { fr := [(1, .ptr 10000 0 0), (8, .int .i64)], tab := [(10001, .sl [.int .u64, .str, .str, .slc [.str, .int .u8, .int .i64, .str], .str, .int .u64, .int .u8]), (10000, .var [.int .u64, .own 10001])] }
def stAw20 (n : Int) (r : List (List V)) : List (Nat × Box) := [(10000, .var [.int .u64 n, .slc [.int .u64, .str, .str, .slc [.str, .int .u8, .int .i64, .str], .str, .int .u64, .int .u8] r])]
def rowA : List V := [.int .u64 0, .str [97], .str [], .slc [.str, .int .u8, .int .i64, .str] [], .str [], .int .u64 0, .int .u8 0]
def gAw20 : List Leaf → (Ex → St → Option R) → Option R
  | [.i i8, .r rx1, .i ix0], K => cond (i8 == 0) (cond (Nat.beq rx1.length 0) (cond (ix0 == 0) (K (.exit 0) { fr := [(1, .ptr 10000 0 0 0)], tab := stAw20 20 (List.replicate 16 rowA) }) none) none) none
  | _, _ => none
noncomputable def eAw20 : Env := env Tryz.prog [(14, dRisePut), (23, dRiseAfter), (24, dTrue)] [(3, loopF schAw20 gAw20)] [(3, [(0, [1, 8]), (1, [1]), (1000, [0])])]
theorem q_aw20  : evFn eAw20 5 [] [] some =
 some { v := V.bool true, bx := [] : DRes } := by kernel_rfl
theorem aw20_rounds (K : Ex → St → Option R) : iterR eAw20 5 3 21 { fr := [(1, .ptr 10000 0 0 0), (8, .int .i64 0)], tab := [(10001, .sl [.int .u64, .str, .str, .slc [.str, .int .u8, .int .i64, .str], .str, .int .u64, .int .u8] [] 0), (10000, .var [.int .u64 0, .own 10001 0])] } K =
    K (.exit 0) { fr := [(1, .ptr 10000 0 0 0)], tab := stAw20 20 (List.replicate 16 rowA) } := by kernel_rfl
theorem nbeq_of {x y : Nat} (h : Nat.beq x y = true) : x = y := Nat.eq_of_beq_eq_true h
theorem ok_aw20 (hN : FnOk Tryz.prog 44 dOutNum) : FnOk Tryz.prog 5 dTrue := by
  refine den_okF (env_ok ((((TOk.nil _).cons (ok_aw13' hN)).cons ok_riseAfter).cons ok_risePut)) (E := eAw20) Tryz.func5 [3] (by kernel_rfl) (one1 (rounds_of rfl fun l K q h => ?_)) fun _ _ _ => q_aw20
  unfold gAw20 at h
  split at h
  · rename_i i r n
    have h1 := (cond_none h).1; replace h := (cond_none h).2; have h2 := (cond_none h).1; replace h := (cond_none h).2; have h3 := (cond_none h).1; replace h := (cond_none h).2
    have e1 := ieq_of h1
    have e2 := List.eq_nil_of_length_eq_zero (nbeq_of h2)
    have e3 := ieq_of h3
    subst e1 e2 e3
    exact ⟨21, (aw20_rounds K).trans (by assumption)⟩
  · cases h
/-- A message that is read of a row. -/
theorem fold_mail (r : List V) : ({ id := V.toInt (List.getD r 0 .undef), shop := V.toStr (List.getD r 1 .undef), key := V.toStr (List.getD r 2 .undef), head := (V.toRows (List.getD r 3 .undef)).map fun r => ({ key := V.toStr (List.getD r 0 .undef), kind := V.toInt (List.getD r 1 .undef), num := V.toInt (List.getD r 2 .undef), text := V.toStr (List.getD r 3 .undef) } : HPair), body := V.toStr (List.getD r 4 .undef), due := V.toInt (List.getD r 5 .undef), hops := V.toInt (List.getD r 6 .undef) } : HMail) = cMail.dec r := rfl
end Go.Ev

/- What the statement on a rise's numbers reckons: it is true; lemmas; the function that writes numbers is a premise. -/
namespace Go.Ev
open Go Go.Proofs
set_option maxRecDepth 100000
-- FOLD

theorem fold_enc (m : HMail) : [V.int .u64 m.id, V.str m.shop, V.str m.key, V.slc [.str, .int .u8, .int .i64, .str] (m.head.map fun p => [V.str p.key, V.int .u8 p.kind, V.int .i64 p.num, V.str p.text]), V.str m.body, V.int .u64 m.due, V.int .u8 m.hops] = cMail.enc m := rfl
theorem fold_re (r : List V) : [V.int .u64 (V.toInt (List.getD r 0 .undef)), V.str (V.toStr (List.getD r 1 .undef)), V.str (V.toStr (List.getD r 2 .undef)), V.slc [.str, .int .u8, .int .i64, .str] (((V.toRows (List.getD r 3 .undef)).map fun r => ({ key := V.toStr (List.getD r 0 .undef), kind := V.toInt (List.getD r 1 .undef), num := V.toInt (List.getD r 2 .undef), text := V.toStr (List.getD r 3 .undef) } : HPair)).map fun p => [V.str p.key, V.int .u8 p.kind, V.int .i64 p.num, V.str p.text]),
    V.str (V.toStr (List.getD r 4 .undef)), V.int .u64 (V.toInt (List.getD r 5 .undef)), V.int .u8 (V.toInt (List.getD r 6 .undef))] = cMail.enc (cMail.dec r) := rfl
theorem fold_de (m : HMail) : ({ id := m.id, shop := m.shop, key := m.key, head := (m.head.map fun p => [V.str p.key, V.int .u8 p.kind, V.int .i64 p.num, V.str p.text]).map fun r => ({ key := V.toStr (List.getD r 0 .undef), kind := V.toInt (List.getD r 1 .undef), num := V.toInt (List.getD r 2 .undef), text := V.toStr (List.getD r 3 .undef) } : HPair), body := m.body, due := m.due, hops := m.hops } : HMail) = m := cMail.de m
theorem fold_rise (x : HRise) : (⟨x.total, x.kept⟩ : HRise) = x := rfl
def dAll : Den := den (aOne (vAgg cRise)) bNil (oV (vSl cMail)) (fun x _ => goodRise x) fun x _ => (x.kept, ())
def schAll : SSch := { fr := [(3, .own 10000), (7, .slc [.int .u64, .str, .str, .slc [.str, .int .u8, .int .i64, .str], .str, .int .u64, .int .u8]), (8, .int .i64), (9, .int .i64)], tab := [(10000, .sl [.int .u64, .str, .str, .slc [.str, .int .u8, .int .i64, .str], .str, .int .u64, .int .u8])] }
def gAll : List Leaf → (Ex → St → Option R) → Option R
  | [.r r7, .i i8, .i i9, .r rx0], K => cond (i8 == r7.length) (cond (i9 == 0) (cond (Nat.beq rx0.length 0) (cond (Nat.ble r7.length 16) (cond ((r7.map cMail.dec).all smallM)
      (K (.exit 0) { fr := [(3, .own 10000 0)], tab := [(10000, .sl [.int .u64, .str, .str, .slc [.str, .int .u8, .int .i64, .str], .str, .int .u64, .int .u8] ((r7.map cMail.dec).map cMail.enc) 0)] }) none) none) none) none) none
  | _, _ => none
noncomputable def eAll : Env := env Tryz.prog [(38, dMailCopy)] [(3, loopF schAll gAll)] [(3, [(0, [3, 7, 8, 9]), (1, [3]), (1000, [2])])]
theorem q_all (x : HRise) : evFn eAll 41 ((aOne (vAgg cRise)).enc x) ([]) some =
 cond ((↑(List.length (List.map (RCod.enc cMail) (HRise.kept x))) : Int) == (↑(List.length (List.map (RCod.enc cMail) (HRise.kept x))) : Int)) (cond (Nat.ble (List.length (List.map (RCod.enc cMail) (HRise.kept x))) (16 : Nat)) (cond (List.all (List.map (RCod.dec cMail) (List.map (RCod.enc cMail) (HRise.kept x))) smallM) (some { v := V.slc [Sh.int IntKind.u64, Sh.str, Sh.str, Sh.slc [Sh.str, Sh.int IntKind.u8, Sh.int IntKind.i64, Sh.str], Sh.str, Sh.int IntKind.u64, Sh.int IntKind.u8] (List.map (RCod.enc cMail) (List.map (RCod.dec cMail) (List.map (RCod.enc cMail) (HRise.kept x)))), bx := [] : DRes }) (none)) (none)) (none) := by kernel_rfl
theorem q_allR (r7 : List (List V)) (i8 : Int) (i9 : Int) (rx0 : List (List V)) (K : Ex → St → Option R) : evRound eAll 41 3 { fr := [(3, .own 10000 0), (7, .slc [.int .u64, .str, .str, .slc [.str, .int .u8, .int .i64, .str], .str, .int .u64, .int .u8] r7), (8, .int .i64 i8), (9, .int .i64 i9)], tab := [(10000, .sl [.int .u64, .str, .str, .slc [.str, .int .u8, .int .i64, .str], .str, .int .u64, .int .u8] rx0 0)] } K =
 cond (ilt i9 i8) (cond (decide ((0 : Int) ≤ i9 ∧ i9 < (↑(List.length r7) : Int))) (cond (smallM { id := V.toInt (List.getD (List.getD r7 (Int.toNat i9) []) (0 : Nat) V.undef), shop := V.toStr (List.getD (List.getD r7 (Int.toNat i9) []) (1 : Nat) V.undef), key := V.toStr (List.getD (List.getD r7 (Int.toNat i9) []) (2 : Nat) V.undef), head := List.map (fun r => { key := V.toStr (List.getD r (0 : Nat) V.undef), kind := V.toInt (List.getD r (1 : Nat) V.undef), num := V.toInt (List.getD r (2 : Nat) V.undef), text := V.toStr (List.getD r (3 : Nat) V.undef) : HPair }) (V.toRows (List.getD (List.getD r7 (Int.toNat i9) []) (3 : Nat) V.undef)), body := V.toStr (List.getD (List.getD r7 (Int.toNat i9) []) (4 : Nat) V.undef), due := V.toInt (List.getD (List.getD r7 (Int.toNat i9) []) (5 : Nat) V.undef), hops := V.toInt (List.getD (List.getD r7 (Int.toNat i9) []) (6 : Nat) V.undef) : HMail }) (cond (decide ((List.length rx0 + (1 : Nat)) * (96 : Nat) ≤ (140737488355328 : Nat))) (K Ex.normal { fr := [((3 : Nat), V.own (10000 : Nat) (0 : Nat)), ((7 : Nat), V.slc [Sh.int IntKind.u64, Sh.str, Sh.str, Sh.slc [Sh.str, Sh.int IntKind.u8, Sh.int IntKind.i64, Sh.str], Sh.str, Sh.int IntKind.u64, Sh.int IntKind.u8] r7), ((8 : Nat), V.int IntKind.i64 i8), ((9 : Nat), V.int IntKind.i64 (IntKind.wrap IntKind.i64 (i9 + (1 : Int))))], tab := [((10000 : Nat), Box.sl [Sh.int IntKind.u64, Sh.str, Sh.str, Sh.slc [Sh.str, Sh.int IntKind.u8, Sh.int IntKind.i64, Sh.str], Sh.str, Sh.int IntKind.u64, Sh.int IntKind.u8] (rx0 ++ [[V.int IntKind.u64 (V.toInt (List.getD (List.getD r7 (Int.toNat i9) []) (0 : Nat) V.undef)), V.str (V.toStr (List.getD (List.getD r7 (Int.toNat i9) []) (1 : Nat) V.undef)), V.str (V.toStr (List.getD (List.getD r7 (Int.toNat i9) []) (2 : Nat) V.undef)), V.slc [Sh.str, Sh.int IntKind.u8, Sh.int IntKind.i64, Sh.str] (List.map (fun p => [V.str (HPair.key p), V.int IntKind.u8 (HPair.kind p), V.int IntKind.i64 (HPair.num p), V.str (HPair.text p)]) (List.map (fun r => { key := V.toStr (List.getD r (0 : Nat) V.undef), kind := V.toInt (List.getD r (1 : Nat) V.undef), num := V.toInt (List.getD r (2 : Nat) V.undef), text := V.toStr (List.getD r (3 : Nat) V.undef) : HPair }) (V.toRows (List.getD (List.getD r7 (Int.toNat i9) []) (3 : Nat) V.undef)))), V.str (V.toStr (List.getD (List.getD r7 (Int.toNat i9) []) (4 : Nat) V.undef)), V.int IntKind.u64 (V.toInt (List.getD (List.getD r7 (Int.toNat i9) []) (5 : Nat) V.undef)), V.int IntKind.u8 (V.toInt (List.getD (List.getD r7 (Int.toNat i9) []) (6 : Nat) V.undef))]]) (0 : Nat))] : St }) (none)) (none)) (none)) (K (Ex.exit (0 : Nat)) { fr := [((3 : Nat), V.own (10000 : Nat) (0 : Nat))], tab := [((10000 : Nat), Box.sl [Sh.int IntKind.u64, Sh.str, Sh.str, Sh.slc [Sh.str, Sh.int IntKind.u8, Sh.int IntKind.i64, Sh.str], Sh.str, Sh.int IntKind.u64, Sh.int IntKind.u8] rx0 (0 : Nat))] : St }) := by kernel_rfl
theorem take_rows {r : List (List V)} {i : Nat} (h : i < r.length) : ((r.take (i + 1)).map cMail.dec).map cMail.enc = ((r.take i).map cMail.dec).map cMail.enc ++ [cMail.enc (cMail.dec (r.getD i []))] := by
  rw [List.take_add_one, List.getD_eq_getElem?_getD, List.getElem?_eq_getElem h]
  simp only [Option.toList_some, List.map_append, List.map_cons, List.map_nil, Option.getD_some]
theorem small_getD {l : List HMail} (h : l.all smallM = true) (i : Nat) : smallM (l.getD i mail0) = true := by
  by_cases hi : i < l.length
  · exact all_getD h i mail0 hi
  · rw [List.getD_eq_getElem?_getD, List.getElem?_eq_none (by omega)]; rfl
theorem small_row {r : List (List V)} (h : (r.map cMail.dec).all smallM = true) {i : Nat} (hi : i < r.length) : smallM (cMail.dec (r.getD i [])) = true := by
  refine List.all_eq_true.1 h _ (List.mem_map_of_mem ?_)
  rw [List.getD_eq_getElem?_getD, List.getElem?_eq_getElem hi]
  exact List.getElem_mem hi
theorem ok_all : FnOk Tryz.prog 41 dAll := by
  refine den_okF (env_ok ((TOk.nil _).cons ok_mailCopy)) (E := eAll) Tryz.func41 [3] (by kernel_rfl) (one1 (rounds_of rfl fun l K q h => ?_)) fun x _ hp => ?_
  · unfold gAll at h
    split at h
    · rename_i r n i o
      have h1 := (cond_none h).1; replace h := (cond_none h).2; have h2 := (cond_none h).1; replace h := (cond_none h).2; have h3 := (cond_none h).1; replace h := (cond_none h).2; have h4 := (cond_none h).1; replace h := (cond_none h).2; have h5 := (cond_none h).1; replace h := (cond_none h).2
      have e1 := ieq_of h1
      have e2 := ieq_of h2
      have e3 := List.eq_nil_of_length_eq_zero (nbeq_of h3)
      subst e1 e2 e3
      have h4 : r.length ≤ 16 := ble_of h4
      have main := range_ind (E := eAll) (f := 41) (id := 3) (A := Unit) r (fun _ i => { fr := [(3, .own 10000 0), (7, .slc [.int .u64, .str, .str, .slc [.str, .int .u8, .int .i64, .str], .str, .int .u64, .int .u8] r), (8, .int .i64 r.length), (9, .int .i64 i)], tab := [(10000, .sl [.int .u64, .str, .str, .slc [.str, .int .u8, .int .i64, .str], .str, .int .u64, .int .u8] (((r.take i.toNat).map cMail.dec).map cMail.enc) 0)] }) (fun _ _ => True)
        (fun _ _ K => K (.exit 0) { fr := [(3, .own 10000 0)], tab := [(10000, .sl [.int .u64, .str, .str, .slc [.str, .int .u8, .int .i64, .str], .str, .int .u64, .int .u8] ((r.map cMail.dec).map cMail.enc) 0)] }) (fun _ i _ hi => ?_) (fun _ _ => ?_) () 0 (Int.le_refl _) (by omega) trivial K q (by assumption)
      · exact main
      · refine .inl ⟨(), trivial, fun K => ?_, fun K => rfl⟩
        rw [q_allR]
        have hl : (((r.take i).map cMail.dec).map cMail.enc).length = i := by simp; omega
        have ht := take_rows hi
        have hs := small_row h5 hi
        simp (disch := omega) only [evs, Int.toNat_natCast, fold_mail, fold_re, hs, hl]
        rw [← ht]
        rfl
      · refine ⟨.exit 0, _, by simp, fun K => ?_, fun K => rfl⟩
        rw [q_allR]
        simp (disch := omega) only [evs, Int.toNat_natCast, List.take_length]
    · cases h
  · refine (q_all x).trans ?_
    have hp : goodRise x = true := hp
    show _ = some (⟨.slc [.int .u64, .str, .str, .slc [.str, .int .u8, .int .i64, .str], .str, .int .u64, .int .u8] (x.kept.map cMail.enc), [], []⟩ : DRes)
    obtain ⟨_, hp⟩ := bcond hp
    obtain ⟨h1, h2⟩ := bcond hp
    simp only [List.length_map, dec_encs, beq_self_eq_true, cond_true, h1, h2]
theorem after_small {x : HRise} (h : goodRise x = true) (k : Int) : smallM (N.riseAfter x k).2.1 = true := by
  obtain ⟨_, h⟩ := bcond h
  obtain ⟨_, h⟩ := bcond h
  unfold N.riseAfter
  cases ile x.total k with
  | true => rfl
  | false =>
    cases ilt (x.total - x.kept.length + 1) (k + 1) with
    | true => exact small_getD h _
    | false => exact small_getD h _
def N.sameMs : List HMail → List HMail → Bool
  | [], [] => true
  | a :: x, b :: y => cond (N.mailSame a b) (N.sameMs x y) false
  | _, _ => false
theorem drop_dec {r : List (List V)} {i : Nat} (h : i < r.length) : (r.drop i).map cMail.dec = cMail.dec (r.getD i []) :: (r.drop (i + 1)).map cMail.dec := by
  rw [drop_row h]; rfl
theorem sameMs_len : ∀ (a b : List HMail), a.length ≠ b.length → N.sameMs a b = false
  | [], [], h => absurd rfl h
  | [], _ :: _, _ => rfl
  | _ :: _, [], _ => rfl
  | a :: x, b :: y, h => by
    unfold N.sameMs
    rw [sameMs_len x y (fun e => h (by simp [e]))]
    cases N.mailSame a b <;> rfl
theorem sameMs_cons (a b : HMail) (x y : List HMail) : N.sameMs (a :: x) (b :: y) = cond (N.mailSame a b) (N.sameMs x y) false := rfl
theorem sameMs_refl : ∀ l : List HMail, N.sameMs l l = true
  | [] => rfl
  | a :: x => by
    unfold N.sameMs
    rw [mailSame_refl a, sameMs_refl x]; rfl
end Go.Ev

/- The functions on rises that one statement on them needs: sizes, sameness, the document's: lemmas; the function that writes numbers is a premise. -/
namespace Go.Ev
open Go Go.Proofs
set_option maxRecDepth 100000
-- FOLD

namespace N
def fineM (m : HMail) : Bool := cond (okM m) (m.head.all okP') false
def riseSize : List HMail → Int
  | [] => 0
  | m :: r => mailSize m + riseSize r
def sameR (x y : HRise) : Bool := cond (x.total == y.total) (sameMs x.kept y.kept) false
end N
def goodOkR (x : HRise) : Bool := cond (goodRise x) (x.kept.all N.okM) false
def goodFineR (x : HRise) : Bool := cond (goodRise x) (x.kept.all N.fineM) false
def dRiseSize : Den := den (aOne (vAgg cRise)) bNil (oV (vInt .i64)) (fun x _ => goodOkR x) fun x _ => (N.riseSize x.kept, ())
def dRefRiseSize : Den := den (aOne (vAgg cRise)) bNil (oV (vInt .i64)) (fun x _ => goodFineR x) fun x _ => (N.riseSize x.kept, ())
def dSameR : Den := den (aCons (vAgg cRise) (aOne (vAgg cRise))) bNil (oV vBool) (fun a _ => cond (goodRise a.1) (goodRise a.2) false) fun a _ => (N.sameR a.1 a.2, ())
def dOf : Den := den (aOne (vAgg cRise)) bNil (oV (vAgg cRise)) (fun x _ => goodRise x) fun x _ => (x, ())
theorem mailSize_le (m : HMail) : 0 ≤ N.mailSize m ∧ N.mailSize m ≤ 1570 := by
  unfold N.mailSize
  cases hc : N.mailCheck m != 0 with
  | true => exact ⟨Int.le_refl 0, (by decide : (0 : Int) ≤ 1570)⟩
  | false =>
    have hz : N.mailCheck m = 0 := by simpa using hc
    have := mailB_len hz
    show 0 ≤ ((N.mailB m).length : Int) ∧ ((N.mailB m).length : Int) ≤ 1570
    omega
theorem all_row {p : HMail → Bool} {r : List (List V)} (h : (r.map cMail.dec).all p = true) {i : Nat} (hi : i < r.length) : p (cMail.dec (r.getD i [])) = true := by
  refine List.all_eq_true.1 h _ (List.mem_map_of_mem ?_)
  rw [List.getD_eq_getElem?_getD, List.getElem?_eq_getElem hi]
  exact List.getElem_mem hi
def schRSize : SSch := { fr := [(3, .int .i64), (7, .slc [.int .u64, .str, .str, .slc [.str, .int .u8, .int .i64, .str], .str, .int .u64, .int .u8]), (8, .int .i64), (9, .int .i64)], tab := [] }
def gRSize : List Leaf → (Ex → St → Option R) → Option R
  | [.i i3, .r r7, .i i8, .i i9], K => cond (i8 == r7.length) (cond (i9 == 0) (cond (i3 == 0) (cond (Nat.ble r7.length 16) (cond ((r7.map cMail.dec).all N.okM)
      (K (.exit 0) { fr := [(3, .int .i64 (N.riseSize (r7.map cMail.dec)))], tab := [] }) none) none) none) none) none
  | _, _ => none
noncomputable def eRSize : Env := env Tryz.prog [(58, dMailSize)] [(3, loopF schRSize gRSize)] [(3, [(0, [3, 7, 8, 9]), (1, [3]), (1000, [2])])]
theorem q_rSize (x : HRise) : evFn eRSize 34 ((aOne (vAgg cRise)).enc x) ([]) some =
 cond ((↑(List.length (List.map (RCod.enc cMail) (HRise.kept x))) : Int) == (↑(List.length (List.map (RCod.enc cMail) (HRise.kept x))) : Int)) (cond (Nat.ble (List.length (List.map (RCod.enc cMail) (HRise.kept x))) (16 : Nat)) (cond (List.all (List.map (RCod.dec cMail) (List.map (RCod.enc cMail) (HRise.kept x))) N.okM) (some { v := V.int IntKind.i64 (N.riseSize (List.map (RCod.dec cMail) (List.map (RCod.enc cMail) (HRise.kept x)))), bx := [] : DRes }) (none)) (none)) (none) := by kernel_rfl
theorem q_rSizeR (i3 : Int) (r7 : List (List V)) (i8 : Int) (i9 : Int) (K : Ex → St → Option R) : evRound eRSize 34 3 { fr := [(3, .int .i64 i3), (7, .slc [.int .u64, .str, .str, .slc [.str, .int .u8, .int .i64, .str], .str, .int .u64, .int .u8] r7), (8, .int .i64 i8), (9, .int .i64 i9)], tab := [] } K =
 cond (ilt i9 i8) (cond (decide ((0 : Int) ≤ i9 ∧ i9 < (↑(List.length r7) : Int))) (cond (N.okM { id := V.toInt (List.getD (List.getD r7 (Int.toNat i9) []) (0 : Nat) V.undef), shop := V.toStr (List.getD (List.getD r7 (Int.toNat i9) []) (1 : Nat) V.undef), key := V.toStr (List.getD (List.getD r7 (Int.toNat i9) []) (2 : Nat) V.undef), head := List.map (fun r => { key := V.toStr (List.getD r (0 : Nat) V.undef), kind := V.toInt (List.getD r (1 : Nat) V.undef), num := V.toInt (List.getD r (2 : Nat) V.undef), text := V.toStr (List.getD r (3 : Nat) V.undef) : HPair }) (V.toRows (List.getD (List.getD r7 (Int.toNat i9) []) (3 : Nat) V.undef)), body := V.toStr (List.getD (List.getD r7 (Int.toNat i9) []) (4 : Nat) V.undef), due := V.toInt (List.getD (List.getD r7 (Int.toNat i9) []) (5 : Nat) V.undef), hops := V.toInt (List.getD (List.getD r7 (Int.toNat i9) []) (6 : Nat) V.undef) : HMail }) (K Ex.normal { fr := [((3 : Nat), V.int IntKind.i64 (IntKind.wrap IntKind.i64 (i3 + N.mailSize { id := V.toInt (List.getD (List.getD r7 (Int.toNat i9) []) (0 : Nat) V.undef), shop := V.toStr (List.getD (List.getD r7 (Int.toNat i9) []) (1 : Nat) V.undef), key := V.toStr (List.getD (List.getD r7 (Int.toNat i9) []) (2 : Nat) V.undef), head := List.map (fun r => { key := V.toStr (List.getD r (0 : Nat) V.undef), kind := V.toInt (List.getD r (1 : Nat) V.undef), num := V.toInt (List.getD r (2 : Nat) V.undef), text := V.toStr (List.getD r (3 : Nat) V.undef) : HPair }) (V.toRows (List.getD (List.getD r7 (Int.toNat i9) []) (3 : Nat) V.undef)), body := V.toStr (List.getD (List.getD r7 (Int.toNat i9) []) (4 : Nat) V.undef), due := V.toInt (List.getD (List.getD r7 (Int.toNat i9) []) (5 : Nat) V.undef), hops := V.toInt (List.getD (List.getD r7 (Int.toNat i9) []) (6 : Nat) V.undef) : HMail }))), ((7 : Nat), V.slc [Sh.int IntKind.u64, Sh.str, Sh.str, Sh.slc [Sh.str, Sh.int IntKind.u8, Sh.int IntKind.i64, Sh.str], Sh.str, Sh.int IntKind.u64, Sh.int IntKind.u8] r7), ((8 : Nat), V.int IntKind.i64 i8), ((9 : Nat), V.int IntKind.i64 (IntKind.wrap IntKind.i64 (i9 + (1 : Int))))], tab := [] : St }) (none)) (none)) (K (Ex.exit (0 : Nat)) { fr := [((3 : Nat), V.int IntKind.i64 i3)], tab := [] : St }) := by kernel_rfl
theorem ok_riseSize (hN : FnOk Tryz.prog 44 dOutNum) : FnOk Tryz.prog 34 dRiseSize := by
  refine den_okF (env_ok ((TOk.nil _).cons (ok_mailSize hN))) (E := eRSize) Tryz.func34 [3] (by kernel_rfl) (one1 (rounds_of rfl fun l K q h => ?_)) fun x _ hp => ?_
  · unfold gRSize at h
    split at h
    · rename_i o r n i
      have h1 := (cond_none h).1; replace h := (cond_none h).2; have h2 := (cond_none h).1; replace h := (cond_none h).2; have h3 := (cond_none h).1; replace h := (cond_none h).2; have h4 := (cond_none h).1; replace h := (cond_none h).2; have h5 := (cond_none h).1; replace h := (cond_none h).2
      have e1 := ieq_of h1
      have e2 := ieq_of h2
      have e3 := ieq_of h3
      subst e1 e2 e3
      have h4 : r.length ≤ 16 := ble_of h4
      have main := range_ind (E := eRSize) (f := 34) (id := 3) (A := Int) r (fun a i => { fr := [(3, .int .i64 a), (7, .slc [.int .u64, .str, .str, .slc [.str, .int .u8, .int .i64, .str], .str, .int .u64, .int .u8] r), (8, .int .i64 r.length), (9, .int .i64 i)], tab := [] }) (fun a i => 0 ≤ a ∧ a ≤ 1570 * i)
        (fun a rows K => K (.exit 0) { fr := [(3, .int .i64 (a + N.riseSize (rows.map cMail.dec)))], tab := [] }) (fun a i ha hi => ?_) (fun a _ => ?_) 0 0 (Int.le_refl _) (by omega) ⟨Int.le_refl _, by decide⟩ K q (by rw [Int.zero_add]; exact h)
      · exact main
      · have hb := mailSize_le (cMail.dec (r.getD i []))
        have hs := all_row h5 hi
        refine .inl ⟨a + N.mailSize (cMail.dec (r.getD i [])), ⟨by omega, by omega⟩, fun K => ?_, fun K => ?_⟩
        · rw [q_rSizeR]
          simp (disch := omega) only [evs, Int.toNat_natCast, fold_mail, hs]
        · show K _ { fr := [(3, .int .i64 (a + (N.mailSize (cMail.dec (r.getD i [])) + N.riseSize ((r.drop (i + 1)).map cMail.dec))))], tab := [] } = _
          rw [Int.add_assoc]
      · refine ⟨.exit 0, _, by simp, fun K => ?_, fun K => rfl⟩
        rw [q_rSizeR]
        simp (disch := omega) only [evs, List.map_nil, Int.add_zero]
        show _ = K _ { fr := [(3, .int .i64 (a + 0))], tab := [] }
        rw [Int.add_zero]
    · cases h
  · refine (q_rSize x).trans ?_
    obtain ⟨hp, h3⟩ := bcond hp
    obtain ⟨_, hp⟩ := bcond hp
    obtain ⟨h1, _⟩ := bcond hp
    show _ = some (⟨.int .i64 (N.riseSize x.kept), [], []⟩ : DRes)
    simp only [List.length_map, dec_encs, beq_self_eq_true, cond_true, h1, h3]
def schRefRSize : SSch := { fr := [(3, .int .i64), (7, .slc [.int .u64, .str, .str, .slc [.str, .int .u8, .int .i64, .str], .str, .int .u64, .int .u8]), (8, .int .i64), (9, .int .i64)], tab := [] }
def gRefRSize : List Leaf → (Ex → St → Option R) → Option R
  | [.i i3, .r r7, .i i8, .i i9], K => cond (i8 == r7.length) (cond (i9 == 0) (cond (i3 == 0) (cond (Nat.ble r7.length 16) (cond ((r7.map cMail.dec).all N.fineM)
      (K (.exit 0) { fr := [(3, .int .i64 (N.riseSize (r7.map cMail.dec)))], tab := [] }) none) none) none) none) none
  | _, _ => none
noncomputable def eRefRSize : Env := env Tryz.prog [(59, dMailSizeP)] [(3, loopF schRefRSize gRefRSize)] [(3, [(0, [3, 7, 8, 9]), (1, [3]), (1000, [2])])]
theorem q_refRSize (x : HRise) : evFn eRefRSize 35 ((aOne (vAgg cRise)).enc x) ([]) some =
 cond ((↑(List.length (List.map (RCod.enc cMail) (HRise.kept x))) : Int) == (↑(List.length (List.map (RCod.enc cMail) (HRise.kept x))) : Int)) (cond (Nat.ble (List.length (List.map (RCod.enc cMail) (HRise.kept x))) (16 : Nat)) (cond (List.all (List.map (RCod.dec cMail) (List.map (RCod.enc cMail) (HRise.kept x))) N.fineM) (some { v := V.int IntKind.i64 (N.riseSize (List.map (RCod.dec cMail) (List.map (RCod.enc cMail) (HRise.kept x)))), bx := [] : DRes }) (none)) (none)) (none) := by kernel_rfl
theorem q_refRSizeR (i3 : Int) (r7 : List (List V)) (i8 : Int) (i9 : Int) (K : Ex → St → Option R) : evRound eRefRSize 35 3 { fr := [(3, .int .i64 i3), (7, .slc [.int .u64, .str, .str, .slc [.str, .int .u8, .int .i64, .str], .str, .int .u64, .int .u8] r7), (8, .int .i64 i8), (9, .int .i64 i9)], tab := [] } K =
 cond (ilt i9 i8) (cond (decide ((0 : Int) ≤ i9 ∧ i9 < (↑(List.length r7) : Int))) (cond (bif N.okM { id := V.toInt (List.getD (List.getD r7 (Int.toNat i9) []) (0 : Nat) V.undef), shop := V.toStr (List.getD (List.getD r7 (Int.toNat i9) []) (1 : Nat) V.undef), key := V.toStr (List.getD (List.getD r7 (Int.toNat i9) []) (2 : Nat) V.undef), head := List.map (fun r => { key := V.toStr (List.getD r (0 : Nat) V.undef), kind := V.toInt (List.getD r (1 : Nat) V.undef), num := V.toInt (List.getD r (2 : Nat) V.undef), text := V.toStr (List.getD r (3 : Nat) V.undef) : HPair }) (V.toRows (List.getD (List.getD r7 (Int.toNat i9) []) (3 : Nat) V.undef)), body := V.toStr (List.getD (List.getD r7 (Int.toNat i9) []) (4 : Nat) V.undef), due := V.toInt (List.getD (List.getD r7 (Int.toNat i9) []) (5 : Nat) V.undef), hops := V.toInt (List.getD (List.getD r7 (Int.toNat i9) []) (6 : Nat) V.undef) : HMail } then List.all (List.map (fun r => { key := V.toStr (List.getD r (0 : Nat) V.undef), kind := V.toInt (List.getD r (1 : Nat) V.undef), num := V.toInt (List.getD r (2 : Nat) V.undef), text := V.toStr (List.getD r (3 : Nat) V.undef) : HPair }) (V.toRows (List.getD (List.getD r7 (Int.toNat i9) []) (3 : Nat) V.undef))) N.okP' else false) (K Ex.normal { fr := [((3 : Nat), V.int IntKind.i64 (IntKind.wrap IntKind.i64 (i3 + N.mailSize { id := V.toInt (List.getD (List.getD r7 (Int.toNat i9) []) (0 : Nat) V.undef), shop := V.toStr (List.getD (List.getD r7 (Int.toNat i9) []) (1 : Nat) V.undef), key := V.toStr (List.getD (List.getD r7 (Int.toNat i9) []) (2 : Nat) V.undef), head := List.map (fun r => { key := V.toStr (List.getD r (0 : Nat) V.undef), kind := V.toInt (List.getD r (1 : Nat) V.undef), num := V.toInt (List.getD r (2 : Nat) V.undef), text := V.toStr (List.getD r (3 : Nat) V.undef) : HPair }) (V.toRows (List.getD (List.getD r7 (Int.toNat i9) []) (3 : Nat) V.undef)), body := V.toStr (List.getD (List.getD r7 (Int.toNat i9) []) (4 : Nat) V.undef), due := V.toInt (List.getD (List.getD r7 (Int.toNat i9) []) (5 : Nat) V.undef), hops := V.toInt (List.getD (List.getD r7 (Int.toNat i9) []) (6 : Nat) V.undef) : HMail }))), ((7 : Nat), V.slc [Sh.int IntKind.u64, Sh.str, Sh.str, Sh.slc [Sh.str, Sh.int IntKind.u8, Sh.int IntKind.i64, Sh.str], Sh.str, Sh.int IntKind.u64, Sh.int IntKind.u8] r7), ((8 : Nat), V.int IntKind.i64 i8), ((9 : Nat), V.int IntKind.i64 (IntKind.wrap IntKind.i64 (i9 + (1 : Int))))], tab := [] : St }) (none)) (none)) (K (Ex.exit (0 : Nat)) { fr := [((3 : Nat), V.int IntKind.i64 i3)], tab := [] : St }) := by kernel_rfl
theorem ok_refRiseSize : FnOk Tryz.prog 35 dRefRiseSize := by
  refine den_okF (env_ok ((TOk.nil _).cons ok_refMailSize)) (E := eRefRSize) Tryz.func35 [3] (by kernel_rfl) (one1 (rounds_of rfl fun l K q h => ?_)) fun x _ hp => ?_
  · unfold gRefRSize at h
    split at h
    · rename_i o r n i
      have h1 := (cond_none h).1; replace h := (cond_none h).2; have h2 := (cond_none h).1; replace h := (cond_none h).2; have h3 := (cond_none h).1; replace h := (cond_none h).2; have h4 := (cond_none h).1; replace h := (cond_none h).2; have h5 := (cond_none h).1; replace h := (cond_none h).2
      have e1 := ieq_of h1
      have e2 := ieq_of h2
      have e3 := ieq_of h3
      subst e1 e2 e3
      have h4 : r.length ≤ 16 := ble_of h4
      have main := range_ind (E := eRefRSize) (f := 35) (id := 3) (A := Int) r (fun a i => { fr := [(3, .int .i64 a), (7, .slc [.int .u64, .str, .str, .slc [.str, .int .u8, .int .i64, .str], .str, .int .u64, .int .u8] r), (8, .int .i64 r.length), (9, .int .i64 i)], tab := [] }) (fun a i => 0 ≤ a ∧ a ≤ 1570 * i)
        (fun a rows K => K (.exit 0) { fr := [(3, .int .i64 (a + N.riseSize (rows.map cMail.dec)))], tab := [] }) (fun a i ha hi => ?_) (fun a _ => ?_) 0 0 (Int.le_refl _) (by omega) ⟨Int.le_refl _, by decide⟩ K q (by rw [Int.zero_add]; exact h)
      · exact main
      · have hb := mailSize_le (cMail.dec (r.getD i []))
        have hs := all_row h5 hi
        refine .inl ⟨a + N.mailSize (cMail.dec (r.getD i [])), ⟨by omega, by omega⟩, fun K => ?_, fun K => ?_⟩
        · rw [q_refRSizeR]
          simp (disch := omega) only [evs, Int.toNat_natCast, fold_mail, hs]
          show cond (N.fineM (cMail.dec (r.getD i []))) _ _ = _
          rw [hs]; rfl
        · show K _ { fr := [(3, .int .i64 (a + (N.mailSize (cMail.dec (r.getD i [])) + N.riseSize ((r.drop (i + 1)).map cMail.dec))))], tab := [] } = _
          rw [Int.add_assoc]
      · refine ⟨.exit 0, _, by simp, fun K => ?_, fun K => rfl⟩
        rw [q_refRSizeR]
        simp (disch := omega) only [evs, List.map_nil, Int.add_zero]
        show _ = K _ { fr := [(3, .int .i64 (a + 0))], tab := [] }
        rw [Int.add_zero]
    · cases h
  · refine (q_refRSize x).trans ?_
    obtain ⟨hp, h3⟩ := bcond hp
    obtain ⟨_, hp⟩ := bcond hp
    obtain ⟨h1, _⟩ := bcond hp
    show _ = some (⟨.int .i64 (N.riseSize x.kept), [], []⟩ : DRes)
    simp only [List.length_map, dec_encs, beq_self_eq_true, cond_true, h1, h3]
noncomputable def eRefRPut : Env := env Tryz.prog [(39, dMailCheck)] [] []
theorem q_refRPut (x : HRise) (m : HMail) : evFn eRefRPut 15 ((aCons (vAgg cRise) (aOne (vAgg cMail))).enc (x, m)) ([]) some =
 cond (N.mailCheck { id := HMail.id m, shop := HMail.shop m, key := HMail.key m, head := List.map (fun r => { key := V.toStr (List.getD r (0 : Nat) V.undef), kind := V.toInt (List.getD r (1 : Nat) V.undef), num := V.toInt (List.getD r (2 : Nat) V.undef), text := V.toStr (List.getD r (3 : Nat) V.undef) : HPair }) (List.map (fun p => [V.str (HPair.key p), V.int IntKind.u8 (HPair.kind p), V.int IntKind.i64 (HPair.num p), V.str (HPair.text p)]) (HMail.head m)), body := HMail.body m, due := HMail.due m, hops := HMail.hops m : HMail } == (0 : Int)) (cond (HRise.total x == (18446744073709551615 : Int)) (some { v := V.tup [V.agg [V.int IntKind.u64 (HRise.total x), V.slc [Sh.int IntKind.u64, Sh.str, Sh.str, Sh.slc [Sh.str, Sh.int IntKind.u8, Sh.int IntKind.i64, Sh.str], Sh.str, Sh.int IntKind.u64, Sh.int IntKind.u8] (List.map (RCod.enc cMail) (HRise.kept x))], V.int IntKind.i64 (18 : Int)], bx := [] : DRes }) (cond (N.mailCheck { id := HMail.id m, shop := HMail.shop m, key := HMail.key m, head := List.map (fun r => { key := V.toStr (List.getD r (0 : Nat) V.undef), kind := V.toInt (List.getD r (1 : Nat) V.undef), num := V.toInt (List.getD r (2 : Nat) V.undef), text := V.toStr (List.getD r (3 : Nat) V.undef) : HPair }) (List.map (fun p => [V.str (HPair.key p), V.int IntKind.u8 (HPair.kind p), V.int IntKind.i64 (HPair.num p), V.str (HPair.text p)]) (HMail.head m)), body := HMail.body m, due := HMail.due m, hops := HMail.hops m : HMail } != (0 : Int)) (some { v := V.tup [V.agg [V.int IntKind.u64 (HRise.total x), V.slc [Sh.int IntKind.u64, Sh.str, Sh.str, Sh.slc [Sh.str, Sh.int IntKind.u8, Sh.int IntKind.i64, Sh.str], Sh.str, Sh.int IntKind.u64, Sh.int IntKind.u8] (List.map (RCod.enc cMail) (HRise.kept x))], V.int IntKind.i64 (N.mailCheck { id := HMail.id m, shop := HMail.shop m, key := HMail.key m, head := List.map (fun r => { key := V.toStr (List.getD r (0 : Nat) V.undef), kind := V.toInt (List.getD r (1 : Nat) V.undef), num := V.toInt (List.getD r (2 : Nat) V.undef), text := V.toStr (List.getD r (3 : Nat) V.undef) : HPair }) (List.map (fun p => [V.str (HPair.key p), V.int IntKind.u8 (HPair.kind p), V.int IntKind.i64 (HPair.num p), V.str (HPair.text p)]) (HMail.head m)), body := HMail.body m, due := HMail.due m, hops := HMail.hops m : HMail })], bx := [] : DRes }) (cond (decide (List.length (List.map (RCod.enc cMail) (HRise.kept x)) * (96 : Nat) ≤ (140737488355328 : Nat))) (cond (decide ((List.length (List.map (RCod.enc cMail) (HRise.kept x)) + (1 : Nat)) * (96 : Nat) ≤ (140737488355328 : Nat))) (cond (ilt (16 : Int) (↑(List.length (List.map (RCod.enc cMail) (HRise.kept x) ++ [[V.int IntKind.u64 (HMail.id m), V.str (HMail.shop m), V.str (HMail.key m), V.slc [Sh.str, Sh.int IntKind.u8, Sh.int IntKind.i64, Sh.str] (List.map (fun p => [V.str (HPair.key p), V.int IntKind.u8 (HPair.kind p), V.int IntKind.i64 (HPair.num p), V.str (HPair.text p)]) (HMail.head m)), V.str (HMail.body m), V.int IntKind.u64 (HMail.due m), V.int IntKind.u8 (HMail.hops m)]])) : Int)) (cond (decide ((0 : Int) ≤ (1 : Int) ∧ (1 : Int) ≤ (↑(List.length (List.map (RCod.enc cMail) (HRise.kept x) ++ [[V.int IntKind.u64 (HMail.id m), V.str (HMail.shop m), V.str (HMail.key m), V.slc [Sh.str, Sh.int IntKind.u8, Sh.int IntKind.i64, Sh.str] (List.map (fun p => [V.str (HPair.key p), V.int IntKind.u8 (HPair.kind p), V.int IntKind.i64 (HPair.num p), V.str (HPair.text p)]) (HMail.head m)), V.str (HMail.body m), V.int IntKind.u64 (HMail.due m), V.int IntKind.u8 (HMail.hops m)]])) : Int))) (some { v := V.tup [V.agg [V.int IntKind.u64 (IntKind.wrap IntKind.u64 (HRise.total x + (1 : Int))), V.slc [Sh.int IntKind.u64, Sh.str, Sh.str, Sh.slc [Sh.str, Sh.int IntKind.u8, Sh.int IntKind.i64, Sh.str], Sh.str, Sh.int IntKind.u64, Sh.int IntKind.u8] (List.drop (1 : Nat) (List.take (List.length (List.map (RCod.enc cMail) (HRise.kept x) ++ [[V.int IntKind.u64 (HMail.id m), V.str (HMail.shop m), V.str (HMail.key m), V.slc [Sh.str, Sh.int IntKind.u8, Sh.int IntKind.i64, Sh.str] (List.map (fun p => [V.str (HPair.key p), V.int IntKind.u8 (HPair.kind p), V.int IntKind.i64 (HPair.num p), V.str (HPair.text p)]) (HMail.head m)), V.str (HMail.body m), V.int IntKind.u64 (HMail.due m), V.int IntKind.u8 (HMail.hops m)]])) (List.map (RCod.enc cMail) (HRise.kept x) ++ [[V.int IntKind.u64 (HMail.id m), V.str (HMail.shop m), V.str (HMail.key m), V.slc [Sh.str, Sh.int IntKind.u8, Sh.int IntKind.i64, Sh.str] (List.map (fun p => [V.str (HPair.key p), V.int IntKind.u8 (HPair.kind p), V.int IntKind.i64 (HPair.num p), V.str (HPair.text p)]) (HMail.head m)), V.str (HMail.body m), V.int IntKind.u64 (HMail.due m), V.int IntKind.u8 (HMail.hops m)]])))], V.int IntKind.i64 (0 : Int)], bx := [] : DRes }) (none)) (some { v := V.tup [V.agg [V.int IntKind.u64 (IntKind.wrap IntKind.u64 (HRise.total x + (1 : Int))), V.slc [Sh.int IntKind.u64, Sh.str, Sh.str, Sh.slc [Sh.str, Sh.int IntKind.u8, Sh.int IntKind.i64, Sh.str], Sh.str, Sh.int IntKind.u64, Sh.int IntKind.u8] (List.map (RCod.enc cMail) (HRise.kept x) ++ [[V.int IntKind.u64 (HMail.id m), V.str (HMail.shop m), V.str (HMail.key m), V.slc [Sh.str, Sh.int IntKind.u8, Sh.int IntKind.i64, Sh.str] (List.map (fun p => [V.str (HPair.key p), V.int IntKind.u8 (HPair.kind p), V.int IntKind.i64 (HPair.num p), V.str (HPair.text p)]) (HMail.head m)), V.str (HMail.body m), V.int IntKind.u64 (HMail.due m), V.int IntKind.u8 (HMail.hops m)]])], V.int IntKind.i64 (0 : Int)], bx := [] : DRes })) (none)) (none)))) (cond (N.mailCheck { id := HMail.id m, shop := HMail.shop m, key := HMail.key m, head := List.map (fun r => { key := V.toStr (List.getD r (0 : Nat) V.undef), kind := V.toInt (List.getD r (1 : Nat) V.undef), num := V.toInt (List.getD r (2 : Nat) V.undef), text := V.toStr (List.getD r (3 : Nat) V.undef) : HPair }) (List.map (fun p => [V.str (HPair.key p), V.int IntKind.u8 (HPair.kind p), V.int IntKind.i64 (HPair.num p), V.str (HPair.text p)]) (HMail.head m)), body := HMail.body m, due := HMail.due m, hops := HMail.hops m : HMail } != (0 : Int)) (some { v := V.tup [V.agg [V.int IntKind.u64 (HRise.total x), V.slc [Sh.int IntKind.u64, Sh.str, Sh.str, Sh.slc [Sh.str, Sh.int IntKind.u8, Sh.int IntKind.i64, Sh.str], Sh.str, Sh.int IntKind.u64, Sh.int IntKind.u8] (List.map (RCod.enc cMail) (HRise.kept x))], V.int IntKind.i64 (N.mailCheck { id := HMail.id m, shop := HMail.shop m, key := HMail.key m, head := List.map (fun r => { key := V.toStr (List.getD r (0 : Nat) V.undef), kind := V.toInt (List.getD r (1 : Nat) V.undef), num := V.toInt (List.getD r (2 : Nat) V.undef), text := V.toStr (List.getD r (3 : Nat) V.undef) : HPair }) (List.map (fun p => [V.str (HPair.key p), V.int IntKind.u8 (HPair.kind p), V.int IntKind.i64 (HPair.num p), V.str (HPair.text p)]) (HMail.head m)), body := HMail.body m, due := HMail.due m, hops := HMail.hops m : HMail })], bx := [] : DRes }) (cond (decide (List.length (List.map (RCod.enc cMail) (HRise.kept x)) * (96 : Nat) ≤ (140737488355328 : Nat))) (cond (decide ((List.length (List.map (RCod.enc cMail) (HRise.kept x)) + (1 : Nat)) * (96 : Nat) ≤ (140737488355328 : Nat))) (cond (ilt (16 : Int) (↑(List.length (List.map (RCod.enc cMail) (HRise.kept x) ++ [[V.int IntKind.u64 (HMail.id m), V.str (HMail.shop m), V.str (HMail.key m), V.slc [Sh.str, Sh.int IntKind.u8, Sh.int IntKind.i64, Sh.str] (List.map (fun p => [V.str (HPair.key p), V.int IntKind.u8 (HPair.kind p), V.int IntKind.i64 (HPair.num p), V.str (HPair.text p)]) (HMail.head m)), V.str (HMail.body m), V.int IntKind.u64 (HMail.due m), V.int IntKind.u8 (HMail.hops m)]])) : Int)) (cond (decide ((0 : Int) ≤ (1 : Int) ∧ (1 : Int) ≤ (↑(List.length (List.map (RCod.enc cMail) (HRise.kept x) ++ [[V.int IntKind.u64 (HMail.id m), V.str (HMail.shop m), V.str (HMail.key m), V.slc [Sh.str, Sh.int IntKind.u8, Sh.int IntKind.i64, Sh.str] (List.map (fun p => [V.str (HPair.key p), V.int IntKind.u8 (HPair.kind p), V.int IntKind.i64 (HPair.num p), V.str (HPair.text p)]) (HMail.head m)), V.str (HMail.body m), V.int IntKind.u64 (HMail.due m), V.int IntKind.u8 (HMail.hops m)]])) : Int))) (some { v := V.tup [V.agg [V.int IntKind.u64 (IntKind.wrap IntKind.u64 (HRise.total x + (1 : Int))), V.slc [Sh.int IntKind.u64, Sh.str, Sh.str, Sh.slc [Sh.str, Sh.int IntKind.u8, Sh.int IntKind.i64, Sh.str], Sh.str, Sh.int IntKind.u64, Sh.int IntKind.u8] (List.drop (1 : Nat) (List.take (List.length (List.map (RCod.enc cMail) (HRise.kept x) ++ [[V.int IntKind.u64 (HMail.id m), V.str (HMail.shop m), V.str (HMail.key m), V.slc [Sh.str, Sh.int IntKind.u8, Sh.int IntKind.i64, Sh.str] (List.map (fun p => [V.str (HPair.key p), V.int IntKind.u8 (HPair.kind p), V.int IntKind.i64 (HPair.num p), V.str (HPair.text p)]) (HMail.head m)), V.str (HMail.body m), V.int IntKind.u64 (HMail.due m), V.int IntKind.u8 (HMail.hops m)]])) (List.map (RCod.enc cMail) (HRise.kept x) ++ [[V.int IntKind.u64 (HMail.id m), V.str (HMail.shop m), V.str (HMail.key m), V.slc [Sh.str, Sh.int IntKind.u8, Sh.int IntKind.i64, Sh.str] (List.map (fun p => [V.str (HPair.key p), V.int IntKind.u8 (HPair.kind p), V.int IntKind.i64 (HPair.num p), V.str (HPair.text p)]) (HMail.head m)), V.str (HMail.body m), V.int IntKind.u64 (HMail.due m), V.int IntKind.u8 (HMail.hops m)]])))], V.int IntKind.i64 (0 : Int)], bx := [] : DRes }) (none)) (some { v := V.tup [V.agg [V.int IntKind.u64 (IntKind.wrap IntKind.u64 (HRise.total x + (1 : Int))), V.slc [Sh.int IntKind.u64, Sh.str, Sh.str, Sh.slc [Sh.str, Sh.int IntKind.u8, Sh.int IntKind.i64, Sh.str], Sh.str, Sh.int IntKind.u64, Sh.int IntKind.u8] (List.map (RCod.enc cMail) (HRise.kept x) ++ [[V.int IntKind.u64 (HMail.id m), V.str (HMail.shop m), V.str (HMail.key m), V.slc [Sh.str, Sh.int IntKind.u8, Sh.int IntKind.i64, Sh.str] (List.map (fun p => [V.str (HPair.key p), V.int IntKind.u8 (HPair.kind p), V.int IntKind.i64 (HPair.num p), V.str (HPair.text p)]) (HMail.head m)), V.str (HMail.body m), V.int IntKind.u64 (HMail.due m), V.int IntKind.u8 (HMail.hops m)]])], V.int IntKind.i64 (0 : Int)], bx := [] : DRes })) (none)) (none))) := by kernel_rfl
theorem ok_refRisePut : FnOk Tryz.prog 15 dRisePut := by
  refine den_okF (env_ok ((TOk.nil _).cons ok_refMailCheck)) (E := eRefRPut) Tryz.func15 [] (by kernel_rfl) none0 fun a _ h => ?_
  obtain ⟨x, m⟩ := a
  obtain ⟨h1, h2⟩ := bcond h
  obtain ⟨h3, h4⟩ := bcond h1
  obtain ⟨h3, h5⟩ := bcond h3
  obtain ⟨h4, h6⟩ := bcond h4
  have h3 : 0 ≤ x.total := ile_of h3
  have h5 : x.total ≤ 18446744073709551615 := ile_of h5
  have h4 : x.kept.length ≤ 16 := ble_of h4
  refine (q_refRPut x m).trans ?_
  show _ = some (⟨.tup [.agg (cRise.enc (N.risePut x m).1), .int .i64 (N.risePut x m).2], [], []⟩ : DRes)
  simp only [fold_de, fold_enc]
  unfold N.risePut
  cases hc : N.mailCheck m != 0 with
  | true =>
    have h0 : (N.mailCheck m == 0) = false := by rw [bne] at hc; simpa using hc
    rw [h0]
    rfl
  | false =>
    have hz : N.mailCheck m = 0 := by simpa using hc
    rw [hz]
    cases ht : x.total == 18446744073709551615 with
    | true => rfl
    | false =>
      have ht : x.total ≠ 18446744073709551615 := fun e => by rw [e] at ht; cases ht
      have l1 : (List.map (RCod.enc cMail) x.kept ++ [cMail.enc m]).length = x.kept.length + 1 := by simp
      have w2 : IntKind.wrap .u64 (x.total + 1) = x.total + 1 := wr_u64 (by omega) (by omega)
      have e1 : List.map (RCod.enc cMail) x.kept ++ [cMail.enc m] = List.map (RCod.enc cMail) (x.kept ++ [m]) := by simp
      have l2 : (List.map (RCod.enc cMail) (x.kept ++ [m])).length = x.kept.length + 1 := by simp
      have e2 : List.take (x.kept.length + 1) (List.map (RCod.enc cMail) (x.kept ++ [m])) = List.map (RCod.enc cMail) (x.kept ++ [m]) := List.take_of_length_le (Nat.le_of_eq l2)
      simp only [cond_true, cond_false, beq_self_eq_true, e1, l2, e2, w2, List.length_map, bne_self_eq_false]
      by_cases hl : x.kept.length = 16
      · simp (disch := omega) only [evs, hl]
        rw [← List.map_drop]
        rfl
      · simp (disch := omega) only [evs]
        rw [show x.kept.length + 1 - 16 = 0 by omega]
        rfl
/-- A message's row, read and written again. -/
def reRow (r : List V) : List V := [V.int .u64 (V.toInt (List.getD r 0 .undef)), V.str (V.toStr (List.getD r 1 .undef)), V.str (V.toStr (List.getD r 2 .undef)), V.slc [.str, .int .u8, .int .i64, .str] (V.toRows (List.getD r 3 .undef)), V.str (V.toStr (List.getD r 4 .undef)), V.int .u64 (V.toInt (List.getD r 5 .undef)), V.int .u8 (V.toInt (List.getD r 6 .undef))]
def schRefRAfter : SSch := { fr := [(1, .int .u64), (2, .ptr 10000 0 0), (5, .ptr 10001 0 0), (11, .slc [.int .u64, .str, .str, .slc [.str, .int .u8, .int .i64, .str], .str, .int .u64, .int .u8]), (12, .int .i64), (13, .int .i64)], tab := [(10000, .var [.int .u64, .slc [.int .u64, .str, .str, .slc [.str, .int .u8, .int .i64, .str], .str, .int .u64, .int .u8]]), (10001, .var [.int .u64, .str, .str, .slc [.str, .int .u8, .int .i64, .str], .str, .int .u64, .int .u8])] }
def N.aftN (t n : Int) (len : Nat) : Int := cond (ilt (t - len + 1) (n + 1)) (n + 1) (t - len + 1)
def gRefRAfter : List Leaf → (Ex → St → Option R) → Option R
  | [.i n, .r r, .i l, .i i, .i t, .r rx, .i a1, .s a2, .s a3, .r a4, .s a5, .i a6, .i a7], K => cond (l == r.length) (cond (i == 0) (cond (Nat.beq rx.length r.length) (cond (Nat.ble r.length 16) (cond (ile r.length t) (cond (ile t 18446744073709551615) (cond (ile 0 n) (cond (cond (Nat.beq r.length 0) (t == 0) true)
      (cond (ile t n) (K (.exit 0) { fr := [(5, .ptr 10000 0 0 0)], tab := [(10000, .var [.int .u64 a1, .str a2, .str a3, .slc [.str, .int .u8, .int .i64, .str] a4, .str a5, .int .u64 a6, .int .u8 a7])] })
        (K .ret { fr := [(4, .int .u64 (N.aftN t n r.length)), (5, .ptr 10000 0 0 0), (6, .bool true)], tab := [(10000, .var (reRow (r.getD (N.aftN t n r.length - (t - r.length + 1)).toNat [])))] })) none) none) none) none) none) none) none) none
  | _, _ => none
noncomputable def eRefRAfter : Env := { env Tryz.prog [] [(2, loopF schRefRAfter gRefRAfter)] [(2, [(0, [1, 2, 5, 11, 12, 13]), (1, [5]), (1000, [4, 5, 6])])] with fz := true }
theorem q_refRAfterR (n : Int) (r : List (List V)) (l i : Int) (t : Int) (rx : List (List V)) (a1 : Int) (a2 a3 : Bytes) (a4 : List (List V)) (a5 : Bytes) (a6 a7 : Int) (K : Ex → St → Option R) : evRound eRefRAfter 32 2 { fr := [(1, .int .u64 n), (2, .ptr 10000 0 0 0), (5, .ptr 10001 0 0 0), (11, .slc [.int .u64, .str, .str, .slc [.str, .int .u8, .int .i64, .str], .str, .int .u64, .int .u8] r), (12, .int .i64 l), (13, .int .i64 i)], tab := [(10000, .var [.int .u64 t, .slc [.int .u64, .str, .str, .slc [.str, .int .u8, .int .i64, .str], .str, .int .u64, .int .u8] rx]), (10001, .var [.int .u64 a1, .str a2, .str a3, .slc [.str, .int .u8, .int .i64, .str] a4, .str a5, .int .u64 a6, .int .u8 a7])] } K =
 cond (ilt i l) (cond (decide ((0 : Int) ≤ i ∧ i < (↑(List.length r) : Int))) (cond (ilt n (IntKind.wrap IntKind.u64 (t - IntKind.wrap IntKind.u64 (IntKind.wrap IntKind.i64 (IntKind.wrap IntKind.i64 ((↑(List.length rx) : Int) - (1 : Int)) - i))))) (K Ex.ret { fr := [((4 : Nat), V.int IntKind.u64 (IntKind.wrap IntKind.u64 (t - IntKind.wrap IntKind.u64 (IntKind.wrap IntKind.i64 (IntKind.wrap IntKind.i64 ((↑(List.length rx) : Int) - (1 : Int)) - i))))), ((5 : Nat), V.ptr (10000 : Nat) (0 : Nat) (0 : Nat) (0 : Nat)), ((6 : Nat), V.bool true)], tab := [((10000 : Nat), Box.var [V.int IntKind.u64 (V.toInt (List.getD (List.getD r (Int.toNat i) []) (0 : Nat) V.undef)), V.str (V.toStr (List.getD (List.getD r (Int.toNat i) []) (1 : Nat) V.undef)), V.str (V.toStr (List.getD (List.getD r (Int.toNat i) []) (2 : Nat) V.undef)), V.slc [Sh.str, Sh.int IntKind.u8, Sh.int IntKind.i64, Sh.str] (V.toRows (List.getD (List.getD r (Int.toNat i) []) (3 : Nat) V.undef)), V.str (V.toStr (List.getD (List.getD r (Int.toNat i) []) (4 : Nat) V.undef)), V.int IntKind.u64 (V.toInt (List.getD (List.getD r (Int.toNat i) []) (5 : Nat) V.undef)), V.int IntKind.u8 (V.toInt (List.getD (List.getD r (Int.toNat i) []) (6 : Nat) V.undef))])] : St }) (K Ex.normal { fr := [((1 : Nat), V.int IntKind.u64 n), ((2 : Nat), V.ptr (10000 : Nat) (0 : Nat) (0 : Nat) (0 : Nat)), ((5 : Nat), V.ptr (10001 : Nat) (0 : Nat) (0 : Nat) (0 : Nat)), ((11 : Nat), V.slc [Sh.int IntKind.u64, Sh.str, Sh.str, Sh.slc [Sh.str, Sh.int IntKind.u8, Sh.int IntKind.i64, Sh.str], Sh.str, Sh.int IntKind.u64, Sh.int IntKind.u8] r), ((12 : Nat), V.int IntKind.i64 l), ((13 : Nat), V.int IntKind.i64 (IntKind.wrap IntKind.i64 (i + (1 : Int))))], tab := [((10000 : Nat), Box.var [V.int IntKind.u64 t, V.slc [Sh.int IntKind.u64, Sh.str, Sh.str, Sh.slc [Sh.str, Sh.int IntKind.u8, Sh.int IntKind.i64, Sh.str], Sh.str, Sh.int IntKind.u64, Sh.int IntKind.u8] rx]), ((10001 : Nat), Box.var [V.int IntKind.u64 a1, V.str a2, V.str a3, V.slc [Sh.str, Sh.int IntKind.u8, Sh.int IntKind.i64, Sh.str] a4, V.str a5, V.int IntKind.u64 a6, V.int IntKind.u8 a7])] : St })) (none)) (K (Ex.exit (0 : Nat)) { fr := [((5 : Nat), V.ptr (10000 : Nat) (0 : Nat) (0 : Nat) (0 : Nat))], tab := [((10000 : Nat), Box.var [V.int IntKind.u64 a1, V.str a2, V.str a3, V.slc [Sh.str, Sh.int IntKind.u8, Sh.int IntKind.i64, Sh.str] a4, V.str a5, V.int IntKind.u64 a6, V.int IntKind.u8 a7])] : St }) := by kernel_rfl
theorem q_refRAfter (x : HRise) (n : Int) : evFn eRefRAfter 32 ((aCons (vAgg cRise) (aOne (vInt .u64))).enc (x, n)) ([]) some =
 cond ((↑(List.length (List.map (RCod.enc cMail) (HRise.kept x))) : Int) == (↑(List.length (List.map (RCod.enc cMail) (HRise.kept x))) : Int)) (cond (Nat.beq (List.length (List.map (RCod.enc cMail) (HRise.kept x))) (List.length (List.map (RCod.enc cMail) (HRise.kept x)))) (cond (Nat.ble (List.length (List.map (RCod.enc cMail) (HRise.kept x))) (16 : Nat)) (cond (ile (↑(List.length (List.map (RCod.enc cMail) (HRise.kept x))) : Int) (HRise.total x)) (cond (ile (HRise.total x) (18446744073709551615 : Int)) (cond (ile (0 : Int) n) (cond (bif Nat.beq (List.length (List.map (RCod.enc cMail) (HRise.kept x))) (0 : Nat) then HRise.total x == (0 : Int) else true) (cond (ile (HRise.total x) n) (some { v := V.tup [V.int IntKind.u64 (0 : Int), V.agg [V.int IntKind.u64 (0 : Int), V.str [], V.str [], V.slc [Sh.str, Sh.int IntKind.u8, Sh.int IntKind.i64, Sh.str] [], V.str [], V.int IntKind.u64 (0 : Int), V.int IntKind.u8 (0 : Int)], V.bool false], bx := [] : DRes }) (some { v := V.tup [V.int IntKind.u64 (N.aftN (HRise.total x) n (List.length (List.map (RCod.enc cMail) (HRise.kept x)))), V.agg [V.int IntKind.u64 (V.toInt (List.getD (List.getD (List.map (RCod.enc cMail) (HRise.kept x)) (Int.toNat (N.aftN (HRise.total x) n (List.length (List.map (RCod.enc cMail) (HRise.kept x))) - (HRise.total x - (↑(List.length (List.map (RCod.enc cMail) (HRise.kept x))) : Int) + (1 : Int)))) []) (0 : Nat) V.undef)), V.str (V.toStr (List.getD (List.getD (List.map (RCod.enc cMail) (HRise.kept x)) (Int.toNat (N.aftN (HRise.total x) n (List.length (List.map (RCod.enc cMail) (HRise.kept x))) - (HRise.total x - (↑(List.length (List.map (RCod.enc cMail) (HRise.kept x))) : Int) + (1 : Int)))) []) (1 : Nat) V.undef)), V.str (V.toStr (List.getD (List.getD (List.map (RCod.enc cMail) (HRise.kept x)) (Int.toNat (N.aftN (HRise.total x) n (List.length (List.map (RCod.enc cMail) (HRise.kept x))) - (HRise.total x - (↑(List.length (List.map (RCod.enc cMail) (HRise.kept x))) : Int) + (1 : Int)))) []) (2 : Nat) V.undef)), V.slc [Sh.str, Sh.int IntKind.u8, Sh.int IntKind.i64, Sh.str] (V.toRows (List.getD (List.getD (List.map (RCod.enc cMail) (HRise.kept x)) (Int.toNat (N.aftN (HRise.total x) n (List.length (List.map (RCod.enc cMail) (HRise.kept x))) - (HRise.total x - (↑(List.length (List.map (RCod.enc cMail) (HRise.kept x))) : Int) + (1 : Int)))) []) (3 : Nat) V.undef)), V.str (V.toStr (List.getD (List.getD (List.map (RCod.enc cMail) (HRise.kept x)) (Int.toNat (N.aftN (HRise.total x) n (List.length (List.map (RCod.enc cMail) (HRise.kept x))) - (HRise.total x - (↑(List.length (List.map (RCod.enc cMail) (HRise.kept x))) : Int) + (1 : Int)))) []) (4 : Nat) V.undef)), V.int IntKind.u64 (V.toInt (List.getD (List.getD (List.map (RCod.enc cMail) (HRise.kept x)) (Int.toNat (N.aftN (HRise.total x) n (List.length (List.map (RCod.enc cMail) (HRise.kept x))) - (HRise.total x - (↑(List.length (List.map (RCod.enc cMail) (HRise.kept x))) : Int) + (1 : Int)))) []) (5 : Nat) V.undef)), V.int IntKind.u8 (V.toInt (List.getD (List.getD (List.map (RCod.enc cMail) (HRise.kept x)) (Int.toNat (N.aftN (HRise.total x) n (List.length (List.map (RCod.enc cMail) (HRise.kept x))) - (HRise.total x - (↑(List.length (List.map (RCod.enc cMail) (HRise.kept x))) : Int) + (1 : Int)))) []) (6 : Nat) V.undef))], V.bool true], bx := [] : DRes })) (none)) (none)) (none)) (none)) (none)) (none)) (none) := by kernel_rfl
theorem ok_refRiseAfter : FnOk Tryz.prog 32 dRiseAfter := by
  refine den_okF (show TOk Tryz.prog _ from TOk.nil _) (E := eRefRAfter) Tryz.func32 [2] (by kernel_rfl) (one1 (rounds_of rfl fun l K q h => ?_)) fun a _ hp => ?_
  · unfold gRefRAfter at h
    split at h
    · rename_i n r l i t rx a1 a2 a3 a4 a5 a6 a7
      have h1 := (cond_none h).1; replace h := (cond_none h).2; have h2 := (cond_none h).1; replace h := (cond_none h).2; have h3 := (cond_none h).1; replace h := (cond_none h).2; have h4 := (cond_none h).1; replace h := (cond_none h).2; have h5 := (cond_none h).1; replace h := (cond_none h).2; have h6 := (cond_none h).1; replace h := (cond_none h).2; have h7 := (cond_none h).1; replace h := (cond_none h).2; have h8 := (cond_none h).1; replace h := (cond_none h).2
      have e1 := ieq_of h1
      have e2 := ieq_of h2
      have e3 := nbeq_of h3
      subst e1 e2
      have h4 : r.length ≤ 16 := ble_of h4
      have h5 := ile_of h5
      have h6 := ile_of h6
      have h7 := ile_of h7
      have h9 : r.length = 0 → t = 0 := fun e => by
        rw [e] at h8
        exact ieq_of h8
      refine loop_ind (E := eRefRAfter) (f := 32) (id := 2) (σ := Nat) (fun i => { fr := [(1, .int .u64 n), (2, .ptr 10000 0 0 0), (5, .ptr 10001 0 0 0), (11, .slc [.int .u64, .str, .str, .slc [.str, .int .u8, .int .i64, .str], .str, .int .u64, .int .u8] r), (12, .int .i64 r.length), (13, .int .i64 i)], tab := [(10000, .var [.int .u64 t, .slc [.int .u64, .str, .str, .slc [.str, .int .u8, .int .i64, .str], .str, .int .u64, .int .u8] rx]), (10001, .var [.int .u64 a1, .str a2, .str a3, .slc [.str, .int .u8, .int .i64, .str] a4, .str a5, .int .u64 a6, .int .u8 a7])] })
        (fun i => i ≤ r.length ∧ (i = 0 ∨ t - r.length + i ≤ n)) (fun i => r.length - i)
        (fun _ K => cond (ile t n) (K (.exit 0) { fr := [(5, .ptr 10000 0 0 0)], tab := [(10000, .var [.int .u64 a1, .str a2, .str a3, .slc [.str, .int .u8, .int .i64, .str] a4, .str a5, .int .u64 a6, .int .u8 a7])] })
          (K .ret { fr := [(4, .int .u64 (N.aftN t n r.length)), (5, .ptr 10000 0 0 0), (6, .bool true)], tab := [(10000, .var (reRow (r.getD (N.aftN t n r.length - (t - r.length + 1)).toNat [])))] })) (fun i hi => ?_) 0 ⟨Nat.zero_le _, .inl rfl⟩ K q (by assumption)
      obtain ⟨hi, hn⟩ := hi
      have w1 : IntKind.wrap .i64 ((rx.length : Int) - 1) = (r.length : Int) - 1 := by rw [e3]; exact wr_i64 (by omega) (by omega)
      by_cases hl : i < r.length
      · have w2 : IntKind.wrap .i64 ((r.length : Int) - 1 - i) = (r.length : Int) - 1 - i := wr_i64 (by omega) (by omega)
        have w3 : IntKind.wrap .u64 ((r.length : Int) - 1 - i) = (r.length : Int) - 1 - i := wr_u64 (by omega) (by omega)
        have w4 : IntKind.wrap .u64 (t - ((r.length : Int) - 1 - i)) = t - ((r.length : Int) - 1 - i) := wr_u64 (by omega) (by omega)
        by_cases hc : n < t - ((r.length : Int) - 1 - i)
        · refine .inr ⟨.ret, { fr := [(4, .int .u64 (N.aftN t n r.length)), (5, .ptr 10000 0 0 0), (6, .bool true)], tab := [(10000, .var (reRow (r.getD (N.aftN t n r.length - (t - r.length + 1)).toNat [])))] }, by simp, fun K => ?_, fun K => ?_⟩
          · have ea : N.aftN t n r.length = t - ((r.length : Int) - 1 - i) := by
              unfold N.aftN
              by_cases hh : t - (r.length : Int) + 1 < n + 1
              · rw [ilt_t hh, cond_true]; omega
              · rw [ilt_f (by omega), cond_false]; omega
            have eb : (t - ((r.length : Int) - 1 - i) - (t - r.length + 1)).toNat = i := by omega
            rw [q_refRAfterR, ea, eb]
            simp (disch := omega) only [evs, w1, w2, w3, w4, Int.toNat_natCast]
            rfl
          · rw [ile_f (by omega)]; rfl
        · refine .inl ⟨i + 1, ⟨hl, .inr (by omega)⟩, by omega, fun K => ?_, fun K => rfl⟩
          rw [q_refRAfterR]
          simp (disch := omega) only [evs, w1, w2, w3, w4]
          rfl
      · have ei : i = r.length := by omega
        refine .inr ⟨.exit 0, { fr := [(5, .ptr 10000 0 0 0)], tab := [(10000, .var [.int .u64 a1, .str a2, .str a3, .slc [.str, .int .u8, .int .i64, .str] a4, .str a5, .int .u64 a6, .int .u8 a7])] }, by simp, fun K => ?_, fun K => ?_⟩
        · rw [q_refRAfterR]
          simp (disch := omega) only [evs]
        · have : t ≤ n := by
            rcases hn with h0 | h0
            · have := h9 (by omega); omega
            · omega
          rw [ile_t this]; rfl
    · cases h
  · obtain ⟨x, n⟩ := a
    obtain ⟨h1, h2⟩ := bcond hp
    obtain ⟨h1, h7⟩ := bcond h1
    obtain ⟨h7, h8⟩ := bcond h7
    obtain ⟨h3, h4⟩ := bcond h1
    obtain ⟨h3, h5⟩ := bcond h3
    obtain ⟨h4, h6⟩ := bcond h4
    obtain ⟨h2, h9⟩ := bcond h2
    have h2 : ile 0 n = true := h2
    have h5 : ile x.total 18446744073709551615 = true := h5
    have h4 : Nat.ble x.kept.length 16 = true := h4
    have h7 : ile x.kept.length x.total = true := h7
    have h8 : cond (Nat.beq x.kept.length 0) (x.total == 0) true = true := h8
    refine (q_refRAfter x n).trans ?_
    show _ = some (⟨.tup [.int .u64 (N.riseAfter x n).1, .agg (cMail.enc (N.riseAfter x n).2.1), .bool (N.riseAfter x n).2.2], [], []⟩ : DRes)
    simp only [List.length_map, beq_self_eq_true, cond_true, h2, h4, h5, h7, h8, Nat.beq_refl]
    unfold N.riseAfter
    cases ht : ile x.total n with
    | true => rfl
    | false =>
      have ht := ile_nof ht
      have h8 : x.kept.length ≠ 0 := fun e => by
        rw [e] at h8
        have h8 : x.total = 0 := ieq_of h8
        have := ile_of h2
        omega
      have h7 := ile_of h7
      simp only [cond_false]
      unfold N.aftN
      cases hl : ilt (x.total - x.kept.length + 1) (n + 1) with
      | true =>
        have hl := ilt_of hl
        have hi : (n + 1 - (x.total - x.kept.length + 1)).toNat < x.kept.length := by omega
        simp only [cond_true, getD_enc cMail x.kept _ mail0 hi]
        rfl
      | false =>
        have hi : 0 < x.kept.length := by omega
        simp only [cond_false, Int.sub_self, Int.toNat_zero, getD_enc cMail x.kept 0 mail0 hi]
        rfl
end Go.Ev

/- Sameness of rises, and what the statements' helpers tell: lemmas; the function that writes numbers is a premise. -/
namespace Go.Ev
open Go Go.Proofs
set_option maxRecDepth 100000
-- FOLD

def schRefRSame : SSch := { fr := [(2, .ptr 10000 0 0), (3, .ptr 10001 0 0), (22, .int .i64), (23, .int .i64)], tab := [(10000, .var [.int .u64, .slc [.int .u64, .str, .str, .slc [.str, .int .u8, .int .i64, .str], .str, .int .u64, .int .u8]]), (10001, .var [.int .u64, .slc [.int .u64, .str, .str, .slc [.str, .int .u8, .int .i64, .str], .str, .int .u64, .int .u8]])] }
def gRefRSame : List Leaf → (Ex → St → Option R) → Option R
  | [.i n, .i i, .i t0, .r r, .i t1, .r r1], K => cond (n == r.length) (cond (i == 0) (cond (Nat.beq r.length r1.length) (cond (Nat.ble r.length LIM) (cond ((r.map cMail.dec).all smallM)
      (cond (N.sameMs (r.map cMail.dec) (r1.map cMail.dec)) (K (.exit 0) { fr := [], tab := [] }) (K .ret { fr := [(4, .bool false)], tab := [] })) none) none) none) none) none
  | _, _ => none
noncomputable def eRefRSame : Env := env Tryz.prog [(33, dMailSame)] [(4, loopF schRefRSame gRefRSame)] [(4, [(0, [2, 3, 22, 23]), (1, []), (1000, [4])])]
theorem q_refRSameR (t0 t1 : Int) (n i : Int) (r r1 : List (List V)) (K : Ex → St → Option R) : evRound eRefRSame 17 4 { fr := [(2, .ptr 10000 0 0 0), (3, .ptr 10001 0 0 0), (22, .int .i64 n), (23, .int .i64 i)], tab := [(10000, .var [.int .u64 t0, .slc [.int .u64, .str, .str, .slc [.str, .int .u8, .int .i64, .str], .str, .int .u64, .int .u8] r]), (10001, .var [.int .u64 t1, .slc [.int .u64, .str, .str, .slc [.str, .int .u8, .int .i64, .str], .str, .int .u64, .int .u8] r1])] } K =
 cond (ilt i n) (cond (decide ((0 : Int) ≤ i ∧ i < (↑(List.length r) : Int))) (cond (decide ((0 : Int) ≤ i ∧ i < (↑(List.length r1) : Int))) (cond (smallM { id := V.toInt (List.getD (List.getD r (Int.toNat i) []) (0 : Nat) V.undef), shop := V.toStr (List.getD (List.getD r (Int.toNat i) []) (1 : Nat) V.undef), key := V.toStr (List.getD (List.getD r (Int.toNat i) []) (2 : Nat) V.undef), head := List.map (fun r => { key := V.toStr (List.getD r (0 : Nat) V.undef), kind := V.toInt (List.getD r (1 : Nat) V.undef), num := V.toInt (List.getD r (2 : Nat) V.undef), text := V.toStr (List.getD r (3 : Nat) V.undef) : HPair }) (V.toRows (List.getD (List.getD r (Int.toNat i) []) (3 : Nat) V.undef)), body := V.toStr (List.getD (List.getD r (Int.toNat i) []) (4 : Nat) V.undef), due := V.toInt (List.getD (List.getD r (Int.toNat i) []) (5 : Nat) V.undef), hops := V.toInt (List.getD (List.getD r (Int.toNat i) []) (6 : Nat) V.undef) : HMail }) (cond (!N.mailSame { id := V.toInt (List.getD (List.getD r (Int.toNat i) []) (0 : Nat) V.undef), shop := V.toStr (List.getD (List.getD r (Int.toNat i) []) (1 : Nat) V.undef), key := V.toStr (List.getD (List.getD r (Int.toNat i) []) (2 : Nat) V.undef), head := List.map (fun r => { key := V.toStr (List.getD r (0 : Nat) V.undef), kind := V.toInt (List.getD r (1 : Nat) V.undef), num := V.toInt (List.getD r (2 : Nat) V.undef), text := V.toStr (List.getD r (3 : Nat) V.undef) : HPair }) (V.toRows (List.getD (List.getD r (Int.toNat i) []) (3 : Nat) V.undef)), body := V.toStr (List.getD (List.getD r (Int.toNat i) []) (4 : Nat) V.undef), due := V.toInt (List.getD (List.getD r (Int.toNat i) []) (5 : Nat) V.undef), hops := V.toInt (List.getD (List.getD r (Int.toNat i) []) (6 : Nat) V.undef) : HMail } { id := V.toInt (List.getD (List.getD r1 (Int.toNat i) []) (0 : Nat) V.undef), shop := V.toStr (List.getD (List.getD r1 (Int.toNat i) []) (1 : Nat) V.undef), key := V.toStr (List.getD (List.getD r1 (Int.toNat i) []) (2 : Nat) V.undef), head := List.map (fun r => { key := V.toStr (List.getD r (0 : Nat) V.undef), kind := V.toInt (List.getD r (1 : Nat) V.undef), num := V.toInt (List.getD r (2 : Nat) V.undef), text := V.toStr (List.getD r (3 : Nat) V.undef) : HPair }) (V.toRows (List.getD (List.getD r1 (Int.toNat i) []) (3 : Nat) V.undef)), body := V.toStr (List.getD (List.getD r1 (Int.toNat i) []) (4 : Nat) V.undef), due := V.toInt (List.getD (List.getD r1 (Int.toNat i) []) (5 : Nat) V.undef), hops := V.toInt (List.getD (List.getD r1 (Int.toNat i) []) (6 : Nat) V.undef) : HMail }) (K Ex.ret { fr := [((4 : Nat), V.bool false)], tab := [] : St }) (K Ex.normal { fr := [((2 : Nat), V.ptr (10000 : Nat) (0 : Nat) (0 : Nat) (0 : Nat)), ((3 : Nat), V.ptr (10001 : Nat) (0 : Nat) (0 : Nat) (0 : Nat)), ((22 : Nat), V.int IntKind.i64 n), ((23 : Nat), V.int IntKind.i64 (IntKind.wrap IntKind.i64 (i + (1 : Int))))], tab := [((10000 : Nat), Box.var [V.int IntKind.u64 t0, V.slc [Sh.int IntKind.u64, Sh.str, Sh.str, Sh.slc [Sh.str, Sh.int IntKind.u8, Sh.int IntKind.i64, Sh.str], Sh.str, Sh.int IntKind.u64, Sh.int IntKind.u8] r]), ((10001 : Nat), Box.var [V.int IntKind.u64 t1, V.slc [Sh.int IntKind.u64, Sh.str, Sh.str, Sh.slc [Sh.str, Sh.int IntKind.u8, Sh.int IntKind.i64, Sh.str], Sh.str, Sh.int IntKind.u64, Sh.int IntKind.u8] r1])] : St })) (none)) (none)) (none)) (K (Ex.exit (0 : Nat)) { fr := [], tab := [] : St }) := by kernel_rfl
theorem ok_refRSame4 : RoundsOk eRefRSame 17 4 := by
  refine rounds_of rfl fun l K q h => ?_
  unfold gRefRSame at h
  split at h
  · rename_i n i t0 r t1 r1
    have h1 := (cond_none h).1; replace h := (cond_none h).2; have h2 := (cond_none h).1; replace h := (cond_none h).2; have h3 := (cond_none h).1; replace h := (cond_none h).2; have h4 := (cond_none h).1; replace h := (cond_none h).2; have h5 := (cond_none h).1; replace h := (cond_none h).2
    have e1 := ieq_of h1
    have e2 := ieq_of h2
    have e3 := nbeq_of h3
    subst e1 e2
    have h4 : r.length ≤ 1000000 := ble_of h4
    refine loop_ind (E := eRefRSame) (f := 17) (id := 4) (σ := Nat) (fun i => { fr := [(2, .ptr 10000 0 0 0), (3, .ptr 10001 0 0 0), (22, .int .i64 r.length), (23, .int .i64 i)], tab := [(10000, .var [.int .u64 t0, .slc [.int .u64, .str, .str, .slc [.str, .int .u8, .int .i64, .str], .str, .int .u64, .int .u8] r]), (10001, .var [.int .u64 t1, .slc [.int .u64, .str, .str, .slc [.str, .int .u8, .int .i64, .str], .str, .int .u64, .int .u8] r1])] }) (fun i => i ≤ r.length) (fun i => r.length - i)
      (fun i K => cond (N.sameMs ((r.drop i).map cMail.dec) ((r1.drop i).map cMail.dec)) (K (.exit 0) { fr := [], tab := [] }) (K .ret { fr := [(4, .bool false)], tab := [] })) (fun i hi => ?_) 0 (Nat.zero_le _) K q (by assumption)
    by_cases hl : i < r.length
    · rw [drop_dec hl, drop_dec (show i < r1.length by omega), sameMs_cons]
      have hs := small_row h5 hl
      cases hc : N.mailSame (cMail.dec (r.getD i [])) (cMail.dec (r1.getD i [])) with
      | true =>
        refine .inl ⟨i + 1, hl, by omega, fun K => ?_, fun K => rfl⟩
        rw [q_refRSameR]
        simp (disch := omega) only [evs, Int.toNat_natCast, fold_mail, hs, hc, Bool.not_true]
        rfl
      | false =>
        refine .inr ⟨.ret, { fr := [(4, .bool false)], tab := [] }, by simp, fun K => ?_, fun K => rfl⟩
        rw [q_refRSameR]
        simp (disch := omega) only [evs, Int.toNat_natCast, fold_mail, hs, hc, Bool.not_false]
    · refine .inr ⟨.exit 0, { fr := [], tab := [] }, by simp, fun K => ?_, fun K => ?_⟩
      · rw [q_refRSameR]
        simp (disch := omega) only [evs]
      · rw [List.drop_eq_nil_of_le (show r.length ≤ i by omega), List.drop_eq_nil_of_le (show r1.length ≤ i by omega)]; rfl
  · cases h
theorem q_refRSame (x y : HRise) : evFn eRefRSame 17 ((aCons (vAgg cRise) (aOne (vAgg cRise))).enc (x, y)) ([]) some =
 cond (HRise.total x != HRise.total y) (some { v := V.bool false, bx := [] : DRes }) (cond ((↑(List.length (List.map (RCod.enc cMail) (HRise.kept x))) : Int) != (↑(List.length (List.map (RCod.enc cMail) (HRise.kept y))) : Int)) (some { v := V.bool false, bx := [] : DRes }) (cond ((↑(List.length (List.map (RCod.enc cMail) (HRise.kept x))) : Int) == (↑(List.length (List.map (RCod.enc cMail) (HRise.kept x))) : Int)) (cond (Nat.beq (List.length (List.map (RCod.enc cMail) (HRise.kept x))) (List.length (List.map (RCod.enc cMail) (HRise.kept y)))) (cond (Nat.ble (List.length (List.map (RCod.enc cMail) (HRise.kept x))) (1000000 : Nat)) (cond (List.all (List.map (RCod.dec cMail) (List.map (RCod.enc cMail) (HRise.kept x))) smallM) (cond (N.sameMs (List.map (RCod.dec cMail) (List.map (RCod.enc cMail) (HRise.kept x))) (List.map (RCod.dec cMail) (List.map (RCod.enc cMail) (HRise.kept y)))) (some { v := V.bool true, bx := [] : DRes }) (some { v := V.bool false, bx := [] : DRes })) (none)) (none)) (none)) (none))) := by kernel_rfl
theorem ok_refRSame : FnOk Tryz.prog 17 dSameR := by
  refine den_okF (env_ok ((TOk.nil _).cons ok_refMailSame)) (E := eRefRSame) Tryz.func17 [4] (by kernel_rfl) (one1 ok_refRSame4) fun a _ h => ?_
  obtain ⟨x, y⟩ := a
  obtain ⟨h1, _⟩ := bcond h
  obtain ⟨_, h1⟩ := bcond h1
  obtain ⟨h2, h3⟩ := bcond h1
  have h2 : x.kept.length ≤ 16 := ble_of h2
  have h3 : x.kept.all smallM = true := h3
  refine (q_refRSame x y).trans ?_
  show _ = some (⟨.bool (N.sameR x y), [], []⟩ : DRes)
  unfold N.sameR
  by_cases ht : x.total = y.total
  · by_cases hl : x.kept.length = y.kept.length
    · simp (disch := omega) only [evs, dec_encs, ht, hl, h3, Nat.beq_refl]
      cases N.sameMs x.kept y.kept <;> rfl
    · rw [sameMs_len _ _ hl]
      simp (disch := omega) only [evs, ht]
  · simp (disch := omega) only [evs]
noncomputable def eOf : Env := env Tryz.prog [(40, dTotal), (41, dAll)] [] []
theorem q_of (x : HRise) : evFn eOf 18 ((aOne (vAgg cRise)).enc x) ([]) some =
 cond (goodRise { total := HRise.total x, kept := List.map (RCod.dec cMail) (List.map (RCod.enc cMail) (HRise.kept x)) : HRise }) (some { v := V.agg [V.int IntKind.u64 (HRise.total x), V.slc [Sh.int IntKind.u64, Sh.str, Sh.str, Sh.slc [Sh.str, Sh.int IntKind.u8, Sh.int IntKind.i64, Sh.str], Sh.str, Sh.int IntKind.u64, Sh.int IntKind.u8] (List.map (RCod.enc cMail) (List.map (RCod.dec cMail) (List.map (RCod.enc cMail) (HRise.kept x))))], bx := [] : DRes }) (none) := by kernel_rfl
theorem ok_of : FnOk Tryz.prog 18 dOf := by
  refine den_okF (env_ok (((TOk.nil _).cons ok_all).cons ok_total)) (E := eOf) Tryz.func18 [] (by kernel_rfl) none0 fun x _ h => ?_
  have h : goodRise x = true := h
  refine (q_of x).trans ?_
  simp (disch := omega) only [evs, dec_encs, fold_rise, h]
  rfl
namespace N
def toldR (x y : HRise) (n : Int) : Bool := cond (sameR x y) (cond ((riseAfter x n).1 == (riseAfter y n).1) (cond (mailSame (riseAfter x n).2.1 (riseAfter y n).2.1) (cond ((riseAfter x n).2.2 == (riseAfter y n).2.2) (riseSize x.kept == riseSize y.kept) false) false) false) false
end N
def fullFine (x : HRise) : Bool := cond (fullRise x) (cond (x.kept.all N.fineM) (x.kept.all N.okM) false) false
def dTold : Den := den (aCons (vAgg cRise) (aCons (vAgg cRise) (aOne (vInt .u64)))) bNil (oV vBool) (fun a _ => cond (fullFine a.1) (cond (fullFine a.2.1) (cond (ile 0 a.2.2) (ile a.2.2 18446744073709551615) false) false) false) fun a _ => (N.toldR a.1 a.2.1 a.2.2, ())
noncomputable def eTold20 : Env := env Tryz.prog [(23, dRiseAfter), (32, dRiseAfter), (18, dOf), (17, dSameR), (33, dMailSame), (34, dRiseSize), (35, dRefRiseSize)] [] []
theorem q_told20 (x y : HRise) (n : Int) : evFn eTold20 13 ((aCons (vAgg cRise) (aCons (vAgg cRise) (aOne (vInt .u64)))).enc (x, y, n)) ([]) some =
 cond (bif fullRise { total := HRise.total x, kept := List.map (RCod.dec cMail) (List.map (RCod.enc cMail) (HRise.kept x)) : HRise } then bif ile (0 : Int) n then ile n (18446744073709551615 : Int) else false else false) (cond (bif fullRise { total := HRise.total y, kept := List.map (RCod.dec cMail) (List.map (RCod.enc cMail) (HRise.kept y)) : HRise } then bif ile (0 : Int) n then ile n (18446744073709551615 : Int) else false else false) (cond (goodRise { total := HRise.total x, kept := List.map (RCod.dec cMail) (List.map (RCod.enc cMail) (HRise.kept x)) : HRise }) (cond (bif goodRise { total := HRise.total x, kept := List.map (RCod.dec cMail) (List.map (RCod.enc cMail) (List.map (RCod.dec cMail) (List.map (RCod.enc cMail) (HRise.kept x)))) : HRise } then goodRise { total := HRise.total y, kept := List.map (RCod.dec cMail) (List.map (RCod.enc cMail) (HRise.kept y)) : HRise } else false) (cond (N.sameR { total := HRise.total x, kept := List.map (RCod.dec cMail) (List.map (RCod.enc cMail) (List.map (RCod.dec cMail) (List.map (RCod.enc cMail) (HRise.kept x)))) : HRise } { total := HRise.total y, kept := List.map (RCod.dec cMail) (List.map (RCod.enc cMail) (HRise.kept y)) : HRise }) (cond (Prod.fst (N.riseAfter { total := HRise.total x, kept := List.map (RCod.dec cMail) (List.map (RCod.enc cMail) (HRise.kept x)) : HRise } n) == Prod.fst (N.riseAfter { total := HRise.total y, kept := List.map (RCod.dec cMail) (List.map (RCod.enc cMail) (HRise.kept y)) : HRise } n)) (cond (smallM { id := HMail.id (Prod.fst (Prod.snd (N.riseAfter { total := HRise.total x, kept := List.map (RCod.dec cMail) (List.map (RCod.enc cMail) (HRise.kept x)) : HRise } n))), shop := HMail.shop (Prod.fst (Prod.snd (N.riseAfter { total := HRise.total x, kept := List.map (RCod.dec cMail) (List.map (RCod.enc cMail) (HRise.kept x)) : HRise } n))), key := HMail.key (Prod.fst (Prod.snd (N.riseAfter { total := HRise.total x, kept := List.map (RCod.dec cMail) (List.map (RCod.enc cMail) (HRise.kept x)) : HRise } n))), head := List.map (fun r => { key := V.toStr (List.getD r (0 : Nat) V.undef), kind := V.toInt (List.getD r (1 : Nat) V.undef), num := V.toInt (List.getD r (2 : Nat) V.undef), text := V.toStr (List.getD r (3 : Nat) V.undef) : HPair }) (List.map (fun p => [V.str (HPair.key p), V.int IntKind.u8 (HPair.kind p), V.int IntKind.i64 (HPair.num p), V.str (HPair.text p)]) (HMail.head (Prod.fst (Prod.snd (N.riseAfter { total := HRise.total x, kept := List.map (RCod.dec cMail) (List.map (RCod.enc cMail) (HRise.kept x)) : HRise } n))))), body := HMail.body (Prod.fst (Prod.snd (N.riseAfter { total := HRise.total x, kept := List.map (RCod.dec cMail) (List.map (RCod.enc cMail) (HRise.kept x)) : HRise } n))), due := HMail.due (Prod.fst (Prod.snd (N.riseAfter { total := HRise.total x, kept := List.map (RCod.dec cMail) (List.map (RCod.enc cMail) (HRise.kept x)) : HRise } n))), hops := HMail.hops (Prod.fst (Prod.snd (N.riseAfter { total := HRise.total x, kept := List.map (RCod.dec cMail) (List.map (RCod.enc cMail) (HRise.kept x)) : HRise } n))) : HMail }) (cond (N.mailSame { id := HMail.id (Prod.fst (Prod.snd (N.riseAfter { total := HRise.total x, kept := List.map (RCod.dec cMail) (List.map (RCod.enc cMail) (HRise.kept x)) : HRise } n))), shop := HMail.shop (Prod.fst (Prod.snd (N.riseAfter { total := HRise.total x, kept := List.map (RCod.dec cMail) (List.map (RCod.enc cMail) (HRise.kept x)) : HRise } n))), key := HMail.key (Prod.fst (Prod.snd (N.riseAfter { total := HRise.total x, kept := List.map (RCod.dec cMail) (List.map (RCod.enc cMail) (HRise.kept x)) : HRise } n))), head := List.map (fun r => { key := V.toStr (List.getD r (0 : Nat) V.undef), kind := V.toInt (List.getD r (1 : Nat) V.undef), num := V.toInt (List.getD r (2 : Nat) V.undef), text := V.toStr (List.getD r (3 : Nat) V.undef) : HPair }) (List.map (fun p => [V.str (HPair.key p), V.int IntKind.u8 (HPair.kind p), V.int IntKind.i64 (HPair.num p), V.str (HPair.text p)]) (HMail.head (Prod.fst (Prod.snd (N.riseAfter { total := HRise.total x, kept := List.map (RCod.dec cMail) (List.map (RCod.enc cMail) (HRise.kept x)) : HRise } n))))), body := HMail.body (Prod.fst (Prod.snd (N.riseAfter { total := HRise.total x, kept := List.map (RCod.dec cMail) (List.map (RCod.enc cMail) (HRise.kept x)) : HRise } n))), due := HMail.due (Prod.fst (Prod.snd (N.riseAfter { total := HRise.total x, kept := List.map (RCod.dec cMail) (List.map (RCod.enc cMail) (HRise.kept x)) : HRise } n))), hops := HMail.hops (Prod.fst (Prod.snd (N.riseAfter { total := HRise.total x, kept := List.map (RCod.dec cMail) (List.map (RCod.enc cMail) (HRise.kept x)) : HRise } n))) : HMail } { id := HMail.id (Prod.fst (Prod.snd (N.riseAfter { total := HRise.total y, kept := List.map (RCod.dec cMail) (List.map (RCod.enc cMail) (HRise.kept y)) : HRise } n))), shop := HMail.shop (Prod.fst (Prod.snd (N.riseAfter { total := HRise.total y, kept := List.map (RCod.dec cMail) (List.map (RCod.enc cMail) (HRise.kept y)) : HRise } n))), key := HMail.key (Prod.fst (Prod.snd (N.riseAfter { total := HRise.total y, kept := List.map (RCod.dec cMail) (List.map (RCod.enc cMail) (HRise.kept y)) : HRise } n))), head := List.map (fun r => { key := V.toStr (List.getD r (0 : Nat) V.undef), kind := V.toInt (List.getD r (1 : Nat) V.undef), num := V.toInt (List.getD r (2 : Nat) V.undef), text := V.toStr (List.getD r (3 : Nat) V.undef) : HPair }) (List.map (fun p => [V.str (HPair.key p), V.int IntKind.u8 (HPair.kind p), V.int IntKind.i64 (HPair.num p), V.str (HPair.text p)]) (HMail.head (Prod.fst (Prod.snd (N.riseAfter { total := HRise.total y, kept := List.map (RCod.dec cMail) (List.map (RCod.enc cMail) (HRise.kept y)) : HRise } n))))), body := HMail.body (Prod.fst (Prod.snd (N.riseAfter { total := HRise.total y, kept := List.map (RCod.dec cMail) (List.map (RCod.enc cMail) (HRise.kept y)) : HRise } n))), due := HMail.due (Prod.fst (Prod.snd (N.riseAfter { total := HRise.total y, kept := List.map (RCod.dec cMail) (List.map (RCod.enc cMail) (HRise.kept y)) : HRise } n))), hops := HMail.hops (Prod.fst (Prod.snd (N.riseAfter { total := HRise.total y, kept := List.map (RCod.dec cMail) (List.map (RCod.enc cMail) (HRise.kept y)) : HRise } n))) : HMail }) (cond (Prod.snd (Prod.snd (N.riseAfter { total := HRise.total x, kept := List.map (RCod.dec cMail) (List.map (RCod.enc cMail) (HRise.kept x)) : HRise } n)) == Prod.snd (Prod.snd (N.riseAfter { total := HRise.total y, kept := List.map (RCod.dec cMail) (List.map (RCod.enc cMail) (HRise.kept y)) : HRise } n))) (cond (goodOkR { total := HRise.total x, kept := List.map (RCod.dec cMail) (List.map (RCod.enc cMail) (HRise.kept x)) : HRise }) (cond (goodFineR { total := HRise.total y, kept := List.map (RCod.dec cMail) (List.map (RCod.enc cMail) (HRise.kept y)) : HRise }) (some { v := V.bool (N.riseSize (List.map (RCod.dec cMail) (List.map (RCod.enc cMail) (HRise.kept x))) == N.riseSize (List.map (RCod.dec cMail) (List.map (RCod.enc cMail) (HRise.kept y)))), bx := [] : DRes }) (none)) (none)) (some { v := V.bool false, bx := [] : DRes })) (some { v := V.bool false, bx := [] : DRes })) (none)) (some { v := V.bool false, bx := [] : DRes })) (some { v := V.bool false, bx := [] : DRes })) (none)) (none)) (none)) (none) := by kernel_rfl
theorem fullFine_of {x : HRise} (h : fullFine x = true) : fullRise x = true ∧ goodRise x = true ∧ goodOkR x = true ∧ goodFineR x = true := by
  obtain ⟨h1, h2⟩ := bcond h
  obtain ⟨h2, h3⟩ := bcond h2
  have hg : goodRise x = true := (bcond h1).1
  refine ⟨h1, hg, ?_, ?_⟩
  · unfold goodOkR; rw [hg, h3]; rfl
  · unfold goodFineR; rw [hg, h2]; rfl
theorem ok_told20 (hN : FnOk Tryz.prog 44 dOutNum) : FnOk Tryz.prog 13 dTold := by
  refine den_okF (env_ok ((((((((TOk.nil _).cons ok_refRiseSize).cons (ok_riseSize hN)).cons ok_refMailSame).cons ok_refRSame).cons ok_of).cons ok_refRiseAfter).cons ok_riseAfter)) (E := eTold20) Tryz.func13 [] (by kernel_rfl) none0 fun a _ h => ?_
  obtain ⟨x, y, n⟩ := a
  obtain ⟨h1, h2⟩ := bcond h
  obtain ⟨h2, h3⟩ := bcond h2
  obtain ⟨h3, h4⟩ := bcond h3
  obtain ⟨x1, x2, x3, x4⟩ := fullFine_of h1
  obtain ⟨y1, y2, y3, y4⟩ := fullFine_of h2
  have h3 : ile 0 n = true := h3
  have h4 : ile n 18446744073709551615 = true := h4
  refine (q_told20 x y n).trans ?_
  show _ = some (⟨.bool (N.toldR x y n), [], []⟩ : DRes)
  simp only [fold_de, dec_encs, fold_rise, x1, x2, x3, x4, y1, y2, y3, y4, h3, h4, cond_true, after_small x2]
  unfold N.toldR
  cases N.sameR x y <;> cases (N.riseAfter x n).1 == (N.riseAfter y n).1 <;> cases N.mailSame (N.riseAfter x n).2.1 (N.riseAfter y n).2.1 <;> cases (N.riseAfter x n).2.2 <;> cases (N.riseAfter y n).2.2 <;> rfl
end Go.Ev

/- Rises as bytes, and read of them: lemmas; the functions that write numbers are premises. -/
namespace Go.Ev
open Go Go.Proofs
set_option maxRecDepth 100000
-- FOLD

namespace N
def readMs : Nat → InS → List HMail → List HMail × InS
  | 0, i, acc => (acc, i)
  | k + 1, i, acc => cond (i.err == 0) (readMs k (mailRead i).2 (acc ++ [(mailRead i).1])) (acc, i)
def rMs : Nat → RIn → List HMail → List HMail × RIn
  | 0, q, acc => (acc, q)
  | k + 1, q, acc => cond (q.code == 0) (rMs k (rMail q).2 (acc ++ [(rMail q).1])) (acc, q)
end N
end Go.Ev
