/- What the statements on messages' bytes reckon: each is true; lemmas; the function that writes numbers is a premise. -/
import Derived.Test.YtpdaepodhfdplaaGreatDoorGd
namespace Go.Ev
open Go Go.Proofs
set_option maxRecDepth 100000

noncomputable def eAw13 : Env := env Tryz.prog [(141, dTrue), (140, dMailBytes)] [] []
theorem q_aw13 : evFn eAw13 103 [] [] some = some { v := .bool true, bx := [] } := by kernel_rfl
theorem ok_aw13 (hN : FnOk Tryz.prog 158 dOutNum) : FnOk Tryz.prog 103 dTrue :=
  den_okF (env_ok (((TOk.nil _).cons (ok_mailBytes hN)).cons (ok_aw9' hN))) (E := eAw13) Tryz.func103 [] (by kernel_rfl) none0 fun _ _ _ => q_aw13
theorem mail_wf {m : HMail} (h : wfL (cMail.enc m) = true) : cond (N.okM m) (m.head.all N.okP) false = true := by
  have h : cond (wfV (.int .u64 m.id)) (cond (wfV (.str m.shop)) (cond (wfV (.str m.key)) (cond (wfV (.slc [.str, .int .u8, .int .i64, .str] (m.head.map cPair.enc))) (cond (wfV (.str m.body)) (cond (wfV (.int .u64 m.due)) (cond (wfV (.int .u8 m.hops)) true false) false) false) false) false) false) false = true := h
  obtain ⟨h1, h⟩ := bcond h
  obtain ⟨_, h⟩ := bcond h
  obtain ⟨_, h⟩ := bcond h
  obtain ⟨h4, h⟩ := bcond h
  obtain ⟨_, h⟩ := bcond h
  obtain ⟨h6, h⟩ := bcond h
  obtain ⟨h7, _⟩ := bcond h
  have a := int_wf' h1
  have b := int_wf' h6
  have c := int_wf' h7
  have e1 : IntKind.u64.min = 0 := rfl
  have e2 : IntKind.u64.max = 18446744073709551615 := rfl
  have e3 : IntKind.u8.min = 0 := rfl
  have e4 : IntKind.u8.max = 255 := rfl
  have hh : m.head.all N.okP = true := pairs_wf (l := m.head) (by show cond (wfV (.slc [.str, .int .u8, .int .i64, .str] (m.head.map cPair.enc))) true false = true; rw [h4]; rfl)
  unfold N.okM
  rw [ile_t (show 0 ≤ m.id by omega), ilt_t (show m.id < 18446744073709551616 by omega), ile_t (show 0 ≤ m.due by omega), ilt_t (show m.due < 18446744073709551616 by omega), ile_t (show 0 ≤ m.hops by omega), ilt_t (show m.hops < 256 by omega), hh]; rfl
end Go.Ev

/- The example of the statements on rises, and which messages they go through: lemmas; the function that writes numbers is a premise. -/
namespace Go.Ev
open Go Go.Proofs
set_option maxRecDepth 100000
-- FOLD

noncomputable def eAw13' : Env := env Tryz.prog [(103, dTrue)] [] []
theorem q_aw13'  : evFn eAw13' 46 [] [] some =
 some { v := V.bool true, bx := [] : DRes } := by kernel_rfl
theorem ok_aw13' (hN : FnOk Tryz.prog 158 dOutNum) : FnOk Tryz.prog 46 dTrue :=
  den_okF (env_ok ((TOk.nil _).cons (ok_aw13 hN))) (E := eAw13') Tryz.func46 [] (by kernel_rfl) none0 fun _ _ _ => q_aw13'
theorem nbeq_of {x y : Nat} (h : Nat.beq x y = true) : x = y := Nat.eq_of_beq_eq_true h
/-- A message that is read of a row. -/
theorem fold_mail (r : List V) : ({ id := V.toInt (List.getD r 0 .undef), shop := V.toStr (List.getD r 1 .undef), key := V.toStr (List.getD r 2 .undef), head := (V.toRows (List.getD r 3 .undef)).map fun r => ({ key := V.toStr (List.getD r 0 .undef), kind := V.toInt (List.getD r 1 .undef), num := V.toInt (List.getD r 2 .undef), text := V.toStr (List.getD r 3 .undef) } : HPair), body := V.toStr (List.getD r 4 .undef), due := V.toInt (List.getD r 5 .undef), hops := V.toInt (List.getD r 6 .undef) } : HMail) = cMail.dec r := rfl
end Go.Ev

/- What the statement on a rise's numbers reckons: it is true; lemmas; the function that writes numbers is a premise. -/
namespace Go.Ev
open Go Go.Proofs
set_option maxRecDepth 100000
-- FOLD

theorem fold_enc (m : HMail) : [V.int .u64 m.id, V.str m.shop, V.str m.key, V.slc [.str, .int .u8, .int .i64, .str] (m.head.map fun p => [V.str p.key, V.int .u8 p.kind, V.int .i64 p.num, V.str p.text]), V.str m.body, V.int .u64 m.due, V.int .u8 m.hops] = cMail.enc m := rfl
theorem fold_re (r : List V) : [V.int .u64 (V.toInt (List.getD r 0 .undef)), V.str (V.toStr (List.getD r 1 .undef)), V.str (V.toStr (List.getD r 2 .undef)), V.slc [.str, .int .u8, .int .i64, .str] (((V.toRows (List.getD r 3 .undef)).map fun r => ({ key := V.toStr (List.getD r 0 .undef), kind := V.toInt (List.getD r 1 .undef), num := V.toInt (List.getD r 2 .undef), text := V.toStr (List.getD r 3 .undef) } : HPair)).map fun p => [V.str p.key, V.int .u8 p.kind, V.int .i64 p.num, V.str p.text]),
    V.str (V.toStr (List.getD r 4 .undef)), V.int .u64 (V.toInt (List.getD r 5 .undef)), V.int .u8 (V.toInt (List.getD r 6 .undef))] = cMail.enc (cMail.dec r) := rfl
theorem fold_de (m : HMail) : ({ id := m.id, shop := m.shop, key := m.key, head := (m.head.map fun p => [V.str p.key, V.int .u8 p.kind, V.int .i64 p.num, V.str p.text]).map fun r => ({ key := V.toStr (List.getD r 0 .undef), kind := V.toInt (List.getD r 1 .undef), num := V.toInt (List.getD r 2 .undef), text := V.toStr (List.getD r 3 .undef) } : HPair), body := m.body, due := m.due, hops := m.hops } : HMail) = m := cMail.de m
theorem len_wf {α : Type} {c : RCod α} {l : List α} (h : wfL ((rSl c).enc l) = true) : Nat.ble l.length 9223372036854775807 = true := by
  have h : cond (cond (Nat.ble (l.map c.enc).length 9223372036854775807) (cond (fitsRows c.sh (l.map c.enc)) (wfRs (l.map c.enc)) false) false) true false = true := h
  rw [List.length_map] at h
  exact (bcond (bcond h).1).1
end Go.Ev

/- The functions on rises that one statement on them needs: sizes, sameness, the document's: lemmas; the function that writes numbers is a premise. -/
namespace Go.Ev
open Go Go.Proofs
set_option maxRecDepth 100000
-- FOLD

/-- A function that is handed on, nothing in it. -/
def vFn0 (f : FuncId) : VCod Unit where
  ok := fun | .fn g [] [] => Nat.beq f g | _ => false
  enc _ := .fn f [] []
  dec _ := ()
  ed _ := ⟨Nat.beq_refl f, rfl⟩
  law w I ρ v x h hx := by
    split at h
    · have := Nat.eq_of_beq_eq_true h; subst this
      exact hx
    · cases h
namespace N
def fineM (m : HMail) : Bool := cond (okM m) (m.head.all okP') false
end N
end Go.Ev

/- Sameness of rises, and what the statements' helpers tell: lemmas; the function that writes numbers is a premise. -/
namespace Go.Ev
open Go Go.Proofs
set_option maxRecDepth 100000
-- FOLD

namespace N
end N
end Go.Ev

/- Rises as bytes, and read of them: lemmas; the functions that write numbers are premises. -/
namespace Go.Ev
open Go Go.Proofs
set_option maxRecDepth 100000
-- FOLD

namespace N
end N
end Go.Ev

/- Rises read of bytes: the program's and the document's: lemmas. -/
namespace Go.Ev
open Go Go.Proofs
set_option maxRecDepth 100000
-- FOLD

namespace N
end N
end Go.Ev

/- What the statements that play and read rises reckon: each is true; lemmas; the functions that write numbers are premises. -/
namespace Go.Ev
open Go Go.Proofs
set_option maxRecDepth 100000
-- FOLD

end Go.Ev

/- Lines: the plain functions and their codec: definitions and lemmas, no condition. -/
namespace Go.Ev
open Go
set_option maxRecDepth 100000

structure HItem where
  mail : HMail
  lent : Bool
  again : Bool
theorem getD_takeN {r : List V} {n i : Nat} (h : i < n) : (r.take n).getD i .undef = r.getD i .undef := by
  rw [List.getD_eq_getElem?_getD, List.getD_eq_getElem?_getD, List.getElem?_take_of_lt h]
theorem getD_dropN {r : List V} (n i : Nat) : (r.drop n).getD i .undef = r.getD (n + i) .undef := by
  rw [List.getD_eq_getElem?_getD, List.getD_eq_getElem?_getD, List.getElem?_drop]
def rowI (r : List V) : HItem := ⟨rowM r, (r.getD 7 .undef).toBool, (r.getD 8 .undef).toBool⟩
def cItem : RCod HItem := ((cMail.and (rBool.and rBool)).iso (fun p => (⟨p.1, p.2.1, p.2.2⟩ : HItem)) (fun o => (o.mail, o.lent, o.again)) (fun _ => rfl) fun _ => rfl).spelt
  [.int .u64, .str, .str, .slc [.str, .int .u8, .int .i64, .str], .str, .int .u64, .int .u8, .bool, .bool]
  (fun x => [.int .u64 x.mail.id, .str x.mail.shop, .str x.mail.key, .slc [.str, .int .u8, .int .i64, .str] (x.mail.head.map fun p => [V.str p.key, V.int .u8 p.kind, V.int .i64 p.num, V.str p.text]), .str x.mail.body, .int .u64 x.mail.due, .int .u8 x.mail.hops, .bool x.lent, .bool x.again])
  rowI rfl (fun _ => rfl) fun r => by
    show (⟨rowM (r.take 7), (((r.drop 7).take 1).getD 0 .undef).toBool, (((r.drop 7).drop 1).getD 0 .undef).toBool⟩ : HItem) = rowI r
    unfold rowI rowM
    rw [getD_takeN (by decide), getD_takeN (by decide), getD_takeN (by decide), getD_takeN (by decide), getD_takeN (by decide), getD_takeN (by decide), getD_takeN (by decide), getD_takeN (by decide), getD_dropN, getD_dropN, getD_dropN]
def item0 : HItem := ⟨mail0, false, false⟩
def cLine : RCod (List HItem) := rSl cItem
namespace N
def lCheck (l : List HItem) (m : HMail) : Int :=
  cond (mailCheck m != 0) (mailCheck m) (cond (cond (ilt 0 l.length) (ile m.id (l.getD (l.length - 1) item0).mail.id) false) 13 (cond (ile 64 l.length) 12 0))
def lPut (l : List HItem) (x : HItem) : List HItem × Int := cond (lCheck l x.mail != 0) (l, lCheck l x.mail) (l ++ [x], 0)
/-- The first place of which something is so. -/
def ix (p : HItem → Bool) : List HItem → Int → Int
  | [], _ => -1
  | x :: r, i => cond (p x) i (ix p r (i + 1))
def isReady (x : HItem) : Bool := cond x.lent false true
def isLate (tick : Int) (x : HItem) : Bool := cond x.lent false (cond (x.mail.due != 0) (ile x.mail.due tick) false)
def isId (id : Int) (x : HItem) : Bool := x.mail.id == id
def lendI (x : HItem) : HItem := ⟨x.mail, true, x.again⟩
def backI (x : HItem) : HItem := ⟨x.mail, false, true⟩
def setAt (f : HItem → HItem) (l : List HItem) (k : Nat) : List HItem := l.set k (f (l.getD k item0))
def lLend (l : List HItem) : List HItem × HItem × Bool := cond (ilt (ix isReady l 0) 0) (l, item0, false) (setAt lendI l (ix isReady l 0).toNat, lendI (l.getD (ix isReady l 0).toNat item0), true)
def lBack (l : List HItem) (id : Int) : List HItem × Int := cond (ilt (ix (isId id) l 0) 0) (l, 10) (cond (l.getD (ix (isId id) l 0).toNat item0).lent (setAt backI l (ix (isId id) l 0).toNat, 0) (l, 13))
def cutAt (l : List HItem) (k : Nat) : List HItem := l.take k ++ l.drop (k + 1)
def lRemove (l : List HItem) (id : Int) : List HItem × HItem × Int := cond (ilt (ix (isId id) l 0) 0) (l, item0, 10) (cutAt l (ix (isId id) l 0).toNat, l.getD (ix (isId id) l 0).toNat item0, 0)
def wakeI (x : HItem) : HItem := cond x.lent (backI x) x
def lWake (l : List HItem) : List HItem := l.map wakeI
def lTold (l : List HItem) (k : Int) : HMail × Bool := cond (ilt k 0) (mail0, false) ((l.getD k.toNat item0).mail, true)
def lFirst (l : List HItem) : HMail × Bool := lTold l (ix isReady l 0)
def lLate (l : List HItem) (tick : Int) : HMail × Bool := lTold l (ix (isLate tick) l 0)
def lReady : List HItem → Int
  | [] => 0
  | x :: r => cond x.lent (lReady r) (1 + lReady r)
def sameI (a b : HItem) : Bool := cond (mailSame a.mail b.mail) (cond (a.lent == b.lent) (a.again == b.again) false) false
end N
def smallI (x : HItem) : Bool := smallM x.mail
def smallL (l : List HItem) : Bool := cond (Nat.ble l.length 1000) (l.all smallI) false
end Go.Ev

/- slices.Concat and slices.Grow at another type answer what the plain ones do: lemmas, no condition. -/
namespace Go.Ev
open Go Go.Proofs
set_option maxRecDepth 100000
-- FOLD

noncomputable def eGrowI : Env := { env Tryz.prog [] [] [] [142] with tr := true }
theorem q_growI (n : Int) : evFn eGrowI 142 ((aCons (vNils cItem) (aOne (vInt .i64))).enc ((), n)) ([]) some =
 cond (ilt n (0 : Int)) (none) (cond (ilt (0 : Int) (IntKind.wrap IntKind.i64 (n - IntKind.wrap IntKind.i64 ((0 : Int) - (0 : Int))))) (cond (decide ((0 : Int) ≤ IntKind.wrap IntKind.i64 (n - IntKind.wrap IntKind.i64 ((0 : Int) - (0 : Int))) ∧ IntKind.wrap IntKind.i64 (n - IntKind.wrap IntKind.i64 ((0 : Int) - (0 : Int))) * (↑(104 : Nat) : Int) ≤ (140737488355328 : Int) ∧ IntKind.wrap IntKind.i64 (n - IntKind.wrap IntKind.i64 ((0 : Int) - (0 : Int))) ≤ (140737488355328 : Int))) (some { v := V.own (1000 : Nat) (0 : Nat), bx := [], nb := [Box.sl [Sh.int IntKind.u64, Sh.str, Sh.str, Sh.slc [Sh.str, Sh.int IntKind.u8, Sh.int IntKind.i64, Sh.str], Sh.str, Sh.int IntKind.u64, Sh.int IntKind.u8, Sh.bool, Sh.bool] [] (0 : Nat)] : DRes }) (none)) (some { v := V.own (1000 : Nat) (0 : Nat), bx := [], nb := [Box.sl [Sh.int IntKind.u64, Sh.str, Sh.str, Sh.slc [Sh.str, Sh.int IntKind.u8, Sh.int IntKind.i64, Sh.str], Sh.str, Sh.int IntKind.u64, Sh.int IntKind.u8, Sh.bool, Sh.bool] [] (0 : Nat)] : DRes })) := by kernel_rfl
theorem ok_growI : FnOk Tryz.prog 142 (dGrow cItem) := by
  refine den_okF (E := eGrowI) (env_ok (TOk.nil _)) Tryz.func142 [] (by kernel_rfl) none0 fun a _ h => ?_
  obtain ⟨⟨⟩, n⟩ := a
  obtain ⟨h1, h2⟩ := bcond h
  have h1 : 0 ≤ n := ile_of h1
  have h2 : n ≤ 1000000 := ile_of h2
  refine (q_growI n).trans ?_
  have w0 : IntKind.wrap .i64 ((0 : Int) - 0) = 0 := rfl
  have w : IntKind.wrap .i64 (n - 0) = n := by rw [Int.sub_zero]; exact wr_i64 (by omega) (by omega)
  rw [w0, w]
  have d : decide (0 ≤ n ∧ n * ((104 : Nat) : Int) ≤ 140737488355328 ∧ n ≤ 140737488355328) = true := decide_eq_true (by omega)
  rw [d, ilt_f h1]
  cases ilt 0 n <;> rfl
def schConcatI3 : SSch := { fr := [(0, .slc [.slc [.int .u64, .str, .str, .slc [.str, .int .u8, .int .i64, .str], .str, .int .u64, .int .u8, .bool, .bool]]), (3, .int .i64), (9, .slc [.slc [.int .u64, .str, .str, .slc [.str, .int .u8, .int .i64, .str], .str, .int .u64, .int .u8, .bool, .bool]]), (10, .int .i64), (11, .int .i64)], tab := [] }
def gConcatI3 : List Leaf → (Ex → St → Option R) → Option R
  | [.r r0, .i i3, .r r9, .i i10, .i i11], K => cond (i10 == r9.length) (cond (i11 == 0) (cond (i3 == 0) (cond (Nat.ble (flatR r9).length LIM) (cond (Nat.ble r9.length LIM)
      (K (.exit 0) { fr := [(0, .slc [.slc [.int .u64, .str, .str, .slc [.str, .int .u8, .int .i64, .str], .str, .int .u64, .int .u8, .bool, .bool]] r0), (3, .int .i64 (flatR r9).length)], tab := [] }) none) none) none) none) none
  | _, _ => none
def schConcatI11 : SSch := { fr := [(6, .own 10000), (25, .slc [.slc [.int .u64, .str, .str, .slc [.str, .int .u8, .int .i64, .str], .str, .int .u64, .int .u8, .bool, .bool]]), (26, .int .i64), (27, .int .i64)], tab := [(10000, .sl [.int .u64, .str, .str, .slc [.str, .int .u8, .int .i64, .str], .str, .int .u64, .int .u8, .bool, .bool])] }
def gConcatI11 : List Leaf → (Ex → St → Option R) → Option R
  | [.r r25, .i i26, .i i27, .r rx0], K => cond (i26 == r25.length) (cond (i27 == 0) (cond (Nat.beq rx0.length 0) (cond (Nat.ble (flatR r25).length LIM) (cond (Nat.ble r25.length LIM)
      (K (.exit 2) { fr := [(6, .own 10000 0)], tab := [(10000, .sl [.int .u64, .str, .str, .slc [.str, .int .u8, .int .i64, .str], .str, .int .u64, .int .u8, .bool, .bool] (flatR r25) 0)] }) none) none) none) none) none
  | _, _ => none
noncomputable def eConcatI : Env := env Tryz.prog [(142, dGrow cItem)] [(11, loopF schConcatI11 gConcatI11), (3, loopF schConcatI3 gConcatI3)] [(3, [(0, [0, 3, 9, 10, 11]), (1, [0, 3]), (1000, [2])]), (11, [(0, [6, 25, 26, 27]), (3, [6]), (1000, [2])])]
theorem q_concatI (l : List (List HItem)) : evFn eConcatI 106 ((aOne (vSl (rSl cItem))).enc l) ([]) some =
 cond ((↑(List.length (List.map (RCod.enc (rSl cItem)) l)) : Int) == (↑(List.length (List.map (RCod.enc (rSl cItem)) l)) : Int)) (cond (Nat.ble (List.length (flatR (List.map (RCod.enc (rSl cItem)) l))) (1000000 : Nat)) (cond (Nat.ble (List.length (List.map (RCod.enc (rSl cItem)) l)) (1000000 : Nat)) (cond (ile (↑(List.length (flatR (List.map (RCod.enc (rSl cItem)) l))) : Int) (1000000 : Int)) (cond ((↑(List.length (List.map (RCod.enc (rSl cItem)) l)) : Int) == (↑(List.length (List.map (RCod.enc (rSl cItem)) l)) : Int)) (cond (Nat.ble (List.length (flatR (List.map (RCod.enc (rSl cItem)) l))) (1000000 : Nat)) (cond (Nat.ble (List.length (List.map (RCod.enc (rSl cItem)) l)) (1000000 : Nat)) (some { v := V.slc [Sh.int IntKind.u64, Sh.str, Sh.str, Sh.slc [Sh.str, Sh.int IntKind.u8, Sh.int IntKind.i64, Sh.str], Sh.str, Sh.int IntKind.u64, Sh.int IntKind.u8, Sh.bool, Sh.bool] (flatR (List.map (RCod.enc (rSl cItem)) l)), bx := [] : DRes }) (none)) (none)) (none)) (none)) (none)) (none)) (none) := by kernel_rfl
theorem q_concatIR3 (r0 : List (List V)) (i3 : Int) (r9 : List (List V)) (i10 : Int) (i11 : Int) (K : Ex → St → Option R) : evRound eConcatI 106 3 { fr := [(0, .slc [.slc [.int .u64, .str, .str, .slc [.str, .int .u8, .int .i64, .str], .str, .int .u64, .int .u8, .bool, .bool]] r0), (3, .int .i64 i3), (9, .slc [.slc [.int .u64, .str, .str, .slc [.str, .int .u8, .int .i64, .str], .str, .int .u64, .int .u8, .bool, .bool]] r9), (10, .int .i64 i10), (11, .int .i64 i11)], tab := [] } K =
 cond (ilt i11 i10) (cond (decide ((0 : Int) ≤ i11 ∧ i11 < (↑(List.length r9) : Int))) (cond (ilt (IntKind.wrap IntKind.i64 (i3 + (↑(List.length (V.toRows (List.getD (List.getD r9 (Int.toNat i11) []) (0 : Nat) V.undef))) : Int))) (0 : Int)) (none) (K Ex.normal { fr := [((0 : Nat), V.slc [Sh.slc [Sh.int IntKind.u64, Sh.str, Sh.str, Sh.slc [Sh.str, Sh.int IntKind.u8, Sh.int IntKind.i64, Sh.str], Sh.str, Sh.int IntKind.u64, Sh.int IntKind.u8, Sh.bool, Sh.bool]] r0), ((3 : Nat), V.int IntKind.i64 (IntKind.wrap IntKind.i64 (i3 + (↑(List.length (V.toRows (List.getD (List.getD r9 (Int.toNat i11) []) (0 : Nat) V.undef))) : Int)))), ((9 : Nat), V.slc [Sh.slc [Sh.int IntKind.u64, Sh.str, Sh.str, Sh.slc [Sh.str, Sh.int IntKind.u8, Sh.int IntKind.i64, Sh.str], Sh.str, Sh.int IntKind.u64, Sh.int IntKind.u8, Sh.bool, Sh.bool]] r9), ((10 : Nat), V.int IntKind.i64 i10), ((11 : Nat), V.int IntKind.i64 (IntKind.wrap IntKind.i64 (i11 + (1 : Int))))], tab := [] : St })) (none)) (K (Ex.exit (0 : Nat)) { fr := [((0 : Nat), V.slc [Sh.slc [Sh.int IntKind.u64, Sh.str, Sh.str, Sh.slc [Sh.str, Sh.int IntKind.u8, Sh.int IntKind.i64, Sh.str], Sh.str, Sh.int IntKind.u64, Sh.int IntKind.u8, Sh.bool, Sh.bool]] r0), ((3 : Nat), V.int IntKind.i64 i3)], tab := [] : St }) := by kernel_rfl
theorem q_concatIR11 (r25 : List (List V)) (i26 : Int) (i27 : Int) (rx0 : List (List V)) (K : Ex → St → Option R) : evRound eConcatI 106 11 { fr := [(6, .own 10000 0), (25, .slc [.slc [.int .u64, .str, .str, .slc [.str, .int .u8, .int .i64, .str], .str, .int .u64, .int .u8, .bool, .bool]] r25), (26, .int .i64 i26), (27, .int .i64 i27)], tab := [(10000, .sl [.int .u64, .str, .str, .slc [.str, .int .u8, .int .i64, .str], .str, .int .u64, .int .u8, .bool, .bool] rx0 0)] } K =
 cond (ilt i27 i26) (cond (decide ((0 : Int) ≤ i27 ∧ i27 < (↑(List.length r25) : Int))) (cond (decide ((List.length rx0 + List.length (V.toRows (List.getD (List.getD r25 (Int.toNat i27) []) (0 : Nat) V.undef))) * (104 : Nat) ≤ (140737488355328 : Nat))) (K Ex.normal { fr := [((6 : Nat), V.own (10000 : Nat) (0 : Nat)), ((25 : Nat), V.slc [Sh.slc [Sh.int IntKind.u64, Sh.str, Sh.str, Sh.slc [Sh.str, Sh.int IntKind.u8, Sh.int IntKind.i64, Sh.str], Sh.str, Sh.int IntKind.u64, Sh.int IntKind.u8, Sh.bool, Sh.bool]] r25), ((26 : Nat), V.int IntKind.i64 i26), ((27 : Nat), V.int IntKind.i64 (IntKind.wrap IntKind.i64 (i27 + (1 : Int))))], tab := [((10000 : Nat), Box.sl [Sh.int IntKind.u64, Sh.str, Sh.str, Sh.slc [Sh.str, Sh.int IntKind.u8, Sh.int IntKind.i64, Sh.str], Sh.str, Sh.int IntKind.u64, Sh.int IntKind.u8, Sh.bool, Sh.bool] (rx0 ++ V.toRows (List.getD (List.getD r25 (Int.toNat i27) []) (0 : Nat) V.undef)) (0 : Nat))] : St }) (none)) (none)) (K (Ex.exit (2 : Nat)) { fr := [((6 : Nat), V.own (10000 : Nat) (0 : Nat))], tab := [((10000 : Nat), Box.sl [Sh.int IntKind.u64, Sh.str, Sh.str, Sh.slc [Sh.str, Sh.int IntKind.u8, Sh.int IntKind.i64, Sh.str], Sh.str, Sh.int IntKind.u64, Sh.int IntKind.u8, Sh.bool, Sh.bool] rx0 (0 : Nat))] : St }) := by kernel_rfl
theorem ok_concatI : FnOk Tryz.prog 106 (dConcat cItem) := by
  refine den_okF (env_ok ((TOk.nil _).cons ok_growI)) (E := eConcatI) Tryz.func106 [3, 11] (by kernel_rfl) (two2 (rounds_of rfl fun l K q h => ?_) (rounds_of rfl fun l K q h => ?_)) fun a _ h => ?_
  · unfold gConcatI3 at h
    split at h
    · rename_i r0 i3 r i10 i11
      have h1 := (cond_none h).1; replace h := (cond_none h).2; have h2 := (cond_none h).1; replace h := (cond_none h).2; have h3 := (cond_none h).1; replace h := (cond_none h).2; have h4 := (cond_none h).1; replace h := (cond_none h).2; have h5 := (cond_none h).1; replace h := (cond_none h).2
      have e1 := ieq_of h1
      have e2 := ieq_of h2
      have e3 := ieq_of h3
      subst e1 e2 e3
      have h4 : (flatR r).length ≤ 1000000 := ble_of h4
      have h5 : r.length ≤ 1000000 := ble_of h5
      refine range_ind (E := eConcatI) (f := 106) (id := 3) (A := Int) r (fun n i => { fr := [(0, .slc [.slc [.int .u64, .str, .str, .slc [.str, .int .u8, .int .i64, .str], .str, .int .u64, .int .u8, .bool, .bool]] r0), (3, .int .i64 n), (9, .slc [.slc [.int .u64, .str, .str, .slc [.str, .int .u8, .int .i64, .str], .str, .int .u64, .int .u8, .bool, .bool]] r), (10, .int .i64 r.length), (11, .int .i64 i)], tab := [] })
        (fun n i => 0 ≤ n ∧ n + ((flatR (r.drop i)).length : Int) ≤ 1000000)
        (fun n l K => K (.exit 0) { fr := [(0, .slc [.slc [.int .u64, .str, .str, .slc [.str, .int .u8, .int .i64, .str], .str, .int .u64, .int .u8, .bool, .bool]] r0), (3, .int .i64 (n + ((flatR l).length : Int)))], tab := [] }) (fun n i ⟨hn, hn2⟩ hi => ?_) (fun n _ => ?_) 0 0 (Int.le_refl _) (by omega) ⟨Int.le_refl _, by simp; omega⟩ K q (by simpa using h)
      · rw [drop_row hi, flatR_cons, List.length_append] at hn2
        have w := wr_i64 (n := n + ((V.toRows (List.getD (r.getD i []) 0 .undef)).length : Int)) (by omega) (by omega)
        have w2 := wr_i64 (n := (i : Int) + 1) (by omega) (by omega)
        refine .inl ⟨n + ((V.toRows (List.getD (r.getD i []) 0 .undef)).length : Int), ⟨by omega, by omega⟩, fun K => ?_, fun K => ?_⟩
        · rw [q_concatIR3, ilt_t (by omega), decide_eq_true (by omega), Int.toNat_natCast, w, w2, ilt_f (by omega)]
          rfl
        · show K _ _ = K _ _
          rw [flatR_cons, List.length_append, Int.natCast_add, Int.add_assoc]
      · refine ⟨.exit 0, { fr := [(0, .slc [.slc [.int .u64, .str, .str, .slc [.str, .int .u8, .int .i64, .str], .str, .int .u64, .int .u8, .bool, .bool]] r0), (3, .int .i64 n)], tab := [] }, by simp, fun K => ?_, fun K => ?_⟩
        · rw [q_concatIR3, ilt_f (Int.le_refl _)]
          rfl
        · show K _ _ = K _ _
          rw [show ((flatR []).length : Int) = 0 from rfl, Int.add_zero]
    · cases h
  · unfold gConcatI11 at h
    split at h
    · rename_i r i26 i27 acc
      have h1 := (cond_none h).1; replace h := (cond_none h).2; have h2 := (cond_none h).1; replace h := (cond_none h).2; have h3 := (cond_none h).1; replace h := (cond_none h).2; have h4 := (cond_none h).1; replace h := (cond_none h).2; have h5 := (cond_none h).1; replace h := (cond_none h).2
      have e1 := ieq_of h1
      have e2 := ieq_of h2
      subst e1 e2
      have h3 : acc.length = 0 := Nat.eq_of_beq_eq_true h3
      obtain rfl : acc = [] := List.length_eq_zero_iff.1 h3
      have h4 : (flatR r).length ≤ 1000000 := ble_of h4
      have h5 : r.length ≤ 1000000 := ble_of h5
      refine range_ind (E := eConcatI) (f := 106) (id := 11) (A := List (List V)) r (fun n i => { fr := [(6, .own 10000 0), (25, .slc [.slc [.int .u64, .str, .str, .slc [.str, .int .u8, .int .i64, .str], .str, .int .u64, .int .u8, .bool, .bool]] r), (26, .int .i64 r.length), (27, .int .i64 i)], tab := [(10000, .sl [.int .u64, .str, .str, .slc [.str, .int .u8, .int .i64, .str], .str, .int .u64, .int .u8, .bool, .bool] n 0)] })
        (fun n i => n.length + (flatR (r.drop i)).length ≤ 1000000)
        (fun n l K => K (.exit 2) { fr := [(6, .own 10000 0)], tab := [(10000, .sl [.int .u64, .str, .str, .slc [.str, .int .u8, .int .i64, .str], .str, .int .u64, .int .u8, .bool, .bool] (n ++ flatR l) 0)] }) (fun n i hn hi => ?_) (fun n _ => ?_) [] 0 (Int.le_refl _) (by omega) (by simp; omega) K q (by simpa using h)
      · rw [drop_row hi, flatR_cons, List.length_append] at hn
        have w2 := wr_i64 (n := (i : Int) + 1) (by omega) (by omega)
        refine .inl ⟨n ++ V.toRows (List.getD (r.getD i []) 0 .undef), by rw [List.length_append]; omega, fun K => ?_, fun K => ?_⟩
        · rw [q_concatIR11, ilt_t (by omega), decide_eq_true (by omega), Int.toNat_natCast, w2]
          rw [decide_eq_true (by omega)]
          rfl
        · show K _ _ = K _ _
          rw [flatR_cons, List.append_assoc]
      · refine ⟨.exit 2, { fr := [(6, .own 10000 0)], tab := [(10000, .sl [.int .u64, .str, .str, .slc [.str, .int .u8, .int .i64, .str], .str, .int .u64, .int .u8, .bool, .bool] n 0)] }, by simp, fun K => ?_, fun K => ?_⟩
        · rw [q_concatIR11, ilt_f (Int.le_refl _)]
          rfl
        · show K _ _ = K _ _
          rw [show flatR [] = [] from rfl, List.append_nil]
    · cases h
  · obtain ⟨h1, h2⟩ := bcond h
    have h1 : a.length ≤ 1000 := ble_of h1
    have h2 : sumLen a ≤ 100000 := ble_of h2
    refine (q_concatI a).trans ?_
    have e : (flatR (a.map (rSl cItem).enc)).length = sumLen a := by rw [flatR_enc, List.length_map, flat_len]
    rw [e, List.length_map, ble_t (show sumLen a ≤ 1000000 by omega), ble_t (show a.length ≤ 1000000 by omega), ile_t (by omega), flatR_enc]
    rw [show (((a.length : Int)) == (a.length : Int)) = true from beq_self_eq_true _]
    rfl
end Go.Ev

/- What lines do, in plain terms: lemmas, no condition. -/
namespace Go.Ev
open Go
set_option maxRecDepth 100000

/-- IDs rise. -/
def Sorted (l : List HItem) : Prop := l.Pairwise fun a b => a.mail.id < b.mail.id
def N.rRc (l : List HItem) (m : HMail) : Int :=
  cond (mailCheck m != 0) (mailCheck m) (cond (l.any fun y => ile m.id y.mail.id) 13 (cond (ile 64 l.length) 12 0))
def N.rPut (l : List HItem) (x : HItem) : List HItem × Int := cond (N.rRc l x.mail != 0) (l, N.rRc l x.mail) (l ++ [x], 0)
theorem last_eq {l : List HItem} (h : l ≠ []) : l.getD (l.length - 1) item0 = l.getLast h := by
  have hl : l.length ≠ 0 := fun e => h (List.length_eq_zero_iff.1 e)
  rw [List.getD_eq_getElem?_getD, List.getElem?_eq_getElem (by omega), List.getLast_eq_getElem]; rfl
/-- What a line may be. -/
structure LInv (l : List HItem) : Prop where
  sorted : Sorted l
  few : l.length ≤ 64
  small : l.all smallI = true
theorem linv0 : LInv [] := ⟨List.Pairwise.nil, by decide, rfl⟩
theorem lCheck_zero {l : List HItem} {m : HMail} (h : N.lCheck l m = 0) : N.mailCheck m = 0 ∧ (∀ h : l ≠ [], (l.getLast h).mail.id < m.id) ∧ l.length < 64 := by
  unfold N.lCheck at h
  cases hc : N.mailCheck m != 0 with
  | true => rw [hc] at h; have h : N.mailCheck m = 0 := h; rw [h] at hc; cases hc
  | false =>
    rw [hc] at h
    refine ⟨by simpa using hc, ?_, ?_⟩
    · intro hn
      have hl : 0 < l.length := List.length_pos_iff.2 hn
      rw [ilt_t (by omega), last_eq hn] at h
      cases hd : ile m.id (l.getLast hn).mail.id with
      | true => rw [hd] at h; cases h
      | false => exact ile_nof hd
    · cases hd : cond (ilt 0 l.length) (ile m.id (l.getD (l.length - 1) item0).mail.id) false with
      | true => rw [hd] at h; cases h
      | false =>
        rw [hd] at h
        cases he : ile 64 l.length with
        | true => rw [he] at h; cases h
        | false => have := ile_nof he; omega
theorem sorted_snoc {l : List HItem} (hs : Sorted l) {x : HItem} (h : ∀ h : l ≠ [], (l.getLast h).mail.id < x.mail.id) : Sorted (l ++ [x]) := by
  refine List.pairwise_append.2 ⟨hs, List.pairwise_singleton _ _, fun a ha b hb => ?_⟩
  rw [List.mem_singleton.1 hb]
  have hn : l ≠ [] := fun e => by rw [e] at ha; cases ha
  have h1 := h hn
  have e := List.dropLast_concat_getLast hn
  rw [← e] at ha
  have hs' : Sorted (l.dropLast ++ [l.getLast hn]) := by rw [e]; exact hs
  rcases List.mem_append.1 ha with ha | ha
  · exact Int.lt_trans ((List.pairwise_append.1 hs').2.2 a ha _ (List.mem_singleton.2 rfl)) h1
  · rw [List.mem_singleton.1 ha]; exact h1
theorem put_linv {l : List HItem} (h : LInv l) {x : HItem} (hx : smallI x = true) : LInv (N.lPut l x).1 := by
  unfold N.lPut
  cases hc : N.lCheck l x.mail != 0 with
  | true => exact h
  | false =>
    have hz : N.lCheck l x.mail = 0 := by simpa using hc
    obtain ⟨_, h2, h3⟩ := lCheck_zero hz
    refine ⟨sorted_snoc h.sorted h2, by simp; omega, ?_⟩
    show (l ++ [x]).all smallI = true
    rw [List.all_append, h.small, List.all_cons, hx]; rfl
theorem ix_spec (p : HItem → Bool) : ∀ (l : List HItem) (i : Int), 0 ≤ i → (N.ix p l i = -1 ∧ ∀ x ∈ l, p x = false) ∨ ∃ k : Nat, N.ix p l i = i + k ∧ k < l.length ∧ p (l.getD k item0) = true ∧ ∀ j, j < k → p (l.getD j item0) = false
  | [], i, _ => .inl ⟨rfl, fun x hx => by cases hx⟩
  | x :: r, i, hi => by
    unfold N.ix
    cases hc : p x with
    | true => exact .inr ⟨0, by simp, by simp, hc, fun j hj => by omega⟩
    | false =>
      rcases ix_spec p r (i + 1) (by omega) with ⟨h1, h2⟩ | ⟨k, h1, h2, h3, h4⟩
      · exact .inl ⟨h1, fun y hy => by
          rcases List.mem_cons.1 hy with rfl | hy
          · exact hc
          · exact h2 y hy⟩
      · refine .inr ⟨k + 1, by rw [cond_false, h1]; omega, by simp; omega, by simpa using h3, fun j hj => ?_⟩
        cases j with
        | zero => exact hc
        | succ j => simpa using h4 j (by omega)
theorem setAt_len (f : HItem → HItem) (l : List HItem) (k : Nat) : (N.setAt f l k).length = l.length := List.length_set
theorem set_ids {f : HItem → HItem} (hf : ∀ x, (f x).mail = x.mail) (l : List HItem) (k : Nat) (hk : k < l.length) : (N.setAt f l k).map HItem.mail = l.map HItem.mail := by
  unfold N.setAt
  rw [List.map_set, hf]
  refine List.ext_getElem (by simp) fun i h1 h2 => ?_
  rw [List.getElem_set]
  split
  · rename_i e
    subst e
    rw [List.getD_eq_getElem?_getD, List.getElem?_eq_getElem hk]
    simp
  · rfl
theorem sorted_of_mails {l l' : List HItem} (h : l'.map HItem.mail = l.map HItem.mail) (hs : Sorted l) : Sorted l' := by
  have e : ∀ l : List HItem, Sorted l ↔ (l.map HItem.mail).Pairwise fun a b => a.id < b.id := fun l => by
    unfold Sorted; rw [List.pairwise_map]
  rw [e, h, ← e]; exact hs
theorem small_of_mails {l l' : List HItem} (h : l'.map HItem.mail = l.map HItem.mail) (hs : l.all smallI = true) : l'.all smallI = true := by
  have e : ∀ l : List HItem, l.all smallI = (l.map HItem.mail).all smallM := fun l => by rw [List.all_map]; rfl
  rw [e, h, ← e]; exact hs
theorem linv_of_mails {l l' : List HItem} (h : l'.map HItem.mail = l.map HItem.mail) (hs : LInv l) : LInv l' := by
  have hl : l'.length = l.length := by have := congrArg List.length h; simpa using this
  exact ⟨sorted_of_mails h hs.sorted, by have := hs.few; omega, small_of_mails h hs.small⟩
theorem lend_linv {l : List HItem} (h : LInv l) : LInv (N.lLend l).1 := by
  unfold N.lLend
  rcases ix_spec N.isReady l 0 (Int.le_refl _) with ⟨h1, _⟩ | ⟨k, h1, h2, _⟩
  · rw [h1]; exact h
  · rw [h1, ilt_f (by omega)]
    have e : (0 + (k : Int)).toNat = k := by omega
    rw [e]
    exact linv_of_mails (set_ids (f := N.lendI) (fun _ => rfl) l k h2) h
theorem back_linv {l : List HItem} (h : LInv l) (id : Int) : LInv (N.lBack l id).1 := by
  unfold N.lBack
  rcases ix_spec (N.isId id) l 0 (Int.le_refl _) with ⟨h1, _⟩ | ⟨k, h1, h2, _⟩
  · rw [h1]; exact h
  · rw [h1, ilt_f (by omega)]
    have e : (0 + (k : Int)).toNat = k := by omega
    rw [e]
    simp only [cond_false]
    cases (l.getD k item0).lent with
    | true => exact linv_of_mails (set_ids (f := N.backI) (fun _ => rfl) l k h2) h
    | false => exact h
theorem cut_sub (l : List HItem) (k : Nat) : (N.cutAt l k).Sublist l := by
  unfold N.cutAt
  have : (l.take k ++ l.drop (k + 1)).Sublist (l.take k ++ l.drop k) := List.Sublist.append (List.Sublist.refl _) (by
    rw [← List.drop_drop]
    exact List.drop_sublist 1 (l.drop k))
  rwa [List.take_append_drop] at this
theorem linv_sub {l l' : List HItem} (h : l'.Sublist l) (hs : LInv l) : LInv l' :=
  ⟨List.Pairwise.sublist h hs.sorted, Nat.le_trans h.length_le hs.few, by
    rw [List.all_eq_true]
    exact fun x hx => List.all_eq_true.1 hs.small x (h.subset hx)⟩
theorem remove_linv {l : List HItem} (h : LInv l) (id : Int) : LInv (N.lRemove l id).1 := by
  unfold N.lRemove
  cases ilt (N.ix (N.isId id) l 0) 0 with
  | true => exact h
  | false => exact linv_sub (cut_sub l _) h
theorem wake_mail (x : HItem) : (N.wakeI x).mail = x.mail := by
  unfold N.wakeI; cases x.lent <;> rfl
theorem wake_linv {l : List HItem} (h : LInv l) : LInv (N.lWake l) := by
  refine linv_of_mails ?_ h
  unfold N.lWake
  rw [List.map_map]
  exact List.map_congr_left fun x _ => wake_mail x
theorem ready_le (l : List HItem) : 0 ≤ N.lReady l ∧ N.lReady l ≤ l.length := by
  induction l with
  | nil => exact ⟨Int.le_refl _, Int.le_refl _⟩
  | cons x r ih =>
    unfold N.lReady
    cases x.lent with
    | true => simp only [cond_true, List.length_cons]; omega
    | false => simp only [cond_false, List.length_cons]; omega
end Go.Ev

/- The functions on lines answer what the plain ones do: lemmas. -/
namespace Go.Ev
open Go Go.Proofs
set_option maxRecDepth 100000
-- FOLD

/-- A lent box with a function in it, nothing in that. -/
def bFn0 (f : FuncId) : BCod Unit where
  ok := fun | [[.fn g [] []]] => Nat.beq f g | _ => false
  enc _ := [[.fn f [] []]]
  dec _ := ()
  len bx h := by
    split at h
    · rfl
    · cases h
  law bx h j cs cs' hj hj' := by
    split at h
    · rename_i g
      have := Nat.eq_of_beq_eq_true h; subst this
      have e : cs' = cs := by rw [hj] at hj'; exact (Option.some.inj hj').symm
      subst e
      exact ⟨rfl, fun w J ρ k y hk hy val hv hall => hy⟩
    · cases h
theorem fold_item (r : List V) : (⟨⟨(r.getD 0 .undef).toInt, (r.getD 1 .undef).toStr, (r.getD 2 .undef).toStr, (r.getD 3 .undef).toRows.map fun r => ({ key := V.toStr (List.getD r 0 .undef), kind := V.toInt (List.getD r 1 .undef), num := V.toInt (List.getD r 2 .undef), text := V.toStr (List.getD r 3 .undef) } : HPair), (r.getD 4 .undef).toStr, (r.getD 5 .undef).toInt, (r.getD 6 .undef).toInt⟩, (r.getD 7 .undef).toBool, (r.getD 8 .undef).toBool⟩ : HItem) = cItem.dec r := rfl
theorem fold_itemE (x : HItem) : [V.int .u64 x.mail.id, .str x.mail.shop, .str x.mail.key, .slc [.str, .int .u8, .int .i64, .str] (x.mail.head.map fun p => [V.str p.key, V.int .u8 p.kind, V.int .i64 p.num, V.str p.text]), .str x.mail.body, .int .u64 x.mail.due, .int .u8 x.mail.hops, .bool x.lent, .bool x.again] = cItem.enc x := rfl
theorem fold_itemD (x : HItem) : (⟨⟨x.mail.id, x.mail.shop, x.mail.key, (x.mail.head.map fun p => [V.str p.key, V.int .u8 p.kind, V.int .i64 p.num, V.str p.text]).map fun r => ({ key := V.toStr (List.getD r 0 .undef), kind := V.toInt (List.getD r 1 .undef), num := V.toInt (List.getD r 2 .undef), text := V.toStr (List.getD r 3 .undef) } : HPair), x.mail.body, x.mail.due, x.mail.hops⟩, x.lent, x.again⟩ : HItem) = x := cItem.de x
theorem fold_itemX (x : HItem) : (⟨x.mail, x.lent, x.again⟩ : HItem) = x := rfl
theorem item_mail (r : List V) : cMail.dec r = (cItem.dec r).mail := rfl
def dIClone : Den := den (aOne (vAgg cItem)) bNil (oV (vAgg cItem)) (fun x _ => smallI x) fun x _ => (x, ())
def dLCheck : Den := den (aCons (vAgg cLine) (aOne (vAgg cMail))) bNil (oV (vInt .i64)) (fun a _ => Nat.ble a.1.length 1000) fun a _ => (N.lCheck a.1 a.2, ())
def dLPut : Den := den (aCons (vAgg cLine) (aOne (vAgg cItem))) bNil (oTup (aCons (vAgg cLine) (aOne (vInt .i64)))) (fun a _ => cond (Nat.ble a.1.length 1000) (smallI a.2) false) fun a _ => (N.lPut a.1 a.2, ())
def dLAdd : Den := den (aCons (vAgg cLine) (aOne (vAgg cMail))) bNil (oTup (aCons (vAgg cLine) (aOne (vInt .i64)))) (fun a _ => cond (Nat.ble a.1.length 1000) (smallM a.2) false) fun a _ => (N.lPut a.1 ⟨a.2, false, false⟩, ())
def dMarkI (g : HItem → HItem) : Den := den (aOne (vPtr 0)) (bOne cItem) (oTup aNil) (fun _ _ => true) fun _ x => ((), g x)
def dAllM : Den := den (aOne (vAgg cMail)) bNil (oV vBool) (fun _ _ => true) fun _ _ => (true, ())
def dReadyF (f : FuncId) : Den := den (aCons (vAgg cItem) (aOne (vPtr 0))) (bFn0 f) (oV vBool) (fun _ _ => true) fun a _ => (N.isReady a.1, ())
def dOfF : Den := den (aCons (vAgg cItem) (aOne (vPtr 0))) (bOne (rInt .u64)) (oV vBool) (fun _ _ => true) fun a id => (N.isId id a.1, id)
def dIxR (f g : FuncId) : Den := den (aCons (vSl cItem) (aOne (vFn f 0))) (bFn0 g) (oV (vInt .i64)) (fun a _ => Nat.ble a.1.length 1000) fun a _ => (N.ix N.isReady a.1 0, ())
def dIxO (f : FuncId) : Den := den (aCons (vSl cItem) (aOne (vFn f 0))) (bOne (rInt .u64)) (oV (vInt .i64)) (fun a _ => Nat.ble a.1.length 1000) fun a id => (N.ix (N.isId id) a.1 0, id)
def dReadyL (g : FuncId) : Den := den (aCons (vAgg cLine) (aOne (vFn0 g))) bNil (oV (vInt .i64)) (fun a _ => Nat.ble a.1.length 1000) fun a _ => (N.ix N.isReady a.1 0, ())
def dOfL : Den := den (aCons (vAgg cLine) (aOne (vInt .u64))) bNil (oV (vInt .i64)) (fun a _ => Nat.ble a.1.length 1000) fun a _ => (N.ix (N.isId a.2) a.1 0, ())
def goodAt (l : List HItem) (k : Int) : Bool := cond (ile 0 k) (cond (ilt k l.length) (Nat.ble l.length 1000) false) false
def dCloneIO : Den := den (aOne (vSl cItem)) bNil (oOwn cItem) (fun l _ => cond (Nat.beq l.length 0) false (Nat.ble l.length 1000)) fun l _ => (l, ())
def dWith (f : FuncId) (g : HItem → HItem) : Den := den (aCons (vAgg cLine) (aCons (vInt .i64) (aOne (vFn0 f)))) bNil (oV (vAgg cLine)) (fun a _ => goodAt a.1 a.2.1) fun a _ => (N.setAt g a.1 a.2.1.toNat, ())
noncomputable def eIClone : Env := env Tryz.prog [(107, dMailCopy)] [] []
theorem q_iClone (x : HItem) : evFn eIClone 54 ((aOne (vAgg cItem)).enc x) ([]) some =
 cond (smallM { id := HMail.id (HItem.mail x), shop := HMail.shop (HItem.mail x), key := HMail.key (HItem.mail x), head := List.map (fun r => { key := V.toStr (List.getD r (0 : Nat) V.undef), kind := V.toInt (List.getD r (1 : Nat) V.undef), num := V.toInt (List.getD r (2 : Nat) V.undef), text := V.toStr (List.getD r (3 : Nat) V.undef) : HPair }) (List.map (fun p => [V.str (HPair.key p), V.int IntKind.u8 (HPair.kind p), V.int IntKind.i64 (HPair.num p), V.str (HPair.text p)]) (HMail.head (HItem.mail x))), body := HMail.body (HItem.mail x), due := HMail.due (HItem.mail x), hops := HMail.hops (HItem.mail x) : HMail }) (some { v := V.agg [V.int IntKind.u64 (HMail.id (HItem.mail x)), V.str (HMail.shop (HItem.mail x)), V.str (HMail.key (HItem.mail x)), V.slc [Sh.str, Sh.int IntKind.u8, Sh.int IntKind.i64, Sh.str] (List.map (fun p => [V.str (HPair.key p), V.int IntKind.u8 (HPair.kind p), V.int IntKind.i64 (HPair.num p), V.str (HPair.text p)]) (List.map (fun r => { key := V.toStr (List.getD r (0 : Nat) V.undef), kind := V.toInt (List.getD r (1 : Nat) V.undef), num := V.toInt (List.getD r (2 : Nat) V.undef), text := V.toStr (List.getD r (3 : Nat) V.undef) : HPair }) (List.map (fun p => [V.str (HPair.key p), V.int IntKind.u8 (HPair.kind p), V.int IntKind.i64 (HPair.num p), V.str (HPair.text p)]) (HMail.head (HItem.mail x))))), V.str (HMail.body (HItem.mail x)), V.int IntKind.u64 (HMail.due (HItem.mail x)), V.int IntKind.u8 (HMail.hops (HItem.mail x)), V.bool (HItem.lent x), V.bool (HItem.again x)], bx := [] : DRes }) (none) := by kernel_rfl
noncomputable def eLCheck : Env := env Tryz.prog [(144, dMailCheck)] [] []
theorem q_lCheck (l : List HItem) (m : HMail) : evFn eLCheck 110 ((aCons (vAgg cLine) (aOne (vAgg cMail))).enc (l, m)) ([]) some =
 cond (N.mailCheck { id := HMail.id m, shop := HMail.shop m, key := HMail.key m, head := List.map (fun r => { key := V.toStr (List.getD r (0 : Nat) V.undef), kind := V.toInt (List.getD r (1 : Nat) V.undef), num := V.toInt (List.getD r (2 : Nat) V.undef), text := V.toStr (List.getD r (3 : Nat) V.undef) : HPair }) (List.map (fun p => [V.str (HPair.key p), V.int IntKind.u8 (HPair.kind p), V.int IntKind.i64 (HPair.num p), V.str (HPair.text p)]) (HMail.head m)), body := HMail.body m, due := HMail.due m, hops := HMail.hops m : HMail } != (0 : Int)) (some { v := V.int IntKind.i64 (N.mailCheck { id := HMail.id m, shop := HMail.shop m, key := HMail.key m, head := List.map (fun r => { key := V.toStr (List.getD r (0 : Nat) V.undef), kind := V.toInt (List.getD r (1 : Nat) V.undef), num := V.toInt (List.getD r (2 : Nat) V.undef), text := V.toStr (List.getD r (3 : Nat) V.undef) : HPair }) (List.map (fun p => [V.str (HPair.key p), V.int IntKind.u8 (HPair.kind p), V.int IntKind.i64 (HPair.num p), V.str (HPair.text p)]) (HMail.head m)), body := HMail.body m, due := HMail.due m, hops := HMail.hops m : HMail }), bx := [] : DRes }) (cond (ilt (0 : Int) (↑(List.length (List.map (RCod.enc cItem) l)) : Int)) (cond (decide ((0 : Int) ≤ IntKind.wrap IntKind.i64 ((↑(List.length (List.map (RCod.enc cItem) l)) : Int) - (1 : Int)) ∧ IntKind.wrap IntKind.i64 ((↑(List.length (List.map (RCod.enc cItem) l)) : Int) - (1 : Int)) < (↑(List.length (List.map (RCod.enc cItem) l)) : Int))) (cond (ile (HMail.id m) (V.toInt (List.getD (List.getD (List.map (RCod.enc cItem) l) (Int.toNat (IntKind.wrap IntKind.i64 ((↑(List.length (List.map (RCod.enc cItem) l)) : Int) - (1 : Int)))) []) (0 : Nat) V.undef))) (some { v := V.int IntKind.i64 (13 : Int), bx := [] : DRes }) (cond (ile (64 : Int) (↑(List.length (List.map (RCod.enc cItem) l)) : Int)) (some { v := V.int IntKind.i64 (12 : Int), bx := [] : DRes }) (some { v := V.int IntKind.i64 (0 : Int), bx := [] : DRes }))) (none)) (cond (ile (64 : Int) (↑(List.length (List.map (RCod.enc cItem) l)) : Int)) (some { v := V.int IntKind.i64 (12 : Int), bx := [] : DRes }) (some { v := V.int IntKind.i64 (0 : Int), bx := [] : DRes }))) := by kernel_rfl
noncomputable def eLPut : Env := env Tryz.prog [(110, dLCheck), (54, dIClone), (106, dConcat cItem)] [] []
theorem q_lPut (l : List HItem) (x : HItem) : evFn eLPut 60 ((aCons (vAgg cLine) (aOne (vAgg cItem))).enc (l, x)) ([]) some =
 cond (Nat.ble (List.length (List.map (RCod.dec cItem) (List.map (RCod.enc cItem) l))) (1000 : Nat)) (cond (N.lCheck (List.map (RCod.dec cItem) (List.map (RCod.enc cItem) l)) { id := HMail.id (HItem.mail x), shop := HMail.shop (HItem.mail x), key := HMail.key (HItem.mail x), head := List.map (fun r => { key := V.toStr (List.getD r (0 : Nat) V.undef), kind := V.toInt (List.getD r (1 : Nat) V.undef), num := V.toInt (List.getD r (2 : Nat) V.undef), text := V.toStr (List.getD r (3 : Nat) V.undef) : HPair }) (List.map (fun p => [V.str (HPair.key p), V.int IntKind.u8 (HPair.kind p), V.int IntKind.i64 (HPair.num p), V.str (HPair.text p)]) (HMail.head (HItem.mail x))), body := HMail.body (HItem.mail x), due := HMail.due (HItem.mail x), hops := HMail.hops (HItem.mail x) : HMail } != (0 : Int)) (some { v := V.tup [V.agg [V.slc [Sh.int IntKind.u64, Sh.str, Sh.str, Sh.slc [Sh.str, Sh.int IntKind.u8, Sh.int IntKind.i64, Sh.str], Sh.str, Sh.int IntKind.u64, Sh.int IntKind.u8, Sh.bool, Sh.bool] (List.map (RCod.enc cItem) l)], V.int IntKind.i64 (N.lCheck (List.map (RCod.dec cItem) (List.map (RCod.enc cItem) l)) { id := HMail.id (HItem.mail x), shop := HMail.shop (HItem.mail x), key := HMail.key (HItem.mail x), head := List.map (fun r => { key := V.toStr (List.getD r (0 : Nat) V.undef), kind := V.toInt (List.getD r (1 : Nat) V.undef), num := V.toInt (List.getD r (2 : Nat) V.undef), text := V.toStr (List.getD r (3 : Nat) V.undef) : HPair }) (List.map (fun p => [V.str (HPair.key p), V.int IntKind.u8 (HPair.kind p), V.int IntKind.i64 (HPair.num p), V.str (HPair.text p)]) (HMail.head (HItem.mail x))), body := HMail.body (HItem.mail x), due := HMail.due (HItem.mail x), hops := HMail.hops (HItem.mail x) : HMail })], bx := [] : DRes }) (cond (smallI { mail := { id := HMail.id (HItem.mail x), shop := HMail.shop (HItem.mail x), key := HMail.key (HItem.mail x), head := List.map (fun r => { key := V.toStr (List.getD r (0 : Nat) V.undef), kind := V.toInt (List.getD r (1 : Nat) V.undef), num := V.toInt (List.getD r (2 : Nat) V.undef), text := V.toStr (List.getD r (3 : Nat) V.undef) : HPair }) (List.map (fun p => [V.str (HPair.key p), V.int IntKind.u8 (HPair.kind p), V.int IntKind.i64 (HPair.num p), V.str (HPair.text p)]) (HMail.head (HItem.mail x))), body := HMail.body (HItem.mail x), due := HMail.due (HItem.mail x), hops := HMail.hops (HItem.mail x) : HMail }, lent := HItem.lent x, again := HItem.again x : HItem }) (cond (Nat.ble (List.length (List.map (RCod.dec cItem) (List.map (RCod.enc cItem) l)) + (1 : Nat)) (100000 : Nat)) (some { v := V.tup [V.agg [V.slc [Sh.int IntKind.u64, Sh.str, Sh.str, Sh.slc [Sh.str, Sh.int IntKind.u8, Sh.int IntKind.i64, Sh.str], Sh.str, Sh.int IntKind.u64, Sh.int IntKind.u8, Sh.bool, Sh.bool] (List.map (RCod.enc cItem) (N.flat [List.map (RCod.dec cItem) (List.map (RCod.enc cItem) l), List.map (RCod.dec cItem) [[V.int IntKind.u64 (HMail.id (HItem.mail x)), V.str (HMail.shop (HItem.mail x)), V.str (HMail.key (HItem.mail x)), V.slc [Sh.str, Sh.int IntKind.u8, Sh.int IntKind.i64, Sh.str] (List.map (fun p => [V.str (HPair.key p), V.int IntKind.u8 (HPair.kind p), V.int IntKind.i64 (HPair.num p), V.str (HPair.text p)]) (List.map (fun r => { key := V.toStr (List.getD r (0 : Nat) V.undef), kind := V.toInt (List.getD r (1 : Nat) V.undef), num := V.toInt (List.getD r (2 : Nat) V.undef), text := V.toStr (List.getD r (3 : Nat) V.undef) : HPair }) (List.map (fun p => [V.str (HPair.key p), V.int IntKind.u8 (HPair.kind p), V.int IntKind.i64 (HPair.num p), V.str (HPair.text p)]) (HMail.head (HItem.mail x))))), V.str (HMail.body (HItem.mail x)), V.int IntKind.u64 (HMail.due (HItem.mail x)), V.int IntKind.u8 (HMail.hops (HItem.mail x)), V.bool (HItem.lent x), V.bool (HItem.again x)]]]))], V.int IntKind.i64 (0 : Int)], bx := [] : DRes }) (none)) (none))) (none) := by kernel_rfl
noncomputable def eLAdd : Env := env Tryz.prog [(60, dLPut)] [] []
theorem q_lAdd (l : List HItem) (m : HMail) : evFn eLAdd 44 ((aCons (vAgg cLine) (aOne (vAgg cMail))).enc (l, m)) ([]) some =
 cond (bif Nat.ble (List.length (List.map (RCod.dec cItem) (List.map (RCod.enc cItem) l))) (1000 : Nat) then smallI { mail := { id := HMail.id m, shop := HMail.shop m, key := HMail.key m, head := List.map (fun r => { key := V.toStr (List.getD r (0 : Nat) V.undef), kind := V.toInt (List.getD r (1 : Nat) V.undef), num := V.toInt (List.getD r (2 : Nat) V.undef), text := V.toStr (List.getD r (3 : Nat) V.undef) : HPair }) (List.map (fun p => [V.str (HPair.key p), V.int IntKind.u8 (HPair.kind p), V.int IntKind.i64 (HPair.num p), V.str (HPair.text p)]) (HMail.head m)), body := HMail.body m, due := HMail.due m, hops := HMail.hops m : HMail }, lent := false, again := false : HItem } else false) (some { v := V.tup [V.agg [V.slc [Sh.int IntKind.u64, Sh.str, Sh.str, Sh.slc [Sh.str, Sh.int IntKind.u8, Sh.int IntKind.i64, Sh.str], Sh.str, Sh.int IntKind.u64, Sh.int IntKind.u8, Sh.bool, Sh.bool] (List.map (RCod.enc cItem) (Prod.fst (N.lPut (List.map (RCod.dec cItem) (List.map (RCod.enc cItem) l)) { mail := { id := HMail.id m, shop := HMail.shop m, key := HMail.key m, head := List.map (fun r => { key := V.toStr (List.getD r (0 : Nat) V.undef), kind := V.toInt (List.getD r (1 : Nat) V.undef), num := V.toInt (List.getD r (2 : Nat) V.undef), text := V.toStr (List.getD r (3 : Nat) V.undef) : HPair }) (List.map (fun p => [V.str (HPair.key p), V.int IntKind.u8 (HPair.kind p), V.int IntKind.i64 (HPair.num p), V.str (HPair.text p)]) (HMail.head m)), body := HMail.body m, due := HMail.due m, hops := HMail.hops m : HMail }, lent := false, again := false : HItem })))], V.int IntKind.i64 (Prod.snd (N.lPut (List.map (RCod.dec cItem) (List.map (RCod.enc cItem) l)) { mail := { id := HMail.id m, shop := HMail.shop m, key := HMail.key m, head := List.map (fun r => { key := V.toStr (List.getD r (0 : Nat) V.undef), kind := V.toInt (List.getD r (1 : Nat) V.undef), num := V.toInt (List.getD r (2 : Nat) V.undef), text := V.toStr (List.getD r (3 : Nat) V.undef) : HPair }) (List.map (fun p => [V.str (HPair.key p), V.int IntKind.u8 (HPair.kind p), V.int IntKind.i64 (HPair.num p), V.str (HPair.text p)]) (HMail.head m)), body := HMail.body m, due := HMail.due m, hops := HMail.hops m : HMail }, lent := false, again := false : HItem }))], bx := [] : DRes }) (none) := by kernel_rfl
noncomputable def eNone : Env := env Tryz.prog [] [] []
theorem q_markL (x : HItem) : evFn eNone 67 ((aOne (vPtr 0)).enc ()) ((bOne cItem).enc x) some =
 some { v := V.tup [], bx := [[V.int IntKind.u64 (HMail.id (HItem.mail x)), V.str (HMail.shop (HItem.mail x)), V.str (HMail.key (HItem.mail x)), V.slc [Sh.str, Sh.int IntKind.u8, Sh.int IntKind.i64, Sh.str] (List.map (fun p => [V.str (HPair.key p), V.int IntKind.u8 (HPair.kind p), V.int IntKind.i64 (HPair.num p), V.str (HPair.text p)]) (HMail.head (HItem.mail x))), V.str (HMail.body (HItem.mail x)), V.int IntKind.u64 (HMail.due (HItem.mail x)), V.int IntKind.u8 (HMail.hops (HItem.mail x)), V.bool true, V.bool (HItem.again x)]] : DRes } := by kernel_rfl
theorem q_markB (x : HItem) : evFn eNone 102 ((aOne (vPtr 0)).enc ()) ((bOne cItem).enc x) some =
 some { v := V.tup [], bx := [[V.int IntKind.u64 (HMail.id (HItem.mail x)), V.str (HMail.shop (HItem.mail x)), V.str (HMail.key (HItem.mail x)), V.slc [Sh.str, Sh.int IntKind.u8, Sh.int IntKind.i64, Sh.str] (List.map (fun p => [V.str (HPair.key p), V.int IntKind.u8 (HPair.kind p), V.int IntKind.i64 (HPair.num p), V.str (HPair.text p)]) (HMail.head (HItem.mail x))), V.str (HMail.body (HItem.mail x)), V.int IntKind.u64 (HMail.due (HItem.mail x)), V.int IntKind.u8 (HMail.hops (HItem.mail x)), V.bool false, V.bool true]] : DRes } := by kernel_rfl
theorem q_markW (x : HItem) : evFn eNone 66 ((aOne (vPtr 0)).enc ()) ((bOne cItem).enc x) some =
 some { v := V.tup [], bx := [[V.int IntKind.u64 (HMail.id (HItem.mail x)), V.str (HMail.shop (HItem.mail x)), V.str (HMail.key (HItem.mail x)), V.slc [Sh.str, Sh.int IntKind.u8, Sh.int IntKind.i64, Sh.str] (List.map (fun p => [V.str (HPair.key p), V.int IntKind.u8 (HPair.kind p), V.int IntKind.i64 (HPair.num p), V.str (HPair.text p)]) (HMail.head (HItem.mail x))), V.str (HMail.body (HItem.mail x)), V.int IntKind.u64 (HMail.due (HItem.mail x)), V.int IntKind.u8 (HMail.hops (HItem.mail x)), V.bool false, V.bool true]] : DRes } := by kernel_rfl
theorem q_allM (m : HMail) : evFn eNone 57 ((aOne (vAgg cMail)).enc m) ([]) some =
 some { v := V.bool true, bx := [] : DRes } := by kernel_rfl
noncomputable def eReadyF : Env := env Tryz.prog [(57, dAllM)] [] []
theorem q_readyF (x : HItem) : evFn eReadyF 109 ((aCons (vAgg cItem) (aOne (vPtr 0))).enc (x, ())) ((bFn0 57).enc ()) some =
 cond (!HItem.lent x) (some { v := V.bool true, bx := [[V.fn 57 [] []]] : DRes }) (some { v := V.bool false, bx := [[V.fn 57 [] []]] : DRes }) := by kernel_rfl
theorem q_ofF (x : HItem) (id : Int) : evFn eNone 139 ((aCons (vAgg cItem) (aOne (vPtr 0))).enc (x, ())) ((bOne (rInt .u64)).enc id) some =
 some { v := V.bool (HMail.id (HItem.mail x) == id), bx := [[V.int IntKind.u64 id]] : DRes } := by kernel_rfl
noncomputable def eCloneIO : Env := env Tryz.prog [] [] [] [113]
theorem q_cloneIO (l : List HItem) : evFn eCloneIO 113 ((aOne (vSl cItem)).enc l) ([]) some =
 cond (!Nat.beq (List.length (List.map (RCod.enc cItem) l)) (0 : Nat)) (cond (Nat.beq (List.length (List.map (RCod.enc cItem) l)) (0 : Nat)) (some { v := V.slc [Sh.int IntKind.u64, Sh.str, Sh.str, Sh.slc [Sh.str, Sh.int IntKind.u8, Sh.int IntKind.i64, Sh.str], Sh.str, Sh.int IntKind.u64, Sh.int IntKind.u8, Sh.bool, Sh.bool] [], bx := [] : DRes }) (cond (decide (List.length (List.map (RCod.enc cItem) l) * (104 : Nat) ≤ (140737488355328 : Nat))) (some { v := V.own (1000 : Nat) (0 : Nat), bx := [], nb := [Box.sl [Sh.int IntKind.u64, Sh.str, Sh.str, Sh.slc [Sh.str, Sh.int IntKind.u8, Sh.int IntKind.i64, Sh.str], Sh.str, Sh.int IntKind.u64, Sh.int IntKind.u8, Sh.bool, Sh.bool] (List.map (RCod.enc cItem) l) (0 : Nat)] : DRes }) (none))) (none) := by kernel_rfl
theorem ok_iClone : FnOk Tryz.prog 54 dIClone := by
  refine den_okF (env_ok ((TOk.nil _).cons ok_mailCopy)) (E := eIClone) Tryz.func54 [] (by kernel_rfl) none0 fun x _ h => ?_
  refine (q_iClone x).trans ?_
  have h : smallM x.mail = true := h
  show _ = some (⟨.agg (cItem.enc x), [], []⟩ : DRes)
  simp only [fold_de, h, cond_true, pairs_enc]
  rfl
theorem ok_lCheck : FnOk Tryz.prog 110 dLCheck := by
  refine den_okF (env_ok ((TOk.nil _).cons ok_mailCheck)) (E := eLCheck) Tryz.func110 [] (by kernel_rfl) none0 fun a _ h => ?_
  obtain ⟨l, m⟩ := a
  have h : l.length ≤ 1000 := ble_of h
  refine (q_lCheck l m).trans ?_
  show _ = some (⟨.int .i64 (N.lCheck l m), [], []⟩ : DRes)
  simp only [fold_de, List.length_map]
  unfold N.lCheck
  cases N.mailCheck m != 0 with
  | true => rfl
  | false =>
    by_cases hl : 0 < l.length
    · have w : IntKind.wrap .i64 ((l.length : Int) - 1) = (l.length : Int) - 1 := wr_i64 (by omega) (by omega)
      have ei : ((l.length : Int) - 1).toNat = l.length - 1 := by omega
      have eg := getD_enc cItem l (l.length - 1) item0 (by omega)
      rw [w, ei, eg]
      simp (disch := omega) only [evs]
      show cond (ile m.id (l.getD (l.length - 1) item0).mail.id) _ _ = _
      cases ile m.id (l.getD (l.length - 1) item0).mail.id with
      | true => rfl
      | false => cases ile 64 (l.length : Int) <;> rfl
    · simp (disch := omega) only [evs]
theorem ok_markL : FnOk Tryz.prog 67 (dMarkI N.lendI) := den_okF (env_ok (TOk.nil _)) (E := eNone) Tryz.func67 [] (by kernel_rfl) none0 fun _ x _ => q_markL x
theorem ok_markB : FnOk Tryz.prog 102 (dMarkI N.backI) := den_okF (env_ok (TOk.nil _)) (E := eNone) Tryz.func102 [] (by kernel_rfl) none0 fun _ x _ => q_markB x
theorem ok_markW : FnOk Tryz.prog 66 (dMarkI N.backI) := den_okF (env_ok (TOk.nil _)) (E := eNone) Tryz.func66 [] (by kernel_rfl) none0 fun _ x _ => q_markW x
theorem ok_allM : FnOk Tryz.prog 57 dAllM := den_okF (env_ok (TOk.nil _)) (E := eNone) Tryz.func57 [] (by kernel_rfl) none0 fun m _ _ => q_allM m
theorem ok_readyF : FnOk Tryz.prog 109 (dReadyF 57) := by
  refine den_okF (env_ok ((TOk.nil _).cons ok_allM)) (E := eReadyF) Tryz.func109 [] (by kernel_rfl) none0 fun a _ _ => ?_
  obtain ⟨x, ⟨⟩⟩ := a
  refine (q_readyF x).trans ?_
  show _ = some (⟨.bool (N.isReady x), [[V.fn 57 [] []]], []⟩ : DRes)
  unfold N.isReady
  cases x.lent <;> rfl
theorem ok_ofF : FnOk Tryz.prog 139 dOfF := den_okF (env_ok (TOk.nil _)) (E := eNone) Tryz.func139 [] (by kernel_rfl) none0 fun a id _ => q_ofF a.1 id
theorem ok_cloneIO : FnOk Tryz.prog 113 dCloneIO := by
  refine den_okF (env_ok (TOk.nil _)) (E := eCloneIO) Tryz.func113 [] (by kernel_rfl) none0 fun l _ h => ?_
  have h : cond (Nat.beq l.length 0) false (Nat.ble l.length 1000) = true := h
  cases e : Nat.beq l.length 0 with
  | true => rw [e] at h; cases h
  | false =>
    rw [e] at h
    have h1 : l.length ≤ 1000 := ble_of h
    refine (q_cloneIO l).trans ?_
    simp (disch := omega) only [evs, e, Bool.not_false]
    rfl
theorem ok_lPut : FnOk Tryz.prog 60 dLPut := by
  refine den_okF (env_ok ((((TOk.nil _).cons ok_concatI).cons ok_iClone).cons ok_lCheck)) (E := eLPut) Tryz.func60 [] (by kernel_rfl) none0 fun a _ h => ?_
  obtain ⟨l, x⟩ := a
  obtain ⟨h1, h2⟩ := bcond h
  have h1 : l.length ≤ 1000 := ble_of h1
  have h2 : smallI x = true := h2
  refine (q_lPut l x).trans ?_
  show _ = some (⟨.tup [.agg (cLine.enc (N.lPut l x).1), .int .i64 (N.lPut l x).2], [], []⟩ : DRes)
  simp only [fold_de, dec_encs, fold_itemX]
  unfold N.lPut
  cases N.lCheck l x.mail != 0 with
  | true => simp (disch := omega) only [evs]; rfl
  | false =>
    have hf : N.flat [l, List.map cItem.dec [cItem.enc x]] = l ++ [x] := by
      rw [List.map_cons, cItem.de x, List.map_nil, flat_two]
    simp (disch := omega) only [evs, pairs_enc, fold_itemX, fold_itemE, h2, hf]
    rfl
end Go.Ev

/- The functions on lines that look for an item, and mark it: lemmas. -/
namespace Go.Ev
open Go Go.Proofs
set_option maxRecDepth 100000
-- FOLD

theorem drop_decI {r : List (List V)} {i : Nat} (h : i < r.length) : (r.drop i).map cItem.dec = cItem.dec (r.getD i []) :: (r.drop (i + 1)).map cItem.dec := by
  rw [drop_row h]; rfl
theorem ix_cons (p : HItem → Bool) (x : HItem) (r : List HItem) (i : Int) : N.ix p (x :: r) i = cond (p x) i (N.ix p r (i + 1)) := rfl
theorem ix_end {p : HItem → Bool} {l : List HItem} (h : ile 0 (N.ix p l 0) = false) : N.ix p l 0 = -1 := by
  rcases ix_spec p l 0 (Int.le_refl _) with ⟨h1, _⟩ | ⟨k, h1, _⟩
  · exact h1
  · rw [h1, ile_t (by omega)] at h; cases h
def schIxR : SSch := { fr := [(0, .slc [.int .u64, .str, .str, .slc [.str, .int .u8, .int .i64, .str], .str, .int .u64, .int .u8, .bool, .bool]), (1, .fn 109 [] [.ptr 0 0 0]), (7, .int .i64), (8, .int .i64)], tab := [(0, .var [.fn 57 [] []])] }
def gIxR : List Leaf → (Ex → St → Option R) → Option R
  | [.r r, .i n, .i i], K => cond (n == r.length) (cond (i == 0) (cond (Nat.ble r.length 1000) (cond (ile 0 (N.ix N.isReady (r.map cItem.dec) 0)) (K .ret { fr := [(4, .int .i64 (N.ix N.isReady (r.map cItem.dec) 0))], tab := [(0, .var [.fn 57 [] []])] }) (K (.exit 0) { fr := [], tab := [(0, .var [.fn 57 [] []])] })) none) none) none
  | _, _ => none
noncomputable def eIxR : Env := env Tryz.prog [(109, dReadyF 57)] [(2, loopF schIxR gIxR)] [(2, [(0, [0, 1, 7, 8]), (1, []), (1000, [4])])]
theorem q_IxR (l : List HItem) : evFn eIxR 108 ((aCons (vSl cItem) (aOne (vFn 109 0))).enc (l, ())) ((bFn0 57).enc ()) some =
 cond ((↑(List.length (List.map (RCod.enc cItem) l)) : Int) == (↑(List.length (List.map (RCod.enc cItem) l)) : Int)) (cond (Nat.ble (List.length (List.map (RCod.enc cItem) l)) (1000 : Nat)) (cond (ile (0 : Int) (N.ix N.isReady (List.map (RCod.dec cItem) (List.map (RCod.enc cItem) l)) (0 : Int))) (some { v := V.int IntKind.i64 (N.ix N.isReady (List.map (RCod.dec cItem) (List.map (RCod.enc cItem) l)) (0 : Int)), bx := [[V.fn 57 [] []]] : DRes }) (some { v := V.int IntKind.i64 (-1 : Int), bx := [[V.fn 57 [] []]] : DRes })) (none)) (none) := by kernel_rfl
theorem q_IxRR (r : List (List V)) (n i : Int) (K : Ex → St → Option R) : evRound eIxR 108 2 { fr := [(0, .slc [.int .u64, .str, .str, .slc [.str, .int .u8, .int .i64, .str], .str, .int .u64, .int .u8, .bool, .bool] r), (1, .fn 109 [] [.ptr 0 0 0 0]), (7, .int .i64 n), (8, .int .i64 i)], tab := [(0, .var [.fn 57 [] []])] } K =
 cond (ilt i n) (cond (decide ((0 : Int) ≤ i ∧ i < (↑(List.length r) : Int))) (cond (N.isReady { mail := { id := V.toInt (List.getD (List.getD r (Int.toNat i) []) (0 : Nat) V.undef), shop := V.toStr (List.getD (List.getD r (Int.toNat i) []) (1 : Nat) V.undef), key := V.toStr (List.getD (List.getD r (Int.toNat i) []) (2 : Nat) V.undef), head := List.map (fun r => { key := V.toStr (List.getD r (0 : Nat) V.undef), kind := V.toInt (List.getD r (1 : Nat) V.undef), num := V.toInt (List.getD r (2 : Nat) V.undef), text := V.toStr (List.getD r (3 : Nat) V.undef) : HPair }) (V.toRows (List.getD (List.getD r (Int.toNat i) []) (3 : Nat) V.undef)), body := V.toStr (List.getD (List.getD r (Int.toNat i) []) (4 : Nat) V.undef), due := V.toInt (List.getD (List.getD r (Int.toNat i) []) (5 : Nat) V.undef), hops := V.toInt (List.getD (List.getD r (Int.toNat i) []) (6 : Nat) V.undef) : HMail }, lent := V.toBool (List.getD (List.getD r (Int.toNat i) []) (7 : Nat) V.undef), again := V.toBool (List.getD (List.getD r (Int.toNat i) []) (8 : Nat) V.undef) : HItem }) (K Ex.ret { fr := [((4 : Nat), V.int IntKind.i64 i)], tab := [((0 : Nat), Box.var [V.fn 57 [] []])] : St }) (K Ex.normal { fr := [((0 : Nat), V.slc [Sh.int IntKind.u64, Sh.str, Sh.str, Sh.slc [Sh.str, Sh.int IntKind.u8, Sh.int IntKind.i64, Sh.str], Sh.str, Sh.int IntKind.u64, Sh.int IntKind.u8, Sh.bool, Sh.bool] r), ((1 : Nat), V.fn 109 [] [V.ptr (0 : Nat) (0 : Nat) (0 : Nat) (0 : Nat)]), ((7 : Nat), V.int IntKind.i64 n), ((8 : Nat), V.int IntKind.i64 (IntKind.wrap IntKind.i64 (i + (1 : Int))))], tab := [((0 : Nat), Box.var [V.fn 57 [] []])] : St })) (none)) (K (Ex.exit (0 : Nat)) { fr := [], tab := [((0 : Nat), Box.var [V.fn 57 [] []])] : St }) := by kernel_rfl
theorem ok_IxR : FnOk Tryz.prog 108 (dIxR 109 57) := by
  refine den_okF (env_ok ((TOk.nil _).cons ok_readyF)) (E := eIxR) Tryz.func108 [2] (by kernel_rfl) (one1 (rounds_of rfl fun l K q h => ?_)) fun a id hp => ?_
  · unfold gIxR at h
    split at h
    · rename_i r n i 
      have h1 := (cond_none h).1; replace h := (cond_none h).2; have h2 := (cond_none h).1; replace h := (cond_none h).2; have h3 := (cond_none h).1; replace h := (cond_none h).2
      have e1 := ieq_of h1
      have e2 := ieq_of h2
      subst e1 e2
      have h3 : r.length ≤ 1000 := ble_of h3
      have main := loop_ind (E := eIxR) (f := 108) (id := 2) (σ := Nat) (fun i => { fr := [(0, .slc [.int .u64, .str, .str, .slc [.str, .int .u8, .int .i64, .str], .str, .int .u64, .int .u8, .bool, .bool] r), (1, .fn 109 [] [.ptr 0 0 0 0]), (7, .int .i64 r.length), (8, .int .i64 (i : Int))], tab := [(0, .var [.fn 57 [] []])] }) (fun i => i ≤ r.length) (fun i => r.length - i)
        (fun i K => cond (ile 0 (N.ix N.isReady ((r.drop i).map cItem.dec) i)) (K .ret { fr := [(4, .int .i64 (N.ix N.isReady ((r.drop i).map cItem.dec) i))], tab := [(0, .var [.fn 57 [] []])] }) (K (.exit 0) { fr := [], tab := [(0, .var [.fn 57 [] []])] })) (fun i hi => ?_) 0 (Nat.zero_le _) K q (by assumption)
      · exact main
      · by_cases hl : i < r.length
        · rw [drop_decI hl, ix_cons]
          cases hc : N.isReady (cItem.dec (r.getD i [])) with
          | true =>
            refine .inr ⟨.ret, { fr := [(4, .int .i64 ((i : Int)))], tab := [(0, .var [.fn 57 [] []])] }, by simp, fun K => ?_, fun K => ?_⟩
            · rw [q_IxRR]
              simp (disch := omega) only [evs, Int.toNat_natCast, fold_item, hc]
            · simp only [cond_true]
              rw [ile_t (by omega)]; rfl
          | false =>
            refine .inl ⟨i + 1, hl, by omega, fun K => ?_, fun K => rfl⟩
            rw [q_IxRR]
            simp (disch := omega) only [evs, Int.toNat_natCast, fold_item, hc]
            rfl
        · refine .inr ⟨.exit 0, { fr := [], tab := [(0, .var [.fn 57 [] []])] }, by simp, fun K => ?_, fun K => ?_⟩
          · rw [q_IxRR]
            simp (disch := omega) only [evs]
          · rw [List.drop_eq_nil_of_le (by omega)]; rfl
    · cases h
  · obtain ⟨l, ⟨⟩⟩ := a
    have hp : Nat.ble l.length 1000 = true := hp
    refine (q_IxR l ).trans ?_
    simp only [List.length_map, dec_encs, hp, beq_self_eq_true, cond_true]
    show _ = some (⟨.int .i64 (N.ix N.isReady l 0), [[.fn 57 [] []]], []⟩ : DRes)
    cases hc : ile 0 (N.ix N.isReady l 0) with
    | true => rfl
    | false => rw [ix_end hc]; rfl
def schIxO : SSch := { fr := [(0, .slc [.int .u64, .str, .str, .slc [.str, .int .u8, .int .i64, .str], .str, .int .u64, .int .u8, .bool, .bool]), (1, .fn 139 [] [.ptr 0 0 0]), (7, .int .i64), (8, .int .i64)], tab := [(0, .var [.int .u64])] }
def gIxO : List Leaf → (Ex → St → Option R) → Option R
  | [.r r, .i n, .i i, .i id], K => cond (n == r.length) (cond (i == 0) (cond (Nat.ble r.length 1000) (cond (ile 0 (N.ix (N.isId id) (r.map cItem.dec) 0)) (K .ret { fr := [(4, .int .i64 (N.ix (N.isId id) (r.map cItem.dec) 0))], tab := [(0, .var [.int .u64 id])] }) (K (.exit 0) { fr := [], tab := [(0, .var [.int .u64 id])] })) none) none) none
  | _, _ => none
noncomputable def eIxO : Env := env Tryz.prog [(139, dOfF)] [(2, loopF schIxO gIxO)] [(2, [(0, [0, 1, 7, 8]), (1, []), (1000, [4])])]
theorem q_IxO (l : List HItem) (id : Int) : evFn eIxO 108 ((aCons (vSl cItem) (aOne (vFn 139 0))).enc (l, ())) ((bOne (rInt .u64)).enc id) some =
 cond ((↑(List.length (List.map (RCod.enc cItem) l)) : Int) == (↑(List.length (List.map (RCod.enc cItem) l)) : Int)) (cond (Nat.ble (List.length (List.map (RCod.enc cItem) l)) (1000 : Nat)) (cond (ile (0 : Int) (N.ix (N.isId id) (List.map (RCod.dec cItem) (List.map (RCod.enc cItem) l)) (0 : Int))) (some { v := V.int IntKind.i64 (N.ix (N.isId id) (List.map (RCod.dec cItem) (List.map (RCod.enc cItem) l)) (0 : Int)), bx := [[V.int IntKind.u64 id]] : DRes }) (some { v := V.int IntKind.i64 (-1 : Int), bx := [[V.int IntKind.u64 id]] : DRes })) (none)) (none) := by kernel_rfl
theorem q_IxOR (r : List (List V)) (n i : Int) (id : Int) (K : Ex → St → Option R) : evRound eIxO 108 2 { fr := [(0, .slc [.int .u64, .str, .str, .slc [.str, .int .u8, .int .i64, .str], .str, .int .u64, .int .u8, .bool, .bool] r), (1, .fn 139 [] [.ptr 0 0 0 0]), (7, .int .i64 n), (8, .int .i64 i)], tab := [(0, .var [.int .u64 id])] } K =
 cond (ilt i n) (cond (decide ((0 : Int) ≤ i ∧ i < (↑(List.length r) : Int))) (cond (N.isId id { mail := { id := V.toInt (List.getD (List.getD r (Int.toNat i) []) (0 : Nat) V.undef), shop := V.toStr (List.getD (List.getD r (Int.toNat i) []) (1 : Nat) V.undef), key := V.toStr (List.getD (List.getD r (Int.toNat i) []) (2 : Nat) V.undef), head := List.map (fun r => { key := V.toStr (List.getD r (0 : Nat) V.undef), kind := V.toInt (List.getD r (1 : Nat) V.undef), num := V.toInt (List.getD r (2 : Nat) V.undef), text := V.toStr (List.getD r (3 : Nat) V.undef) : HPair }) (V.toRows (List.getD (List.getD r (Int.toNat i) []) (3 : Nat) V.undef)), body := V.toStr (List.getD (List.getD r (Int.toNat i) []) (4 : Nat) V.undef), due := V.toInt (List.getD (List.getD r (Int.toNat i) []) (5 : Nat) V.undef), hops := V.toInt (List.getD (List.getD r (Int.toNat i) []) (6 : Nat) V.undef) : HMail }, lent := V.toBool (List.getD (List.getD r (Int.toNat i) []) (7 : Nat) V.undef), again := V.toBool (List.getD (List.getD r (Int.toNat i) []) (8 : Nat) V.undef) : HItem }) (K Ex.ret { fr := [((4 : Nat), V.int IntKind.i64 i)], tab := [((0 : Nat), Box.var [V.int IntKind.u64 id])] : St }) (K Ex.normal { fr := [((0 : Nat), V.slc [Sh.int IntKind.u64, Sh.str, Sh.str, Sh.slc [Sh.str, Sh.int IntKind.u8, Sh.int IntKind.i64, Sh.str], Sh.str, Sh.int IntKind.u64, Sh.int IntKind.u8, Sh.bool, Sh.bool] r), ((1 : Nat), V.fn 139 [] [V.ptr (0 : Nat) (0 : Nat) (0 : Nat) (0 : Nat)]), ((7 : Nat), V.int IntKind.i64 n), ((8 : Nat), V.int IntKind.i64 (IntKind.wrap IntKind.i64 (i + (1 : Int))))], tab := [((0 : Nat), Box.var [V.int IntKind.u64 id])] : St })) (none)) (K (Ex.exit (0 : Nat)) { fr := [], tab := [((0 : Nat), Box.var [V.int IntKind.u64 id])] : St }) := by kernel_rfl
theorem ok_IxO : FnOk Tryz.prog 108 (dIxO 139) := by
  refine den_okF (env_ok ((TOk.nil _).cons ok_ofF)) (E := eIxO) Tryz.func108 [2] (by kernel_rfl) (one1 (rounds_of rfl fun l K q h => ?_)) fun a id hp => ?_
  · unfold gIxO at h
    split at h
    · rename_i r n i id
      have h1 := (cond_none h).1; replace h := (cond_none h).2; have h2 := (cond_none h).1; replace h := (cond_none h).2; have h3 := (cond_none h).1; replace h := (cond_none h).2
      have e1 := ieq_of h1
      have e2 := ieq_of h2
      subst e1 e2
      have h3 : r.length ≤ 1000 := ble_of h3
      have main := loop_ind (E := eIxO) (f := 108) (id := 2) (σ := Nat) (fun i => { fr := [(0, .slc [.int .u64, .str, .str, .slc [.str, .int .u8, .int .i64, .str], .str, .int .u64, .int .u8, .bool, .bool] r), (1, .fn 139 [] [.ptr 0 0 0 0]), (7, .int .i64 r.length), (8, .int .i64 (i : Int))], tab := [(0, .var [.int .u64 id])] }) (fun i => i ≤ r.length) (fun i => r.length - i)
        (fun i K => cond (ile 0 (N.ix (N.isId id) ((r.drop i).map cItem.dec) i)) (K .ret { fr := [(4, .int .i64 (N.ix (N.isId id) ((r.drop i).map cItem.dec) i))], tab := [(0, .var [.int .u64 id])] }) (K (.exit 0) { fr := [], tab := [(0, .var [.int .u64 id])] })) (fun i hi => ?_) 0 (Nat.zero_le _) K q (by assumption)
      · exact main
      · by_cases hl : i < r.length
        · rw [drop_decI hl, ix_cons]
          cases hc : (N.isId id) (cItem.dec (r.getD i [])) with
          | true =>
            refine .inr ⟨.ret, { fr := [(4, .int .i64 ((i : Int)))], tab := [(0, .var [.int .u64 id])] }, by simp, fun K => ?_, fun K => ?_⟩
            · rw [q_IxOR]
              simp (disch := omega) only [evs, Int.toNat_natCast, fold_item, hc]
            · simp only [cond_true]
              rw [ile_t (by omega)]; rfl
          | false =>
            refine .inl ⟨i + 1, hl, by omega, fun K => ?_, fun K => rfl⟩
            rw [q_IxOR]
            simp (disch := omega) only [evs, Int.toNat_natCast, fold_item, hc]
            rfl
        · refine .inr ⟨.exit 0, { fr := [], tab := [(0, .var [.int .u64 id])] }, by simp, fun K => ?_, fun K => ?_⟩
          · rw [q_IxOR]
            simp (disch := omega) only [evs]
          · rw [List.drop_eq_nil_of_le (by omega)]; rfl
    · cases h
  · obtain ⟨l, ⟨⟩⟩ := a
    have hp : Nat.ble l.length 1000 = true := hp
    refine (q_IxO l id).trans ?_
    simp only [List.length_map, dec_encs, hp, beq_self_eq_true, cond_true]
    show _ = some (⟨.int .i64 (N.ix (N.isId id) l 0), [[.int .u64 id]], []⟩ : DRes)
    cases hc : ile 0 (N.ix (N.isId id) l 0) with
    | true => rfl
    | false => rw [ix_end hc]; rfl
noncomputable def eWithL : Env := env Tryz.prog [(113, dCloneIO), (67, dMarkI N.lendI)] [] []
theorem q_withL (l : List HItem) (k : Int) : evFn eWithL 65 ((aCons (vAgg cLine) (aCons (vInt .i64) (aOne (vFn0 67)))).enc (l, k, ())) ([]) some =
 cond (bif Nat.beq (List.length (List.map (RCod.dec cItem) (List.map (RCod.enc cItem) l))) (0 : Nat) then false else Nat.ble (List.length (List.map (RCod.dec cItem) (List.map (RCod.enc cItem) l))) (1000 : Nat)) (cond (decide ((0 : Int) ≤ k ∧ k < (↑(List.length (List.map (RCod.enc cItem) (List.map (RCod.dec cItem) (List.map (RCod.enc cItem) l)))) : Int))) (some { v := V.agg [V.slc [Sh.int IntKind.u64, Sh.str, Sh.str, Sh.slc [Sh.str, Sh.int IntKind.u8, Sh.int IntKind.i64, Sh.str], Sh.str, Sh.int IntKind.u64, Sh.int IntKind.u8, Sh.bool, Sh.bool] (List.set (List.map (RCod.enc cItem) (List.map (RCod.dec cItem) (List.map (RCod.enc cItem) l))) (Int.toNat k) [V.int IntKind.u64 (HMail.id (HItem.mail (N.lendI { mail := { id := V.toInt (List.getD (List.getD (List.map (RCod.enc cItem) (List.map (RCod.dec cItem) (List.map (RCod.enc cItem) l))) (Int.toNat k) []) (0 : Nat) V.undef), shop := V.toStr (List.getD (List.getD (List.map (RCod.enc cItem) (List.map (RCod.dec cItem) (List.map (RCod.enc cItem) l))) (Int.toNat k) []) (1 : Nat) V.undef), key := V.toStr (List.getD (List.getD (List.map (RCod.enc cItem) (List.map (RCod.dec cItem) (List.map (RCod.enc cItem) l))) (Int.toNat k) []) (2 : Nat) V.undef), head := List.map (fun r => { key := V.toStr (List.getD r (0 : Nat) V.undef), kind := V.toInt (List.getD r (1 : Nat) V.undef), num := V.toInt (List.getD r (2 : Nat) V.undef), text := V.toStr (List.getD r (3 : Nat) V.undef) : HPair }) (V.toRows (List.getD (List.getD (List.map (RCod.enc cItem) (List.map (RCod.dec cItem) (List.map (RCod.enc cItem) l))) (Int.toNat k) []) (3 : Nat) V.undef)), body := V.toStr (List.getD (List.getD (List.map (RCod.enc cItem) (List.map (RCod.dec cItem) (List.map (RCod.enc cItem) l))) (Int.toNat k) []) (4 : Nat) V.undef), due := V.toInt (List.getD (List.getD (List.map (RCod.enc cItem) (List.map (RCod.dec cItem) (List.map (RCod.enc cItem) l))) (Int.toNat k) []) (5 : Nat) V.undef), hops := V.toInt (List.getD (List.getD (List.map (RCod.enc cItem) (List.map (RCod.dec cItem) (List.map (RCod.enc cItem) l))) (Int.toNat k) []) (6 : Nat) V.undef) : HMail }, lent := V.toBool (List.getD (List.getD (List.map (RCod.enc cItem) (List.map (RCod.dec cItem) (List.map (RCod.enc cItem) l))) (Int.toNat k) []) (7 : Nat) V.undef), again := V.toBool (List.getD (List.getD (List.map (RCod.enc cItem) (List.map (RCod.dec cItem) (List.map (RCod.enc cItem) l))) (Int.toNat k) []) (8 : Nat) V.undef) : HItem }))), V.str (HMail.shop (HItem.mail (N.lendI { mail := { id := V.toInt (List.getD (List.getD (List.map (RCod.enc cItem) (List.map (RCod.dec cItem) (List.map (RCod.enc cItem) l))) (Int.toNat k) []) (0 : Nat) V.undef), shop := V.toStr (List.getD (List.getD (List.map (RCod.enc cItem) (List.map (RCod.dec cItem) (List.map (RCod.enc cItem) l))) (Int.toNat k) []) (1 : Nat) V.undef), key := V.toStr (List.getD (List.getD (List.map (RCod.enc cItem) (List.map (RCod.dec cItem) (List.map (RCod.enc cItem) l))) (Int.toNat k) []) (2 : Nat) V.undef), head := List.map (fun r => { key := V.toStr (List.getD r (0 : Nat) V.undef), kind := V.toInt (List.getD r (1 : Nat) V.undef), num := V.toInt (List.getD r (2 : Nat) V.undef), text := V.toStr (List.getD r (3 : Nat) V.undef) : HPair }) (V.toRows (List.getD (List.getD (List.map (RCod.enc cItem) (List.map (RCod.dec cItem) (List.map (RCod.enc cItem) l))) (Int.toNat k) []) (3 : Nat) V.undef)), body := V.toStr (List.getD (List.getD (List.map (RCod.enc cItem) (List.map (RCod.dec cItem) (List.map (RCod.enc cItem) l))) (Int.toNat k) []) (4 : Nat) V.undef), due := V.toInt (List.getD (List.getD (List.map (RCod.enc cItem) (List.map (RCod.dec cItem) (List.map (RCod.enc cItem) l))) (Int.toNat k) []) (5 : Nat) V.undef), hops := V.toInt (List.getD (List.getD (List.map (RCod.enc cItem) (List.map (RCod.dec cItem) (List.map (RCod.enc cItem) l))) (Int.toNat k) []) (6 : Nat) V.undef) : HMail }, lent := V.toBool (List.getD (List.getD (List.map (RCod.enc cItem) (List.map (RCod.dec cItem) (List.map (RCod.enc cItem) l))) (Int.toNat k) []) (7 : Nat) V.undef), again := V.toBool (List.getD (List.getD (List.map (RCod.enc cItem) (List.map (RCod.dec cItem) (List.map (RCod.enc cItem) l))) (Int.toNat k) []) (8 : Nat) V.undef) : HItem }))), V.str (HMail.key (HItem.mail (N.lendI { mail := { id := V.toInt (List.getD (List.getD (List.map (RCod.enc cItem) (List.map (RCod.dec cItem) (List.map (RCod.enc cItem) l))) (Int.toNat k) []) (0 : Nat) V.undef), shop := V.toStr (List.getD (List.getD (List.map (RCod.enc cItem) (List.map (RCod.dec cItem) (List.map (RCod.enc cItem) l))) (Int.toNat k) []) (1 : Nat) V.undef), key := V.toStr (List.getD (List.getD (List.map (RCod.enc cItem) (List.map (RCod.dec cItem) (List.map (RCod.enc cItem) l))) (Int.toNat k) []) (2 : Nat) V.undef), head := List.map (fun r => { key := V.toStr (List.getD r (0 : Nat) V.undef), kind := V.toInt (List.getD r (1 : Nat) V.undef), num := V.toInt (List.getD r (2 : Nat) V.undef), text := V.toStr (List.getD r (3 : Nat) V.undef) : HPair }) (V.toRows (List.getD (List.getD (List.map (RCod.enc cItem) (List.map (RCod.dec cItem) (List.map (RCod.enc cItem) l))) (Int.toNat k) []) (3 : Nat) V.undef)), body := V.toStr (List.getD (List.getD (List.map (RCod.enc cItem) (List.map (RCod.dec cItem) (List.map (RCod.enc cItem) l))) (Int.toNat k) []) (4 : Nat) V.undef), due := V.toInt (List.getD (List.getD (List.map (RCod.enc cItem) (List.map (RCod.dec cItem) (List.map (RCod.enc cItem) l))) (Int.toNat k) []) (5 : Nat) V.undef), hops := V.toInt (List.getD (List.getD (List.map (RCod.enc cItem) (List.map (RCod.dec cItem) (List.map (RCod.enc cItem) l))) (Int.toNat k) []) (6 : Nat) V.undef) : HMail }, lent := V.toBool (List.getD (List.getD (List.map (RCod.enc cItem) (List.map (RCod.dec cItem) (List.map (RCod.enc cItem) l))) (Int.toNat k) []) (7 : Nat) V.undef), again := V.toBool (List.getD (List.getD (List.map (RCod.enc cItem) (List.map (RCod.dec cItem) (List.map (RCod.enc cItem) l))) (Int.toNat k) []) (8 : Nat) V.undef) : HItem }))), V.slc [Sh.str, Sh.int IntKind.u8, Sh.int IntKind.i64, Sh.str] (List.map (fun p => [V.str (HPair.key p), V.int IntKind.u8 (HPair.kind p), V.int IntKind.i64 (HPair.num p), V.str (HPair.text p)]) (HMail.head (HItem.mail (N.lendI { mail := { id := V.toInt (List.getD (List.getD (List.map (RCod.enc cItem) (List.map (RCod.dec cItem) (List.map (RCod.enc cItem) l))) (Int.toNat k) []) (0 : Nat) V.undef), shop := V.toStr (List.getD (List.getD (List.map (RCod.enc cItem) (List.map (RCod.dec cItem) (List.map (RCod.enc cItem) l))) (Int.toNat k) []) (1 : Nat) V.undef), key := V.toStr (List.getD (List.getD (List.map (RCod.enc cItem) (List.map (RCod.dec cItem) (List.map (RCod.enc cItem) l))) (Int.toNat k) []) (2 : Nat) V.undef), head := List.map (fun r => { key := V.toStr (List.getD r (0 : Nat) V.undef), kind := V.toInt (List.getD r (1 : Nat) V.undef), num := V.toInt (List.getD r (2 : Nat) V.undef), text := V.toStr (List.getD r (3 : Nat) V.undef) : HPair }) (V.toRows (List.getD (List.getD (List.map (RCod.enc cItem) (List.map (RCod.dec cItem) (List.map (RCod.enc cItem) l))) (Int.toNat k) []) (3 : Nat) V.undef)), body := V.toStr (List.getD (List.getD (List.map (RCod.enc cItem) (List.map (RCod.dec cItem) (List.map (RCod.enc cItem) l))) (Int.toNat k) []) (4 : Nat) V.undef), due := V.toInt (List.getD (List.getD (List.map (RCod.enc cItem) (List.map (RCod.dec cItem) (List.map (RCod.enc cItem) l))) (Int.toNat k) []) (5 : Nat) V.undef), hops := V.toInt (List.getD (List.getD (List.map (RCod.enc cItem) (List.map (RCod.dec cItem) (List.map (RCod.enc cItem) l))) (Int.toNat k) []) (6 : Nat) V.undef) : HMail }, lent := V.toBool (List.getD (List.getD (List.map (RCod.enc cItem) (List.map (RCod.dec cItem) (List.map (RCod.enc cItem) l))) (Int.toNat k) []) (7 : Nat) V.undef), again := V.toBool (List.getD (List.getD (List.map (RCod.enc cItem) (List.map (RCod.dec cItem) (List.map (RCod.enc cItem) l))) (Int.toNat k) []) (8 : Nat) V.undef) : HItem })))), V.str (HMail.body (HItem.mail (N.lendI { mail := { id := V.toInt (List.getD (List.getD (List.map (RCod.enc cItem) (List.map (RCod.dec cItem) (List.map (RCod.enc cItem) l))) (Int.toNat k) []) (0 : Nat) V.undef), shop := V.toStr (List.getD (List.getD (List.map (RCod.enc cItem) (List.map (RCod.dec cItem) (List.map (RCod.enc cItem) l))) (Int.toNat k) []) (1 : Nat) V.undef), key := V.toStr (List.getD (List.getD (List.map (RCod.enc cItem) (List.map (RCod.dec cItem) (List.map (RCod.enc cItem) l))) (Int.toNat k) []) (2 : Nat) V.undef), head := List.map (fun r => { key := V.toStr (List.getD r (0 : Nat) V.undef), kind := V.toInt (List.getD r (1 : Nat) V.undef), num := V.toInt (List.getD r (2 : Nat) V.undef), text := V.toStr (List.getD r (3 : Nat) V.undef) : HPair }) (V.toRows (List.getD (List.getD (List.map (RCod.enc cItem) (List.map (RCod.dec cItem) (List.map (RCod.enc cItem) l))) (Int.toNat k) []) (3 : Nat) V.undef)), body := V.toStr (List.getD (List.getD (List.map (RCod.enc cItem) (List.map (RCod.dec cItem) (List.map (RCod.enc cItem) l))) (Int.toNat k) []) (4 : Nat) V.undef), due := V.toInt (List.getD (List.getD (List.map (RCod.enc cItem) (List.map (RCod.dec cItem) (List.map (RCod.enc cItem) l))) (Int.toNat k) []) (5 : Nat) V.undef), hops := V.toInt (List.getD (List.getD (List.map (RCod.enc cItem) (List.map (RCod.dec cItem) (List.map (RCod.enc cItem) l))) (Int.toNat k) []) (6 : Nat) V.undef) : HMail }, lent := V.toBool (List.getD (List.getD (List.map (RCod.enc cItem) (List.map (RCod.dec cItem) (List.map (RCod.enc cItem) l))) (Int.toNat k) []) (7 : Nat) V.undef), again := V.toBool (List.getD (List.getD (List.map (RCod.enc cItem) (List.map (RCod.dec cItem) (List.map (RCod.enc cItem) l))) (Int.toNat k) []) (8 : Nat) V.undef) : HItem }))), V.int IntKind.u64 (HMail.due (HItem.mail (N.lendI { mail := { id := V.toInt (List.getD (List.getD (List.map (RCod.enc cItem) (List.map (RCod.dec cItem) (List.map (RCod.enc cItem) l))) (Int.toNat k) []) (0 : Nat) V.undef), shop := V.toStr (List.getD (List.getD (List.map (RCod.enc cItem) (List.map (RCod.dec cItem) (List.map (RCod.enc cItem) l))) (Int.toNat k) []) (1 : Nat) V.undef), key := V.toStr (List.getD (List.getD (List.map (RCod.enc cItem) (List.map (RCod.dec cItem) (List.map (RCod.enc cItem) l))) (Int.toNat k) []) (2 : Nat) V.undef), head := List.map (fun r => { key := V.toStr (List.getD r (0 : Nat) V.undef), kind := V.toInt (List.getD r (1 : Nat) V.undef), num := V.toInt (List.getD r (2 : Nat) V.undef), text := V.toStr (List.getD r (3 : Nat) V.undef) : HPair }) (V.toRows (List.getD (List.getD (List.map (RCod.enc cItem) (List.map (RCod.dec cItem) (List.map (RCod.enc cItem) l))) (Int.toNat k) []) (3 : Nat) V.undef)), body := V.toStr (List.getD (List.getD (List.map (RCod.enc cItem) (List.map (RCod.dec cItem) (List.map (RCod.enc cItem) l))) (Int.toNat k) []) (4 : Nat) V.undef), due := V.toInt (List.getD (List.getD (List.map (RCod.enc cItem) (List.map (RCod.dec cItem) (List.map (RCod.enc cItem) l))) (Int.toNat k) []) (5 : Nat) V.undef), hops := V.toInt (List.getD (List.getD (List.map (RCod.enc cItem) (List.map (RCod.dec cItem) (List.map (RCod.enc cItem) l))) (Int.toNat k) []) (6 : Nat) V.undef) : HMail }, lent := V.toBool (List.getD (List.getD (List.map (RCod.enc cItem) (List.map (RCod.dec cItem) (List.map (RCod.enc cItem) l))) (Int.toNat k) []) (7 : Nat) V.undef), again := V.toBool (List.getD (List.getD (List.map (RCod.enc cItem) (List.map (RCod.dec cItem) (List.map (RCod.enc cItem) l))) (Int.toNat k) []) (8 : Nat) V.undef) : HItem }))), V.int IntKind.u8 (HMail.hops (HItem.mail (N.lendI { mail := { id := V.toInt (List.getD (List.getD (List.map (RCod.enc cItem) (List.map (RCod.dec cItem) (List.map (RCod.enc cItem) l))) (Int.toNat k) []) (0 : Nat) V.undef), shop := V.toStr (List.getD (List.getD (List.map (RCod.enc cItem) (List.map (RCod.dec cItem) (List.map (RCod.enc cItem) l))) (Int.toNat k) []) (1 : Nat) V.undef), key := V.toStr (List.getD (List.getD (List.map (RCod.enc cItem) (List.map (RCod.dec cItem) (List.map (RCod.enc cItem) l))) (Int.toNat k) []) (2 : Nat) V.undef), head := List.map (fun r => { key := V.toStr (List.getD r (0 : Nat) V.undef), kind := V.toInt (List.getD r (1 : Nat) V.undef), num := V.toInt (List.getD r (2 : Nat) V.undef), text := V.toStr (List.getD r (3 : Nat) V.undef) : HPair }) (V.toRows (List.getD (List.getD (List.map (RCod.enc cItem) (List.map (RCod.dec cItem) (List.map (RCod.enc cItem) l))) (Int.toNat k) []) (3 : Nat) V.undef)), body := V.toStr (List.getD (List.getD (List.map (RCod.enc cItem) (List.map (RCod.dec cItem) (List.map (RCod.enc cItem) l))) (Int.toNat k) []) (4 : Nat) V.undef), due := V.toInt (List.getD (List.getD (List.map (RCod.enc cItem) (List.map (RCod.dec cItem) (List.map (RCod.enc cItem) l))) (Int.toNat k) []) (5 : Nat) V.undef), hops := V.toInt (List.getD (List.getD (List.map (RCod.enc cItem) (List.map (RCod.dec cItem) (List.map (RCod.enc cItem) l))) (Int.toNat k) []) (6 : Nat) V.undef) : HMail }, lent := V.toBool (List.getD (List.getD (List.map (RCod.enc cItem) (List.map (RCod.dec cItem) (List.map (RCod.enc cItem) l))) (Int.toNat k) []) (7 : Nat) V.undef), again := V.toBool (List.getD (List.getD (List.map (RCod.enc cItem) (List.map (RCod.dec cItem) (List.map (RCod.enc cItem) l))) (Int.toNat k) []) (8 : Nat) V.undef) : HItem }))), V.bool (HItem.lent (N.lendI { mail := { id := V.toInt (List.getD (List.getD (List.map (RCod.enc cItem) (List.map (RCod.dec cItem) (List.map (RCod.enc cItem) l))) (Int.toNat k) []) (0 : Nat) V.undef), shop := V.toStr (List.getD (List.getD (List.map (RCod.enc cItem) (List.map (RCod.dec cItem) (List.map (RCod.enc cItem) l))) (Int.toNat k) []) (1 : Nat) V.undef), key := V.toStr (List.getD (List.getD (List.map (RCod.enc cItem) (List.map (RCod.dec cItem) (List.map (RCod.enc cItem) l))) (Int.toNat k) []) (2 : Nat) V.undef), head := List.map (fun r => { key := V.toStr (List.getD r (0 : Nat) V.undef), kind := V.toInt (List.getD r (1 : Nat) V.undef), num := V.toInt (List.getD r (2 : Nat) V.undef), text := V.toStr (List.getD r (3 : Nat) V.undef) : HPair }) (V.toRows (List.getD (List.getD (List.map (RCod.enc cItem) (List.map (RCod.dec cItem) (List.map (RCod.enc cItem) l))) (Int.toNat k) []) (3 : Nat) V.undef)), body := V.toStr (List.getD (List.getD (List.map (RCod.enc cItem) (List.map (RCod.dec cItem) (List.map (RCod.enc cItem) l))) (Int.toNat k) []) (4 : Nat) V.undef), due := V.toInt (List.getD (List.getD (List.map (RCod.enc cItem) (List.map (RCod.dec cItem) (List.map (RCod.enc cItem) l))) (Int.toNat k) []) (5 : Nat) V.undef), hops := V.toInt (List.getD (List.getD (List.map (RCod.enc cItem) (List.map (RCod.dec cItem) (List.map (RCod.enc cItem) l))) (Int.toNat k) []) (6 : Nat) V.undef) : HMail }, lent := V.toBool (List.getD (List.getD (List.map (RCod.enc cItem) (List.map (RCod.dec cItem) (List.map (RCod.enc cItem) l))) (Int.toNat k) []) (7 : Nat) V.undef), again := V.toBool (List.getD (List.getD (List.map (RCod.enc cItem) (List.map (RCod.dec cItem) (List.map (RCod.enc cItem) l))) (Int.toNat k) []) (8 : Nat) V.undef) : HItem })), V.bool (HItem.again (N.lendI { mail := { id := V.toInt (List.getD (List.getD (List.map (RCod.enc cItem) (List.map (RCod.dec cItem) (List.map (RCod.enc cItem) l))) (Int.toNat k) []) (0 : Nat) V.undef), shop := V.toStr (List.getD (List.getD (List.map (RCod.enc cItem) (List.map (RCod.dec cItem) (List.map (RCod.enc cItem) l))) (Int.toNat k) []) (1 : Nat) V.undef), key := V.toStr (List.getD (List.getD (List.map (RCod.enc cItem) (List.map (RCod.dec cItem) (List.map (RCod.enc cItem) l))) (Int.toNat k) []) (2 : Nat) V.undef), head := List.map (fun r => { key := V.toStr (List.getD r (0 : Nat) V.undef), kind := V.toInt (List.getD r (1 : Nat) V.undef), num := V.toInt (List.getD r (2 : Nat) V.undef), text := V.toStr (List.getD r (3 : Nat) V.undef) : HPair }) (V.toRows (List.getD (List.getD (List.map (RCod.enc cItem) (List.map (RCod.dec cItem) (List.map (RCod.enc cItem) l))) (Int.toNat k) []) (3 : Nat) V.undef)), body := V.toStr (List.getD (List.getD (List.map (RCod.enc cItem) (List.map (RCod.dec cItem) (List.map (RCod.enc cItem) l))) (Int.toNat k) []) (4 : Nat) V.undef), due := V.toInt (List.getD (List.getD (List.map (RCod.enc cItem) (List.map (RCod.dec cItem) (List.map (RCod.enc cItem) l))) (Int.toNat k) []) (5 : Nat) V.undef), hops := V.toInt (List.getD (List.getD (List.map (RCod.enc cItem) (List.map (RCod.dec cItem) (List.map (RCod.enc cItem) l))) (Int.toNat k) []) (6 : Nat) V.undef) : HMail }, lent := V.toBool (List.getD (List.getD (List.map (RCod.enc cItem) (List.map (RCod.dec cItem) (List.map (RCod.enc cItem) l))) (Int.toNat k) []) (7 : Nat) V.undef), again := V.toBool (List.getD (List.getD (List.map (RCod.enc cItem) (List.map (RCod.dec cItem) (List.map (RCod.enc cItem) l))) (Int.toNat k) []) (8 : Nat) V.undef) : HItem }))])], bx := [] : DRes }) (none)) (none) := by kernel_rfl
theorem ok_withL : FnOk Tryz.prog 65 (dWith 67 N.lendI) := by
  refine den_okF (env_ok (((TOk.nil _).cons ok_markL).cons ok_cloneIO)) (E := eWithL) Tryz.func65 [] (by kernel_rfl) none0 fun a _ h => ?_
  obtain ⟨l, k, ⟨⟩⟩ := a
  obtain ⟨h1, h2⟩ := bcond h
  obtain ⟨h2, h3⟩ := bcond h2
  have h1 : 0 ≤ k := ile_of h1
  have h2 : k < l.length := ilt_of h2
  have h3 : Nat.ble l.length 1000 = true := h3
  have hn : Nat.beq l.length 0 = false := by
    rw [Bool.eq_false_iff]
    intro e
    have := Nat.eq_of_beq_eq_true e
    omega
  refine (q_withL l k).trans ?_
  have hg := getD_enc cItem l k.toNat item0 (by omega)
  simp only [dec_encs, List.length_map, hn, h3, hg, fold_item, cItem.de, fold_itemE, ← List.map_set]
  simp (disch := omega) only [evs]
  rfl
noncomputable def eWithB : Env := env Tryz.prog [(113, dCloneIO), (102, dMarkI N.backI)] [] []
theorem q_withB (l : List HItem) (k : Int) : evFn eWithB 65 ((aCons (vAgg cLine) (aCons (vInt .i64) (aOne (vFn0 102)))).enc (l, k, ())) ([]) some =
 cond (bif Nat.beq (List.length (List.map (RCod.dec cItem) (List.map (RCod.enc cItem) l))) (0 : Nat) then false else Nat.ble (List.length (List.map (RCod.dec cItem) (List.map (RCod.enc cItem) l))) (1000 : Nat)) (cond (decide ((0 : Int) ≤ k ∧ k < (↑(List.length (List.map (RCod.enc cItem) (List.map (RCod.dec cItem) (List.map (RCod.enc cItem) l)))) : Int))) (some { v := V.agg [V.slc [Sh.int IntKind.u64, Sh.str, Sh.str, Sh.slc [Sh.str, Sh.int IntKind.u8, Sh.int IntKind.i64, Sh.str], Sh.str, Sh.int IntKind.u64, Sh.int IntKind.u8, Sh.bool, Sh.bool] (List.set (List.map (RCod.enc cItem) (List.map (RCod.dec cItem) (List.map (RCod.enc cItem) l))) (Int.toNat k) [V.int IntKind.u64 (HMail.id (HItem.mail (N.backI { mail := { id := V.toInt (List.getD (List.getD (List.map (RCod.enc cItem) (List.map (RCod.dec cItem) (List.map (RCod.enc cItem) l))) (Int.toNat k) []) (0 : Nat) V.undef), shop := V.toStr (List.getD (List.getD (List.map (RCod.enc cItem) (List.map (RCod.dec cItem) (List.map (RCod.enc cItem) l))) (Int.toNat k) []) (1 : Nat) V.undef), key := V.toStr (List.getD (List.getD (List.map (RCod.enc cItem) (List.map (RCod.dec cItem) (List.map (RCod.enc cItem) l))) (Int.toNat k) []) (2 : Nat) V.undef), head := List.map (fun r => { key := V.toStr (List.getD r (0 : Nat) V.undef), kind := V.toInt (List.getD r (1 : Nat) V.undef), num := V.toInt (List.getD r (2 : Nat) V.undef), text := V.toStr (List.getD r (3 : Nat) V.undef) : HPair }) (V.toRows (List.getD (List.getD (List.map (RCod.enc cItem) (List.map (RCod.dec cItem) (List.map (RCod.enc cItem) l))) (Int.toNat k) []) (3 : Nat) V.undef)), body := V.toStr (List.getD (List.getD (List.map (RCod.enc cItem) (List.map (RCod.dec cItem) (List.map (RCod.enc cItem) l))) (Int.toNat k) []) (4 : Nat) V.undef), due := V.toInt (List.getD (List.getD (List.map (RCod.enc cItem) (List.map (RCod.dec cItem) (List.map (RCod.enc cItem) l))) (Int.toNat k) []) (5 : Nat) V.undef), hops := V.toInt (List.getD (List.getD (List.map (RCod.enc cItem) (List.map (RCod.dec cItem) (List.map (RCod.enc cItem) l))) (Int.toNat k) []) (6 : Nat) V.undef) : HMail }, lent := V.toBool (List.getD (List.getD (List.map (RCod.enc cItem) (List.map (RCod.dec cItem) (List.map (RCod.enc cItem) l))) (Int.toNat k) []) (7 : Nat) V.undef), again := V.toBool (List.getD (List.getD (List.map (RCod.enc cItem) (List.map (RCod.dec cItem) (List.map (RCod.enc cItem) l))) (Int.toNat k) []) (8 : Nat) V.undef) : HItem }))), V.str (HMail.shop (HItem.mail (N.backI { mail := { id := V.toInt (List.getD (List.getD (List.map (RCod.enc cItem) (List.map (RCod.dec cItem) (List.map (RCod.enc cItem) l))) (Int.toNat k) []) (0 : Nat) V.undef), shop := V.toStr (List.getD (List.getD (List.map (RCod.enc cItem) (List.map (RCod.dec cItem) (List.map (RCod.enc cItem) l))) (Int.toNat k) []) (1 : Nat) V.undef), key := V.toStr (List.getD (List.getD (List.map (RCod.enc cItem) (List.map (RCod.dec cItem) (List.map (RCod.enc cItem) l))) (Int.toNat k) []) (2 : Nat) V.undef), head := List.map (fun r => { key := V.toStr (List.getD r (0 : Nat) V.undef), kind := V.toInt (List.getD r (1 : Nat) V.undef), num := V.toInt (List.getD r (2 : Nat) V.undef), text := V.toStr (List.getD r (3 : Nat) V.undef) : HPair }) (V.toRows (List.getD (List.getD (List.map (RCod.enc cItem) (List.map (RCod.dec cItem) (List.map (RCod.enc cItem) l))) (Int.toNat k) []) (3 : Nat) V.undef)), body := V.toStr (List.getD (List.getD (List.map (RCod.enc cItem) (List.map (RCod.dec cItem) (List.map (RCod.enc cItem) l))) (Int.toNat k) []) (4 : Nat) V.undef), due := V.toInt (List.getD (List.getD (List.map (RCod.enc cItem) (List.map (RCod.dec cItem) (List.map (RCod.enc cItem) l))) (Int.toNat k) []) (5 : Nat) V.undef), hops := V.toInt (List.getD (List.getD (List.map (RCod.enc cItem) (List.map (RCod.dec cItem) (List.map (RCod.enc cItem) l))) (Int.toNat k) []) (6 : Nat) V.undef) : HMail }, lent := V.toBool (List.getD (List.getD (List.map (RCod.enc cItem) (List.map (RCod.dec cItem) (List.map (RCod.enc cItem) l))) (Int.toNat k) []) (7 : Nat) V.undef), again := V.toBool (List.getD (List.getD (List.map (RCod.enc cItem) (List.map (RCod.dec cItem) (List.map (RCod.enc cItem) l))) (Int.toNat k) []) (8 : Nat) V.undef) : HItem }))), V.str (HMail.key (HItem.mail (N.backI { mail := { id := V.toInt (List.getD (List.getD (List.map (RCod.enc cItem) (List.map (RCod.dec cItem) (List.map (RCod.enc cItem) l))) (Int.toNat k) []) (0 : Nat) V.undef), shop := V.toStr (List.getD (List.getD (List.map (RCod.enc cItem) (List.map (RCod.dec cItem) (List.map (RCod.enc cItem) l))) (Int.toNat k) []) (1 : Nat) V.undef), key := V.toStr (List.getD (List.getD (List.map (RCod.enc cItem) (List.map (RCod.dec cItem) (List.map (RCod.enc cItem) l))) (Int.toNat k) []) (2 : Nat) V.undef), head := List.map (fun r => { key := V.toStr (List.getD r (0 : Nat) V.undef), kind := V.toInt (List.getD r (1 : Nat) V.undef), num := V.toInt (List.getD r (2 : Nat) V.undef), text := V.toStr (List.getD r (3 : Nat) V.undef) : HPair }) (V.toRows (List.getD (List.getD (List.map (RCod.enc cItem) (List.map (RCod.dec cItem) (List.map (RCod.enc cItem) l))) (Int.toNat k) []) (3 : Nat) V.undef)), body := V.toStr (List.getD (List.getD (List.map (RCod.enc cItem) (List.map (RCod.dec cItem) (List.map (RCod.enc cItem) l))) (Int.toNat k) []) (4 : Nat) V.undef), due := V.toInt (List.getD (List.getD (List.map (RCod.enc cItem) (List.map (RCod.dec cItem) (List.map (RCod.enc cItem) l))) (Int.toNat k) []) (5 : Nat) V.undef), hops := V.toInt (List.getD (List.getD (List.map (RCod.enc cItem) (List.map (RCod.dec cItem) (List.map (RCod.enc cItem) l))) (Int.toNat k) []) (6 : Nat) V.undef) : HMail }, lent := V.toBool (List.getD (List.getD (List.map (RCod.enc cItem) (List.map (RCod.dec cItem) (List.map (RCod.enc cItem) l))) (Int.toNat k) []) (7 : Nat) V.undef), again := V.toBool (List.getD (List.getD (List.map (RCod.enc cItem) (List.map (RCod.dec cItem) (List.map (RCod.enc cItem) l))) (Int.toNat k) []) (8 : Nat) V.undef) : HItem }))), V.slc [Sh.str, Sh.int IntKind.u8, Sh.int IntKind.i64, Sh.str] (List.map (fun p => [V.str (HPair.key p), V.int IntKind.u8 (HPair.kind p), V.int IntKind.i64 (HPair.num p), V.str (HPair.text p)]) (HMail.head (HItem.mail (N.backI { mail := { id := V.toInt (List.getD (List.getD (List.map (RCod.enc cItem) (List.map (RCod.dec cItem) (List.map (RCod.enc cItem) l))) (Int.toNat k) []) (0 : Nat) V.undef), shop := V.toStr (List.getD (List.getD (List.map (RCod.enc cItem) (List.map (RCod.dec cItem) (List.map (RCod.enc cItem) l))) (Int.toNat k) []) (1 : Nat) V.undef), key := V.toStr (List.getD (List.getD (List.map (RCod.enc cItem) (List.map (RCod.dec cItem) (List.map (RCod.enc cItem) l))) (Int.toNat k) []) (2 : Nat) V.undef), head := List.map (fun r => { key := V.toStr (List.getD r (0 : Nat) V.undef), kind := V.toInt (List.getD r (1 : Nat) V.undef), num := V.toInt (List.getD r (2 : Nat) V.undef), text := V.toStr (List.getD r (3 : Nat) V.undef) : HPair }) (V.toRows (List.getD (List.getD (List.map (RCod.enc cItem) (List.map (RCod.dec cItem) (List.map (RCod.enc cItem) l))) (Int.toNat k) []) (3 : Nat) V.undef)), body := V.toStr (List.getD (List.getD (List.map (RCod.enc cItem) (List.map (RCod.dec cItem) (List.map (RCod.enc cItem) l))) (Int.toNat k) []) (4 : Nat) V.undef), due := V.toInt (List.getD (List.getD (List.map (RCod.enc cItem) (List.map (RCod.dec cItem) (List.map (RCod.enc cItem) l))) (Int.toNat k) []) (5 : Nat) V.undef), hops := V.toInt (List.getD (List.getD (List.map (RCod.enc cItem) (List.map (RCod.dec cItem) (List.map (RCod.enc cItem) l))) (Int.toNat k) []) (6 : Nat) V.undef) : HMail }, lent := V.toBool (List.getD (List.getD (List.map (RCod.enc cItem) (List.map (RCod.dec cItem) (List.map (RCod.enc cItem) l))) (Int.toNat k) []) (7 : Nat) V.undef), again := V.toBool (List.getD (List.getD (List.map (RCod.enc cItem) (List.map (RCod.dec cItem) (List.map (RCod.enc cItem) l))) (Int.toNat k) []) (8 : Nat) V.undef) : HItem })))), V.str (HMail.body (HItem.mail (N.backI { mail := { id := V.toInt (List.getD (List.getD (List.map (RCod.enc cItem) (List.map (RCod.dec cItem) (List.map (RCod.enc cItem) l))) (Int.toNat k) []) (0 : Nat) V.undef), shop := V.toStr (List.getD (List.getD (List.map (RCod.enc cItem) (List.map (RCod.dec cItem) (List.map (RCod.enc cItem) l))) (Int.toNat k) []) (1 : Nat) V.undef), key := V.toStr (List.getD (List.getD (List.map (RCod.enc cItem) (List.map (RCod.dec cItem) (List.map (RCod.enc cItem) l))) (Int.toNat k) []) (2 : Nat) V.undef), head := List.map (fun r => { key := V.toStr (List.getD r (0 : Nat) V.undef), kind := V.toInt (List.getD r (1 : Nat) V.undef), num := V.toInt (List.getD r (2 : Nat) V.undef), text := V.toStr (List.getD r (3 : Nat) V.undef) : HPair }) (V.toRows (List.getD (List.getD (List.map (RCod.enc cItem) (List.map (RCod.dec cItem) (List.map (RCod.enc cItem) l))) (Int.toNat k) []) (3 : Nat) V.undef)), body := V.toStr (List.getD (List.getD (List.map (RCod.enc cItem) (List.map (RCod.dec cItem) (List.map (RCod.enc cItem) l))) (Int.toNat k) []) (4 : Nat) V.undef), due := V.toInt (List.getD (List.getD (List.map (RCod.enc cItem) (List.map (RCod.dec cItem) (List.map (RCod.enc cItem) l))) (Int.toNat k) []) (5 : Nat) V.undef), hops := V.toInt (List.getD (List.getD (List.map (RCod.enc cItem) (List.map (RCod.dec cItem) (List.map (RCod.enc cItem) l))) (Int.toNat k) []) (6 : Nat) V.undef) : HMail }, lent := V.toBool (List.getD (List.getD (List.map (RCod.enc cItem) (List.map (RCod.dec cItem) (List.map (RCod.enc cItem) l))) (Int.toNat k) []) (7 : Nat) V.undef), again := V.toBool (List.getD (List.getD (List.map (RCod.enc cItem) (List.map (RCod.dec cItem) (List.map (RCod.enc cItem) l))) (Int.toNat k) []) (8 : Nat) V.undef) : HItem }))), V.int IntKind.u64 (HMail.due (HItem.mail (N.backI { mail := { id := V.toInt (List.getD (List.getD (List.map (RCod.enc cItem) (List.map (RCod.dec cItem) (List.map (RCod.enc cItem) l))) (Int.toNat k) []) (0 : Nat) V.undef), shop := V.toStr (List.getD (List.getD (List.map (RCod.enc cItem) (List.map (RCod.dec cItem) (List.map (RCod.enc cItem) l))) (Int.toNat k) []) (1 : Nat) V.undef), key := V.toStr (List.getD (List.getD (List.map (RCod.enc cItem) (List.map (RCod.dec cItem) (List.map (RCod.enc cItem) l))) (Int.toNat k) []) (2 : Nat) V.undef), head := List.map (fun r => { key := V.toStr (List.getD r (0 : Nat) V.undef), kind := V.toInt (List.getD r (1 : Nat) V.undef), num := V.toInt (List.getD r (2 : Nat) V.undef), text := V.toStr (List.getD r (3 : Nat) V.undef) : HPair }) (V.toRows (List.getD (List.getD (List.map (RCod.enc cItem) (List.map (RCod.dec cItem) (List.map (RCod.enc cItem) l))) (Int.toNat k) []) (3 : Nat) V.undef)), body := V.toStr (List.getD (List.getD (List.map (RCod.enc cItem) (List.map (RCod.dec cItem) (List.map (RCod.enc cItem) l))) (Int.toNat k) []) (4 : Nat) V.undef), due := V.toInt (List.getD (List.getD (List.map (RCod.enc cItem) (List.map (RCod.dec cItem) (List.map (RCod.enc cItem) l))) (Int.toNat k) []) (5 : Nat) V.undef), hops := V.toInt (List.getD (List.getD (List.map (RCod.enc cItem) (List.map (RCod.dec cItem) (List.map (RCod.enc cItem) l))) (Int.toNat k) []) (6 : Nat) V.undef) : HMail }, lent := V.toBool (List.getD (List.getD (List.map (RCod.enc cItem) (List.map (RCod.dec cItem) (List.map (RCod.enc cItem) l))) (Int.toNat k) []) (7 : Nat) V.undef), again := V.toBool (List.getD (List.getD (List.map (RCod.enc cItem) (List.map (RCod.dec cItem) (List.map (RCod.enc cItem) l))) (Int.toNat k) []) (8 : Nat) V.undef) : HItem }))), V.int IntKind.u8 (HMail.hops (HItem.mail (N.backI { mail := { id := V.toInt (List.getD (List.getD (List.map (RCod.enc cItem) (List.map (RCod.dec cItem) (List.map (RCod.enc cItem) l))) (Int.toNat k) []) (0 : Nat) V.undef), shop := V.toStr (List.getD (List.getD (List.map (RCod.enc cItem) (List.map (RCod.dec cItem) (List.map (RCod.enc cItem) l))) (Int.toNat k) []) (1 : Nat) V.undef), key := V.toStr (List.getD (List.getD (List.map (RCod.enc cItem) (List.map (RCod.dec cItem) (List.map (RCod.enc cItem) l))) (Int.toNat k) []) (2 : Nat) V.undef), head := List.map (fun r => { key := V.toStr (List.getD r (0 : Nat) V.undef), kind := V.toInt (List.getD r (1 : Nat) V.undef), num := V.toInt (List.getD r (2 : Nat) V.undef), text := V.toStr (List.getD r (3 : Nat) V.undef) : HPair }) (V.toRows (List.getD (List.getD (List.map (RCod.enc cItem) (List.map (RCod.dec cItem) (List.map (RCod.enc cItem) l))) (Int.toNat k) []) (3 : Nat) V.undef)), body := V.toStr (List.getD (List.getD (List.map (RCod.enc cItem) (List.map (RCod.dec cItem) (List.map (RCod.enc cItem) l))) (Int.toNat k) []) (4 : Nat) V.undef), due := V.toInt (List.getD (List.getD (List.map (RCod.enc cItem) (List.map (RCod.dec cItem) (List.map (RCod.enc cItem) l))) (Int.toNat k) []) (5 : Nat) V.undef), hops := V.toInt (List.getD (List.getD (List.map (RCod.enc cItem) (List.map (RCod.dec cItem) (List.map (RCod.enc cItem) l))) (Int.toNat k) []) (6 : Nat) V.undef) : HMail }, lent := V.toBool (List.getD (List.getD (List.map (RCod.enc cItem) (List.map (RCod.dec cItem) (List.map (RCod.enc cItem) l))) (Int.toNat k) []) (7 : Nat) V.undef), again := V.toBool (List.getD (List.getD (List.map (RCod.enc cItem) (List.map (RCod.dec cItem) (List.map (RCod.enc cItem) l))) (Int.toNat k) []) (8 : Nat) V.undef) : HItem }))), V.bool (HItem.lent (N.backI { mail := { id := V.toInt (List.getD (List.getD (List.map (RCod.enc cItem) (List.map (RCod.dec cItem) (List.map (RCod.enc cItem) l))) (Int.toNat k) []) (0 : Nat) V.undef), shop := V.toStr (List.getD (List.getD (List.map (RCod.enc cItem) (List.map (RCod.dec cItem) (List.map (RCod.enc cItem) l))) (Int.toNat k) []) (1 : Nat) V.undef), key := V.toStr (List.getD (List.getD (List.map (RCod.enc cItem) (List.map (RCod.dec cItem) (List.map (RCod.enc cItem) l))) (Int.toNat k) []) (2 : Nat) V.undef), head := List.map (fun r => { key := V.toStr (List.getD r (0 : Nat) V.undef), kind := V.toInt (List.getD r (1 : Nat) V.undef), num := V.toInt (List.getD r (2 : Nat) V.undef), text := V.toStr (List.getD r (3 : Nat) V.undef) : HPair }) (V.toRows (List.getD (List.getD (List.map (RCod.enc cItem) (List.map (RCod.dec cItem) (List.map (RCod.enc cItem) l))) (Int.toNat k) []) (3 : Nat) V.undef)), body := V.toStr (List.getD (List.getD (List.map (RCod.enc cItem) (List.map (RCod.dec cItem) (List.map (RCod.enc cItem) l))) (Int.toNat k) []) (4 : Nat) V.undef), due := V.toInt (List.getD (List.getD (List.map (RCod.enc cItem) (List.map (RCod.dec cItem) (List.map (RCod.enc cItem) l))) (Int.toNat k) []) (5 : Nat) V.undef), hops := V.toInt (List.getD (List.getD (List.map (RCod.enc cItem) (List.map (RCod.dec cItem) (List.map (RCod.enc cItem) l))) (Int.toNat k) []) (6 : Nat) V.undef) : HMail }, lent := V.toBool (List.getD (List.getD (List.map (RCod.enc cItem) (List.map (RCod.dec cItem) (List.map (RCod.enc cItem) l))) (Int.toNat k) []) (7 : Nat) V.undef), again := V.toBool (List.getD (List.getD (List.map (RCod.enc cItem) (List.map (RCod.dec cItem) (List.map (RCod.enc cItem) l))) (Int.toNat k) []) (8 : Nat) V.undef) : HItem })), V.bool (HItem.again (N.backI { mail := { id := V.toInt (List.getD (List.getD (List.map (RCod.enc cItem) (List.map (RCod.dec cItem) (List.map (RCod.enc cItem) l))) (Int.toNat k) []) (0 : Nat) V.undef), shop := V.toStr (List.getD (List.getD (List.map (RCod.enc cItem) (List.map (RCod.dec cItem) (List.map (RCod.enc cItem) l))) (Int.toNat k) []) (1 : Nat) V.undef), key := V.toStr (List.getD (List.getD (List.map (RCod.enc cItem) (List.map (RCod.dec cItem) (List.map (RCod.enc cItem) l))) (Int.toNat k) []) (2 : Nat) V.undef), head := List.map (fun r => { key := V.toStr (List.getD r (0 : Nat) V.undef), kind := V.toInt (List.getD r (1 : Nat) V.undef), num := V.toInt (List.getD r (2 : Nat) V.undef), text := V.toStr (List.getD r (3 : Nat) V.undef) : HPair }) (V.toRows (List.getD (List.getD (List.map (RCod.enc cItem) (List.map (RCod.dec cItem) (List.map (RCod.enc cItem) l))) (Int.toNat k) []) (3 : Nat) V.undef)), body := V.toStr (List.getD (List.getD (List.map (RCod.enc cItem) (List.map (RCod.dec cItem) (List.map (RCod.enc cItem) l))) (Int.toNat k) []) (4 : Nat) V.undef), due := V.toInt (List.getD (List.getD (List.map (RCod.enc cItem) (List.map (RCod.dec cItem) (List.map (RCod.enc cItem) l))) (Int.toNat k) []) (5 : Nat) V.undef), hops := V.toInt (List.getD (List.getD (List.map (RCod.enc cItem) (List.map (RCod.dec cItem) (List.map (RCod.enc cItem) l))) (Int.toNat k) []) (6 : Nat) V.undef) : HMail }, lent := V.toBool (List.getD (List.getD (List.map (RCod.enc cItem) (List.map (RCod.dec cItem) (List.map (RCod.enc cItem) l))) (Int.toNat k) []) (7 : Nat) V.undef), again := V.toBool (List.getD (List.getD (List.map (RCod.enc cItem) (List.map (RCod.dec cItem) (List.map (RCod.enc cItem) l))) (Int.toNat k) []) (8 : Nat) V.undef) : HItem }))])], bx := [] : DRes }) (none)) (none) := by kernel_rfl
theorem ok_withB : FnOk Tryz.prog 65 (dWith 102 N.backI) := by
  refine den_okF (env_ok (((TOk.nil _).cons ok_markB).cons ok_cloneIO)) (E := eWithB) Tryz.func65 [] (by kernel_rfl) none0 fun a _ h => ?_
  obtain ⟨l, k, ⟨⟩⟩ := a
  obtain ⟨h1, h2⟩ := bcond h
  obtain ⟨h2, h3⟩ := bcond h2
  have h1 : 0 ≤ k := ile_of h1
  have h2 : k < l.length := ilt_of h2
  have h3 : Nat.ble l.length 1000 = true := h3
  have hn : Nat.beq l.length 0 = false := by
    rw [Bool.eq_false_iff]
    intro e
    have := Nat.eq_of_beq_eq_true e
    omega
  refine (q_withB l k).trans ?_
  have hg := getD_enc cItem l k.toNat item0 (by omega)
  simp only [dec_encs, List.length_map, hn, h3, hg, fold_item, cItem.de, fold_itemE, ← List.map_set]
  simp (disch := omega) only [evs]
  rfl
noncomputable def eWithW : Env := env Tryz.prog [(113, dCloneIO), (66, dMarkI N.backI)] [] []
theorem q_withW (l : List HItem) (k : Int) : evFn eWithW 65 ((aCons (vAgg cLine) (aCons (vInt .i64) (aOne (vFn0 66)))).enc (l, k, ())) ([]) some =
 cond (bif Nat.beq (List.length (List.map (RCod.dec cItem) (List.map (RCod.enc cItem) l))) (0 : Nat) then false else Nat.ble (List.length (List.map (RCod.dec cItem) (List.map (RCod.enc cItem) l))) (1000 : Nat)) (cond (decide ((0 : Int) ≤ k ∧ k < (↑(List.length (List.map (RCod.enc cItem) (List.map (RCod.dec cItem) (List.map (RCod.enc cItem) l)))) : Int))) (some { v := V.agg [V.slc [Sh.int IntKind.u64, Sh.str, Sh.str, Sh.slc [Sh.str, Sh.int IntKind.u8, Sh.int IntKind.i64, Sh.str], Sh.str, Sh.int IntKind.u64, Sh.int IntKind.u8, Sh.bool, Sh.bool] (List.set (List.map (RCod.enc cItem) (List.map (RCod.dec cItem) (List.map (RCod.enc cItem) l))) (Int.toNat k) [V.int IntKind.u64 (HMail.id (HItem.mail (N.backI { mail := { id := V.toInt (List.getD (List.getD (List.map (RCod.enc cItem) (List.map (RCod.dec cItem) (List.map (RCod.enc cItem) l))) (Int.toNat k) []) (0 : Nat) V.undef), shop := V.toStr (List.getD (List.getD (List.map (RCod.enc cItem) (List.map (RCod.dec cItem) (List.map (RCod.enc cItem) l))) (Int.toNat k) []) (1 : Nat) V.undef), key := V.toStr (List.getD (List.getD (List.map (RCod.enc cItem) (List.map (RCod.dec cItem) (List.map (RCod.enc cItem) l))) (Int.toNat k) []) (2 : Nat) V.undef), head := List.map (fun r => { key := V.toStr (List.getD r (0 : Nat) V.undef), kind := V.toInt (List.getD r (1 : Nat) V.undef), num := V.toInt (List.getD r (2 : Nat) V.undef), text := V.toStr (List.getD r (3 : Nat) V.undef) : HPair }) (V.toRows (List.getD (List.getD (List.map (RCod.enc cItem) (List.map (RCod.dec cItem) (List.map (RCod.enc cItem) l))) (Int.toNat k) []) (3 : Nat) V.undef)), body := V.toStr (List.getD (List.getD (List.map (RCod.enc cItem) (List.map (RCod.dec cItem) (List.map (RCod.enc cItem) l))) (Int.toNat k) []) (4 : Nat) V.undef), due := V.toInt (List.getD (List.getD (List.map (RCod.enc cItem) (List.map (RCod.dec cItem) (List.map (RCod.enc cItem) l))) (Int.toNat k) []) (5 : Nat) V.undef), hops := V.toInt (List.getD (List.getD (List.map (RCod.enc cItem) (List.map (RCod.dec cItem) (List.map (RCod.enc cItem) l))) (Int.toNat k) []) (6 : Nat) V.undef) : HMail }, lent := V.toBool (List.getD (List.getD (List.map (RCod.enc cItem) (List.map (RCod.dec cItem) (List.map (RCod.enc cItem) l))) (Int.toNat k) []) (7 : Nat) V.undef), again := V.toBool (List.getD (List.getD (List.map (RCod.enc cItem) (List.map (RCod.dec cItem) (List.map (RCod.enc cItem) l))) (Int.toNat k) []) (8 : Nat) V.undef) : HItem }))), V.str (HMail.shop (HItem.mail (N.backI { mail := { id := V.toInt (List.getD (List.getD (List.map (RCod.enc cItem) (List.map (RCod.dec cItem) (List.map (RCod.enc cItem) l))) (Int.toNat k) []) (0 : Nat) V.undef), shop := V.toStr (List.getD (List.getD (List.map (RCod.enc cItem) (List.map (RCod.dec cItem) (List.map (RCod.enc cItem) l))) (Int.toNat k) []) (1 : Nat) V.undef), key := V.toStr (List.getD (List.getD (List.map (RCod.enc cItem) (List.map (RCod.dec cItem) (List.map (RCod.enc cItem) l))) (Int.toNat k) []) (2 : Nat) V.undef), head := List.map (fun r => { key := V.toStr (List.getD r (0 : Nat) V.undef), kind := V.toInt (List.getD r (1 : Nat) V.undef), num := V.toInt (List.getD r (2 : Nat) V.undef), text := V.toStr (List.getD r (3 : Nat) V.undef) : HPair }) (V.toRows (List.getD (List.getD (List.map (RCod.enc cItem) (List.map (RCod.dec cItem) (List.map (RCod.enc cItem) l))) (Int.toNat k) []) (3 : Nat) V.undef)), body := V.toStr (List.getD (List.getD (List.map (RCod.enc cItem) (List.map (RCod.dec cItem) (List.map (RCod.enc cItem) l))) (Int.toNat k) []) (4 : Nat) V.undef), due := V.toInt (List.getD (List.getD (List.map (RCod.enc cItem) (List.map (RCod.dec cItem) (List.map (RCod.enc cItem) l))) (Int.toNat k) []) (5 : Nat) V.undef), hops := V.toInt (List.getD (List.getD (List.map (RCod.enc cItem) (List.map (RCod.dec cItem) (List.map (RCod.enc cItem) l))) (Int.toNat k) []) (6 : Nat) V.undef) : HMail }, lent := V.toBool (List.getD (List.getD (List.map (RCod.enc cItem) (List.map (RCod.dec cItem) (List.map (RCod.enc cItem) l))) (Int.toNat k) []) (7 : Nat) V.undef), again := V.toBool (List.getD (List.getD (List.map (RCod.enc cItem) (List.map (RCod.dec cItem) (List.map (RCod.enc cItem) l))) (Int.toNat k) []) (8 : Nat) V.undef) : HItem }))), V.str (HMail.key (HItem.mail (N.backI { mail := { id := V.toInt (List.getD (List.getD (List.map (RCod.enc cItem) (List.map (RCod.dec cItem) (List.map (RCod.enc cItem) l))) (Int.toNat k) []) (0 : Nat) V.undef), shop := V.toStr (List.getD (List.getD (List.map (RCod.enc cItem) (List.map (RCod.dec cItem) (List.map (RCod.enc cItem) l))) (Int.toNat k) []) (1 : Nat) V.undef), key := V.toStr (List.getD (List.getD (List.map (RCod.enc cItem) (List.map (RCod.dec cItem) (List.map (RCod.enc cItem) l))) (Int.toNat k) []) (2 : Nat) V.undef), head := List.map (fun r => { key := V.toStr (List.getD r (0 : Nat) V.undef), kind := V.toInt (List.getD r (1 : Nat) V.undef), num := V.toInt (List.getD r (2 : Nat) V.undef), text := V.toStr (List.getD r (3 : Nat) V.undef) : HPair }) (V.toRows (List.getD (List.getD (List.map (RCod.enc cItem) (List.map (RCod.dec cItem) (List.map (RCod.enc cItem) l))) (Int.toNat k) []) (3 : Nat) V.undef)), body := V.toStr (List.getD (List.getD (List.map (RCod.enc cItem) (List.map (RCod.dec cItem) (List.map (RCod.enc cItem) l))) (Int.toNat k) []) (4 : Nat) V.undef), due := V.toInt (List.getD (List.getD (List.map (RCod.enc cItem) (List.map (RCod.dec cItem) (List.map (RCod.enc cItem) l))) (Int.toNat k) []) (5 : Nat) V.undef), hops := V.toInt (List.getD (List.getD (List.map (RCod.enc cItem) (List.map (RCod.dec cItem) (List.map (RCod.enc cItem) l))) (Int.toNat k) []) (6 : Nat) V.undef) : HMail }, lent := V.toBool (List.getD (List.getD (List.map (RCod.enc cItem) (List.map (RCod.dec cItem) (List.map (RCod.enc cItem) l))) (Int.toNat k) []) (7 : Nat) V.undef), again := V.toBool (List.getD (List.getD (List.map (RCod.enc cItem) (List.map (RCod.dec cItem) (List.map (RCod.enc cItem) l))) (Int.toNat k) []) (8 : Nat) V.undef) : HItem }))), V.slc [Sh.str, Sh.int IntKind.u8, Sh.int IntKind.i64, Sh.str] (List.map (fun p => [V.str (HPair.key p), V.int IntKind.u8 (HPair.kind p), V.int IntKind.i64 (HPair.num p), V.str (HPair.text p)]) (HMail.head (HItem.mail (N.backI { mail := { id := V.toInt (List.getD (List.getD (List.map (RCod.enc cItem) (List.map (RCod.dec cItem) (List.map (RCod.enc cItem) l))) (Int.toNat k) []) (0 : Nat) V.undef), shop := V.toStr (List.getD (List.getD (List.map (RCod.enc cItem) (List.map (RCod.dec cItem) (List.map (RCod.enc cItem) l))) (Int.toNat k) []) (1 : Nat) V.undef), key := V.toStr (List.getD (List.getD (List.map (RCod.enc cItem) (List.map (RCod.dec cItem) (List.map (RCod.enc cItem) l))) (Int.toNat k) []) (2 : Nat) V.undef), head := List.map (fun r => { key := V.toStr (List.getD r (0 : Nat) V.undef), kind := V.toInt (List.getD r (1 : Nat) V.undef), num := V.toInt (List.getD r (2 : Nat) V.undef), text := V.toStr (List.getD r (3 : Nat) V.undef) : HPair }) (V.toRows (List.getD (List.getD (List.map (RCod.enc cItem) (List.map (RCod.dec cItem) (List.map (RCod.enc cItem) l))) (Int.toNat k) []) (3 : Nat) V.undef)), body := V.toStr (List.getD (List.getD (List.map (RCod.enc cItem) (List.map (RCod.dec cItem) (List.map (RCod.enc cItem) l))) (Int.toNat k) []) (4 : Nat) V.undef), due := V.toInt (List.getD (List.getD (List.map (RCod.enc cItem) (List.map (RCod.dec cItem) (List.map (RCod.enc cItem) l))) (Int.toNat k) []) (5 : Nat) V.undef), hops := V.toInt (List.getD (List.getD (List.map (RCod.enc cItem) (List.map (RCod.dec cItem) (List.map (RCod.enc cItem) l))) (Int.toNat k) []) (6 : Nat) V.undef) : HMail }, lent := V.toBool (List.getD (List.getD (List.map (RCod.enc cItem) (List.map (RCod.dec cItem) (List.map (RCod.enc cItem) l))) (Int.toNat k) []) (7 : Nat) V.undef), again := V.toBool (List.getD (List.getD (List.map (RCod.enc cItem) (List.map (RCod.dec cItem) (List.map (RCod.enc cItem) l))) (Int.toNat k) []) (8 : Nat) V.undef) : HItem })))), V.str (HMail.body (HItem.mail (N.backI { mail := { id := V.toInt (List.getD (List.getD (List.map (RCod.enc cItem) (List.map (RCod.dec cItem) (List.map (RCod.enc cItem) l))) (Int.toNat k) []) (0 : Nat) V.undef), shop := V.toStr (List.getD (List.getD (List.map (RCod.enc cItem) (List.map (RCod.dec cItem) (List.map (RCod.enc cItem) l))) (Int.toNat k) []) (1 : Nat) V.undef), key := V.toStr (List.getD (List.getD (List.map (RCod.enc cItem) (List.map (RCod.dec cItem) (List.map (RCod.enc cItem) l))) (Int.toNat k) []) (2 : Nat) V.undef), head := List.map (fun r => { key := V.toStr (List.getD r (0 : Nat) V.undef), kind := V.toInt (List.getD r (1 : Nat) V.undef), num := V.toInt (List.getD r (2 : Nat) V.undef), text := V.toStr (List.getD r (3 : Nat) V.undef) : HPair }) (V.toRows (List.getD (List.getD (List.map (RCod.enc cItem) (List.map (RCod.dec cItem) (List.map (RCod.enc cItem) l))) (Int.toNat k) []) (3 : Nat) V.undef)), body := V.toStr (List.getD (List.getD (List.map (RCod.enc cItem) (List.map (RCod.dec cItem) (List.map (RCod.enc cItem) l))) (Int.toNat k) []) (4 : Nat) V.undef), due := V.toInt (List.getD (List.getD (List.map (RCod.enc cItem) (List.map (RCod.dec cItem) (List.map (RCod.enc cItem) l))) (Int.toNat k) []) (5 : Nat) V.undef), hops := V.toInt (List.getD (List.getD (List.map (RCod.enc cItem) (List.map (RCod.dec cItem) (List.map (RCod.enc cItem) l))) (Int.toNat k) []) (6 : Nat) V.undef) : HMail }, lent := V.toBool (List.getD (List.getD (List.map (RCod.enc cItem) (List.map (RCod.dec cItem) (List.map (RCod.enc cItem) l))) (Int.toNat k) []) (7 : Nat) V.undef), again := V.toBool (List.getD (List.getD (List.map (RCod.enc cItem) (List.map (RCod.dec cItem) (List.map (RCod.enc cItem) l))) (Int.toNat k) []) (8 : Nat) V.undef) : HItem }))), V.int IntKind.u64 (HMail.due (HItem.mail (N.backI { mail := { id := V.toInt (List.getD (List.getD (List.map (RCod.enc cItem) (List.map (RCod.dec cItem) (List.map (RCod.enc cItem) l))) (Int.toNat k) []) (0 : Nat) V.undef), shop := V.toStr (List.getD (List.getD (List.map (RCod.enc cItem) (List.map (RCod.dec cItem) (List.map (RCod.enc cItem) l))) (Int.toNat k) []) (1 : Nat) V.undef), key := V.toStr (List.getD (List.getD (List.map (RCod.enc cItem) (List.map (RCod.dec cItem) (List.map (RCod.enc cItem) l))) (Int.toNat k) []) (2 : Nat) V.undef), head := List.map (fun r => { key := V.toStr (List.getD r (0 : Nat) V.undef), kind := V.toInt (List.getD r (1 : Nat) V.undef), num := V.toInt (List.getD r (2 : Nat) V.undef), text := V.toStr (List.getD r (3 : Nat) V.undef) : HPair }) (V.toRows (List.getD (List.getD (List.map (RCod.enc cItem) (List.map (RCod.dec cItem) (List.map (RCod.enc cItem) l))) (Int.toNat k) []) (3 : Nat) V.undef)), body := V.toStr (List.getD (List.getD (List.map (RCod.enc cItem) (List.map (RCod.dec cItem) (List.map (RCod.enc cItem) l))) (Int.toNat k) []) (4 : Nat) V.undef), due := V.toInt (List.getD (List.getD (List.map (RCod.enc cItem) (List.map (RCod.dec cItem) (List.map (RCod.enc cItem) l))) (Int.toNat k) []) (5 : Nat) V.undef), hops := V.toInt (List.getD (List.getD (List.map (RCod.enc cItem) (List.map (RCod.dec cItem) (List.map (RCod.enc cItem) l))) (Int.toNat k) []) (6 : Nat) V.undef) : HMail }, lent := V.toBool (List.getD (List.getD (List.map (RCod.enc cItem) (List.map (RCod.dec cItem) (List.map (RCod.enc cItem) l))) (Int.toNat k) []) (7 : Nat) V.undef), again := V.toBool (List.getD (List.getD (List.map (RCod.enc cItem) (List.map (RCod.dec cItem) (List.map (RCod.enc cItem) l))) (Int.toNat k) []) (8 : Nat) V.undef) : HItem }))), V.int IntKind.u8 (HMail.hops (HItem.mail (N.backI { mail := { id := V.toInt (List.getD (List.getD (List.map (RCod.enc cItem) (List.map (RCod.dec cItem) (List.map (RCod.enc cItem) l))) (Int.toNat k) []) (0 : Nat) V.undef), shop := V.toStr (List.getD (List.getD (List.map (RCod.enc cItem) (List.map (RCod.dec cItem) (List.map (RCod.enc cItem) l))) (Int.toNat k) []) (1 : Nat) V.undef), key := V.toStr (List.getD (List.getD (List.map (RCod.enc cItem) (List.map (RCod.dec cItem) (List.map (RCod.enc cItem) l))) (Int.toNat k) []) (2 : Nat) V.undef), head := List.map (fun r => { key := V.toStr (List.getD r (0 : Nat) V.undef), kind := V.toInt (List.getD r (1 : Nat) V.undef), num := V.toInt (List.getD r (2 : Nat) V.undef), text := V.toStr (List.getD r (3 : Nat) V.undef) : HPair }) (V.toRows (List.getD (List.getD (List.map (RCod.enc cItem) (List.map (RCod.dec cItem) (List.map (RCod.enc cItem) l))) (Int.toNat k) []) (3 : Nat) V.undef)), body := V.toStr (List.getD (List.getD (List.map (RCod.enc cItem) (List.map (RCod.dec cItem) (List.map (RCod.enc cItem) l))) (Int.toNat k) []) (4 : Nat) V.undef), due := V.toInt (List.getD (List.getD (List.map (RCod.enc cItem) (List.map (RCod.dec cItem) (List.map (RCod.enc cItem) l))) (Int.toNat k) []) (5 : Nat) V.undef), hops := V.toInt (List.getD (List.getD (List.map (RCod.enc cItem) (List.map (RCod.dec cItem) (List.map (RCod.enc cItem) l))) (Int.toNat k) []) (6 : Nat) V.undef) : HMail }, lent := V.toBool (List.getD (List.getD (List.map (RCod.enc cItem) (List.map (RCod.dec cItem) (List.map (RCod.enc cItem) l))) (Int.toNat k) []) (7 : Nat) V.undef), again := V.toBool (List.getD (List.getD (List.map (RCod.enc cItem) (List.map (RCod.dec cItem) (List.map (RCod.enc cItem) l))) (Int.toNat k) []) (8 : Nat) V.undef) : HItem }))), V.bool (HItem.lent (N.backI { mail := { id := V.toInt (List.getD (List.getD (List.map (RCod.enc cItem) (List.map (RCod.dec cItem) (List.map (RCod.enc cItem) l))) (Int.toNat k) []) (0 : Nat) V.undef), shop := V.toStr (List.getD (List.getD (List.map (RCod.enc cItem) (List.map (RCod.dec cItem) (List.map (RCod.enc cItem) l))) (Int.toNat k) []) (1 : Nat) V.undef), key := V.toStr (List.getD (List.getD (List.map (RCod.enc cItem) (List.map (RCod.dec cItem) (List.map (RCod.enc cItem) l))) (Int.toNat k) []) (2 : Nat) V.undef), head := List.map (fun r => { key := V.toStr (List.getD r (0 : Nat) V.undef), kind := V.toInt (List.getD r (1 : Nat) V.undef), num := V.toInt (List.getD r (2 : Nat) V.undef), text := V.toStr (List.getD r (3 : Nat) V.undef) : HPair }) (V.toRows (List.getD (List.getD (List.map (RCod.enc cItem) (List.map (RCod.dec cItem) (List.map (RCod.enc cItem) l))) (Int.toNat k) []) (3 : Nat) V.undef)), body := V.toStr (List.getD (List.getD (List.map (RCod.enc cItem) (List.map (RCod.dec cItem) (List.map (RCod.enc cItem) l))) (Int.toNat k) []) (4 : Nat) V.undef), due := V.toInt (List.getD (List.getD (List.map (RCod.enc cItem) (List.map (RCod.dec cItem) (List.map (RCod.enc cItem) l))) (Int.toNat k) []) (5 : Nat) V.undef), hops := V.toInt (List.getD (List.getD (List.map (RCod.enc cItem) (List.map (RCod.dec cItem) (List.map (RCod.enc cItem) l))) (Int.toNat k) []) (6 : Nat) V.undef) : HMail }, lent := V.toBool (List.getD (List.getD (List.map (RCod.enc cItem) (List.map (RCod.dec cItem) (List.map (RCod.enc cItem) l))) (Int.toNat k) []) (7 : Nat) V.undef), again := V.toBool (List.getD (List.getD (List.map (RCod.enc cItem) (List.map (RCod.dec cItem) (List.map (RCod.enc cItem) l))) (Int.toNat k) []) (8 : Nat) V.undef) : HItem })), V.bool (HItem.again (N.backI { mail := { id := V.toInt (List.getD (List.getD (List.map (RCod.enc cItem) (List.map (RCod.dec cItem) (List.map (RCod.enc cItem) l))) (Int.toNat k) []) (0 : Nat) V.undef), shop := V.toStr (List.getD (List.getD (List.map (RCod.enc cItem) (List.map (RCod.dec cItem) (List.map (RCod.enc cItem) l))) (Int.toNat k) []) (1 : Nat) V.undef), key := V.toStr (List.getD (List.getD (List.map (RCod.enc cItem) (List.map (RCod.dec cItem) (List.map (RCod.enc cItem) l))) (Int.toNat k) []) (2 : Nat) V.undef), head := List.map (fun r => { key := V.toStr (List.getD r (0 : Nat) V.undef), kind := V.toInt (List.getD r (1 : Nat) V.undef), num := V.toInt (List.getD r (2 : Nat) V.undef), text := V.toStr (List.getD r (3 : Nat) V.undef) : HPair }) (V.toRows (List.getD (List.getD (List.map (RCod.enc cItem) (List.map (RCod.dec cItem) (List.map (RCod.enc cItem) l))) (Int.toNat k) []) (3 : Nat) V.undef)), body := V.toStr (List.getD (List.getD (List.map (RCod.enc cItem) (List.map (RCod.dec cItem) (List.map (RCod.enc cItem) l))) (Int.toNat k) []) (4 : Nat) V.undef), due := V.toInt (List.getD (List.getD (List.map (RCod.enc cItem) (List.map (RCod.dec cItem) (List.map (RCod.enc cItem) l))) (Int.toNat k) []) (5 : Nat) V.undef), hops := V.toInt (List.getD (List.getD (List.map (RCod.enc cItem) (List.map (RCod.dec cItem) (List.map (RCod.enc cItem) l))) (Int.toNat k) []) (6 : Nat) V.undef) : HMail }, lent := V.toBool (List.getD (List.getD (List.map (RCod.enc cItem) (List.map (RCod.dec cItem) (List.map (RCod.enc cItem) l))) (Int.toNat k) []) (7 : Nat) V.undef), again := V.toBool (List.getD (List.getD (List.map (RCod.enc cItem) (List.map (RCod.dec cItem) (List.map (RCod.enc cItem) l))) (Int.toNat k) []) (8 : Nat) V.undef) : HItem }))])], bx := [] : DRes }) (none)) (none) := by kernel_rfl
theorem ok_withW : FnOk Tryz.prog 65 (dWith 66 N.backI) := by
  refine den_okF (env_ok (((TOk.nil _).cons ok_markW).cons ok_cloneIO)) (E := eWithW) Tryz.func65 [] (by kernel_rfl) none0 fun a _ h => ?_
  obtain ⟨l, k, ⟨⟩⟩ := a
  obtain ⟨h1, h2⟩ := bcond h
  obtain ⟨h2, h3⟩ := bcond h2
  have h1 : 0 ≤ k := ile_of h1
  have h2 : k < l.length := ilt_of h2
  have h3 : Nat.ble l.length 1000 = true := h3
  have hn : Nat.beq l.length 0 = false := by
    rw [Bool.eq_false_iff]
    intro e
    have := Nat.eq_of_beq_eq_true e
    omega
  refine (q_withW l k).trans ?_
  have hg := getD_enc cItem l k.toNat item0 (by omega)
  simp only [dec_encs, List.length_map, hn, h3, hg, fold_item, cItem.de, fold_itemE, ← List.map_set]
  simp (disch := omega) only [evs]
  rfl
end Go.Ev

/- Lending, giving back, removing, waking: the functions on lines answer what the plain ones do: lemmas. -/
namespace Go.Ev
open Go Go.Proofs
set_option maxRecDepth 100000
-- FOLD

def dLLend : Den := den (aOne (vAgg cLine)) bNil (oTup (aCons (vAgg cLine) (aCons (vAgg cItem) (aOne vBool)))) (fun l _ => smallL l) fun l _ => (N.lLend l, ())
def dLBack : Den := den (aCons (vAgg cLine) (aOne (vInt .u64))) bNil (oTup (aCons (vAgg cLine) (aOne (vInt .i64)))) (fun a _ => smallL a.1) fun a _ => (N.lBack a.1 a.2, ())
def dLRemove : Den := den (aCons (vAgg cLine) (aOne (vInt .u64))) bNil (oTup (aCons (vAgg cLine) (aCons (vAgg cItem) (aOne (vInt .i64))))) (fun a _ => smallL a.1) fun a _ => (N.lRemove a.1 a.2, ())
def goodTold (l : List HItem) (k : Int) : Bool := cond (smallL l) (cond (ilt k 0) true (ilt k l.length)) false
def dLTold : Den := den (aCons (vAgg cLine) (aOne (vInt .i64))) bNil (oTup (aCons (vAgg cMail) (aOne vBool))) (fun a _ => goodTold a.1 a.2) fun a _ => (N.lTold a.1 a.2, ())
def dLFirst : Den := den (aOne (vAgg cLine)) bNil (oTup (aCons (vAgg cMail) (aOne vBool))) (fun l _ => smallL l) fun l _ => (N.lFirst l, ())
def dLReadyN : Den := den (aOne (vAgg cLine)) bNil (oV (vInt .i64)) (fun l _ => Nat.ble l.length 1000) fun l _ => (N.lReady l, ())
def dLAll : Den := den (aOne (vAgg cLine)) bNil (oV (vSl cItem)) (fun l _ => smallL l) fun l _ => (l, ())
def dLWake : Den := den (aOne (vAgg cLine)) bNil (oV (vAgg cLine)) (fun l _ => Nat.ble l.length 1000) fun l _ => (N.lWake l, ())
def dSameI : Den := den (aCons (vAgg cItem) (aOne (vAgg cItem))) bNil (oV vBool) (fun a _ => smallI a.1) fun a _ => (N.sameI a.1 a.2, ())
noncomputable def eReadyL : Env := env Tryz.prog [(108, dIxR 109 57)] [] []
theorem q_readyL (l : List HItem) : evFn eReadyL 56 ((aCons (vAgg cLine) (aOne (vFn0 57))).enc (l, ())) ([]) some =
 cond (Nat.ble (List.length (List.map (RCod.dec cItem) (List.map (RCod.enc cItem) l))) (1000 : Nat)) (some { v := V.int IntKind.i64 (N.ix N.isReady (List.map (RCod.dec cItem) (List.map (RCod.enc cItem) l)) (0 : Int)), bx := [] : DRes }) (none) := by kernel_rfl
noncomputable def eOfL : Env := env Tryz.prog [(108, dIxO 139)] [] []
theorem q_ofL (l : List HItem) (id : Int) : evFn eOfL 101 ((aCons (vAgg cLine) (aOne (vInt .u64))).enc (l, id)) ([]) some =
 cond (Nat.ble (List.length (List.map (RCod.dec cItem) (List.map (RCod.enc cItem) l))) (1000 : Nat)) (some { v := V.int IntKind.i64 (N.ix (N.isId id) (List.map (RCod.dec cItem) (List.map (RCod.enc cItem) l)) (0 : Int)), bx := [] : DRes }) (none) := by kernel_rfl
noncomputable def eLLend : Env := env Tryz.prog [(56, dReadyL 57), (65, dWith 67 N.lendI), (54, dIClone)] [] []
theorem q_lLend (l : List HItem) : evFn eLLend 28 ((aOne (vAgg cLine)).enc l) ([]) some =
 cond (Nat.ble (List.length (List.map (RCod.dec cItem) (List.map (RCod.enc cItem) l))) (1000 : Nat)) (cond (ilt (N.ix N.isReady (List.map (RCod.dec cItem) (List.map (RCod.enc cItem) l)) (0 : Int)) (0 : Int)) (some { v := V.tup [V.agg [V.slc [Sh.int IntKind.u64, Sh.str, Sh.str, Sh.slc [Sh.str, Sh.int IntKind.u8, Sh.int IntKind.i64, Sh.str], Sh.str, Sh.int IntKind.u64, Sh.int IntKind.u8, Sh.bool, Sh.bool] (List.map (RCod.enc cItem) l)], V.agg [V.int IntKind.u64 (0 : Int), V.str [], V.str [], V.slc [Sh.str, Sh.int IntKind.u8, Sh.int IntKind.i64, Sh.str] [], V.str [], V.int IntKind.u64 (0 : Int), V.int IntKind.u8 (0 : Int), V.bool false, V.bool false], V.bool false], bx := [] : DRes }) (cond (goodAt (List.map (RCod.dec cItem) (List.map (RCod.enc cItem) l)) (N.ix N.isReady (List.map (RCod.dec cItem) (List.map (RCod.enc cItem) l)) (0 : Int))) (cond (decide ((0 : Int) ≤ N.ix N.isReady (List.map (RCod.dec cItem) (List.map (RCod.enc cItem) l)) (0 : Int) ∧ N.ix N.isReady (List.map (RCod.dec cItem) (List.map (RCod.enc cItem) l)) (0 : Int) < (↑(List.length (List.map (RCod.enc cItem) (N.setAt N.lendI (List.map (RCod.dec cItem) (List.map (RCod.enc cItem) l)) (Int.toNat (N.ix N.isReady (List.map (RCod.dec cItem) (List.map (RCod.enc cItem) l)) (0 : Int)))))) : Int))) (cond (smallI { mail := { id := V.toInt (List.getD (List.getD (List.map (RCod.enc cItem) (N.setAt N.lendI (List.map (RCod.dec cItem) (List.map (RCod.enc cItem) l)) (Int.toNat (N.ix N.isReady (List.map (RCod.dec cItem) (List.map (RCod.enc cItem) l)) (0 : Int))))) (Int.toNat (N.ix N.isReady (List.map (RCod.dec cItem) (List.map (RCod.enc cItem) l)) (0 : Int))) []) (0 : Nat) V.undef), shop := V.toStr (List.getD (List.getD (List.map (RCod.enc cItem) (N.setAt N.lendI (List.map (RCod.dec cItem) (List.map (RCod.enc cItem) l)) (Int.toNat (N.ix N.isReady (List.map (RCod.dec cItem) (List.map (RCod.enc cItem) l)) (0 : Int))))) (Int.toNat (N.ix N.isReady (List.map (RCod.dec cItem) (List.map (RCod.enc cItem) l)) (0 : Int))) []) (1 : Nat) V.undef), key := V.toStr (List.getD (List.getD (List.map (RCod.enc cItem) (N.setAt N.lendI (List.map (RCod.dec cItem) (List.map (RCod.enc cItem) l)) (Int.toNat (N.ix N.isReady (List.map (RCod.dec cItem) (List.map (RCod.enc cItem) l)) (0 : Int))))) (Int.toNat (N.ix N.isReady (List.map (RCod.dec cItem) (List.map (RCod.enc cItem) l)) (0 : Int))) []) (2 : Nat) V.undef), head := List.map (fun r => { key := V.toStr (List.getD r (0 : Nat) V.undef), kind := V.toInt (List.getD r (1 : Nat) V.undef), num := V.toInt (List.getD r (2 : Nat) V.undef), text := V.toStr (List.getD r (3 : Nat) V.undef) : HPair }) (V.toRows (List.getD (List.getD (List.map (RCod.enc cItem) (N.setAt N.lendI (List.map (RCod.dec cItem) (List.map (RCod.enc cItem) l)) (Int.toNat (N.ix N.isReady (List.map (RCod.dec cItem) (List.map (RCod.enc cItem) l)) (0 : Int))))) (Int.toNat (N.ix N.isReady (List.map (RCod.dec cItem) (List.map (RCod.enc cItem) l)) (0 : Int))) []) (3 : Nat) V.undef)), body := V.toStr (List.getD (List.getD (List.map (RCod.enc cItem) (N.setAt N.lendI (List.map (RCod.dec cItem) (List.map (RCod.enc cItem) l)) (Int.toNat (N.ix N.isReady (List.map (RCod.dec cItem) (List.map (RCod.enc cItem) l)) (0 : Int))))) (Int.toNat (N.ix N.isReady (List.map (RCod.dec cItem) (List.map (RCod.enc cItem) l)) (0 : Int))) []) (4 : Nat) V.undef), due := V.toInt (List.getD (List.getD (List.map (RCod.enc cItem) (N.setAt N.lendI (List.map (RCod.dec cItem) (List.map (RCod.enc cItem) l)) (Int.toNat (N.ix N.isReady (List.map (RCod.dec cItem) (List.map (RCod.enc cItem) l)) (0 : Int))))) (Int.toNat (N.ix N.isReady (List.map (RCod.dec cItem) (List.map (RCod.enc cItem) l)) (0 : Int))) []) (5 : Nat) V.undef), hops := V.toInt (List.getD (List.getD (List.map (RCod.enc cItem) (N.setAt N.lendI (List.map (RCod.dec cItem) (List.map (RCod.enc cItem) l)) (Int.toNat (N.ix N.isReady (List.map (RCod.dec cItem) (List.map (RCod.enc cItem) l)) (0 : Int))))) (Int.toNat (N.ix N.isReady (List.map (RCod.dec cItem) (List.map (RCod.enc cItem) l)) (0 : Int))) []) (6 : Nat) V.undef) : HMail }, lent := V.toBool (List.getD (List.getD (List.map (RCod.enc cItem) (N.setAt N.lendI (List.map (RCod.dec cItem) (List.map (RCod.enc cItem) l)) (Int.toNat (N.ix N.isReady (List.map (RCod.dec cItem) (List.map (RCod.enc cItem) l)) (0 : Int))))) (Int.toNat (N.ix N.isReady (List.map (RCod.dec cItem) (List.map (RCod.enc cItem) l)) (0 : Int))) []) (7 : Nat) V.undef), again := V.toBool (List.getD (List.getD (List.map (RCod.enc cItem) (N.setAt N.lendI (List.map (RCod.dec cItem) (List.map (RCod.enc cItem) l)) (Int.toNat (N.ix N.isReady (List.map (RCod.dec cItem) (List.map (RCod.enc cItem) l)) (0 : Int))))) (Int.toNat (N.ix N.isReady (List.map (RCod.dec cItem) (List.map (RCod.enc cItem) l)) (0 : Int))) []) (8 : Nat) V.undef) : HItem }) (some { v := V.tup [V.agg [V.slc [Sh.int IntKind.u64, Sh.str, Sh.str, Sh.slc [Sh.str, Sh.int IntKind.u8, Sh.int IntKind.i64, Sh.str], Sh.str, Sh.int IntKind.u64, Sh.int IntKind.u8, Sh.bool, Sh.bool] (List.map (RCod.enc cItem) (N.setAt N.lendI (List.map (RCod.dec cItem) (List.map (RCod.enc cItem) l)) (Int.toNat (N.ix N.isReady (List.map (RCod.dec cItem) (List.map (RCod.enc cItem) l)) (0 : Int)))))], V.agg [V.int IntKind.u64 (V.toInt (List.getD (List.getD (List.map (RCod.enc cItem) (N.setAt N.lendI (List.map (RCod.dec cItem) (List.map (RCod.enc cItem) l)) (Int.toNat (N.ix N.isReady (List.map (RCod.dec cItem) (List.map (RCod.enc cItem) l)) (0 : Int))))) (Int.toNat (N.ix N.isReady (List.map (RCod.dec cItem) (List.map (RCod.enc cItem) l)) (0 : Int))) []) (0 : Nat) V.undef)), V.str (V.toStr (List.getD (List.getD (List.map (RCod.enc cItem) (N.setAt N.lendI (List.map (RCod.dec cItem) (List.map (RCod.enc cItem) l)) (Int.toNat (N.ix N.isReady (List.map (RCod.dec cItem) (List.map (RCod.enc cItem) l)) (0 : Int))))) (Int.toNat (N.ix N.isReady (List.map (RCod.dec cItem) (List.map (RCod.enc cItem) l)) (0 : Int))) []) (1 : Nat) V.undef)), V.str (V.toStr (List.getD (List.getD (List.map (RCod.enc cItem) (N.setAt N.lendI (List.map (RCod.dec cItem) (List.map (RCod.enc cItem) l)) (Int.toNat (N.ix N.isReady (List.map (RCod.dec cItem) (List.map (RCod.enc cItem) l)) (0 : Int))))) (Int.toNat (N.ix N.isReady (List.map (RCod.dec cItem) (List.map (RCod.enc cItem) l)) (0 : Int))) []) (2 : Nat) V.undef)), V.slc [Sh.str, Sh.int IntKind.u8, Sh.int IntKind.i64, Sh.str] (List.map (fun p => [V.str (HPair.key p), V.int IntKind.u8 (HPair.kind p), V.int IntKind.i64 (HPair.num p), V.str (HPair.text p)]) (List.map (fun r => { key := V.toStr (List.getD r (0 : Nat) V.undef), kind := V.toInt (List.getD r (1 : Nat) V.undef), num := V.toInt (List.getD r (2 : Nat) V.undef), text := V.toStr (List.getD r (3 : Nat) V.undef) : HPair }) (V.toRows (List.getD (List.getD (List.map (RCod.enc cItem) (N.setAt N.lendI (List.map (RCod.dec cItem) (List.map (RCod.enc cItem) l)) (Int.toNat (N.ix N.isReady (List.map (RCod.dec cItem) (List.map (RCod.enc cItem) l)) (0 : Int))))) (Int.toNat (N.ix N.isReady (List.map (RCod.dec cItem) (List.map (RCod.enc cItem) l)) (0 : Int))) []) (3 : Nat) V.undef)))), V.str (V.toStr (List.getD (List.getD (List.map (RCod.enc cItem) (N.setAt N.lendI (List.map (RCod.dec cItem) (List.map (RCod.enc cItem) l)) (Int.toNat (N.ix N.isReady (List.map (RCod.dec cItem) (List.map (RCod.enc cItem) l)) (0 : Int))))) (Int.toNat (N.ix N.isReady (List.map (RCod.dec cItem) (List.map (RCod.enc cItem) l)) (0 : Int))) []) (4 : Nat) V.undef)), V.int IntKind.u64 (V.toInt (List.getD (List.getD (List.map (RCod.enc cItem) (N.setAt N.lendI (List.map (RCod.dec cItem) (List.map (RCod.enc cItem) l)) (Int.toNat (N.ix N.isReady (List.map (RCod.dec cItem) (List.map (RCod.enc cItem) l)) (0 : Int))))) (Int.toNat (N.ix N.isReady (List.map (RCod.dec cItem) (List.map (RCod.enc cItem) l)) (0 : Int))) []) (5 : Nat) V.undef)), V.int IntKind.u8 (V.toInt (List.getD (List.getD (List.map (RCod.enc cItem) (N.setAt N.lendI (List.map (RCod.dec cItem) (List.map (RCod.enc cItem) l)) (Int.toNat (N.ix N.isReady (List.map (RCod.dec cItem) (List.map (RCod.enc cItem) l)) (0 : Int))))) (Int.toNat (N.ix N.isReady (List.map (RCod.dec cItem) (List.map (RCod.enc cItem) l)) (0 : Int))) []) (6 : Nat) V.undef)), V.bool (V.toBool (List.getD (List.getD (List.map (RCod.enc cItem) (N.setAt N.lendI (List.map (RCod.dec cItem) (List.map (RCod.enc cItem) l)) (Int.toNat (N.ix N.isReady (List.map (RCod.dec cItem) (List.map (RCod.enc cItem) l)) (0 : Int))))) (Int.toNat (N.ix N.isReady (List.map (RCod.dec cItem) (List.map (RCod.enc cItem) l)) (0 : Int))) []) (7 : Nat) V.undef)), V.bool (V.toBool (List.getD (List.getD (List.map (RCod.enc cItem) (N.setAt N.lendI (List.map (RCod.dec cItem) (List.map (RCod.enc cItem) l)) (Int.toNat (N.ix N.isReady (List.map (RCod.dec cItem) (List.map (RCod.enc cItem) l)) (0 : Int))))) (Int.toNat (N.ix N.isReady (List.map (RCod.dec cItem) (List.map (RCod.enc cItem) l)) (0 : Int))) []) (8 : Nat) V.undef))], V.bool true], bx := [] : DRes }) (none)) (none)) (none))) (none) := by kernel_rfl
noncomputable def eLBack : Env := env Tryz.prog [(101, dOfL), (65, dWith 102 N.backI)] [] []
theorem q_lBack (l : List HItem) (id : Int) : evFn eLBack 45 ((aCons (vAgg cLine) (aOne (vInt .u64))).enc (l, id)) ([]) some =
 cond (Nat.ble (List.length (List.map (RCod.dec cItem) (List.map (RCod.enc cItem) l))) (1000 : Nat)) (cond (ilt (N.ix (N.isId id) (List.map (RCod.dec cItem) (List.map (RCod.enc cItem) l)) (0 : Int)) (0 : Int)) (some { v := V.tup [V.agg [V.slc [Sh.int IntKind.u64, Sh.str, Sh.str, Sh.slc [Sh.str, Sh.int IntKind.u8, Sh.int IntKind.i64, Sh.str], Sh.str, Sh.int IntKind.u64, Sh.int IntKind.u8, Sh.bool, Sh.bool] (List.map (RCod.enc cItem) l)], V.int IntKind.i64 (10 : Int)], bx := [] : DRes }) (cond (decide ((0 : Int) ≤ N.ix (N.isId id) (List.map (RCod.dec cItem) (List.map (RCod.enc cItem) l)) (0 : Int) ∧ N.ix (N.isId id) (List.map (RCod.dec cItem) (List.map (RCod.enc cItem) l)) (0 : Int) < (↑(List.length (List.map (RCod.enc cItem) l)) : Int))) (cond (!V.toBool (List.getD (List.getD (List.map (RCod.enc cItem) l) (Int.toNat (N.ix (N.isId id) (List.map (RCod.dec cItem) (List.map (RCod.enc cItem) l)) (0 : Int))) []) (7 : Nat) V.undef)) (some { v := V.tup [V.agg [V.slc [Sh.int IntKind.u64, Sh.str, Sh.str, Sh.slc [Sh.str, Sh.int IntKind.u8, Sh.int IntKind.i64, Sh.str], Sh.str, Sh.int IntKind.u64, Sh.int IntKind.u8, Sh.bool, Sh.bool] (List.map (RCod.enc cItem) l)], V.int IntKind.i64 (13 : Int)], bx := [] : DRes }) (cond (goodAt (List.map (RCod.dec cItem) (List.map (RCod.enc cItem) l)) (N.ix (N.isId id) (List.map (RCod.dec cItem) (List.map (RCod.enc cItem) l)) (0 : Int))) (some { v := V.tup [V.agg [V.slc [Sh.int IntKind.u64, Sh.str, Sh.str, Sh.slc [Sh.str, Sh.int IntKind.u8, Sh.int IntKind.i64, Sh.str], Sh.str, Sh.int IntKind.u64, Sh.int IntKind.u8, Sh.bool, Sh.bool] (List.map (RCod.enc cItem) (N.setAt N.backI (List.map (RCod.dec cItem) (List.map (RCod.enc cItem) l)) (Int.toNat (N.ix (N.isId id) (List.map (RCod.dec cItem) (List.map (RCod.enc cItem) l)) (0 : Int)))))], V.int IntKind.i64 (0 : Int)], bx := [] : DRes }) (none))) (none))) (none) := by kernel_rfl
noncomputable def eLRemove : Env := env Tryz.prog [(101, dOfL), (54, dIClone), (106, dConcat cItem)] [] []
theorem q_lRemove (l : List HItem) (id : Int) : evFn eLRemove 50 ((aCons (vAgg cLine) (aOne (vInt .u64))).enc (l, id)) ([]) some =
 cond (Nat.ble (List.length (List.map (RCod.dec cItem) (List.map (RCod.enc cItem) l))) (1000 : Nat)) (cond (ilt (N.ix (N.isId id) (List.map (RCod.dec cItem) (List.map (RCod.enc cItem) l)) (0 : Int)) (0 : Int)) (some { v := V.tup [V.agg [V.slc [Sh.int IntKind.u64, Sh.str, Sh.str, Sh.slc [Sh.str, Sh.int IntKind.u8, Sh.int IntKind.i64, Sh.str], Sh.str, Sh.int IntKind.u64, Sh.int IntKind.u8, Sh.bool, Sh.bool] (List.map (RCod.enc cItem) l)], V.agg [V.int IntKind.u64 (0 : Int), V.str [], V.str [], V.slc [Sh.str, Sh.int IntKind.u8, Sh.int IntKind.i64, Sh.str] [], V.str [], V.int IntKind.u64 (0 : Int), V.int IntKind.u8 (0 : Int), V.bool false, V.bool false], V.int IntKind.i64 (10 : Int)], bx := [] : DRes }) (cond (decide ((0 : Int) ≤ N.ix (N.isId id) (List.map (RCod.dec cItem) (List.map (RCod.enc cItem) l)) (0 : Int) ∧ N.ix (N.isId id) (List.map (RCod.dec cItem) (List.map (RCod.enc cItem) l)) (0 : Int) < (↑(List.length (List.map (RCod.enc cItem) l)) : Int))) (cond (smallI { mail := { id := V.toInt (List.getD (List.getD (List.map (RCod.enc cItem) l) (Int.toNat (N.ix (N.isId id) (List.map (RCod.dec cItem) (List.map (RCod.enc cItem) l)) (0 : Int))) []) (0 : Nat) V.undef), shop := V.toStr (List.getD (List.getD (List.map (RCod.enc cItem) l) (Int.toNat (N.ix (N.isId id) (List.map (RCod.dec cItem) (List.map (RCod.enc cItem) l)) (0 : Int))) []) (1 : Nat) V.undef), key := V.toStr (List.getD (List.getD (List.map (RCod.enc cItem) l) (Int.toNat (N.ix (N.isId id) (List.map (RCod.dec cItem) (List.map (RCod.enc cItem) l)) (0 : Int))) []) (2 : Nat) V.undef), head := List.map (fun r => { key := V.toStr (List.getD r (0 : Nat) V.undef), kind := V.toInt (List.getD r (1 : Nat) V.undef), num := V.toInt (List.getD r (2 : Nat) V.undef), text := V.toStr (List.getD r (3 : Nat) V.undef) : HPair }) (V.toRows (List.getD (List.getD (List.map (RCod.enc cItem) l) (Int.toNat (N.ix (N.isId id) (List.map (RCod.dec cItem) (List.map (RCod.enc cItem) l)) (0 : Int))) []) (3 : Nat) V.undef)), body := V.toStr (List.getD (List.getD (List.map (RCod.enc cItem) l) (Int.toNat (N.ix (N.isId id) (List.map (RCod.dec cItem) (List.map (RCod.enc cItem) l)) (0 : Int))) []) (4 : Nat) V.undef), due := V.toInt (List.getD (List.getD (List.map (RCod.enc cItem) l) (Int.toNat (N.ix (N.isId id) (List.map (RCod.dec cItem) (List.map (RCod.enc cItem) l)) (0 : Int))) []) (5 : Nat) V.undef), hops := V.toInt (List.getD (List.getD (List.map (RCod.enc cItem) l) (Int.toNat (N.ix (N.isId id) (List.map (RCod.dec cItem) (List.map (RCod.enc cItem) l)) (0 : Int))) []) (6 : Nat) V.undef) : HMail }, lent := V.toBool (List.getD (List.getD (List.map (RCod.enc cItem) l) (Int.toNat (N.ix (N.isId id) (List.map (RCod.dec cItem) (List.map (RCod.enc cItem) l)) (0 : Int))) []) (7 : Nat) V.undef), again := V.toBool (List.getD (List.getD (List.map (RCod.enc cItem) l) (Int.toNat (N.ix (N.isId id) (List.map (RCod.dec cItem) (List.map (RCod.enc cItem) l)) (0 : Int))) []) (8 : Nat) V.undef) : HItem }) (cond (decide ((0 : Int) ≤ N.ix (N.isId id) (List.map (RCod.dec cItem) (List.map (RCod.enc cItem) l)) (0 : Int) ∧ N.ix (N.isId id) (List.map (RCod.dec cItem) (List.map (RCod.enc cItem) l)) (0 : Int) ≤ (↑(List.length (List.map (RCod.enc cItem) l)) : Int))) (cond (decide ((0 : Int) ≤ IntKind.wrap IntKind.i64 (N.ix (N.isId id) (List.map (RCod.dec cItem) (List.map (RCod.enc cItem) l)) (0 : Int) + (1 : Int)) ∧ IntKind.wrap IntKind.i64 (N.ix (N.isId id) (List.map (RCod.dec cItem) (List.map (RCod.enc cItem) l)) (0 : Int) + (1 : Int)) ≤ (↑(List.length (List.map (RCod.enc cItem) l)) : Int))) (cond (Nat.ble (List.length (List.map (RCod.dec cItem) (List.drop (0 : Nat) (List.take (Int.toNat (N.ix (N.isId id) (List.map (RCod.dec cItem) (List.map (RCod.enc cItem) l)) (0 : Int))) (List.map (RCod.enc cItem) l)))) + (List.length (List.map (RCod.dec cItem) (List.drop (Int.toNat (IntKind.wrap IntKind.i64 (N.ix (N.isId id) (List.map (RCod.dec cItem) (List.map (RCod.enc cItem) l)) (0 : Int) + (1 : Int)))) (List.take (List.length (List.map (RCod.enc cItem) l)) (List.map (RCod.enc cItem) l)))) + (0 : Nat))) (100000 : Nat)) (some { v := V.tup [V.agg [V.slc [Sh.int IntKind.u64, Sh.str, Sh.str, Sh.slc [Sh.str, Sh.int IntKind.u8, Sh.int IntKind.i64, Sh.str], Sh.str, Sh.int IntKind.u64, Sh.int IntKind.u8, Sh.bool, Sh.bool] (List.map (RCod.enc cItem) (N.flat [List.map (RCod.dec cItem) (List.drop (0 : Nat) (List.take (Int.toNat (N.ix (N.isId id) (List.map (RCod.dec cItem) (List.map (RCod.enc cItem) l)) (0 : Int))) (List.map (RCod.enc cItem) l))), List.map (RCod.dec cItem) (List.drop (Int.toNat (IntKind.wrap IntKind.i64 (N.ix (N.isId id) (List.map (RCod.dec cItem) (List.map (RCod.enc cItem) l)) (0 : Int) + (1 : Int)))) (List.take (List.length (List.map (RCod.enc cItem) l)) (List.map (RCod.enc cItem) l)))]))], V.agg [V.int IntKind.u64 (V.toInt (List.getD (List.getD (List.map (RCod.enc cItem) l) (Int.toNat (N.ix (N.isId id) (List.map (RCod.dec cItem) (List.map (RCod.enc cItem) l)) (0 : Int))) []) (0 : Nat) V.undef)), V.str (V.toStr (List.getD (List.getD (List.map (RCod.enc cItem) l) (Int.toNat (N.ix (N.isId id) (List.map (RCod.dec cItem) (List.map (RCod.enc cItem) l)) (0 : Int))) []) (1 : Nat) V.undef)), V.str (V.toStr (List.getD (List.getD (List.map (RCod.enc cItem) l) (Int.toNat (N.ix (N.isId id) (List.map (RCod.dec cItem) (List.map (RCod.enc cItem) l)) (0 : Int))) []) (2 : Nat) V.undef)), V.slc [Sh.str, Sh.int IntKind.u8, Sh.int IntKind.i64, Sh.str] (List.map (fun p => [V.str (HPair.key p), V.int IntKind.u8 (HPair.kind p), V.int IntKind.i64 (HPair.num p), V.str (HPair.text p)]) (List.map (fun r => { key := V.toStr (List.getD r (0 : Nat) V.undef), kind := V.toInt (List.getD r (1 : Nat) V.undef), num := V.toInt (List.getD r (2 : Nat) V.undef), text := V.toStr (List.getD r (3 : Nat) V.undef) : HPair }) (V.toRows (List.getD (List.getD (List.map (RCod.enc cItem) l) (Int.toNat (N.ix (N.isId id) (List.map (RCod.dec cItem) (List.map (RCod.enc cItem) l)) (0 : Int))) []) (3 : Nat) V.undef)))), V.str (V.toStr (List.getD (List.getD (List.map (RCod.enc cItem) l) (Int.toNat (N.ix (N.isId id) (List.map (RCod.dec cItem) (List.map (RCod.enc cItem) l)) (0 : Int))) []) (4 : Nat) V.undef)), V.int IntKind.u64 (V.toInt (List.getD (List.getD (List.map (RCod.enc cItem) l) (Int.toNat (N.ix (N.isId id) (List.map (RCod.dec cItem) (List.map (RCod.enc cItem) l)) (0 : Int))) []) (5 : Nat) V.undef)), V.int IntKind.u8 (V.toInt (List.getD (List.getD (List.map (RCod.enc cItem) l) (Int.toNat (N.ix (N.isId id) (List.map (RCod.dec cItem) (List.map (RCod.enc cItem) l)) (0 : Int))) []) (6 : Nat) V.undef)), V.bool (V.toBool (List.getD (List.getD (List.map (RCod.enc cItem) l) (Int.toNat (N.ix (N.isId id) (List.map (RCod.dec cItem) (List.map (RCod.enc cItem) l)) (0 : Int))) []) (7 : Nat) V.undef)), V.bool (V.toBool (List.getD (List.getD (List.map (RCod.enc cItem) l) (Int.toNat (N.ix (N.isId id) (List.map (RCod.dec cItem) (List.map (RCod.enc cItem) l)) (0 : Int))) []) (8 : Nat) V.undef))], V.int IntKind.i64 (0 : Int)], bx := [] : DRes }) (none)) (none)) (none)) (none)) (none))) (none) := by kernel_rfl
noncomputable def eLTold : Env := env Tryz.prog [(107, dMailCopy)] [] []
theorem q_lTold (l : List HItem) (k : Int) : evFn eLTold 55 ((aCons (vAgg cLine) (aOne (vInt .i64))).enc (l, k)) ([]) some =
 cond (ilt k (0 : Int)) (some { v := V.tup [V.agg [V.int IntKind.u64 (0 : Int), V.str [], V.str [], V.slc [Sh.str, Sh.int IntKind.u8, Sh.int IntKind.i64, Sh.str] [], V.str [], V.int IntKind.u64 (0 : Int), V.int IntKind.u8 (0 : Int)], V.bool false], bx := [] : DRes }) (cond (decide ((0 : Int) ≤ k ∧ k < (↑(List.length (List.map (RCod.enc cItem) l)) : Int))) (cond (smallM { id := V.toInt (List.getD (List.getD (List.map (RCod.enc cItem) l) (Int.toNat k) []) (0 : Nat) V.undef), shop := V.toStr (List.getD (List.getD (List.map (RCod.enc cItem) l) (Int.toNat k) []) (1 : Nat) V.undef), key := V.toStr (List.getD (List.getD (List.map (RCod.enc cItem) l) (Int.toNat k) []) (2 : Nat) V.undef), head := List.map (fun r => { key := V.toStr (List.getD r (0 : Nat) V.undef), kind := V.toInt (List.getD r (1 : Nat) V.undef), num := V.toInt (List.getD r (2 : Nat) V.undef), text := V.toStr (List.getD r (3 : Nat) V.undef) : HPair }) (V.toRows (List.getD (List.getD (List.map (RCod.enc cItem) l) (Int.toNat k) []) (3 : Nat) V.undef)), body := V.toStr (List.getD (List.getD (List.map (RCod.enc cItem) l) (Int.toNat k) []) (4 : Nat) V.undef), due := V.toInt (List.getD (List.getD (List.map (RCod.enc cItem) l) (Int.toNat k) []) (5 : Nat) V.undef), hops := V.toInt (List.getD (List.getD (List.map (RCod.enc cItem) l) (Int.toNat k) []) (6 : Nat) V.undef) : HMail }) (some { v := V.tup [V.agg [V.int IntKind.u64 (V.toInt (List.getD (List.getD (List.map (RCod.enc cItem) l) (Int.toNat k) []) (0 : Nat) V.undef)), V.str (V.toStr (List.getD (List.getD (List.map (RCod.enc cItem) l) (Int.toNat k) []) (1 : Nat) V.undef)), V.str (V.toStr (List.getD (List.getD (List.map (RCod.enc cItem) l) (Int.toNat k) []) (2 : Nat) V.undef)), V.slc [Sh.str, Sh.int IntKind.u8, Sh.int IntKind.i64, Sh.str] (List.map (fun p => [V.str (HPair.key p), V.int IntKind.u8 (HPair.kind p), V.int IntKind.i64 (HPair.num p), V.str (HPair.text p)]) (List.map (fun r => { key := V.toStr (List.getD r (0 : Nat) V.undef), kind := V.toInt (List.getD r (1 : Nat) V.undef), num := V.toInt (List.getD r (2 : Nat) V.undef), text := V.toStr (List.getD r (3 : Nat) V.undef) : HPair }) (V.toRows (List.getD (List.getD (List.map (RCod.enc cItem) l) (Int.toNat k) []) (3 : Nat) V.undef)))), V.str (V.toStr (List.getD (List.getD (List.map (RCod.enc cItem) l) (Int.toNat k) []) (4 : Nat) V.undef)), V.int IntKind.u64 (V.toInt (List.getD (List.getD (List.map (RCod.enc cItem) l) (Int.toNat k) []) (5 : Nat) V.undef)), V.int IntKind.u8 (V.toInt (List.getD (List.getD (List.map (RCod.enc cItem) l) (Int.toNat k) []) (6 : Nat) V.undef))], V.bool true], bx := [] : DRes }) (none)) (none)) := by kernel_rfl
noncomputable def eLFirst : Env := env Tryz.prog [(56, dReadyL 57), (55, dLTold)] [] []
theorem q_lFirst (l : List HItem) : evFn eLFirst 18 ((aOne (vAgg cLine)).enc l) ([]) some =
 cond (Nat.ble (List.length (List.map (RCod.dec cItem) (List.map (RCod.enc cItem) l))) (1000 : Nat)) (cond (goodTold (List.map (RCod.dec cItem) (List.map (RCod.enc cItem) l)) (N.ix N.isReady (List.map (RCod.dec cItem) (List.map (RCod.enc cItem) l)) (0 : Int))) (some { v := V.tup [V.agg [V.int IntKind.u64 (HMail.id (Prod.fst (N.lTold (List.map (RCod.dec cItem) (List.map (RCod.enc cItem) l)) (N.ix N.isReady (List.map (RCod.dec cItem) (List.map (RCod.enc cItem) l)) (0 : Int))))), V.str (HMail.shop (Prod.fst (N.lTold (List.map (RCod.dec cItem) (List.map (RCod.enc cItem) l)) (N.ix N.isReady (List.map (RCod.dec cItem) (List.map (RCod.enc cItem) l)) (0 : Int))))), V.str (HMail.key (Prod.fst (N.lTold (List.map (RCod.dec cItem) (List.map (RCod.enc cItem) l)) (N.ix N.isReady (List.map (RCod.dec cItem) (List.map (RCod.enc cItem) l)) (0 : Int))))), V.slc [Sh.str, Sh.int IntKind.u8, Sh.int IntKind.i64, Sh.str] (List.map (fun p => [V.str (HPair.key p), V.int IntKind.u8 (HPair.kind p), V.int IntKind.i64 (HPair.num p), V.str (HPair.text p)]) (HMail.head (Prod.fst (N.lTold (List.map (RCod.dec cItem) (List.map (RCod.enc cItem) l)) (N.ix N.isReady (List.map (RCod.dec cItem) (List.map (RCod.enc cItem) l)) (0 : Int)))))), V.str (HMail.body (Prod.fst (N.lTold (List.map (RCod.dec cItem) (List.map (RCod.enc cItem) l)) (N.ix N.isReady (List.map (RCod.dec cItem) (List.map (RCod.enc cItem) l)) (0 : Int))))), V.int IntKind.u64 (HMail.due (Prod.fst (N.lTold (List.map (RCod.dec cItem) (List.map (RCod.enc cItem) l)) (N.ix N.isReady (List.map (RCod.dec cItem) (List.map (RCod.enc cItem) l)) (0 : Int))))), V.int IntKind.u8 (HMail.hops (Prod.fst (N.lTold (List.map (RCod.dec cItem) (List.map (RCod.enc cItem) l)) (N.ix N.isReady (List.map (RCod.dec cItem) (List.map (RCod.enc cItem) l)) (0 : Int)))))], V.bool (Prod.snd (N.lTold (List.map (RCod.dec cItem) (List.map (RCod.enc cItem) l)) (N.ix N.isReady (List.map (RCod.dec cItem) (List.map (RCod.enc cItem) l)) (0 : Int))))], bx := [] : DRes }) (none)) (none) := by kernel_rfl
theorem fold_itemR (r : List V) : [V.int .u64 (V.toInt (List.getD r 0 .undef)), V.str (V.toStr (List.getD r 1 .undef)), V.str (V.toStr (List.getD r 2 .undef)), V.slc [.str, .int .u8, .int .i64, .str] (((V.toRows (List.getD r 3 .undef)).map fun r => ({ key := V.toStr (List.getD r 0 .undef), kind := V.toInt (List.getD r 1 .undef), num := V.toInt (List.getD r 2 .undef), text := V.toStr (List.getD r 3 .undef) } : HPair)).map fun p => [V.str p.key, V.int .u8 p.kind, V.int .i64 p.num, V.str p.text]),
    V.str (V.toStr (List.getD r 4 .undef)), V.int .u64 (V.toInt (List.getD r 5 .undef)), V.int .u8 (V.toInt (List.getD r 6 .undef)), V.bool (V.toBool (List.getD r 7 .undef)), V.bool (V.toBool (List.getD r 8 .undef))] = cItem.enc (cItem.dec r) := rfl
theorem smallL_of {l : List HItem} (h : smallL l = true) : l.length ≤ 1000 ∧ Nat.ble l.length 1000 = true ∧ l.all smallI = true := by
  obtain ⟨h1, h2⟩ := bcond h
  exact ⟨ble_of h1, h1, h2⟩
theorem setAt_get (f : HItem → HItem) {l : List HItem} {k : Nat} (h : k < l.length) : (N.setAt f l k).getD k item0 = f (l.getD k item0) := by
  unfold N.setAt
  rw [List.getD_eq_getElem?_getD, List.getElem?_set_self h]; rfl
theorem small_at {l : List HItem} (h : l.all smallI = true) {k : Nat} (hk : k < l.length) : smallI (l.getD k item0) = true := all_getD h k item0 hk
theorem ok_readyL : FnOk Tryz.prog 56 (dReadyL 57) := by
  refine den_okF (env_ok ((TOk.nil _).cons ok_IxR)) (E := eReadyL) Tryz.func56 [] (by kernel_rfl) none0 fun a _ h => ?_
  obtain ⟨l, ⟨⟩⟩ := a
  have h : Nat.ble l.length 1000 = true := h
  refine (q_readyL l).trans ?_
  simp only [dec_encs, h, cond_true]
  rfl
theorem ok_ofL : FnOk Tryz.prog 101 dOfL := by
  refine den_okF (env_ok ((TOk.nil _).cons ok_IxO)) (E := eOfL) Tryz.func101 [] (by kernel_rfl) none0 fun a _ h => ?_
  obtain ⟨l, id⟩ := a
  have h : Nat.ble l.length 1000 = true := h
  refine (q_ofL l id).trans ?_
  simp only [dec_encs, h, cond_true]
  rfl
theorem ok_lLend : FnOk Tryz.prog 28 dLLend := by
  refine den_okF (env_ok ((((TOk.nil _).cons ok_iClone).cons ok_withL).cons ok_readyL)) (E := eLLend) Tryz.func28 [] (by kernel_rfl) none0 fun l _ h => ?_
  obtain ⟨h1, h2, h3⟩ := smallL_of h
  refine (q_lLend l).trans ?_
  show _ = some (⟨.tup [.agg (cLine.enc (N.lLend l).1), .agg (cItem.enc (N.lLend l).2.1), .bool (N.lLend l).2.2], [], []⟩ : DRes)
  unfold N.lLend
  simp only [dec_encs]
  rcases ix_spec N.isReady l 0 (Int.le_refl _) with ⟨e, _⟩ | ⟨k, e, hk, _⟩
  · rw [e]
    simp (disch := omega) only [evs, h2]
    rfl
  · rw [Int.zero_add] at e
    have hg := getD_enc cItem (N.setAt N.lendI l k) k item0 (by rw [setAt_len]; exact hk)
    rw [setAt_get N.lendI hk] at hg
    have hs : smallI (N.lendI (l.getD k item0)) = true := small_at h3 hk
    have ga : goodAt l k = true := by unfold goodAt; rw [ile_t (by omega), ilt_t (by omega), h2]; rfl
    rw [e]
    simp (disch := omega) only [evs, h2, ga, Int.toNat_natCast, setAt_len, hg, fold_item, cItem.de, hs, fold_itemE, fold_itemR]
    rfl
theorem ok_lBack : FnOk Tryz.prog 45 dLBack := by
  refine den_okF (env_ok (((TOk.nil _).cons ok_withB).cons ok_ofL)) (E := eLBack) Tryz.func45 [] (by kernel_rfl) none0 fun a _ h => ?_
  obtain ⟨l, id⟩ := a
  obtain ⟨h1, h2, h3⟩ := smallL_of (l := l) h
  refine (q_lBack l id).trans ?_
  show _ = some (⟨.tup [.agg (cLine.enc (N.lBack l id).1), .int .i64 (N.lBack l id).2], [], []⟩ : DRes)
  unfold N.lBack
  simp only [dec_encs]
  rcases ix_spec (N.isId id) l 0 (Int.le_refl _) with ⟨e, _⟩ | ⟨k, e, hk, _⟩
  · rw [e]
    simp (disch := omega) only [evs, h2]
    rfl
  · rw [Int.zero_add] at e
    have hg := getD_enc cItem l k item0 hk
    have ga : goodAt l k = true := by unfold goodAt; rw [ile_t (by omega), ilt_t (by omega), h2]; rfl
    rw [e]
    simp (disch := omega) only [evs, h2, ga, Int.toNat_natCast, hg]
    show cond (!(l.getD k item0).lent) _ _ = _
    cases (l.getD k item0).lent <;> rfl
theorem ok_lRemove : FnOk Tryz.prog 50 dLRemove := by
  refine den_okF (env_ok ((((TOk.nil _).cons ok_concatI).cons ok_iClone).cons ok_ofL)) (E := eLRemove) Tryz.func50 [] (by kernel_rfl) none0 fun a _ h => ?_
  obtain ⟨l, id⟩ := a
  obtain ⟨h1, h2, h3⟩ := smallL_of (l := l) h
  refine (q_lRemove l id).trans ?_
  show _ = some (⟨.tup [.agg (cLine.enc (N.lRemove l id).1), .agg (cItem.enc (N.lRemove l id).2.1), .int .i64 (N.lRemove l id).2.2], [], []⟩ : DRes)
  unfold N.lRemove
  simp only [dec_encs]
  rcases ix_spec (N.isId id) l 0 (Int.le_refl _) with ⟨e, _⟩ | ⟨k, e, hk, _⟩
  · rw [e]
    simp (disch := omega) only [evs, h2]
    rfl
  · rw [Int.zero_add] at e
    have hg := getD_enc cItem l k item0 hk
    have hs : smallI (l.getD k item0) = true := small_at h3 hk
    rw [e]
    have w : IntKind.wrap .i64 ((k : Int) + 1) = (k : Int) + 1 := wr_i64 (by omega) (by omega)
    have e1 : ((k : Int) + 1).toNat = k + 1 := by omega
    have t1 : (l.map cItem.enc).take l.length = l.map cItem.enc := List.take_of_length_le (by rw [List.length_map]; exact Nat.le_refl _)
    have hl : (l.take k).length + ((l.drop (k + 1)).length + 0) ≤ 100000 := by simp; omega
    have hb : Nat.ble ((l.take k).length + ((l.drop (k + 1)).length + 0)) 100000 = true := ble_t hl
    simp (disch := omega) only [evs, h2, Int.toNat_natCast, hg, fold_item, cItem.de, hs, fold_itemE, fold_itemR, w, e1, t1, List.drop_zero, ← List.map_take, ← List.map_drop, dec_encs, flat_two, hb]
    rfl
theorem ok_lTold : FnOk Tryz.prog 55 dLTold := by
  refine den_okF (env_ok ((TOk.nil _).cons ok_mailCopy)) (E := eLTold) Tryz.func55 [] (by kernel_rfl) none0 fun a _ h => ?_
  obtain ⟨l, k⟩ := a
  obtain ⟨h, h4⟩ := bcond h
  obtain ⟨h1, h2, h3⟩ := smallL_of (l := l) h
  have h4 : cond (ilt k 0) true (ilt k l.length) = true := h4
  refine (q_lTold l k).trans ?_
  show _ = some (⟨.tup [.agg (cMail.enc (N.lTold l k).1), .bool (N.lTold l k).2], [], []⟩ : DRes)
  unfold N.lTold
  cases hk : ilt k 0 with
  | true => rfl
  | false =>
    rw [hk] at h4
    have h4 : k < l.length := ilt_of h4
    have hk := ilt_nof hk
    have hg := getD_enc cItem l k.toNat item0 (by omega)
    have hs : smallM (l.getD k.toNat item0).mail = true := small_at h3 (by omega)
    simp (disch := omega) only [evs, hg, fold_mail, fold_re, item_mail, cItem.de, hs]
theorem ok_lFirst : FnOk Tryz.prog 18 dLFirst := by
  refine den_okF (env_ok (((TOk.nil _).cons ok_lTold).cons ok_readyL)) (E := eLFirst) Tryz.func18 [] (by kernel_rfl) none0 fun l _ h => ?_
  have h : smallL l = true := h
  obtain ⟨h1, h2, h3⟩ := smallL_of h
  refine (q_lFirst l).trans ?_
  show _ = some (⟨.tup [.agg (cMail.enc (N.lFirst l).1), .bool (N.lFirst l).2], [], []⟩ : DRes)
  have hg : goodTold l (N.ix N.isReady l 0) = true := by
    unfold goodTold
    rw [h]
    rcases ix_spec N.isReady l 0 (Int.le_refl _) with ⟨e, _⟩ | ⟨k, e, hk, _⟩
    · rw [e]; rfl
    · rw [e, ilt_f (by omega), ilt_t (by omega)]; rfl
  unfold N.lFirst
  simp (disch := omega) only [evs, dec_encs, h2, hg, fold_de, pairs_enc, fold_enc]
theorem ok_lAdd : FnOk Tryz.prog 44 dLAdd := by
  refine den_okF (env_ok ((TOk.nil _).cons ok_lPut)) (E := eLAdd) Tryz.func44 [] (by kernel_rfl) none0 fun a _ h => ?_
  obtain ⟨l, m⟩ := a
  obtain ⟨h1, h2⟩ := bcond h
  have h1 : Nat.ble l.length 1000 = true := h1
  have h2 : smallI ⟨m, false, false⟩ = true := h2
  refine (q_lAdd l m).trans ?_
  simp only [dec_encs, fold_de, h1, h2, cond_true]
  rfl
end Go.Ev

/- Counting, giving, waking and making lines; sameness: lemmas. -/
namespace Go.Ev
open Go Go.Proofs
set_option maxRecDepth 100000
-- FOLD

theorem all_rowI {p : HItem → Bool} {r : List (List V)} (h : (r.map cItem.dec).all p = true) {i : Nat} (hi : i < r.length) : p (cItem.dec (r.getD i [])) = true := by
  refine List.all_eq_true.1 h _ (List.mem_map_of_mem ?_)
  rw [List.getD_eq_getElem?_getD, List.getElem?_eq_getElem hi]
  exact List.getElem_mem hi
theorem take_rowsI {r : List (List V)} {i : Nat} (h : i < r.length) : ((r.take (i + 1)).map cItem.dec).map cItem.enc = ((r.take i).map cItem.dec).map cItem.enc ++ [cItem.enc (cItem.dec (r.getD i []))] := by
  rw [List.take_add_one, List.getD_eq_getElem?_getD, List.getElem?_eq_getElem h]
  simp only [Option.toList_some, List.map_append, List.map_cons, List.map_nil, Option.getD_some]
def schLReady : SSch := { fr := [(3, .int .i64), (7, .slc [.int .u64, .str, .str, .slc [.str, .int .u8, .int .i64, .str], .str, .int .u64, .int .u8, .bool, .bool]), (8, .int .i64), (9, .int .i64)], tab := [] }
def gLReady : List Leaf → (Ex → St → Option R) → Option R
  | [.i a, .r r, .i n, .i i], K => cond (n == r.length) (cond (i == 0) (cond (a == 0) (cond (Nat.ble r.length 1000) (K (.exit 0) { fr := [(3, .int .i64 (N.lReady (r.map cItem.dec)))], tab := [] }) none) none) none) none
  | _, _ => none
noncomputable def eLReady : Env := env Tryz.prog [] [(3, loopF schLReady gLReady)] [(3, [(0, [3, 7, 8, 9]), (1, [3]), (1000, [2])])]
theorem q_lReadyN (l : List HItem) : evFn eLReady 16 ((aOne (vAgg cLine)).enc l) ([]) some =
 cond ((↑(List.length (List.map (RCod.enc cItem) l)) : Int) == (↑(List.length (List.map (RCod.enc cItem) l)) : Int)) (cond (Nat.ble (List.length (List.map (RCod.enc cItem) l)) (1000 : Nat)) (some { v := V.int IntKind.i64 (N.lReady (List.map (RCod.dec cItem) (List.map (RCod.enc cItem) l))), bx := [] : DRes }) (none)) (none) := by kernel_rfl
theorem q_lReadyNR (a : Int) (r : List (List V)) (n i : Int) (K : Ex → St → Option R) : evRound eLReady 16 3 { fr := [(3, .int .i64 a), (7, .slc [.int .u64, .str, .str, .slc [.str, .int .u8, .int .i64, .str], .str, .int .u64, .int .u8, .bool, .bool] r), (8, .int .i64 n), (9, .int .i64 i)], tab := [] } K =
 cond (ilt i n) (cond (decide ((0 : Int) ≤ i ∧ i < (↑(List.length r) : Int))) (cond (!V.toBool (List.getD (List.getD r (Int.toNat i) []) (7 : Nat) V.undef)) (K Ex.normal { fr := [((3 : Nat), V.int IntKind.i64 (IntKind.wrap IntKind.i64 (a + (1 : Int)))), ((7 : Nat), V.slc [Sh.int IntKind.u64, Sh.str, Sh.str, Sh.slc [Sh.str, Sh.int IntKind.u8, Sh.int IntKind.i64, Sh.str], Sh.str, Sh.int IntKind.u64, Sh.int IntKind.u8, Sh.bool, Sh.bool] r), ((8 : Nat), V.int IntKind.i64 n), ((9 : Nat), V.int IntKind.i64 (IntKind.wrap IntKind.i64 (i + (1 : Int))))], tab := [] : St }) (K Ex.normal { fr := [((3 : Nat), V.int IntKind.i64 a), ((7 : Nat), V.slc [Sh.int IntKind.u64, Sh.str, Sh.str, Sh.slc [Sh.str, Sh.int IntKind.u8, Sh.int IntKind.i64, Sh.str], Sh.str, Sh.int IntKind.u64, Sh.int IntKind.u8, Sh.bool, Sh.bool] r), ((8 : Nat), V.int IntKind.i64 n), ((9 : Nat), V.int IntKind.i64 (IntKind.wrap IntKind.i64 (i + (1 : Int))))], tab := [] : St })) (none)) (K (Ex.exit (0 : Nat)) { fr := [((3 : Nat), V.int IntKind.i64 a)], tab := [] : St }) := by kernel_rfl
theorem ok_lReadyN : FnOk Tryz.prog 16 dLReadyN := by
  refine den_okF (env_ok (TOk.nil _)) (E := eLReady) Tryz.func16 [3] (by kernel_rfl) (one1 (rounds_of rfl fun l K q h => ?_)) fun l _ hp => ?_
  · unfold gLReady at h
    split at h
    · rename_i a r n i
      have h1 := (cond_none h).1; replace h := (cond_none h).2; have h2 := (cond_none h).1; replace h := (cond_none h).2; have h3 := (cond_none h).1; replace h := (cond_none h).2; have h4 := (cond_none h).1; replace h := (cond_none h).2
      have e1 := ieq_of h1
      have e2 := ieq_of h2
      have e3 := ieq_of h3
      subst e1 e2 e3
      have h4 : r.length ≤ 1000 := ble_of h4
      have main := range_ind (E := eLReady) (f := 16) (id := 3) (A := Int) r (fun a i => { fr := [(3, .int .i64 a), (7, .slc [.int .u64, .str, .str, .slc [.str, .int .u8, .int .i64, .str], .str, .int .u64, .int .u8, .bool, .bool] r), (8, .int .i64 r.length), (9, .int .i64 i)], tab := [] }) (fun a i => 0 ≤ a ∧ a ≤ i)
        (fun a rows K => K (.exit 0) { fr := [(3, .int .i64 (a + N.lReady (rows.map cItem.dec)))], tab := [] }) (fun a i ha hi => ?_) (fun a _ => ?_) 0 0 (Int.le_refl _) (by omega) ⟨Int.le_refl _, Int.le_refl _⟩ K q (by rw [Int.zero_add]; exact h)
      · exact main
      · have e : N.lReady ((r.getD i [] :: r.drop (i + 1)).map cItem.dec) = cond (cItem.dec (r.getD i [])).lent (N.lReady ((r.drop (i + 1)).map cItem.dec)) (1 + N.lReady ((r.drop (i + 1)).map cItem.dec)) := rfl
        rw [e]
        cases hc : (cItem.dec (r.getD i [])).lent with
        | true =>
          refine .inl ⟨a, ⟨ha.1, by omega⟩, fun K => ?_, fun K => rfl⟩
          rw [q_lReadyNR]
          have hc : V.toBool (List.getD (List.getD r i []) 7 V.undef) = true := hc
          simp (disch := omega) only [evs, Int.toNat_natCast, hc, Bool.not_true]
        | false =>
          refine .inl ⟨a + 1, ⟨by omega, by omega⟩, fun K => ?_, fun K => by rw [Int.add_assoc]; rfl⟩
          rw [q_lReadyNR]
          have hc : V.toBool (List.getD (List.getD r i []) 7 V.undef) = false := hc
          simp (disch := omega) only [evs, Int.toNat_natCast, hc, Bool.not_false]
      · refine ⟨.exit 0, { fr := [(3, .int .i64 (a + 0))], tab := [] }, by simp, fun K => ?_, fun K => rfl⟩
        rw [q_lReadyNR, Int.add_zero]
        simp (disch := omega) only [evs]
    · cases h
  · have hp : Nat.ble l.length 1000 = true := hp
    refine (q_lReadyN l).trans ?_
    simp only [List.length_map, dec_encs, hp, beq_self_eq_true, cond_true]
    rfl
def schLAll : SSch := { fr := [(3, .own 10000), (7, .slc [.int .u64, .str, .str, .slc [.str, .int .u8, .int .i64, .str], .str, .int .u64, .int .u8, .bool, .bool]), (8, .int .i64), (9, .int .i64)], tab := [(10000, .sl [.int .u64, .str, .str, .slc [.str, .int .u8, .int .i64, .str], .str, .int .u64, .int .u8, .bool, .bool])] }
def gLAll : List Leaf → (Ex → St → Option R) → Option R
  | [.r r7, .i i8, .i i9, .r rx0], K => cond (i8 == r7.length) (cond (i9 == 0) (cond (Nat.beq rx0.length 0) (cond (Nat.ble r7.length 1000) (cond ((r7.map cItem.dec).all smallI)
      (K (.exit 0) { fr := [(3, .own 10000 0)], tab := [(10000, .sl [.int .u64, .str, .str, .slc [.str, .int .u8, .int .i64, .str], .str, .int .u64, .int .u8, .bool, .bool] ((r7.map cItem.dec).map cItem.enc) 0)] }) none) none) none) none) none
  | _, _ => none
noncomputable def eLAll : Env := env Tryz.prog [(54, dIClone)] [(3, loopF schLAll gLAll)] [(3, [(0, [3, 7, 8, 9]), (1, [3]), (1000, [2])])]
theorem q_lAll (l : List HItem) : evFn eLAll 15 ((aOne (vAgg cLine)).enc l) ([]) some =
 cond ((↑(List.length (List.map (RCod.enc cItem) l)) : Int) == (↑(List.length (List.map (RCod.enc cItem) l)) : Int)) (cond (Nat.ble (List.length (List.map (RCod.enc cItem) l)) (1000 : Nat)) (cond (List.all (List.map (RCod.dec cItem) (List.map (RCod.enc cItem) l)) smallI) (some { v := V.slc [Sh.int IntKind.u64, Sh.str, Sh.str, Sh.slc [Sh.str, Sh.int IntKind.u8, Sh.int IntKind.i64, Sh.str], Sh.str, Sh.int IntKind.u64, Sh.int IntKind.u8, Sh.bool, Sh.bool] (List.map (RCod.enc cItem) (List.map (RCod.dec cItem) (List.map (RCod.enc cItem) l))), bx := [] : DRes }) (none)) (none)) (none) := by kernel_rfl
theorem q_lAllR (r7 : List (List V)) (i8 : Int) (i9 : Int) (rx0 : List (List V)) (K : Ex → St → Option R) : evRound eLAll 15 3 { fr := [(3, .own 10000 0), (7, .slc [.int .u64, .str, .str, .slc [.str, .int .u8, .int .i64, .str], .str, .int .u64, .int .u8, .bool, .bool] r7), (8, .int .i64 i8), (9, .int .i64 i9)], tab := [(10000, .sl [.int .u64, .str, .str, .slc [.str, .int .u8, .int .i64, .str], .str, .int .u64, .int .u8, .bool, .bool] rx0 0)] } K =
 cond (ilt i9 i8) (cond (decide ((0 : Int) ≤ i9 ∧ i9 < (↑(List.length r7) : Int))) (cond (smallI { mail := { id := V.toInt (List.getD (List.getD r7 (Int.toNat i9) []) (0 : Nat) V.undef), shop := V.toStr (List.getD (List.getD r7 (Int.toNat i9) []) (1 : Nat) V.undef), key := V.toStr (List.getD (List.getD r7 (Int.toNat i9) []) (2 : Nat) V.undef), head := List.map (fun r => { key := V.toStr (List.getD r (0 : Nat) V.undef), kind := V.toInt (List.getD r (1 : Nat) V.undef), num := V.toInt (List.getD r (2 : Nat) V.undef), text := V.toStr (List.getD r (3 : Nat) V.undef) : HPair }) (V.toRows (List.getD (List.getD r7 (Int.toNat i9) []) (3 : Nat) V.undef)), body := V.toStr (List.getD (List.getD r7 (Int.toNat i9) []) (4 : Nat) V.undef), due := V.toInt (List.getD (List.getD r7 (Int.toNat i9) []) (5 : Nat) V.undef), hops := V.toInt (List.getD (List.getD r7 (Int.toNat i9) []) (6 : Nat) V.undef) : HMail }, lent := V.toBool (List.getD (List.getD r7 (Int.toNat i9) []) (7 : Nat) V.undef), again := V.toBool (List.getD (List.getD r7 (Int.toNat i9) []) (8 : Nat) V.undef) : HItem }) (cond (decide ((List.length rx0 + (1 : Nat)) * (104 : Nat) ≤ (140737488355328 : Nat))) (K Ex.normal { fr := [((3 : Nat), V.own (10000 : Nat) (0 : Nat)), ((7 : Nat), V.slc [Sh.int IntKind.u64, Sh.str, Sh.str, Sh.slc [Sh.str, Sh.int IntKind.u8, Sh.int IntKind.i64, Sh.str], Sh.str, Sh.int IntKind.u64, Sh.int IntKind.u8, Sh.bool, Sh.bool] r7), ((8 : Nat), V.int IntKind.i64 i8), ((9 : Nat), V.int IntKind.i64 (IntKind.wrap IntKind.i64 (i9 + (1 : Int))))], tab := [((10000 : Nat), Box.sl [Sh.int IntKind.u64, Sh.str, Sh.str, Sh.slc [Sh.str, Sh.int IntKind.u8, Sh.int IntKind.i64, Sh.str], Sh.str, Sh.int IntKind.u64, Sh.int IntKind.u8, Sh.bool, Sh.bool] (rx0 ++ [[V.int IntKind.u64 (V.toInt (List.getD (List.getD r7 (Int.toNat i9) []) (0 : Nat) V.undef)), V.str (V.toStr (List.getD (List.getD r7 (Int.toNat i9) []) (1 : Nat) V.undef)), V.str (V.toStr (List.getD (List.getD r7 (Int.toNat i9) []) (2 : Nat) V.undef)), V.slc [Sh.str, Sh.int IntKind.u8, Sh.int IntKind.i64, Sh.str] (List.map (fun p => [V.str (HPair.key p), V.int IntKind.u8 (HPair.kind p), V.int IntKind.i64 (HPair.num p), V.str (HPair.text p)]) (List.map (fun r => { key := V.toStr (List.getD r (0 : Nat) V.undef), kind := V.toInt (List.getD r (1 : Nat) V.undef), num := V.toInt (List.getD r (2 : Nat) V.undef), text := V.toStr (List.getD r (3 : Nat) V.undef) : HPair }) (V.toRows (List.getD (List.getD r7 (Int.toNat i9) []) (3 : Nat) V.undef)))), V.str (V.toStr (List.getD (List.getD r7 (Int.toNat i9) []) (4 : Nat) V.undef)), V.int IntKind.u64 (V.toInt (List.getD (List.getD r7 (Int.toNat i9) []) (5 : Nat) V.undef)), V.int IntKind.u8 (V.toInt (List.getD (List.getD r7 (Int.toNat i9) []) (6 : Nat) V.undef)), V.bool (V.toBool (List.getD (List.getD r7 (Int.toNat i9) []) (7 : Nat) V.undef)), V.bool (V.toBool (List.getD (List.getD r7 (Int.toNat i9) []) (8 : Nat) V.undef))]]) (0 : Nat))] : St }) (none)) (none)) (none)) (K (Ex.exit (0 : Nat)) { fr := [((3 : Nat), V.own (10000 : Nat) (0 : Nat))], tab := [((10000 : Nat), Box.sl [Sh.int IntKind.u64, Sh.str, Sh.str, Sh.slc [Sh.str, Sh.int IntKind.u8, Sh.int IntKind.i64, Sh.str], Sh.str, Sh.int IntKind.u64, Sh.int IntKind.u8, Sh.bool, Sh.bool] rx0 (0 : Nat))] : St }) := by kernel_rfl
theorem ok_lAll : FnOk Tryz.prog 15 dLAll := by
  refine den_okF (env_ok ((TOk.nil _).cons ok_iClone)) (E := eLAll) Tryz.func15 [3] (by kernel_rfl) (one1 (rounds_of rfl fun l K q h => ?_)) fun l _ hp => ?_
  · unfold gLAll at h
    split at h
    · rename_i r n i o
      have h1 := (cond_none h).1; replace h := (cond_none h).2; have h2 := (cond_none h).1; replace h := (cond_none h).2; have h3 := (cond_none h).1; replace h := (cond_none h).2; have h4 := (cond_none h).1; replace h := (cond_none h).2; have h5 := (cond_none h).1; replace h := (cond_none h).2
      have e1 := ieq_of h1
      have e2 := ieq_of h2
      have e3 := List.eq_nil_of_length_eq_zero (nbeq_of h3)
      subst e1 e2 e3
      have h4 : r.length ≤ 1000 := ble_of h4
      have main := range_ind (E := eLAll) (f := 15) (id := 3) (A := Unit) r (fun _ i => { fr := [(3, .own 10000 0), (7, .slc [.int .u64, .str, .str, .slc [.str, .int .u8, .int .i64, .str], .str, .int .u64, .int .u8, .bool, .bool] r), (8, .int .i64 r.length), (9, .int .i64 i)], tab := [(10000, .sl [.int .u64, .str, .str, .slc [.str, .int .u8, .int .i64, .str], .str, .int .u64, .int .u8, .bool, .bool] (((r.take i.toNat).map cItem.dec).map cItem.enc) 0)] }) (fun _ _ => True)
        (fun _ _ K => K (.exit 0) { fr := [(3, .own 10000 0)], tab := [(10000, .sl [.int .u64, .str, .str, .slc [.str, .int .u8, .int .i64, .str], .str, .int .u64, .int .u8, .bool, .bool] ((r.map cItem.dec).map cItem.enc) 0)] }) (fun _ i _ hi => ?_) (fun _ _ => ?_) () 0 (Int.le_refl _) (by omega) trivial K q (by assumption)
      · exact main
      · refine .inl ⟨(), trivial, fun K => ?_, fun K => rfl⟩
        rw [q_lAllR]
        have hl : (((r.take i).map cItem.dec).map cItem.enc).length = i := by simp; omega
        have ht := take_rowsI hi
        have hs := all_rowI h5 hi
        simp (disch := omega) only [evs, Int.toNat_natCast, fold_item, fold_itemR, hs, hl]
        rw [← ht]
        rfl
      · refine ⟨.exit 0, _, by simp, fun K => ?_, fun K => rfl⟩
        rw [q_lAllR]
        simp (disch := omega) only [evs, Int.toNat_natCast, List.take_length]
    · cases h
  · refine (q_lAll l).trans ?_
    have hp : smallL l = true := hp
    obtain ⟨_, h1, h2⟩ := smallL_of hp
    show _ = some (⟨.slc [.int .u64, .str, .str, .slc [.str, .int .u8, .int .i64, .str], .str, .int .u64, .int .u8, .bool, .bool] (l.map cItem.enc), [], []⟩ : DRes)
    simp only [List.length_map, dec_encs, beq_self_eq_true, cond_true, h1, h2]
namespace N
def wakes : List HItem → Nat → List HItem → List HItem
  | [], _, l => l
  | x :: r, k, l => wakes r (k + 1) (cond x.lent (setAt backI l k) l)
end N
theorem wakes_eq : ∀ (r pre : List HItem), N.wakes r pre.length (pre ++ r) = pre ++ N.lWake r
  | [], pre => rfl
  | x :: r, pre => by
    unfold N.wakes
    have hg : (pre ++ x :: r).getD pre.length item0 = x := by
      rw [List.getD_eq_getElem?_getD, List.getElem?_append_right (Nat.le_refl _)]
      simp
    have e : cond x.lent (N.setAt N.backI (pre ++ x :: r) pre.length) (pre ++ x :: r) = (pre ++ [N.wakeI x]) ++ r := by
      unfold N.wakeI
      cases x.lent with
      | true =>
        show N.setAt N.backI (pre ++ x :: r) pre.length = _
        unfold N.setAt
        rw [hg]
        simp [List.set_append]
      | false => simp
    have := wakes_eq r (pre ++ [N.wakeI x])
    rw [List.length_append] at this
    rw [e]
    rw [show pre.length + 1 = pre.length + [N.wakeI x].length from rfl, this, List.append_assoc]
    rfl
def schLWake : SSch := { fr := [(1, .ptr 10000 0 0), (2, .ptr 10001 0 0), (6, .slc [.int .u64, .str, .str, .slc [.str, .int .u8, .int .i64, .str], .str, .int .u64, .int .u8, .bool, .bool]), (7, .int .i64), (8, .int .i64)], tab := [(10000, .var [.slc [.int .u64, .str, .str, .slc [.str, .int .u8, .int .i64, .str], .str, .int .u64, .int .u8, .bool, .bool]]), (10001, .var [.slc [.int .u64, .str, .str, .slc [.str, .int .u8, .int .i64, .str], .str, .int .u64, .int .u8, .bool, .bool]])] }
def gLWake : List Leaf → (Ex → St → Option R) → Option R
  | [.r r, .i n, .i i, .r a, .r b], K => cond (n == r.length) (cond (i == 0) (cond (Nat.beq a.length r.length) (cond (Nat.ble r.length 1000)
      (K (.exit 0) { fr := [(1, .ptr 10000 0 0 0), (2, .ptr 10001 0 0 0)], tab := [(10000, .var [.slc [.int .u64, .str, .str, .slc [.str, .int .u8, .int .i64, .str], .str, .int .u64, .int .u8, .bool, .bool] (cond ((r.map cItem.dec).any fun x => x.lent) ((N.wakes (r.map cItem.dec) 0 (a.map cItem.dec)).map cItem.enc) a)]), (10001, .var [.slc [.int .u64, .str, .str, .slc [.str, .int .u8, .int .i64, .str], .str, .int .u64, .int .u8, .bool, .bool] b])] }) none) none) none) none
  | _, _ => none
noncomputable def eLWake : Env := { env Tryz.prog [(65, dWith 66 N.backI)] [(2, loopF schLWake gLWake)] [(2, [(0, [1, 2, 6, 7, 8]), (1, [1, 2]), (1000, [2])])] with fz := true }
theorem q_lWake (l : List HItem) : evFn eLWake 27 ((aOne (vAgg cLine)).enc l) ([]) some =
 cond ((↑(List.length (List.map (RCod.enc cItem) l)) : Int) == (↑(List.length (List.map (RCod.enc cItem) l)) : Int)) (cond (Nat.beq (List.length (List.map (RCod.enc cItem) l)) (List.length (List.map (RCod.enc cItem) l))) (cond (Nat.ble (List.length (List.map (RCod.enc cItem) l)) (1000 : Nat)) (some { v := V.agg [V.slc [Sh.int IntKind.u64, Sh.str, Sh.str, Sh.slc [Sh.str, Sh.int IntKind.u8, Sh.int IntKind.i64, Sh.str], Sh.str, Sh.int IntKind.u64, Sh.int IntKind.u8, Sh.bool, Sh.bool] (bif List.any (List.map (RCod.dec cItem) (List.map (RCod.enc cItem) l)) fun x => HItem.lent x then List.map (RCod.enc cItem) (N.wakes (List.map (RCod.dec cItem) (List.map (RCod.enc cItem) l)) (0 : Nat) (List.map (RCod.dec cItem) (List.map (RCod.enc cItem) l))) else List.map (RCod.enc cItem) l)], bx := [] : DRes }) (none)) (none)) (none) := by kernel_rfl
theorem q_lWakeR (r : List (List V)) (n i : Int) (a b : List (List V)) (K : Ex → St → Option R) : evRound eLWake 27 2 { fr := [(1, .ptr 10000 0 0 0), (2, .ptr 10001 0 0 0), (6, .slc [.int .u64, .str, .str, .slc [.str, .int .u8, .int .i64, .str], .str, .int .u64, .int .u8, .bool, .bool] r), (7, .int .i64 n), (8, .int .i64 i)], tab := [(10000, .var [.slc [.int .u64, .str, .str, .slc [.str, .int .u8, .int .i64, .str], .str, .int .u64, .int .u8, .bool, .bool] a]), (10001, .var [.slc [.int .u64, .str, .str, .slc [.str, .int .u8, .int .i64, .str], .str, .int .u64, .int .u8, .bool, .bool] b])] } K =
 cond (ilt i n) (cond (decide ((0 : Int) ≤ i ∧ i < (↑(List.length r) : Int))) (cond (V.toBool (List.getD (List.getD r (Int.toNat i) []) (7 : Nat) V.undef)) (cond (goodAt (List.map (RCod.dec cItem) a) i) (K Ex.normal { fr := [((1 : Nat), V.ptr (10000 : Nat) (0 : Nat) (0 : Nat) (0 : Nat)), ((2 : Nat), V.ptr (10001 : Nat) (0 : Nat) (0 : Nat) (0 : Nat)), ((6 : Nat), V.slc [Sh.int IntKind.u64, Sh.str, Sh.str, Sh.slc [Sh.str, Sh.int IntKind.u8, Sh.int IntKind.i64, Sh.str], Sh.str, Sh.int IntKind.u64, Sh.int IntKind.u8, Sh.bool, Sh.bool] r), ((7 : Nat), V.int IntKind.i64 n), ((8 : Nat), V.int IntKind.i64 (IntKind.wrap IntKind.i64 (i + (1 : Int))))], tab := [((10000 : Nat), Box.var [V.slc [Sh.int IntKind.u64, Sh.str, Sh.str, Sh.slc [Sh.str, Sh.int IntKind.u8, Sh.int IntKind.i64, Sh.str], Sh.str, Sh.int IntKind.u64, Sh.int IntKind.u8, Sh.bool, Sh.bool] (List.map (RCod.enc cItem) (N.setAt N.backI (List.map (RCod.dec cItem) a) (Int.toNat i)))]), ((10001 : Nat), Box.var [V.slc [Sh.int IntKind.u64, Sh.str, Sh.str, Sh.slc [Sh.str, Sh.int IntKind.u8, Sh.int IntKind.i64, Sh.str], Sh.str, Sh.int IntKind.u64, Sh.int IntKind.u8, Sh.bool, Sh.bool] b])] : St }) (none)) (K Ex.normal { fr := [((1 : Nat), V.ptr (10000 : Nat) (0 : Nat) (0 : Nat) (0 : Nat)), ((2 : Nat), V.ptr (10001 : Nat) (0 : Nat) (0 : Nat) (0 : Nat)), ((6 : Nat), V.slc [Sh.int IntKind.u64, Sh.str, Sh.str, Sh.slc [Sh.str, Sh.int IntKind.u8, Sh.int IntKind.i64, Sh.str], Sh.str, Sh.int IntKind.u64, Sh.int IntKind.u8, Sh.bool, Sh.bool] r), ((7 : Nat), V.int IntKind.i64 n), ((8 : Nat), V.int IntKind.i64 (IntKind.wrap IntKind.i64 (i + (1 : Int))))], tab := [((10000 : Nat), Box.var [V.slc [Sh.int IntKind.u64, Sh.str, Sh.str, Sh.slc [Sh.str, Sh.int IntKind.u8, Sh.int IntKind.i64, Sh.str], Sh.str, Sh.int IntKind.u64, Sh.int IntKind.u8, Sh.bool, Sh.bool] a]), ((10001 : Nat), Box.var [V.slc [Sh.int IntKind.u64, Sh.str, Sh.str, Sh.slc [Sh.str, Sh.int IntKind.u8, Sh.int IntKind.i64, Sh.str], Sh.str, Sh.int IntKind.u64, Sh.int IntKind.u8, Sh.bool, Sh.bool] b])] : St })) (none)) (K (Ex.exit (0 : Nat)) { fr := [((1 : Nat), V.ptr (10000 : Nat) (0 : Nat) (0 : Nat) (0 : Nat)), ((2 : Nat), V.ptr (10001 : Nat) (0 : Nat) (0 : Nat) (0 : Nat))], tab := [((10000 : Nat), Box.var [V.slc [Sh.int IntKind.u64, Sh.str, Sh.str, Sh.slc [Sh.str, Sh.int IntKind.u8, Sh.int IntKind.i64, Sh.str], Sh.str, Sh.int IntKind.u64, Sh.int IntKind.u8, Sh.bool, Sh.bool] a]), ((10001 : Nat), Box.var [V.slc [Sh.int IntKind.u64, Sh.str, Sh.str, Sh.slc [Sh.str, Sh.int IntKind.u8, Sh.int IntKind.i64, Sh.str], Sh.str, Sh.int IntKind.u64, Sh.int IntKind.u8, Sh.bool, Sh.bool] b])] : St }) := by kernel_rfl
theorem wakes_none : ∀ (r : List HItem) (k : Nat) (l : List HItem), (r.any fun x => x.lent) = false → N.wakes r k l = l
  | [], _, _, _ => rfl
  | x :: r, k, l, h => by
    rw [List.any_cons, Bool.or_eq_false_iff] at h
    unfold N.wakes
    rw [h.1]
    exact wakes_none r (k + 1) l h.2
theorem ok_lWake2 : RoundsOk eLWake 27 2 := by
  refine rounds_of rfl fun l K q h => ?_
  unfold gLWake at h
  split at h
  · rename_i r n i a b
    have h1 := (cond_none h).1; replace h := (cond_none h).2; have h2 := (cond_none h).1; replace h := (cond_none h).2; have h3 := (cond_none h).1; replace h := (cond_none h).2; have h4 := (cond_none h).1; replace h := (cond_none h).2
    have e1 := ieq_of h1
    have e2 := ieq_of h2
    have e3 := nbeq_of h3
    subst e1 e2
    have h4 : r.length ≤ 1000 := ble_of h4
    have main := loop_ind (E := eLWake) (f := 27) (id := 2) (σ := Nat × List (List V)) (fun s => { fr := [(1, .ptr 10000 0 0 0), (2, .ptr 10001 0 0 0), (6, .slc [.int .u64, .str, .str, .slc [.str, .int .u8, .int .i64, .str], .str, .int .u64, .int .u8, .bool, .bool] r), (7, .int .i64 r.length), (8, .int .i64 (s.1 : Int))], tab := [(10000, .var [.slc [.int .u64, .str, .str, .slc [.str, .int .u8, .int .i64, .str], .str, .int .u64, .int .u8, .bool, .bool] s.2]), (10001, .var [.slc [.int .u64, .str, .str, .slc [.str, .int .u8, .int .i64, .str], .str, .int .u64, .int .u8, .bool, .bool] b])] })
      (fun s => s.1 ≤ r.length ∧ s.2.length = r.length) (fun s => r.length - s.1)
      (fun s K => K (.exit 0) { fr := [(1, .ptr 10000 0 0 0), (2, .ptr 10001 0 0 0)], tab := [(10000, .var [.slc [.int .u64, .str, .str, .slc [.str, .int .u8, .int .i64, .str], .str, .int .u64, .int .u8, .bool, .bool] (cond (((r.drop s.1).map cItem.dec).any fun x => x.lent) ((N.wakes ((r.drop s.1).map cItem.dec) s.1 (s.2.map cItem.dec)).map cItem.enc) s.2)]), (10001, .var [.slc [.int .u64, .str, .str, .slc [.str, .int .u8, .int .i64, .str], .str, .int .u64, .int .u8, .bool, .bool] b])] })
      (fun s hs => ?_) (0, a) ⟨Nat.zero_le _, e3⟩ K q (by assumption)
    · exact main
    · obtain ⟨i, a⟩ := s
      obtain ⟨k1, k2⟩ := hs
      simp only at k1 k2 ⊢
      by_cases hl : i < r.length
      · rw [drop_decI hl, List.any_cons]
        cases hc : (cItem.dec (r.getD i [])).lent with
        | true =>
          have hc' : V.toBool (List.getD (List.getD r i []) 7 V.undef) = true := hc
          have ga : goodAt (a.map cItem.dec) i = true := by
            unfold goodAt
            rw [List.length_map, ile_t (by omega), ilt_t (by omega), ble_t (by omega)]; rfl
          refine .inl ⟨(i + 1, (N.setAt N.backI (a.map cItem.dec) i).map cItem.enc), ⟨hl, by simp only [List.length_map, setAt_len]; exact k2⟩, by simp only; omega, fun K => ?_, fun K => ?_⟩
          · rw [q_lWakeR]
            simp (disch := omega) only [evs, Int.toNat_natCast, hc', ga]
            rfl
          · have e : N.wakes (cItem.dec (r.getD i []) :: (r.drop (i + 1)).map cItem.dec) i (a.map cItem.dec) = N.wakes ((r.drop (i + 1)).map cItem.dec) (i + 1) (N.setAt N.backI (a.map cItem.dec) i) := by
              show N.wakes _ _ (cond (cItem.dec (r.getD i [])).lent _ _) = _
              rw [hc]; rfl
            rw [e, Bool.true_or, cond_true]
            simp only [dec_encs]
            cases hn : ((r.drop (i + 1)).map cItem.dec).any fun x => x.lent with
            | true => rfl
            | false => rw [wakes_none _ _ _ hn]; rfl
        | false =>
          have hc' : V.toBool (List.getD (List.getD r i []) 7 V.undef) = false := hc
          refine .inl ⟨(i + 1, a), ⟨hl, k2⟩, by simp only; omega, fun K => ?_, fun K => ?_⟩
          · rw [q_lWakeR]
            simp (disch := omega) only [evs, Int.toNat_natCast, hc']
            rfl
          · have e : N.wakes (cItem.dec (r.getD i []) :: (r.drop (i + 1)).map cItem.dec) i (a.map cItem.dec) = N.wakes ((r.drop (i + 1)).map cItem.dec) (i + 1) (a.map cItem.dec) := by
              show N.wakes _ _ (cond (cItem.dec (r.getD i [])).lent _ _) = _
              rw [hc]; rfl
            rw [e, Bool.false_or]
      · have ei : i = r.length := by omega
        subst ei
        refine .inr ⟨.exit 0, { fr := [(1, .ptr 10000 0 0 0), (2, .ptr 10001 0 0 0)], tab := [(10000, .var [.slc [.int .u64, .str, .str, .slc [.str, .int .u8, .int .i64, .str], .str, .int .u64, .int .u8, .bool, .bool] a]), (10001, .var [.slc [.int .u64, .str, .str, .slc [.str, .int .u8, .int .i64, .str], .str, .int .u64, .int .u8, .bool, .bool] b])] }, by simp, fun K => ?_, fun K => ?_⟩
        · rw [q_lWakeR]
          simp (disch := omega) only [evs]
        · rw [List.drop_eq_nil_of_le (Nat.le_refl _)]; rfl
  · cases h
theorem ok_lWake : FnOk Tryz.prog 27 dLWake := by
  refine den_okF (env_ok ((TOk.nil _).cons ok_withW)) (E := eLWake) Tryz.func27 [2] (by kernel_rfl) (one1 ok_lWake2) fun l _ hp => ?_
  have hp : Nat.ble l.length 1000 = true := hp
  refine (q_lWake l).trans ?_
  simp only [List.length_map, dec_encs, hp, beq_self_eq_true, cond_true, Nat.beq_refl]
  have e := wakes_eq l []
  show _ = some (⟨.agg [.slc [.int .u64, .str, .str, .slc [.str, .int .u8, .int .i64, .str], .str, .int .u64, .int .u8, .bool, .bool] ((N.lWake l).map cItem.enc)], [], []⟩ : DRes)
  have e : N.wakes l 0 l = N.lWake l := e
  rw [e]
  cases hn : l.any fun x => x.lent with
  | true => rfl
  | false =>
    have := wakes_none l 0 l hn
    rw [e] at this
    rw [this]; rfl
end Go.Ev

/- The document's lines: putting, making, sameness: lemmas. -/
namespace Go.Ev
open Go Go.Proofs
set_option maxRecDepth 100000
-- FOLD

def N.geE (id : Int) (l : List HItem) (e : Int) : Int := cond (cond (e == 0) (l.any fun y => ile id y.mail.id) false) 13 e
def dRPut : Den := den (aCons (vSl cItem) (aOne (vAgg cItem))) bNil (oTup (aCons (vSl cItem) (aOne (vInt .i64)))) (fun a _ => Nat.ble a.1.length 1000) fun a _ => (N.rPut a.1 a.2, ())
def schRPut : SSch := { fr := [(0, .slc [.int .u64, .str, .str, .slc [.str, .int .u8, .int .i64, .str], .str, .int .u64, .int .u8, .bool, .bool]), (3, .ptr 10000 0 0), (6, .int .i64), (13, .slc [.int .u64, .str, .str, .slc [.str, .int .u8, .int .i64, .str], .str, .int .u64, .int .u8, .bool, .bool]), (14, .int .i64), (15, .int .i64)], tab := [(10000, .var [.int .u64, .str, .str, .slc [.str, .int .u8, .int .i64, .str], .str, .int .u64, .int .u8, .bool, .bool])] }
def gRPut : List Leaf → (Ex → St → Option R) → Option R
  | [.r l0, .i e, .r r, .i n, .i i, .i id, .s s1, .s s2, .r hd, .s s3, .i due, .i hops, .b b1, .b b2], K => cond (n == r.length) (cond (i == 0) (cond (Nat.ble r.length 1000)
      (K (.exit 0) { fr := [(0, .slc [.int .u64, .str, .str, .slc [.str, .int .u8, .int .i64, .str], .str, .int .u64, .int .u8, .bool, .bool] l0), (3, .ptr 10000 0 0 0), (6, .int .i64 (N.geE id (r.map cItem.dec) e))], tab := [(10000, .var [.int .u64 id, .str s1, .str s2, .slc [.str, .int .u8, .int .i64, .str] hd, .str s3, .int .u64 due, .int .u8 hops, .bool b1, .bool b2])] }) none) none) none
  | _, _ => none
noncomputable def eRPut : Env := env Tryz.prog [(111, dMailCheck)] [(3, loopF schRPut gRPut)] [(3, [(0, [0, 3, 6, 13, 14, 15]), (1, [0, 3, 6]), (1000, [4, 5])])]
theorem q_rPut (l : List HItem) (x : HItem) : evFn eRPut 61 ((aCons (vSl cItem) (aOne (vAgg cItem))).enc (l, x)) ([]) some =
 cond ((↑(List.length (List.map (RCod.enc cItem) l)) : Int) == (↑(List.length (List.map (RCod.enc cItem) l)) : Int)) (cond (Nat.ble (List.length (List.map (RCod.enc cItem) l)) (1000 : Nat)) (cond (N.geE (HMail.id (HItem.mail x)) (List.map (RCod.dec cItem) (List.map (RCod.enc cItem) l)) (N.mailCheck { id := HMail.id (HItem.mail x), shop := HMail.shop (HItem.mail x), key := HMail.key (HItem.mail x), head := List.map (fun r => { key := V.toStr (List.getD r (0 : Nat) V.undef), kind := V.toInt (List.getD r (1 : Nat) V.undef), num := V.toInt (List.getD r (2 : Nat) V.undef), text := V.toStr (List.getD r (3 : Nat) V.undef) : HPair }) (List.map (fun p => [V.str (HPair.key p), V.int IntKind.u8 (HPair.kind p), V.int IntKind.i64 (HPair.num p), V.str (HPair.text p)]) (HMail.head (HItem.mail x))), body := HMail.body (HItem.mail x), due := HMail.due (HItem.mail x), hops := HMail.hops (HItem.mail x) : HMail }) == (0 : Int)) (cond (ile (64 : Int) (↑(List.length (List.map (RCod.enc cItem) l)) : Int)) (some { v := V.tup [V.slc [Sh.int IntKind.u64, Sh.str, Sh.str, Sh.slc [Sh.str, Sh.int IntKind.u8, Sh.int IntKind.i64, Sh.str], Sh.str, Sh.int IntKind.u64, Sh.int IntKind.u8, Sh.bool, Sh.bool] (List.map (RCod.enc cItem) l), V.int IntKind.i64 (12 : Int)], bx := [] : DRes }) (cond (N.geE (HMail.id (HItem.mail x)) (List.map (RCod.dec cItem) (List.map (RCod.enc cItem) l)) (N.mailCheck { id := HMail.id (HItem.mail x), shop := HMail.shop (HItem.mail x), key := HMail.key (HItem.mail x), head := List.map (fun r => { key := V.toStr (List.getD r (0 : Nat) V.undef), kind := V.toInt (List.getD r (1 : Nat) V.undef), num := V.toInt (List.getD r (2 : Nat) V.undef), text := V.toStr (List.getD r (3 : Nat) V.undef) : HPair }) (List.map (fun p => [V.str (HPair.key p), V.int IntKind.u8 (HPair.kind p), V.int IntKind.i64 (HPair.num p), V.str (HPair.text p)]) (HMail.head (HItem.mail x))), body := HMail.body (HItem.mail x), due := HMail.due (HItem.mail x), hops := HMail.hops (HItem.mail x) : HMail }) != (0 : Int)) (some { v := V.tup [V.slc [Sh.int IntKind.u64, Sh.str, Sh.str, Sh.slc [Sh.str, Sh.int IntKind.u8, Sh.int IntKind.i64, Sh.str], Sh.str, Sh.int IntKind.u64, Sh.int IntKind.u8, Sh.bool, Sh.bool] (List.map (RCod.enc cItem) l), V.int IntKind.i64 (N.geE (HMail.id (HItem.mail x)) (List.map (RCod.dec cItem) (List.map (RCod.enc cItem) l)) (N.mailCheck { id := HMail.id (HItem.mail x), shop := HMail.shop (HItem.mail x), key := HMail.key (HItem.mail x), head := List.map (fun r => { key := V.toStr (List.getD r (0 : Nat) V.undef), kind := V.toInt (List.getD r (1 : Nat) V.undef), num := V.toInt (List.getD r (2 : Nat) V.undef), text := V.toStr (List.getD r (3 : Nat) V.undef) : HPair }) (List.map (fun p => [V.str (HPair.key p), V.int IntKind.u8 (HPair.kind p), V.int IntKind.i64 (HPair.num p), V.str (HPair.text p)]) (HMail.head (HItem.mail x))), body := HMail.body (HItem.mail x), due := HMail.due (HItem.mail x), hops := HMail.hops (HItem.mail x) : HMail }))], bx := [] : DRes }) (cond (decide (List.length (List.map (RCod.enc cItem) l) * (104 : Nat) ≤ (140737488355328 : Nat))) (cond (decide ((List.length (List.map (RCod.enc cItem) l) + (1 : Nat)) * (104 : Nat) ≤ (140737488355328 : Nat))) (some { v := V.tup [V.slc [Sh.int IntKind.u64, Sh.str, Sh.str, Sh.slc [Sh.str, Sh.int IntKind.u8, Sh.int IntKind.i64, Sh.str], Sh.str, Sh.int IntKind.u64, Sh.int IntKind.u8, Sh.bool, Sh.bool] (List.map (RCod.enc cItem) l ++ [[V.int IntKind.u64 (HMail.id (HItem.mail x)), V.str (HMail.shop (HItem.mail x)), V.str (HMail.key (HItem.mail x)), V.slc [Sh.str, Sh.int IntKind.u8, Sh.int IntKind.i64, Sh.str] (List.map (fun p => [V.str (HPair.key p), V.int IntKind.u8 (HPair.kind p), V.int IntKind.i64 (HPair.num p), V.str (HPair.text p)]) (HMail.head (HItem.mail x))), V.str (HMail.body (HItem.mail x)), V.int IntKind.u64 (HMail.due (HItem.mail x)), V.int IntKind.u8 (HMail.hops (HItem.mail x)), V.bool (HItem.lent x), V.bool (HItem.again x)]]), V.int IntKind.i64 (0 : Int)], bx := [] : DRes }) (none)) (none)))) (cond (N.geE (HMail.id (HItem.mail x)) (List.map (RCod.dec cItem) (List.map (RCod.enc cItem) l)) (N.mailCheck { id := HMail.id (HItem.mail x), shop := HMail.shop (HItem.mail x), key := HMail.key (HItem.mail x), head := List.map (fun r => { key := V.toStr (List.getD r (0 : Nat) V.undef), kind := V.toInt (List.getD r (1 : Nat) V.undef), num := V.toInt (List.getD r (2 : Nat) V.undef), text := V.toStr (List.getD r (3 : Nat) V.undef) : HPair }) (List.map (fun p => [V.str (HPair.key p), V.int IntKind.u8 (HPair.kind p), V.int IntKind.i64 (HPair.num p), V.str (HPair.text p)]) (HMail.head (HItem.mail x))), body := HMail.body (HItem.mail x), due := HMail.due (HItem.mail x), hops := HMail.hops (HItem.mail x) : HMail }) != (0 : Int)) (some { v := V.tup [V.slc [Sh.int IntKind.u64, Sh.str, Sh.str, Sh.slc [Sh.str, Sh.int IntKind.u8, Sh.int IntKind.i64, Sh.str], Sh.str, Sh.int IntKind.u64, Sh.int IntKind.u8, Sh.bool, Sh.bool] (List.map (RCod.enc cItem) l), V.int IntKind.i64 (N.geE (HMail.id (HItem.mail x)) (List.map (RCod.dec cItem) (List.map (RCod.enc cItem) l)) (N.mailCheck { id := HMail.id (HItem.mail x), shop := HMail.shop (HItem.mail x), key := HMail.key (HItem.mail x), head := List.map (fun r => { key := V.toStr (List.getD r (0 : Nat) V.undef), kind := V.toInt (List.getD r (1 : Nat) V.undef), num := V.toInt (List.getD r (2 : Nat) V.undef), text := V.toStr (List.getD r (3 : Nat) V.undef) : HPair }) (List.map (fun p => [V.str (HPair.key p), V.int IntKind.u8 (HPair.kind p), V.int IntKind.i64 (HPair.num p), V.str (HPair.text p)]) (HMail.head (HItem.mail x))), body := HMail.body (HItem.mail x), due := HMail.due (HItem.mail x), hops := HMail.hops (HItem.mail x) : HMail }))], bx := [] : DRes }) (cond (decide (List.length (List.map (RCod.enc cItem) l) * (104 : Nat) ≤ (140737488355328 : Nat))) (cond (decide ((List.length (List.map (RCod.enc cItem) l) + (1 : Nat)) * (104 : Nat) ≤ (140737488355328 : Nat))) (some { v := V.tup [V.slc [Sh.int IntKind.u64, Sh.str, Sh.str, Sh.slc [Sh.str, Sh.int IntKind.u8, Sh.int IntKind.i64, Sh.str], Sh.str, Sh.int IntKind.u64, Sh.int IntKind.u8, Sh.bool, Sh.bool] (List.map (RCod.enc cItem) l ++ [[V.int IntKind.u64 (HMail.id (HItem.mail x)), V.str (HMail.shop (HItem.mail x)), V.str (HMail.key (HItem.mail x)), V.slc [Sh.str, Sh.int IntKind.u8, Sh.int IntKind.i64, Sh.str] (List.map (fun p => [V.str (HPair.key p), V.int IntKind.u8 (HPair.kind p), V.int IntKind.i64 (HPair.num p), V.str (HPair.text p)]) (HMail.head (HItem.mail x))), V.str (HMail.body (HItem.mail x)), V.int IntKind.u64 (HMail.due (HItem.mail x)), V.int IntKind.u8 (HMail.hops (HItem.mail x)), V.bool (HItem.lent x), V.bool (HItem.again x)]]), V.int IntKind.i64 (0 : Int)], bx := [] : DRes }) (none)) (none)))) (none)) (none) := by kernel_rfl
theorem q_rPutR (l0 : List (List V)) (e : Int) (r : List (List V)) (n i id : Int) (s1 s2 : Bytes) (hd : List (List V)) (s3 : Bytes) (due hops : Int) (b1 b2 : Bool) (K : Ex → St → Option R) : evRound eRPut 61 3 { fr := [(0, .slc [.int .u64, .str, .str, .slc [.str, .int .u8, .int .i64, .str], .str, .int .u64, .int .u8, .bool, .bool] l0), (3, .ptr 10000 0 0 0), (6, .int .i64 e), (13, .slc [.int .u64, .str, .str, .slc [.str, .int .u8, .int .i64, .str], .str, .int .u64, .int .u8, .bool, .bool] r), (14, .int .i64 n), (15, .int .i64 i)], tab := [(10000, .var [.int .u64 id, .str s1, .str s2, .slc [.str, .int .u8, .int .i64, .str] hd, .str s3, .int .u64 due, .int .u8 hops, .bool b1, .bool b2])] } K =
 cond (ilt i n) (cond (decide ((0 : Int) ≤ i ∧ i < (↑(List.length r) : Int))) (cond (e == (0 : Int)) (cond (ile id (V.toInt (List.getD (List.getD r (Int.toNat i) []) (0 : Nat) V.undef))) (K Ex.normal { fr := [((0 : Nat), V.slc [Sh.int IntKind.u64, Sh.str, Sh.str, Sh.slc [Sh.str, Sh.int IntKind.u8, Sh.int IntKind.i64, Sh.str], Sh.str, Sh.int IntKind.u64, Sh.int IntKind.u8, Sh.bool, Sh.bool] l0), ((3 : Nat), V.ptr (10000 : Nat) (0 : Nat) (0 : Nat) (0 : Nat)), ((6 : Nat), V.int IntKind.i64 (13 : Int)), ((13 : Nat), V.slc [Sh.int IntKind.u64, Sh.str, Sh.str, Sh.slc [Sh.str, Sh.int IntKind.u8, Sh.int IntKind.i64, Sh.str], Sh.str, Sh.int IntKind.u64, Sh.int IntKind.u8, Sh.bool, Sh.bool] r), ((14 : Nat), V.int IntKind.i64 n), ((15 : Nat), V.int IntKind.i64 (IntKind.wrap IntKind.i64 (i + (1 : Int))))], tab := [((10000 : Nat), Box.var [V.int IntKind.u64 id, V.str s1, V.str s2, V.slc [Sh.str, Sh.int IntKind.u8, Sh.int IntKind.i64, Sh.str] hd, V.str s3, V.int IntKind.u64 due, V.int IntKind.u8 hops, V.bool b1, V.bool b2])] : St }) (K Ex.normal { fr := [((0 : Nat), V.slc [Sh.int IntKind.u64, Sh.str, Sh.str, Sh.slc [Sh.str, Sh.int IntKind.u8, Sh.int IntKind.i64, Sh.str], Sh.str, Sh.int IntKind.u64, Sh.int IntKind.u8, Sh.bool, Sh.bool] l0), ((3 : Nat), V.ptr (10000 : Nat) (0 : Nat) (0 : Nat) (0 : Nat)), ((6 : Nat), V.int IntKind.i64 e), ((13 : Nat), V.slc [Sh.int IntKind.u64, Sh.str, Sh.str, Sh.slc [Sh.str, Sh.int IntKind.u8, Sh.int IntKind.i64, Sh.str], Sh.str, Sh.int IntKind.u64, Sh.int IntKind.u8, Sh.bool, Sh.bool] r), ((14 : Nat), V.int IntKind.i64 n), ((15 : Nat), V.int IntKind.i64 (IntKind.wrap IntKind.i64 (i + (1 : Int))))], tab := [((10000 : Nat), Box.var [V.int IntKind.u64 id, V.str s1, V.str s2, V.slc [Sh.str, Sh.int IntKind.u8, Sh.int IntKind.i64, Sh.str] hd, V.str s3, V.int IntKind.u64 due, V.int IntKind.u8 hops, V.bool b1, V.bool b2])] : St })) (K Ex.normal { fr := [((0 : Nat), V.slc [Sh.int IntKind.u64, Sh.str, Sh.str, Sh.slc [Sh.str, Sh.int IntKind.u8, Sh.int IntKind.i64, Sh.str], Sh.str, Sh.int IntKind.u64, Sh.int IntKind.u8, Sh.bool, Sh.bool] l0), ((3 : Nat), V.ptr (10000 : Nat) (0 : Nat) (0 : Nat) (0 : Nat)), ((6 : Nat), V.int IntKind.i64 e), ((13 : Nat), V.slc [Sh.int IntKind.u64, Sh.str, Sh.str, Sh.slc [Sh.str, Sh.int IntKind.u8, Sh.int IntKind.i64, Sh.str], Sh.str, Sh.int IntKind.u64, Sh.int IntKind.u8, Sh.bool, Sh.bool] r), ((14 : Nat), V.int IntKind.i64 n), ((15 : Nat), V.int IntKind.i64 (IntKind.wrap IntKind.i64 (i + (1 : Int))))], tab := [((10000 : Nat), Box.var [V.int IntKind.u64 id, V.str s1, V.str s2, V.slc [Sh.str, Sh.int IntKind.u8, Sh.int IntKind.i64, Sh.str] hd, V.str s3, V.int IntKind.u64 due, V.int IntKind.u8 hops, V.bool b1, V.bool b2])] : St })) (none)) (K (Ex.exit (0 : Nat)) { fr := [((0 : Nat), V.slc [Sh.int IntKind.u64, Sh.str, Sh.str, Sh.slc [Sh.str, Sh.int IntKind.u8, Sh.int IntKind.i64, Sh.str], Sh.str, Sh.int IntKind.u64, Sh.int IntKind.u8, Sh.bool, Sh.bool] l0), ((3 : Nat), V.ptr (10000 : Nat) (0 : Nat) (0 : Nat) (0 : Nat)), ((6 : Nat), V.int IntKind.i64 e)], tab := [((10000 : Nat), Box.var [V.int IntKind.u64 id, V.str s1, V.str s2, V.slc [Sh.str, Sh.int IntKind.u8, Sh.int IntKind.i64, Sh.str] hd, V.str s3, V.int IntKind.u64 due, V.int IntKind.u8 hops, V.bool b1, V.bool b2])] : St }) := by kernel_rfl
theorem ok_rPut3 : RoundsOk eRPut 61 3 := by
  refine rounds_of rfl fun l K q h => ?_
  unfold gRPut at h
  split at h
  · rename_i l0 e r n i id s1 s2 hd s3 due hops b1 b2
    have h1 := (cond_none h).1; replace h := (cond_none h).2; have h2 := (cond_none h).1; replace h := (cond_none h).2; have h3 := (cond_none h).1; replace h := (cond_none h).2
    have e1 := ieq_of h1
    have e2 := ieq_of h2
    subst e1 e2
    have h3 : r.length ≤ 1000 := ble_of h3
    have main := range_ind (E := eRPut) (f := 61) (id := 3) (A := Int) r (fun e i => { fr := [(0, .slc [.int .u64, .str, .str, .slc [.str, .int .u8, .int .i64, .str], .str, .int .u64, .int .u8, .bool, .bool] l0), (3, .ptr 10000 0 0 0), (6, .int .i64 e), (13, .slc [.int .u64, .str, .str, .slc [.str, .int .u8, .int .i64, .str], .str, .int .u64, .int .u8, .bool, .bool] r), (14, .int .i64 r.length), (15, .int .i64 i)], tab := [(10000, .var [.int .u64 id, .str s1, .str s2, .slc [.str, .int .u8, .int .i64, .str] hd, .str s3, .int .u64 due, .int .u8 hops, .bool b1, .bool b2])] }) (fun _ _ => True)
      (fun e rows K => K (.exit 0) { fr := [(0, .slc [.int .u64, .str, .str, .slc [.str, .int .u8, .int .i64, .str], .str, .int .u64, .int .u8, .bool, .bool] l0), (3, .ptr 10000 0 0 0), (6, .int .i64 (N.geE id (rows.map cItem.dec) e))], tab := [(10000, .var [.int .u64 id, .str s1, .str s2, .slc [.str, .int .u8, .int .i64, .str] hd, .str s3, .int .u64 due, .int .u8 hops, .bool b1, .bool b2])] }) (fun e i _ hi => ?_) (fun e _ => ?_) e 0 (Int.le_refl _) (by omega) trivial K q (by assumption)
    · exact main
    · refine .inl ⟨cond (cond (e == 0) (ile id (cItem.dec (r.getD i [])).mail.id) false) 13 e, trivial, fun K => ?_, fun K => ?_⟩
      · rw [q_rPutR]
        have hm : V.toInt (List.getD (List.getD r i []) 0 V.undef) = (cItem.dec (r.getD i [])).mail.id := rfl
        simp (disch := omega) only [evs, Int.toNat_natCast, hm]
        cases e == 0 with
        | false => rfl
        | true => cases ile id (cItem.dec (r.getD i [])).mail.id <;> rfl
      · have he : N.geE id ((r.getD i [] :: r.drop (i + 1)).map cItem.dec) e = N.geE id ((r.drop (i + 1)).map cItem.dec) (cond (cond (e == 0) (ile id (cItem.dec (r.getD i [])).mail.id) false) 13 e) := by
          unfold N.geE
          rw [List.map_cons, List.any_cons]
          cases hz : e == 0 with
          | false => simp only [cond_false, hz]
          | true =>
            cases ile id (cItem.dec (r.getD i [])).mail.id with
            | true => rfl
            | false => simp only [cond_true, cond_false, hz, Bool.false_or]
        rw [he]
    · have he : N.geE id (([] : List (List V)).map cItem.dec) e = e := by
        unfold N.geE
        cases e == 0 <;> rfl
      refine ⟨.exit 0, { fr := [(0, .slc [.int .u64, .str, .str, .slc [.str, .int .u8, .int .i64, .str], .str, .int .u64, .int .u8, .bool, .bool] l0), (3, .ptr 10000 0 0 0), (6, .int .i64 (e))], tab := [(10000, .var [.int .u64 id, .str s1, .str s2, .slc [.str, .int .u8, .int .i64, .str] hd, .str s3, .int .u64 due, .int .u8 hops, .bool b1, .bool b2])] }, by simp, fun K => ?_, fun K => by rw [he]⟩
      rw [q_rPutR]
      simp (disch := omega) only [evs]
  · cases h
noncomputable def eRSameI : Env := env Tryz.prog [(20, dMailSame)] [] []
theorem q_rSameI (a b : HItem) : evFn eRSameI 48 ((aCons (vAgg cItem) (aOne (vAgg cItem))).enc (a, b)) ([]) some =
 cond (smallM { id := HMail.id (HItem.mail a), shop := HMail.shop (HItem.mail a), key := HMail.key (HItem.mail a), head := List.map (fun r => { key := V.toStr (List.getD r (0 : Nat) V.undef), kind := V.toInt (List.getD r (1 : Nat) V.undef), num := V.toInt (List.getD r (2 : Nat) V.undef), text := V.toStr (List.getD r (3 : Nat) V.undef) : HPair }) (List.map (fun p => [V.str (HPair.key p), V.int IntKind.u8 (HPair.kind p), V.int IntKind.i64 (HPair.num p), V.str (HPair.text p)]) (HMail.head (HItem.mail a))), body := HMail.body (HItem.mail a), due := HMail.due (HItem.mail a), hops := HMail.hops (HItem.mail a) : HMail }) (cond (N.mailSame { id := HMail.id (HItem.mail a), shop := HMail.shop (HItem.mail a), key := HMail.key (HItem.mail a), head := List.map (fun r => { key := V.toStr (List.getD r (0 : Nat) V.undef), kind := V.toInt (List.getD r (1 : Nat) V.undef), num := V.toInt (List.getD r (2 : Nat) V.undef), text := V.toStr (List.getD r (3 : Nat) V.undef) : HPair }) (List.map (fun p => [V.str (HPair.key p), V.int IntKind.u8 (HPair.kind p), V.int IntKind.i64 (HPair.num p), V.str (HPair.text p)]) (HMail.head (HItem.mail a))), body := HMail.body (HItem.mail a), due := HMail.due (HItem.mail a), hops := HMail.hops (HItem.mail a) : HMail } { id := HMail.id (HItem.mail b), shop := HMail.shop (HItem.mail b), key := HMail.key (HItem.mail b), head := List.map (fun r => { key := V.toStr (List.getD r (0 : Nat) V.undef), kind := V.toInt (List.getD r (1 : Nat) V.undef), num := V.toInt (List.getD r (2 : Nat) V.undef), text := V.toStr (List.getD r (3 : Nat) V.undef) : HPair }) (List.map (fun p => [V.str (HPair.key p), V.int IntKind.u8 (HPair.kind p), V.int IntKind.i64 (HPair.num p), V.str (HPair.text p)]) (HMail.head (HItem.mail b))), body := HMail.body (HItem.mail b), due := HMail.due (HItem.mail b), hops := HMail.hops (HItem.mail b) : HMail }) (cond (HItem.lent a == HItem.lent b) (some { v := V.bool (HItem.again a == HItem.again b), bx := [] : DRes }) (some { v := V.bool false, bx := [] : DRes })) (some { v := V.bool false, bx := [] : DRes })) (none) := by kernel_rfl
theorem ok_rSameI : FnOk Tryz.prog 48 dSameI := by
  refine den_okF (env_ok ((TOk.nil _).cons ok_refMailSame)) (E := eRSameI) Tryz.func48 [] (by kernel_rfl) none0 fun a _ h => ?_
  obtain ⟨a, b⟩ := a
  have h : smallM a.mail = true := h
  refine (q_rSameI a b).trans ?_
  show _ = some (⟨.bool (N.sameI a b), [], []⟩ : DRes)
  unfold N.sameI
  simp only [fold_de, h, cond_true]
  cases N.mailSame a.mail b.mail <;> cases a.lent == b.lent <;> rfl
theorem ok_rPut : FnOk Tryz.prog 61 dRPut := by
  refine den_okF (env_ok ((TOk.nil _).cons ok_refMailCheck)) (E := eRPut) Tryz.func61 [3] (by kernel_rfl) (one1 ok_rPut3) fun a _ h => ?_
  obtain ⟨l, x⟩ := a
  have h1 : Nat.ble l.length 1000 = true := h
  have h2 : l.length ≤ 1000 := ble_of h1
  refine (q_rPut l x).trans ?_
  show _ = some (⟨.tup [.slc [.int .u64, .str, .str, .slc [.str, .int .u8, .int .i64, .str], .str, .int .u64, .int .u8, .bool, .bool] ((N.rPut l x).1.map cItem.enc), .int .i64 (N.rPut l x).2], [], []⟩ : DRes)
  simp only [fold_de, dec_encs, List.length_map, h1, beq_self_eq_true, cond_true]
  unfold N.rPut N.rRc N.geE
  cases hc : N.mailCheck x.mail != 0 with
  | true =>
    have hz : (N.mailCheck x.mail == 0) = false := by rw [bne] at hc; simpa using hc
    simp (disch := omega) only [evs, hz, hc]
  | false =>
    have hz : N.mailCheck x.mail = 0 := by simpa using hc
    rw [hz]
    cases ha : l.any fun y => ile x.mail.id y.mail.id with
    | true => simp (disch := omega) only [evs, ha]
    | false =>
      by_cases h64 : 64 ≤ l.length
      · simp (disch := omega) only [evs, ha]
      · simp (disch := omega) only [evs, ha, pairs_enc, fold_itemE]
        rw [show List.map cItem.enc l ++ [cItem.enc x] = List.map cItem.enc (l ++ [x]) by simp]
end Go.Ev

/- What the statements on lines share: the example, a line as the document's; the statement on how a line is made: lemmas; the function that writes numbers is a premise. -/
namespace Go.Ev
open Go Go.Proofs
set_option maxRecDepth 100000
-- FOLD

noncomputable def eAw18 : Env := env Tryz.prog [(44, dLAdd), (28, dLLend), (45, dLBack), (18, dLFirst), (46, dTrue)] [] []
theorem q_aw18  : evFn eAw18 11 [] [] some =
 some { v := V.bool true, bx := [] : DRes } := by kernel_rfl
theorem ok_aw18 (hN : FnOk Tryz.prog 158 dOutNum) : FnOk Tryz.prog 11 dTrue :=
  den_okF (env_ok ((((((TOk.nil _).cons (ok_aw13' hN)).cons ok_lFirst).cons ok_lBack).cons ok_lLend).cons ok_lAdd)) (E := eAw18) Tryz.func11 [] (by kernel_rfl) none0 fun _ _ _ => q_aw18
/-- An item's row, read again. -/
def reRowI (r : List V) : List V := [V.int .u64 (V.toInt (List.getD r 0 .undef)), V.str (V.toStr (List.getD r 1 .undef)), V.str (V.toStr (List.getD r 2 .undef)), V.slc [.str, .int .u8, .int .i64, .str] (V.toRows (List.getD r 3 .undef)), V.str (V.toStr (List.getD r 4 .undef)), V.int .u64 (V.toInt (List.getD r 5 .undef)), V.int .u8 (V.toInt (List.getD r 6 .undef)), V.bool (V.toBool (List.getD r 7 .undef)), V.bool (V.toBool (List.getD r 8 .undef))]
theorem fold_reRowI (r : List V) : [V.int .u64 (V.toInt (List.getD r 0 .undef)), V.str (V.toStr (List.getD r 1 .undef)), V.str (V.toStr (List.getD r 2 .undef)), V.slc [.str, .int .u8, .int .i64, .str] (V.toRows (List.getD r 3 .undef)), V.str (V.toStr (List.getD r 4 .undef)), V.int .u64 (V.toInt (List.getD r 5 .undef)), V.int .u8 (V.toInt (List.getD r 6 .undef)), V.bool (V.toBool (List.getD r 7 .undef)), V.bool (V.toBool (List.getD r 8 .undef))] = reRowI r := rfl
theorem LInv.smallL {l : List HItem} (h : LInv l) : Go.Ev.smallL l = true := by
  unfold Go.Ev.smallL
  rw [ble_t (Nat.le_trans h.few (by decide)), h.small]; rfl
end Go.Ev

/- What acts do to a line, in plain terms: lemmas, no condition. -/
namespace Go.Ev
open Go
set_option maxRecDepth 100000

structure HAct where
  op : Int
  mail : HMail
namespace N
def act (l : List HItem) (a : HAct) : List HItem :=
  cond (Int.tmod a.op 6 == 2) (lLend l).1 (cond (Int.tmod a.op 6 == 3) (lBack l a.mail.id).1 (cond (Int.tmod a.op 6 == 4) (lRemove l a.mail.id).1 (cond (Int.tmod a.op 6 == 5) (lWake l) (lPut l ⟨a.mail, false, false⟩).1)))
def acts : List HItem → List HAct → List HItem
  | l, [] => l
  | l, a :: r => acts (act l a) r
/-- IDs rise, behind a last one, or from the first on. -/
def rises : List HItem → Bool → Int → Bool
  | [], _, _ => true
  | x :: r, first, last => cond (cond first false (ile x.mail.id last)) false (rises r false x.mail.id)
end N
theorem act_linv {l : List HItem} (h : LInv l) {a : HAct} (hs : smallM a.mail = true) : LInv (N.act l a) := by
  unfold N.act
  cases Int.tmod a.op 6 == 2 with
  | true => exact lend_linv h
  | false =>
    cases Int.tmod a.op 6 == 3 with
    | true => exact back_linv h _
    | false =>
      cases Int.tmod a.op 6 == 4 with
      | true => exact remove_linv h _
      | false =>
        cases Int.tmod a.op 6 == 5 with
        | true => exact wake_linv h
        | false => exact put_linv h hs
theorem acts_linv : ∀ (r : List HAct) (l : List HItem), LInv l → (r.all fun a => smallM a.mail) = true → LInv (N.acts l r)
  | [], _, h, _ => h
  | a :: r, l, h, hs => by
    rw [List.all_cons, Bool.and_eq_true] at hs
    exact acts_linv r _ (act_linv h hs.1) hs.2
theorem split_at {l : List HItem} {k : Nat} (h : k < l.length) : l = l.take k ++ l.getD k item0 :: l.drop (k + 1) := by
  have := List.take_append_drop k l
  rw [getD_drop item0 h] at this
  exact this.symm
end Go.Ev
