/- slices.Concat and slices.Grow at messages answer what the plain ones do: lemmas, no condition. -/
import Derived.Test.YtaelkcinofhhcaaGreatDoorGd
import Derived.Test.YtaelkcinofhhcaaGreatDoorGc
import Derived.Test.YtaelkcinofhhcaaGreatDoorProg
import Derived.KernelRfl
import Derived.Shelf.Strings.Builder1
import Derived.RegionTactic
import Derived.Deep.RegionWith
namespace Go.Ev
open Go Go.Proofs
set_option maxRecDepth 100000
-- FOLD

/-- A nil slice. -/
def vNils {α : Type} (c : RCod α) : VCod Unit where
  ok := fun | .nils s => Sh.beqL c.sh s | _ => false
  enc _ := .nils c.sh
  dec _ := ()
  ed _ := ⟨c.rf, rfl⟩
  law w I ρ v x h hx := by
    split at h
    · have := Sh.beqL_eq _ _ h; subst this; exact hx
    · cases h
def dGrow {α : Type} (c : RCod α) : Den := den (aCons (vNils c) (aOne (vInt .i64))) bNil (oOwn c) (fun a _ => cond (ile 0 a.2) (ile a.2 1000000) false) fun _ _ => (([] : List α), ())
/-- Lists one behind the other. -/
def N.flat {α : Type} : List (List α) → List α
  | [] => [] | l :: r => l ++ N.flat r
def sumLen {α : Type} : List (List α) → Nat
  | [] => 0 | l :: r => l.length + sumLen r
theorem flat_len {α : Type} : ∀ l : List (List α), (N.flat l).length = sumLen l
  | [] => rfl
  | l :: r => by show (l ++ N.flat r).length = _; rw [List.length_append, flat_len r]; rfl
def dConcat {α : Type} (c : RCod α) : Den := den (aOne (vSl (rSl c))) bNil (oV (vSl c)) (fun l _ => cond (Nat.ble l.length 1000) (Nat.ble (sumLen l) 100000) false) fun l _ => (N.flat l, ())
noncomputable def eGrowM : Env := { env Tryz.prog [] [] [] [63] with tr := true }
theorem q_growM (n : Int) : evFn eGrowM 63 ((aCons (vNils cMail) (aOne (vInt .i64))).enc ((), n)) ([]) some =
 cond (ilt n (0 : Int)) (none) (cond (ilt (0 : Int) (IntKind.wrap IntKind.i64 (n - IntKind.wrap IntKind.i64 ((0 : Int) - (0 : Int))))) (cond (decide ((0 : Int) ≤ IntKind.wrap IntKind.i64 (n - IntKind.wrap IntKind.i64 ((0 : Int) - (0 : Int))) ∧ IntKind.wrap IntKind.i64 (n - IntKind.wrap IntKind.i64 ((0 : Int) - (0 : Int))) * (↑(96 : Nat) : Int) ≤ (140737488355328 : Int) ∧ IntKind.wrap IntKind.i64 (n - IntKind.wrap IntKind.i64 ((0 : Int) - (0 : Int))) ≤ (140737488355328 : Int))) (some { v := V.own (1000 : Nat) (0 : Nat), bx := [], nb := [Box.sl [Sh.int IntKind.u64, Sh.str, Sh.str, Sh.slc [Sh.str, Sh.int IntKind.u8, Sh.int IntKind.i64, Sh.str], Sh.str, Sh.int IntKind.u64, Sh.int IntKind.u8] [] (0 : Nat)] : DRes }) (none)) (some { v := V.own (1000 : Nat) (0 : Nat), bx := [], nb := [Box.sl [Sh.int IntKind.u64, Sh.str, Sh.str, Sh.slc [Sh.str, Sh.int IntKind.u8, Sh.int IntKind.i64, Sh.str], Sh.str, Sh.int IntKind.u64, Sh.int IntKind.u8] [] (0 : Nat)] : DRes })) := by kernel_rfl
theorem ok_growM : FnOk Tryz.prog 63 (dGrow cMail) := by
  refine den_okF (E := eGrowM) (fun f D h => by cases h) Tryz.func63 [] (by kernel_rfl) none0 fun a _ h => ?_
  obtain ⟨⟨⟩, n⟩ := a
  obtain ⟨h1, h2⟩ := bcond h
  have h1 : 0 ≤ n := ile_of h1
  have h2 : n ≤ 1000000 := ile_of h2
  refine (q_growM n).trans ?_
  have w0 : IntKind.wrap .i64 ((0 : Int) - 0) = 0 := rfl
  have w : IntKind.wrap .i64 (n - 0) = n := by rw [Int.sub_zero]; exact wr_i64 (by omega) (by omega)
  rw [w0, w]
  have d : decide (0 ≤ n ∧ n * ((96 : Nat) : Int) ≤ 140737488355328 ∧ n ≤ 140737488355328) = true := decide_eq_true (by omega)
  rw [d, ilt_f h1]
  cases ilt 0 n <;> rfl
/-- The rows in rows. -/
def flatR : List (List V) → List (List V)
  | [] => [] | r :: rs => V.toRows (List.getD r 0 .undef) ++ flatR rs
theorem flatR_enc {α : Type} (c : RCod α) : ∀ l : List (List α), flatR (l.map (rSl c).enc) = (N.flat l).map c.enc
  | [] => rfl
  | l :: r => by
    show l.map c.enc ++ flatR (r.map (rSl c).enc) = (l ++ N.flat r).map c.enc
    rw [flatR_enc c r, List.map_append]
def schConcatM3 : SSch := { fr := [(0, .slc [.slc [.int .u64, .str, .str, .slc [.str, .int .u8, .int .i64, .str], .str, .int .u64, .int .u8]]), (3, .int .i64), (9, .slc [.slc [.int .u64, .str, .str, .slc [.str, .int .u8, .int .i64, .str], .str, .int .u64, .int .u8]]), (10, .int .i64), (11, .int .i64)], tab := [] }
def gConcatM3 : List Leaf → (Ex → St → Option R) → Option R
  | [.r r0, .i i3, .r r9, .i i10, .i i11], K => cond (i10 == r9.length) (cond (i11 == 0) (cond (i3 == 0) (cond (Nat.ble (flatR r9).length LIM) (cond (Nat.ble r9.length LIM)
      (K (.exit 0) { fr := [(0, .slc [.slc [.int .u64, .str, .str, .slc [.str, .int .u8, .int .i64, .str], .str, .int .u64, .int .u8]] r0), (3, .int .i64 (flatR r9).length)], tab := [] }) none) none) none) none) none
  | _, _ => none
def schConcatM11 : SSch := { fr := [(6, .own 10000), (25, .slc [.slc [.int .u64, .str, .str, .slc [.str, .int .u8, .int .i64, .str], .str, .int .u64, .int .u8]]), (26, .int .i64), (27, .int .i64)], tab := [(10000, .sl [.int .u64, .str, .str, .slc [.str, .int .u8, .int .i64, .str], .str, .int .u64, .int .u8])] }
def gConcatM11 : List Leaf → (Ex → St → Option R) → Option R
  | [.r r25, .i i26, .i i27, .r rx0], K => cond (i26 == r25.length) (cond (i27 == 0) (cond (Nat.beq rx0.length 0) (cond (Nat.ble (flatR r25).length LIM) (cond (Nat.ble r25.length LIM)
      (K (.exit 2) { fr := [(6, .own 10000 0)], tab := [(10000, .sl [.int .u64, .str, .str, .slc [.str, .int .u8, .int .i64, .str], .str, .int .u64, .int .u8] (flatR r25) 0)] }) none) none) none) none) none
  | _, _ => none
noncomputable def eConcatM : Env := env Tryz.prog [(63, dGrow cMail)] [(11, loopF schConcatM11 gConcatM11), (3, loopF schConcatM3 gConcatM3)] [(3, [(0, [0, 3, 9, 10, 11]), (1, [0, 3]), (1000, [2])]), (11, [(0, [6, 25, 26, 27]), (3, [6]), (1000, [2])])]
theorem q_concatM (l : List (List HMail)) : evFn eConcatM 37 ((aOne (vSl (rSl cMail))).enc l) ([]) some =
 cond ((↑(List.length (List.map (RCod.enc (rSl cMail)) l)) : Int) == (↑(List.length (List.map (RCod.enc (rSl cMail)) l)) : Int)) (cond (Nat.ble (List.length (flatR (List.map (RCod.enc (rSl cMail)) l))) (1000000 : Nat)) (cond (Nat.ble (List.length (List.map (RCod.enc (rSl cMail)) l)) (1000000 : Nat)) (cond (ile (↑(List.length (flatR (List.map (RCod.enc (rSl cMail)) l))) : Int) (1000000 : Int)) (cond ((↑(List.length (List.map (RCod.enc (rSl cMail)) l)) : Int) == (↑(List.length (List.map (RCod.enc (rSl cMail)) l)) : Int)) (cond (Nat.ble (List.length (flatR (List.map (RCod.enc (rSl cMail)) l))) (1000000 : Nat)) (cond (Nat.ble (List.length (List.map (RCod.enc (rSl cMail)) l)) (1000000 : Nat)) (some { v := V.slc [Sh.int IntKind.u64, Sh.str, Sh.str, Sh.slc [Sh.str, Sh.int IntKind.u8, Sh.int IntKind.i64, Sh.str], Sh.str, Sh.int IntKind.u64, Sh.int IntKind.u8] (flatR (List.map (RCod.enc (rSl cMail)) l)), bx := [] : DRes }) (none)) (none)) (none)) (none)) (none)) (none)) (none) := by kernel_rfl
theorem q_concatMR3 (r0 : List (List V)) (i3 : Int) (r9 : List (List V)) (i10 : Int) (i11 : Int) (K : Ex → St → Option R) : evRound eConcatM 37 3 { fr := [(0, .slc [.slc [.int .u64, .str, .str, .slc [.str, .int .u8, .int .i64, .str], .str, .int .u64, .int .u8]] r0), (3, .int .i64 i3), (9, .slc [.slc [.int .u64, .str, .str, .slc [.str, .int .u8, .int .i64, .str], .str, .int .u64, .int .u8]] r9), (10, .int .i64 i10), (11, .int .i64 i11)], tab := [] } K =
 cond (ilt i11 i10) (cond (decide ((0 : Int) ≤ i11 ∧ i11 < (↑(List.length r9) : Int))) (cond (ilt (IntKind.wrap IntKind.i64 (i3 + (↑(List.length (V.toRows (List.getD (List.getD r9 (Int.toNat i11) []) (0 : Nat) V.undef))) : Int))) (0 : Int)) (none) (K Ex.normal { fr := [((0 : Nat), V.slc [Sh.slc [Sh.int IntKind.u64, Sh.str, Sh.str, Sh.slc [Sh.str, Sh.int IntKind.u8, Sh.int IntKind.i64, Sh.str], Sh.str, Sh.int IntKind.u64, Sh.int IntKind.u8]] r0), ((3 : Nat), V.int IntKind.i64 (IntKind.wrap IntKind.i64 (i3 + (↑(List.length (V.toRows (List.getD (List.getD r9 (Int.toNat i11) []) (0 : Nat) V.undef))) : Int)))), ((9 : Nat), V.slc [Sh.slc [Sh.int IntKind.u64, Sh.str, Sh.str, Sh.slc [Sh.str, Sh.int IntKind.u8, Sh.int IntKind.i64, Sh.str], Sh.str, Sh.int IntKind.u64, Sh.int IntKind.u8]] r9), ((10 : Nat), V.int IntKind.i64 i10), ((11 : Nat), V.int IntKind.i64 (IntKind.wrap IntKind.i64 (i11 + (1 : Int))))], tab := [] : St })) (none)) (K (Ex.exit (0 : Nat)) { fr := [((0 : Nat), V.slc [Sh.slc [Sh.int IntKind.u64, Sh.str, Sh.str, Sh.slc [Sh.str, Sh.int IntKind.u8, Sh.int IntKind.i64, Sh.str], Sh.str, Sh.int IntKind.u64, Sh.int IntKind.u8]] r0), ((3 : Nat), V.int IntKind.i64 i3)], tab := [] : St }) := by kernel_rfl
theorem q_concatMR11 (r25 : List (List V)) (i26 : Int) (i27 : Int) (rx0 : List (List V)) (K : Ex → St → Option R) : evRound eConcatM 37 11 { fr := [(6, .own 10000 0), (25, .slc [.slc [.int .u64, .str, .str, .slc [.str, .int .u8, .int .i64, .str], .str, .int .u64, .int .u8]] r25), (26, .int .i64 i26), (27, .int .i64 i27)], tab := [(10000, .sl [.int .u64, .str, .str, .slc [.str, .int .u8, .int .i64, .str], .str, .int .u64, .int .u8] rx0 0)] } K =
 cond (ilt i27 i26) (cond (decide ((0 : Int) ≤ i27 ∧ i27 < (↑(List.length r25) : Int))) (cond (decide ((List.length rx0 + List.length (V.toRows (List.getD (List.getD r25 (Int.toNat i27) []) (0 : Nat) V.undef))) * (96 : Nat) ≤ (140737488355328 : Nat))) (K Ex.normal { fr := [((6 : Nat), V.own (10000 : Nat) (0 : Nat)), ((25 : Nat), V.slc [Sh.slc [Sh.int IntKind.u64, Sh.str, Sh.str, Sh.slc [Sh.str, Sh.int IntKind.u8, Sh.int IntKind.i64, Sh.str], Sh.str, Sh.int IntKind.u64, Sh.int IntKind.u8]] r25), ((26 : Nat), V.int IntKind.i64 i26), ((27 : Nat), V.int IntKind.i64 (IntKind.wrap IntKind.i64 (i27 + (1 : Int))))], tab := [((10000 : Nat), Box.sl [Sh.int IntKind.u64, Sh.str, Sh.str, Sh.slc [Sh.str, Sh.int IntKind.u8, Sh.int IntKind.i64, Sh.str], Sh.str, Sh.int IntKind.u64, Sh.int IntKind.u8] (rx0 ++ V.toRows (List.getD (List.getD r25 (Int.toNat i27) []) (0 : Nat) V.undef)) (0 : Nat))] : St }) (none)) (none)) (K (Ex.exit (2 : Nat)) { fr := [((6 : Nat), V.own (10000 : Nat) (0 : Nat))], tab := [((10000 : Nat), Box.sl [Sh.int IntKind.u64, Sh.str, Sh.str, Sh.slc [Sh.str, Sh.int IntKind.u8, Sh.int IntKind.i64, Sh.str], Sh.str, Sh.int IntKind.u64, Sh.int IntKind.u8] rx0 (0 : Nat))] : St }) := by kernel_rfl
theorem flatR_cons (x : List V) (l : List (List V)) : flatR (x :: l) = V.toRows (List.getD x 0 .undef) ++ flatR l := rfl
theorem ok_concatM : FnOk Tryz.prog 37 (dConcat cMail) := by
  refine den_okF (env_ok ((TOk.nil _).cons ok_growM)) (E := eConcatM) Tryz.func37 [3, 11] (by kernel_rfl) (two2 (rounds_of rfl fun l K q h => ?_) (rounds_of rfl fun l K q h => ?_)) fun a _ h => ?_
  · unfold gConcatM3 at h
    split at h
    · rename_i r0 i3 r i10 i11
      have h1 := (cond_none h).1; replace h := (cond_none h).2; have h2 := (cond_none h).1; replace h := (cond_none h).2; have h3 := (cond_none h).1; replace h := (cond_none h).2; have h4 := (cond_none h).1; replace h := (cond_none h).2; have h5 := (cond_none h).1; replace h := (cond_none h).2
      have e1 := ieq_of h1
      have e2 := ieq_of h2
      have e3 := ieq_of h3
      subst e1 e2 e3
      have h4 : (flatR r).length ≤ 1000000 := ble_of h4
      have h5 : r.length ≤ 1000000 := ble_of h5
      refine range_ind (E := eConcatM) (f := 37) (id := 3) (A := Int) r (fun n i => { fr := [(0, .slc [.slc [.int .u64, .str, .str, .slc [.str, .int .u8, .int .i64, .str], .str, .int .u64, .int .u8]] r0), (3, .int .i64 n), (9, .slc [.slc [.int .u64, .str, .str, .slc [.str, .int .u8, .int .i64, .str], .str, .int .u64, .int .u8]] r), (10, .int .i64 r.length), (11, .int .i64 i)], tab := [] })
        (fun n i => 0 ≤ n ∧ n + ((flatR (r.drop i)).length : Int) ≤ 1000000)
        (fun n l K => K (.exit 0) { fr := [(0, .slc [.slc [.int .u64, .str, .str, .slc [.str, .int .u8, .int .i64, .str], .str, .int .u64, .int .u8]] r0), (3, .int .i64 (n + ((flatR l).length : Int)))], tab := [] }) (fun n i ⟨hn, hn2⟩ hi => ?_) (fun n _ => ?_) 0 0 (Int.le_refl _) (by omega) ⟨Int.le_refl _, by simp; omega⟩ K q (by simpa using h)
      · rw [drop_row hi, flatR_cons, List.length_append] at hn2
        have w := wr_i64 (n := n + ((V.toRows (List.getD (r.getD i []) 0 .undef)).length : Int)) (by omega) (by omega)
        have w2 := wr_i64 (n := (i : Int) + 1) (by omega) (by omega)
        refine .inl ⟨n + ((V.toRows (List.getD (r.getD i []) 0 .undef)).length : Int), ⟨by omega, by omega⟩, fun K => ?_, fun K => ?_⟩
        · rw [q_concatMR3, ilt_t (by omega), decide_eq_true (by omega), Int.toNat_natCast, w, w2, ilt_f (by omega)]
          rfl
        · show K _ _ = K _ _
          rw [flatR_cons, List.length_append, Int.natCast_add, Int.add_assoc]
      · refine ⟨.exit 0, { fr := [(0, .slc [.slc [.int .u64, .str, .str, .slc [.str, .int .u8, .int .i64, .str], .str, .int .u64, .int .u8]] r0), (3, .int .i64 n)], tab := [] }, by simp, fun K => ?_, fun K => ?_⟩
        · rw [q_concatMR3, ilt_f (Int.le_refl _)]
          rfl
        · show K _ _ = K _ _
          rw [show ((flatR []).length : Int) = 0 from rfl, Int.add_zero]
    · cases h
  · unfold gConcatM11 at h
    split at h
    · rename_i r i26 i27 acc
      have h1 := (cond_none h).1; replace h := (cond_none h).2; have h2 := (cond_none h).1; replace h := (cond_none h).2; have h3 := (cond_none h).1; replace h := (cond_none h).2; have h4 := (cond_none h).1; replace h := (cond_none h).2; have h5 := (cond_none h).1; replace h := (cond_none h).2
      have e1 := ieq_of h1
      have e2 := ieq_of h2
      subst e1 e2
      have h3 : acc.length = 0 := Nat.eq_of_beq_eq_true h3
      obtain rfl : acc = [] := List.length_eq_zero_iff.1 h3
      have h4 : (flatR r).length ≤ 1000000 := ble_of h4
      have h5 : r.length ≤ 1000000 := ble_of h5
      refine range_ind (E := eConcatM) (f := 37) (id := 11) (A := List (List V)) r (fun n i => { fr := [(6, .own 10000 0), (25, .slc [.slc [.int .u64, .str, .str, .slc [.str, .int .u8, .int .i64, .str], .str, .int .u64, .int .u8]] r), (26, .int .i64 r.length), (27, .int .i64 i)], tab := [(10000, .sl [.int .u64, .str, .str, .slc [.str, .int .u8, .int .i64, .str], .str, .int .u64, .int .u8] n 0)] })
        (fun n i => n.length + (flatR (r.drop i)).length ≤ 1000000)
        (fun n l K => K (.exit 2) { fr := [(6, .own 10000 0)], tab := [(10000, .sl [.int .u64, .str, .str, .slc [.str, .int .u8, .int .i64, .str], .str, .int .u64, .int .u8] (n ++ flatR l) 0)] }) (fun n i hn hi => ?_) (fun n _ => ?_) [] 0 (Int.le_refl _) (by omega) (by simp; omega) K q (by simpa using h)
      · rw [drop_row hi, flatR_cons, List.length_append] at hn
        have w2 := wr_i64 (n := (i : Int) + 1) (by omega) (by omega)
        refine .inl ⟨n ++ V.toRows (List.getD (r.getD i []) 0 .undef), by rw [List.length_append]; omega, fun K => ?_, fun K => ?_⟩
        · rw [q_concatMR11, ilt_t (by omega), decide_eq_true (by omega), Int.toNat_natCast, w2]
          rw [decide_eq_true (by omega)]
          rfl
        · show K _ _ = K _ _
          rw [flatR_cons, List.append_assoc]
      · refine ⟨.exit 2, { fr := [(6, .own 10000 0)], tab := [(10000, .sl [.int .u64, .str, .str, .slc [.str, .int .u8, .int .i64, .str], .str, .int .u64, .int .u8] n 0)] }, by simp, fun K => ?_, fun K => ?_⟩
        · rw [q_concatMR11, ilt_f (Int.le_refl _)]
          rfl
        · show K _ _ = K _ _
          rw [show flatR [] = [] from rfl, List.append_nil]
    · cases h
  · obtain ⟨h1, h2⟩ := bcond h
    have h1 : a.length ≤ 1000 := ble_of h1
    have h2 : sumLen a ≤ 100000 := ble_of h2
    refine (q_concatM a).trans ?_
    have e : (flatR (a.map (rSl cMail).enc)).length = sumLen a := by rw [flatR_enc, List.length_map, flat_len]
    rw [e, List.length_map, ble_t (show sumLen a ≤ 1000000 by omega), ble_t (show a.length ≤ 1000000 by omega), ile_t (by omega), flatR_enc]
    rw [show (((a.length : Int)) == (a.length : Int)) = true from beq_self_eq_true _]
    rfl
end Go.Ev

/- The functions on rises answer what the plain ones do: lemmas, no condition. -/
namespace Go.Ev
open Go Go.Proofs
set_option maxRecDepth 100000
-- FOLD

structure HRise where
  total : Int
  kept : List HMail
def rowRise (r : List V) : HRise := ⟨(r.getD 0 .undef).toInt, (r.getD 1 .undef).toRows.map cMail.dec⟩
def cRise : RCod HRise := (((rInt .u64).and (rSl cMail)).iso (fun p => (⟨p.1, p.2⟩ : HRise)) (fun o => (o.total, o.kept)) (fun _ => rfl) fun _ => rfl).spelt
  [.int .u64, .slc [.int .u64, .str, .str, .slc [.str, .int .u8, .int .i64, .str], .str, .int .u64, .int .u8]]
  (fun x => [.int .u64 x.total, .slc [.int .u64, .str, .str, .slc [.str, .int .u8, .int .i64, .str], .str, .int .u64, .int .u8] (x.kept.map cMail.enc)]) rowRise rfl (fun _ => rfl) fun r => by
    show (⟨((r.take 1).getD 0 .undef).toInt, ((r.drop 1).getD 0 .undef).toRows.map cMail.dec⟩ : HRise) = rowRise r
    simp only [getD_take_one, getD_drop_one]; rfl
def rise0 : HRise := ⟨0, []⟩
theorem dec_encs {α : Type} (c : RCod α) (l : List α) : (l.map c.enc).map c.dec = l := by
  rw [List.map_map]
  exact (List.map_congr_left (fun a _ => c.de a)).trans (List.map_id _)
namespace N
def risePut (x : HRise) (m : HMail) : HRise × Int :=
  cond (mailCheck m != 0) (x, mailCheck m) (cond (x.total == 18446744073709551615) (x, 18)
    (⟨x.total + 1, (x.kept ++ [m]).drop (x.kept.length + 1 - 16)⟩, 0))
def lightMs : List HMail → Bool
  | [] => true
  | m :: r => cond (lightM m) (lightMs r) false
end N
def goodRise (x : HRise) : Bool := cond (cond (ile 0 x.total) (ile x.total 18446744073709551615) false) (cond (Nat.ble x.kept.length 16) (x.kept.all smallM) false) false
def dTotal : Den := den (aOne (vAgg cRise)) bNil (oV (vInt .u64)) (fun _ _ => true) fun x _ => (x.total, ())
def dRisePut : Den := den (aCons (vAgg cRise) (aOne (vAgg cMail))) bNil (oTup (aCons (vAgg cRise) (aOne (vInt .i64)))) (fun a _ => cond (goodRise a.1) (smallM a.2) false) fun a _ => (N.risePut a.1 a.2, ())
noncomputable def eTotal : Env := env Tryz.prog [] [] []
theorem q_total (x : HRise) : evFn eTotal 40 ((aOne (vAgg cRise)).enc x) ([]) some =
 some { v := V.int IntKind.u64 (HRise.total x), bx := [] : DRes } := by kernel_rfl
theorem ok_total : FnOk Tryz.prog 40 dTotal := by
  refine den_okF (env_ok (TOk.nil _)) (E := eTotal) Tryz.func40 [] (by kernel_rfl) none0 fun x _ _ => ?_
  exact q_total x
noncomputable def eRisePut : Env := env Tryz.prog [(36, dMailCheck), (38, dMailCopy), (37, dConcat cMail)] [] []
theorem q_risePut (x : HRise) (m : HMail) : evFn eRisePut 14 ((aCons (vAgg cRise) (aOne (vAgg cMail))).enc (x, m)) ([]) some =
 cond (N.mailCheck { id := HMail.id m, shop := HMail.shop m, key := HMail.key m, head := List.map (fun r => { key := V.toStr (List.getD r (0 : Nat) V.undef), kind := V.toInt (List.getD r (1 : Nat) V.undef), num := V.toInt (List.getD r (2 : Nat) V.undef), text := V.toStr (List.getD r (3 : Nat) V.undef) : HPair }) (List.map (fun p => [V.str (HPair.key p), V.int IntKind.u8 (HPair.kind p), V.int IntKind.i64 (HPair.num p), V.str (HPair.text p)]) (HMail.head m)), body := HMail.body m, due := HMail.due m, hops := HMail.hops m : HMail } != (0 : Int)) (some { v := V.tup [V.agg [V.int IntKind.u64 (HRise.total x), V.slc [Sh.int IntKind.u64, Sh.str, Sh.str, Sh.slc [Sh.str, Sh.int IntKind.u8, Sh.int IntKind.i64, Sh.str], Sh.str, Sh.int IntKind.u64, Sh.int IntKind.u8] (List.map (RCod.enc cMail) (HRise.kept x))], V.int IntKind.i64 (N.mailCheck { id := HMail.id m, shop := HMail.shop m, key := HMail.key m, head := List.map (fun r => { key := V.toStr (List.getD r (0 : Nat) V.undef), kind := V.toInt (List.getD r (1 : Nat) V.undef), num := V.toInt (List.getD r (2 : Nat) V.undef), text := V.toStr (List.getD r (3 : Nat) V.undef) : HPair }) (List.map (fun p => [V.str (HPair.key p), V.int IntKind.u8 (HPair.kind p), V.int IntKind.i64 (HPair.num p), V.str (HPair.text p)]) (HMail.head m)), body := HMail.body m, due := HMail.due m, hops := HMail.hops m : HMail })], bx := [] : DRes }) (cond (HRise.total x == (18446744073709551615 : Int)) (some { v := V.tup [V.agg [V.int IntKind.u64 (HRise.total x), V.slc [Sh.int IntKind.u64, Sh.str, Sh.str, Sh.slc [Sh.str, Sh.int IntKind.u8, Sh.int IntKind.i64, Sh.str], Sh.str, Sh.int IntKind.u64, Sh.int IntKind.u8] (List.map (RCod.enc cMail) (HRise.kept x))], V.int IntKind.i64 (18 : Int)], bx := [] : DRes }) (cond (Nat.ble (List.length (List.map (fun r => { key := V.toStr (List.getD r (0 : Nat) V.undef), kind := V.toInt (List.getD r (1 : Nat) V.undef), num := V.toInt (List.getD r (2 : Nat) V.undef), text := V.toStr (List.getD r (3 : Nat) V.undef) : HPair }) (List.map (fun p => [V.str (HPair.key p), V.int IntKind.u8 (HPair.kind p), V.int IntKind.i64 (HPair.num p), V.str (HPair.text p)]) (HMail.head m)))) (1000000 : Nat)) (cond (Nat.ble (List.length (List.map (RCod.dec cMail) (List.map (RCod.enc cMail) (HRise.kept x))) + (1 : Nat)) (100000 : Nat)) (cond (decide (((0 : Int) ≤ bif ilt (0 : Int) (IntKind.wrap IntKind.i64 ((↑(List.length (List.map (RCod.enc cMail) (N.flat [List.map (RCod.dec cMail) (List.map (RCod.enc cMail) (HRise.kept x)), List.map (RCod.dec cMail) [[V.int IntKind.u64 (HMail.id m), V.str (HMail.shop m), V.str (HMail.key m), V.slc [Sh.str, Sh.int IntKind.u8, Sh.int IntKind.i64, Sh.str] (List.map (fun p => [V.str (HPair.key p), V.int IntKind.u8 (HPair.kind p), V.int IntKind.i64 (HPair.num p), V.str (HPair.text p)]) (List.map (fun r => { key := V.toStr (List.getD r (0 : Nat) V.undef), kind := V.toInt (List.getD r (1 : Nat) V.undef), num := V.toInt (List.getD r (2 : Nat) V.undef), text := V.toStr (List.getD r (3 : Nat) V.undef) : HPair }) (List.map (fun p => [V.str (HPair.key p), V.int IntKind.u8 (HPair.kind p), V.int IntKind.i64 (HPair.num p), V.str (HPair.text p)]) (HMail.head m)))), V.str (HMail.body m), V.int IntKind.u64 (HMail.due m), V.int IntKind.u8 (HMail.hops m)]]]))) : Int) - (16 : Int))) then IntKind.wrap IntKind.i64 ((↑(List.length (List.map (RCod.enc cMail) (N.flat [List.map (RCod.dec cMail) (List.map (RCod.enc cMail) (HRise.kept x)), List.map (RCod.dec cMail) [[V.int IntKind.u64 (HMail.id m), V.str (HMail.shop m), V.str (HMail.key m), V.slc [Sh.str, Sh.int IntKind.u8, Sh.int IntKind.i64, Sh.str] (List.map (fun p => [V.str (HPair.key p), V.int IntKind.u8 (HPair.kind p), V.int IntKind.i64 (HPair.num p), V.str (HPair.text p)]) (List.map (fun r => { key := V.toStr (List.getD r (0 : Nat) V.undef), kind := V.toInt (List.getD r (1 : Nat) V.undef), num := V.toInt (List.getD r (2 : Nat) V.undef), text := V.toStr (List.getD r (3 : Nat) V.undef) : HPair }) (List.map (fun p => [V.str (HPair.key p), V.int IntKind.u8 (HPair.kind p), V.int IntKind.i64 (HPair.num p), V.str (HPair.text p)]) (HMail.head m)))), V.str (HMail.body m), V.int IntKind.u64 (HMail.due m), V.int IntKind.u8 (HMail.hops m)]]]))) : Int) - (16 : Int)) else (0 : Int)) ∧ (bif ilt (0 : Int) (IntKind.wrap IntKind.i64 ((↑(List.length (List.map (RCod.enc cMail) (N.flat [List.map (RCod.dec cMail) (List.map (RCod.enc cMail) (HRise.kept x)), List.map (RCod.dec cMail) [[V.int IntKind.u64 (HMail.id m), V.str (HMail.shop m), V.str (HMail.key m), V.slc [Sh.str, Sh.int IntKind.u8, Sh.int IntKind.i64, Sh.str] (List.map (fun p => [V.str (HPair.key p), V.int IntKind.u8 (HPair.kind p), V.int IntKind.i64 (HPair.num p), V.str (HPair.text p)]) (List.map (fun r => { key := V.toStr (List.getD r (0 : Nat) V.undef), kind := V.toInt (List.getD r (1 : Nat) V.undef), num := V.toInt (List.getD r (2 : Nat) V.undef), text := V.toStr (List.getD r (3 : Nat) V.undef) : HPair }) (List.map (fun p => [V.str (HPair.key p), V.int IntKind.u8 (HPair.kind p), V.int IntKind.i64 (HPair.num p), V.str (HPair.text p)]) (HMail.head m)))), V.str (HMail.body m), V.int IntKind.u64 (HMail.due m), V.int IntKind.u8 (HMail.hops m)]]]))) : Int) - (16 : Int))) then IntKind.wrap IntKind.i64 ((↑(List.length (List.map (RCod.enc cMail) (N.flat [List.map (RCod.dec cMail) (List.map (RCod.enc cMail) (HRise.kept x)), List.map (RCod.dec cMail) [[V.int IntKind.u64 (HMail.id m), V.str (HMail.shop m), V.str (HMail.key m), V.slc [Sh.str, Sh.int IntKind.u8, Sh.int IntKind.i64, Sh.str] (List.map (fun p => [V.str (HPair.key p), V.int IntKind.u8 (HPair.kind p), V.int IntKind.i64 (HPair.num p), V.str (HPair.text p)]) (List.map (fun r => { key := V.toStr (List.getD r (0 : Nat) V.undef), kind := V.toInt (List.getD r (1 : Nat) V.undef), num := V.toInt (List.getD r (2 : Nat) V.undef), text := V.toStr (List.getD r (3 : Nat) V.undef) : HPair }) (List.map (fun p => [V.str (HPair.key p), V.int IntKind.u8 (HPair.kind p), V.int IntKind.i64 (HPair.num p), V.str (HPair.text p)]) (HMail.head m)))), V.str (HMail.body m), V.int IntKind.u64 (HMail.due m), V.int IntKind.u8 (HMail.hops m)]]]))) : Int) - (16 : Int)) else (0 : Int)) ≤ (↑(List.length (List.map (RCod.enc cMail) (N.flat [List.map (RCod.dec cMail) (List.map (RCod.enc cMail) (HRise.kept x)), List.map (RCod.dec cMail) [[V.int IntKind.u64 (HMail.id m), V.str (HMail.shop m), V.str (HMail.key m), V.slc [Sh.str, Sh.int IntKind.u8, Sh.int IntKind.i64, Sh.str] (List.map (fun p => [V.str (HPair.key p), V.int IntKind.u8 (HPair.kind p), V.int IntKind.i64 (HPair.num p), V.str (HPair.text p)]) (List.map (fun r => { key := V.toStr (List.getD r (0 : Nat) V.undef), kind := V.toInt (List.getD r (1 : Nat) V.undef), num := V.toInt (List.getD r (2 : Nat) V.undef), text := V.toStr (List.getD r (3 : Nat) V.undef) : HPair }) (List.map (fun p => [V.str (HPair.key p), V.int IntKind.u8 (HPair.kind p), V.int IntKind.i64 (HPair.num p), V.str (HPair.text p)]) (HMail.head m)))), V.str (HMail.body m), V.int IntKind.u64 (HMail.due m), V.int IntKind.u8 (HMail.hops m)]]]))) : Int))) (some { v := V.tup [V.agg [V.int IntKind.u64 (IntKind.wrap IntKind.u64 (HRise.total x + (1 : Int))), V.slc [Sh.int IntKind.u64, Sh.str, Sh.str, Sh.slc [Sh.str, Sh.int IntKind.u8, Sh.int IntKind.i64, Sh.str], Sh.str, Sh.int IntKind.u64, Sh.int IntKind.u8] (List.drop (Int.toNat (bif ilt (0 : Int) (IntKind.wrap IntKind.i64 ((↑(List.length (List.map (RCod.enc cMail) (N.flat [List.map (RCod.dec cMail) (List.map (RCod.enc cMail) (HRise.kept x)), List.map (RCod.dec cMail) [[V.int IntKind.u64 (HMail.id m), V.str (HMail.shop m), V.str (HMail.key m), V.slc [Sh.str, Sh.int IntKind.u8, Sh.int IntKind.i64, Sh.str] (List.map (fun p => [V.str (HPair.key p), V.int IntKind.u8 (HPair.kind p), V.int IntKind.i64 (HPair.num p), V.str (HPair.text p)]) (List.map (fun r => { key := V.toStr (List.getD r (0 : Nat) V.undef), kind := V.toInt (List.getD r (1 : Nat) V.undef), num := V.toInt (List.getD r (2 : Nat) V.undef), text := V.toStr (List.getD r (3 : Nat) V.undef) : HPair }) (List.map (fun p => [V.str (HPair.key p), V.int IntKind.u8 (HPair.kind p), V.int IntKind.i64 (HPair.num p), V.str (HPair.text p)]) (HMail.head m)))), V.str (HMail.body m), V.int IntKind.u64 (HMail.due m), V.int IntKind.u8 (HMail.hops m)]]]))) : Int) - (16 : Int))) then IntKind.wrap IntKind.i64 ((↑(List.length (List.map (RCod.enc cMail) (N.flat [List.map (RCod.dec cMail) (List.map (RCod.enc cMail) (HRise.kept x)), List.map (RCod.dec cMail) [[V.int IntKind.u64 (HMail.id m), V.str (HMail.shop m), V.str (HMail.key m), V.slc [Sh.str, Sh.int IntKind.u8, Sh.int IntKind.i64, Sh.str] (List.map (fun p => [V.str (HPair.key p), V.int IntKind.u8 (HPair.kind p), V.int IntKind.i64 (HPair.num p), V.str (HPair.text p)]) (List.map (fun r => { key := V.toStr (List.getD r (0 : Nat) V.undef), kind := V.toInt (List.getD r (1 : Nat) V.undef), num := V.toInt (List.getD r (2 : Nat) V.undef), text := V.toStr (List.getD r (3 : Nat) V.undef) : HPair }) (List.map (fun p => [V.str (HPair.key p), V.int IntKind.u8 (HPair.kind p), V.int IntKind.i64 (HPair.num p), V.str (HPair.text p)]) (HMail.head m)))), V.str (HMail.body m), V.int IntKind.u64 (HMail.due m), V.int IntKind.u8 (HMail.hops m)]]]))) : Int) - (16 : Int)) else (0 : Int))) (List.take (List.length (List.map (RCod.enc cMail) (N.flat [List.map (RCod.dec cMail) (List.map (RCod.enc cMail) (HRise.kept x)), List.map (RCod.dec cMail) [[V.int IntKind.u64 (HMail.id m), V.str (HMail.shop m), V.str (HMail.key m), V.slc [Sh.str, Sh.int IntKind.u8, Sh.int IntKind.i64, Sh.str] (List.map (fun p => [V.str (HPair.key p), V.int IntKind.u8 (HPair.kind p), V.int IntKind.i64 (HPair.num p), V.str (HPair.text p)]) (List.map (fun r => { key := V.toStr (List.getD r (0 : Nat) V.undef), kind := V.toInt (List.getD r (1 : Nat) V.undef), num := V.toInt (List.getD r (2 : Nat) V.undef), text := V.toStr (List.getD r (3 : Nat) V.undef) : HPair }) (List.map (fun p => [V.str (HPair.key p), V.int IntKind.u8 (HPair.kind p), V.int IntKind.i64 (HPair.num p), V.str (HPair.text p)]) (HMail.head m)))), V.str (HMail.body m), V.int IntKind.u64 (HMail.due m), V.int IntKind.u8 (HMail.hops m)]]]))) (List.map (RCod.enc cMail) (N.flat [List.map (RCod.dec cMail) (List.map (RCod.enc cMail) (HRise.kept x)), List.map (RCod.dec cMail) [[V.int IntKind.u64 (HMail.id m), V.str (HMail.shop m), V.str (HMail.key m), V.slc [Sh.str, Sh.int IntKind.u8, Sh.int IntKind.i64, Sh.str] (List.map (fun p => [V.str (HPair.key p), V.int IntKind.u8 (HPair.kind p), V.int IntKind.i64 (HPair.num p), V.str (HPair.text p)]) (List.map (fun r => { key := V.toStr (List.getD r (0 : Nat) V.undef), kind := V.toInt (List.getD r (1 : Nat) V.undef), num := V.toInt (List.getD r (2 : Nat) V.undef), text := V.toStr (List.getD r (3 : Nat) V.undef) : HPair }) (List.map (fun p => [V.str (HPair.key p), V.int IntKind.u8 (HPair.kind p), V.int IntKind.i64 (HPair.num p), V.str (HPair.text p)]) (HMail.head m)))), V.str (HMail.body m), V.int IntKind.u64 (HMail.due m), V.int IntKind.u8 (HMail.hops m)]]]))))], V.int IntKind.i64 (0 : Int)], bx := [] : DRes }) (none)) (none)) (none))) := by kernel_rfl
theorem wr_u64 {n : Int} (h1 : 0 ≤ n) (h2 : n ≤ 18446744073709551615) : IntKind.wrap .u64 n = n := by
  simp only [IntKind.wrap, IntKind.signed, IntKind.bits]
  simp
  omega
theorem mail_row (m : HMail) : cMail.dec [V.int .u64 m.id, .str m.shop, .str m.key, .slc [.str, .int .u8, .int .i64, .str] (m.head.map fun p => [V.str p.key, V.int .u8 p.kind, V.int .i64 p.num, V.str p.text]), .str m.body, .int .u64 m.due, .int .u8 m.hops] = m := cMail.de m
theorem flat_two {α : Type} (a b : List α) : N.flat [a, b] = a ++ b := by
  show a ++ (b ++ []) = _
  rw [List.append_nil]
theorem ok_risePut : FnOk Tryz.prog 14 dRisePut := by
  refine den_okF (env_ok ((((TOk.nil _).cons ok_concatM).cons ok_mailCopy).cons ok_mailCheck)) (E := eRisePut) Tryz.func14 [] (by kernel_rfl) none0 fun a _ h => ?_
  obtain ⟨x, m⟩ := a
  obtain ⟨h1, h2⟩ := bcond h
  obtain ⟨h3, h4⟩ := bcond h1
  obtain ⟨h3, h5⟩ := bcond h3
  obtain ⟨h4, h6⟩ := bcond h4
  have h2 : m.head.length ≤ 1000000 := ble_of h2
  have h3 : 0 ≤ x.total := ile_of h3
  have h5 : x.total ≤ 18446744073709551615 := ile_of h5
  have h4 : x.kept.length ≤ 16 := ble_of h4
  refine (q_risePut x m).trans ?_
  show _ = some (⟨.tup [.agg (cRise.enc (N.risePut x m).1), .int .i64 (N.risePut x m).2], [], []⟩ : DRes)
  simp only [pairs_enc, dec_encs, List.map_cons, List.map_nil, mail_row, flat_two]
  unfold N.risePut
  cases hc : N.mailCheck m != 0 with
  | true => rfl
  | false =>
    cases ht : x.total == 18446744073709551615 with
    | true => rfl
    | false =>
      have ht : x.total ≠ 18446744073709551615 := fun e => by rw [e] at ht; cases ht
      have l1 : (List.map (RCod.enc cMail) (x.kept ++ [m])).length = x.kept.length + 1 := by simp
      have w : IntKind.wrap .i64 (((x.kept.length + 1 : Nat) : Int) - 16) = ((x.kept.length + 1 : Nat) : Int) - 16 := wr_i64 (by omega) (by omega)
      have w2 : IntKind.wrap .u64 (x.total + 1) = x.total + 1 := wr_u64 (by omega) (by omega)
      rw [l1, w, w2, List.take_of_length_le (Nat.le_of_eq l1), ble_t h2, ble_t (show x.kept.length + 1 ≤ 100000 by omega)]
      cases hl : ilt 0 (((x.kept.length + 1 : Nat) : Int) - 16) with
      | true =>
        have hl := ilt_of hl
        simp only [cond_true, cond_false]
        rw [decide_eq_true (by omega), ← List.map_drop, show ((((x.kept.length + 1 : Nat) : Int) - 16)).toNat = x.kept.length + 1 - 16 by omega]
        rfl
      | false =>
        have hl := ilt_nof hl
        simp only [cond_true, cond_false]
        rw [decide_eq_true (by omega), show x.kept.length + 1 - 16 = 0 by omega]
        rfl
end Go.Ev

/- What a rise tells behind a number: lemmas, no condition. -/
namespace Go.Ev
open Go Go.Proofs
set_option maxRecDepth 100000
-- FOLD

namespace N
def riseAfter (x : HRise) (n : Int) : Int × HMail × Bool :=
  cond (ile x.total n) (0, mail0, false) (cond (ilt (x.total - x.kept.length + 1) (n + 1)) (n + 1, x.kept.getD (n + 1 - (x.total - x.kept.length + 1)).toNat mail0, true) (x.total - x.kept.length + 1, x.kept.getD 0 mail0, true))
end N
def fullRise (x : HRise) : Bool := cond (goodRise x) (cond (ile x.kept.length x.total) (cond (Nat.beq x.kept.length 0) (x.total == 0) true) false) false
def dRiseAfter : Den := den (aCons (vAgg cRise) (aOne (vInt .u64))) bNil (oTup (aCons (vInt .u64) (aCons (vAgg cMail) (aOne vBool)))) (fun a _ => cond (fullRise a.1) (cond (ile 0 a.2) (ile a.2 18446744073709551615) false) false) fun a _ => (N.riseAfter a.1 a.2, ())
noncomputable def eRiseAfter : Env := env Tryz.prog [(38, dMailCopy)] [] []
theorem q_riseAfter (x : HRise) (n : Int) : evFn eRiseAfter 23 ((aCons (vAgg cRise) (aOne (vInt .u64))).enc (x, n)) ([]) some =
 cond (ile (HRise.total x) n) (some { v := V.tup [V.int IntKind.u64 (0 : Int), V.agg [V.int IntKind.u64 (0 : Int), V.str [], V.str [], V.slc [Sh.str, Sh.int IntKind.u8, Sh.int IntKind.i64, Sh.str] [], V.str [], V.int IntKind.u64 (0 : Int), V.int IntKind.u8 (0 : Int)], V.bool false], bx := [] : DRes }) (cond (decide ((0 : Int) ≤ IntKind.wrap IntKind.u64 ((bif ilt (IntKind.wrap IntKind.u64 (IntKind.wrap IntKind.u64 (HRise.total x - IntKind.wrap IntKind.u64 (↑(List.length (List.map (RCod.enc cMail) (HRise.kept x))) : Int)) + (1 : Int))) (IntKind.wrap IntKind.u64 (n + (1 : Int))) then IntKind.wrap IntKind.u64 (n + (1 : Int)) else IntKind.wrap IntKind.u64 (IntKind.wrap IntKind.u64 (HRise.total x - IntKind.wrap IntKind.u64 (↑(List.length (List.map (RCod.enc cMail) (HRise.kept x))) : Int)) + (1 : Int))) - IntKind.wrap IntKind.u64 (IntKind.wrap IntKind.u64 (HRise.total x - IntKind.wrap IntKind.u64 (↑(List.length (List.map (RCod.enc cMail) (HRise.kept x))) : Int)) + (1 : Int))) ∧ IntKind.wrap IntKind.u64 ((bif ilt (IntKind.wrap IntKind.u64 (IntKind.wrap IntKind.u64 (HRise.total x - IntKind.wrap IntKind.u64 (↑(List.length (List.map (RCod.enc cMail) (HRise.kept x))) : Int)) + (1 : Int))) (IntKind.wrap IntKind.u64 (n + (1 : Int))) then IntKind.wrap IntKind.u64 (n + (1 : Int)) else IntKind.wrap IntKind.u64 (IntKind.wrap IntKind.u64 (HRise.total x - IntKind.wrap IntKind.u64 (↑(List.length (List.map (RCod.enc cMail) (HRise.kept x))) : Int)) + (1 : Int))) - IntKind.wrap IntKind.u64 (IntKind.wrap IntKind.u64 (HRise.total x - IntKind.wrap IntKind.u64 (↑(List.length (List.map (RCod.enc cMail) (HRise.kept x))) : Int)) + (1 : Int))) < (↑(List.length (List.map (RCod.enc cMail) (HRise.kept x))) : Int))) (cond (Nat.ble (List.length (List.map (fun r => { key := V.toStr (List.getD r (0 : Nat) V.undef), kind := V.toInt (List.getD r (1 : Nat) V.undef), num := V.toInt (List.getD r (2 : Nat) V.undef), text := V.toStr (List.getD r (3 : Nat) V.undef) : HPair }) (V.toRows (List.getD (List.getD (List.map (RCod.enc cMail) (HRise.kept x)) (Int.toNat (IntKind.wrap IntKind.u64 ((bif ilt (IntKind.wrap IntKind.u64 (IntKind.wrap IntKind.u64 (HRise.total x - IntKind.wrap IntKind.u64 (↑(List.length (List.map (RCod.enc cMail) (HRise.kept x))) : Int)) + (1 : Int))) (IntKind.wrap IntKind.u64 (n + (1 : Int))) then IntKind.wrap IntKind.u64 (n + (1 : Int)) else IntKind.wrap IntKind.u64 (IntKind.wrap IntKind.u64 (HRise.total x - IntKind.wrap IntKind.u64 (↑(List.length (List.map (RCod.enc cMail) (HRise.kept x))) : Int)) + (1 : Int))) - IntKind.wrap IntKind.u64 (IntKind.wrap IntKind.u64 (HRise.total x - IntKind.wrap IntKind.u64 (↑(List.length (List.map (RCod.enc cMail) (HRise.kept x))) : Int)) + (1 : Int))))) []) (3 : Nat) V.undef)))) (1000000 : Nat)) (some { v := V.tup [V.int IntKind.u64 (bif ilt (IntKind.wrap IntKind.u64 (IntKind.wrap IntKind.u64 (HRise.total x - IntKind.wrap IntKind.u64 (↑(List.length (List.map (RCod.enc cMail) (HRise.kept x))) : Int)) + (1 : Int))) (IntKind.wrap IntKind.u64 (n + (1 : Int))) then IntKind.wrap IntKind.u64 (n + (1 : Int)) else IntKind.wrap IntKind.u64 (IntKind.wrap IntKind.u64 (HRise.total x - IntKind.wrap IntKind.u64 (↑(List.length (List.map (RCod.enc cMail) (HRise.kept x))) : Int)) + (1 : Int))), V.agg [V.int IntKind.u64 (V.toInt (List.getD (List.getD (List.map (RCod.enc cMail) (HRise.kept x)) (Int.toNat (IntKind.wrap IntKind.u64 ((bif ilt (IntKind.wrap IntKind.u64 (IntKind.wrap IntKind.u64 (HRise.total x - IntKind.wrap IntKind.u64 (↑(List.length (List.map (RCod.enc cMail) (HRise.kept x))) : Int)) + (1 : Int))) (IntKind.wrap IntKind.u64 (n + (1 : Int))) then IntKind.wrap IntKind.u64 (n + (1 : Int)) else IntKind.wrap IntKind.u64 (IntKind.wrap IntKind.u64 (HRise.total x - IntKind.wrap IntKind.u64 (↑(List.length (List.map (RCod.enc cMail) (HRise.kept x))) : Int)) + (1 : Int))) - IntKind.wrap IntKind.u64 (IntKind.wrap IntKind.u64 (HRise.total x - IntKind.wrap IntKind.u64 (↑(List.length (List.map (RCod.enc cMail) (HRise.kept x))) : Int)) + (1 : Int))))) []) (0 : Nat) V.undef)), V.str (V.toStr (List.getD (List.getD (List.map (RCod.enc cMail) (HRise.kept x)) (Int.toNat (IntKind.wrap IntKind.u64 ((bif ilt (IntKind.wrap IntKind.u64 (IntKind.wrap IntKind.u64 (HRise.total x - IntKind.wrap IntKind.u64 (↑(List.length (List.map (RCod.enc cMail) (HRise.kept x))) : Int)) + (1 : Int))) (IntKind.wrap IntKind.u64 (n + (1 : Int))) then IntKind.wrap IntKind.u64 (n + (1 : Int)) else IntKind.wrap IntKind.u64 (IntKind.wrap IntKind.u64 (HRise.total x - IntKind.wrap IntKind.u64 (↑(List.length (List.map (RCod.enc cMail) (HRise.kept x))) : Int)) + (1 : Int))) - IntKind.wrap IntKind.u64 (IntKind.wrap IntKind.u64 (HRise.total x - IntKind.wrap IntKind.u64 (↑(List.length (List.map (RCod.enc cMail) (HRise.kept x))) : Int)) + (1 : Int))))) []) (1 : Nat) V.undef)), V.str (V.toStr (List.getD (List.getD (List.map (RCod.enc cMail) (HRise.kept x)) (Int.toNat (IntKind.wrap IntKind.u64 ((bif ilt (IntKind.wrap IntKind.u64 (IntKind.wrap IntKind.u64 (HRise.total x - IntKind.wrap IntKind.u64 (↑(List.length (List.map (RCod.enc cMail) (HRise.kept x))) : Int)) + (1 : Int))) (IntKind.wrap IntKind.u64 (n + (1 : Int))) then IntKind.wrap IntKind.u64 (n + (1 : Int)) else IntKind.wrap IntKind.u64 (IntKind.wrap IntKind.u64 (HRise.total x - IntKind.wrap IntKind.u64 (↑(List.length (List.map (RCod.enc cMail) (HRise.kept x))) : Int)) + (1 : Int))) - IntKind.wrap IntKind.u64 (IntKind.wrap IntKind.u64 (HRise.total x - IntKind.wrap IntKind.u64 (↑(List.length (List.map (RCod.enc cMail) (HRise.kept x))) : Int)) + (1 : Int))))) []) (2 : Nat) V.undef)), V.slc [Sh.str, Sh.int IntKind.u8, Sh.int IntKind.i64, Sh.str] (List.map (fun p => [V.str (HPair.key p), V.int IntKind.u8 (HPair.kind p), V.int IntKind.i64 (HPair.num p), V.str (HPair.text p)]) (List.map (fun r => { key := V.toStr (List.getD r (0 : Nat) V.undef), kind := V.toInt (List.getD r (1 : Nat) V.undef), num := V.toInt (List.getD r (2 : Nat) V.undef), text := V.toStr (List.getD r (3 : Nat) V.undef) : HPair }) (V.toRows (List.getD (List.getD (List.map (RCod.enc cMail) (HRise.kept x)) (Int.toNat (IntKind.wrap IntKind.u64 ((bif ilt (IntKind.wrap IntKind.u64 (IntKind.wrap IntKind.u64 (HRise.total x - IntKind.wrap IntKind.u64 (↑(List.length (List.map (RCod.enc cMail) (HRise.kept x))) : Int)) + (1 : Int))) (IntKind.wrap IntKind.u64 (n + (1 : Int))) then IntKind.wrap IntKind.u64 (n + (1 : Int)) else IntKind.wrap IntKind.u64 (IntKind.wrap IntKind.u64 (HRise.total x - IntKind.wrap IntKind.u64 (↑(List.length (List.map (RCod.enc cMail) (HRise.kept x))) : Int)) + (1 : Int))) - IntKind.wrap IntKind.u64 (IntKind.wrap IntKind.u64 (HRise.total x - IntKind.wrap IntKind.u64 (↑(List.length (List.map (RCod.enc cMail) (HRise.kept x))) : Int)) + (1 : Int))))) []) (3 : Nat) V.undef)))), V.str (V.toStr (List.getD (List.getD (List.map (RCod.enc cMail) (HRise.kept x)) (Int.toNat (IntKind.wrap IntKind.u64 ((bif ilt (IntKind.wrap IntKind.u64 (IntKind.wrap IntKind.u64 (HRise.total x - IntKind.wrap IntKind.u64 (↑(List.length (List.map (RCod.enc cMail) (HRise.kept x))) : Int)) + (1 : Int))) (IntKind.wrap IntKind.u64 (n + (1 : Int))) then IntKind.wrap IntKind.u64 (n + (1 : Int)) else IntKind.wrap IntKind.u64 (IntKind.wrap IntKind.u64 (HRise.total x - IntKind.wrap IntKind.u64 (↑(List.length (List.map (RCod.enc cMail) (HRise.kept x))) : Int)) + (1 : Int))) - IntKind.wrap IntKind.u64 (IntKind.wrap IntKind.u64 (HRise.total x - IntKind.wrap IntKind.u64 (↑(List.length (List.map (RCod.enc cMail) (HRise.kept x))) : Int)) + (1 : Int))))) []) (4 : Nat) V.undef)), V.int IntKind.u64 (V.toInt (List.getD (List.getD (List.map (RCod.enc cMail) (HRise.kept x)) (Int.toNat (IntKind.wrap IntKind.u64 ((bif ilt (IntKind.wrap IntKind.u64 (IntKind.wrap IntKind.u64 (HRise.total x - IntKind.wrap IntKind.u64 (↑(List.length (List.map (RCod.enc cMail) (HRise.kept x))) : Int)) + (1 : Int))) (IntKind.wrap IntKind.u64 (n + (1 : Int))) then IntKind.wrap IntKind.u64 (n + (1 : Int)) else IntKind.wrap IntKind.u64 (IntKind.wrap IntKind.u64 (HRise.total x - IntKind.wrap IntKind.u64 (↑(List.length (List.map (RCod.enc cMail) (HRise.kept x))) : Int)) + (1 : Int))) - IntKind.wrap IntKind.u64 (IntKind.wrap IntKind.u64 (HRise.total x - IntKind.wrap IntKind.u64 (↑(List.length (List.map (RCod.enc cMail) (HRise.kept x))) : Int)) + (1 : Int))))) []) (5 : Nat) V.undef)), V.int IntKind.u8 (V.toInt (List.getD (List.getD (List.map (RCod.enc cMail) (HRise.kept x)) (Int.toNat (IntKind.wrap IntKind.u64 ((bif ilt (IntKind.wrap IntKind.u64 (IntKind.wrap IntKind.u64 (HRise.total x - IntKind.wrap IntKind.u64 (↑(List.length (List.map (RCod.enc cMail) (HRise.kept x))) : Int)) + (1 : Int))) (IntKind.wrap IntKind.u64 (n + (1 : Int))) then IntKind.wrap IntKind.u64 (n + (1 : Int)) else IntKind.wrap IntKind.u64 (IntKind.wrap IntKind.u64 (HRise.total x - IntKind.wrap IntKind.u64 (↑(List.length (List.map (RCod.enc cMail) (HRise.kept x))) : Int)) + (1 : Int))) - IntKind.wrap IntKind.u64 (IntKind.wrap IntKind.u64 (HRise.total x - IntKind.wrap IntKind.u64 (↑(List.length (List.map (RCod.enc cMail) (HRise.kept x))) : Int)) + (1 : Int))))) []) (6 : Nat) V.undef))], V.bool true], bx := [] : DRes }) (none)) (none)) := by kernel_rfl
theorem getD_enc {α : Type} (c : RCod α) (l : List α) (i : Nat) (d : α) (h : i < l.length) : (l.map c.enc).getD i [] = c.enc (l.getD i d) := by
  rw [List.getD_eq_getElem?_getD, List.getD_eq_getElem?_getD, List.getElem?_map, List.getElem?_eq_getElem h]
  rfl
theorem all_getD {α : Type} {p : α → Bool} {l : List α} (h : l.all p = true) (i : Nat) (d : α) (hi : i < l.length) : p (l.getD i d) = true := by
  rw [List.getD_eq_getElem?_getD, List.getElem?_eq_getElem hi]
  exact List.all_eq_true.1 h _ (List.getElem_mem hi)
/-- A message that was read of a row. -/
theorem mail_got (m : HMail) (sm : m.head.length ≤ 1000000) (n : Int) (b : Bool) :
    cond (Nat.ble (V.toRows (List.getD (cMail.enc m) 3 .undef)).length 1000000)
      (some (⟨.tup [.int .u64 n, .agg [.int .u64 (V.toInt (List.getD (cMail.enc m) 0 .undef)), .str (V.toStr (List.getD (cMail.enc m) 1 .undef)), .str (V.toStr (List.getD (cMail.enc m) 2 .undef)),
        .slc [.str, .int .u8, .int .i64, .str] (((V.toRows (List.getD (cMail.enc m) 3 .undef)).map fun r => ({ key := V.toStr (List.getD r 0 .undef), kind := V.toInt (List.getD r 1 .undef), num := V.toInt (List.getD r 2 .undef), text := V.toStr (List.getD r 3 .undef) } : HPair)).map fun p => [V.str p.key, V.int .u8 p.kind, V.int .i64 p.num, V.str p.text]),
        .str (V.toStr (List.getD (cMail.enc m) 4 .undef)), .int .u64 (V.toInt (List.getD (cMail.enc m) 5 .undef)), .int .u8 (V.toInt (List.getD (cMail.enc m) 6 .undef))], .bool b], [], []⟩ : DRes)) none =
    some (⟨.tup [.int .u64 n, .agg (cMail.enc m), .bool b], [], []⟩ : DRes) := by
  have e : ((V.toRows (List.getD (cMail.enc m) 3 .undef)).map fun r => ({ key := V.toStr (List.getD r 0 .undef), kind := V.toInt (List.getD r 1 .undef), num := V.toInt (List.getD r 2 .undef), text := V.toStr (List.getD r 3 .undef) } : HPair)) = m.head := pairs_enc m.head
  have e2 : (V.toRows (List.getD (cMail.enc m) 3 .undef)).length = m.head.length := List.length_map ..
  rw [e, e2, ble_t sm]
  rfl
theorem ok_riseAfter : FnOk Tryz.prog 23 dRiseAfter := by
  refine den_okF (env_ok ((TOk.nil _).cons ok_mailCopy)) (E := eRiseAfter) Tryz.func23 [] (by kernel_rfl) none0 fun a _ h => ?_
  obtain ⟨x, n⟩ := a
  obtain ⟨h1, h2⟩ := bcond h
  obtain ⟨h1, h7⟩ := bcond h1
  obtain ⟨h7, h8⟩ := bcond h7
  obtain ⟨h3, h4⟩ := bcond h1
  obtain ⟨h3, h5⟩ := bcond h3
  obtain ⟨h4, h6⟩ := bcond h4
  obtain ⟨h2, h9⟩ := bcond h2
  have h2 : 0 ≤ n := ile_of h2
  have h3 : 0 ≤ x.total := ile_of h3
  have h5 : x.total ≤ 18446744073709551615 := ile_of h5
  have h4 : x.kept.length ≤ 16 := ble_of h4
  have h7 : (x.kept.length : Int) ≤ x.total := ile_of h7
  refine (q_riseAfter x n).trans ?_
  show _ = some (⟨.tup [.int .u64 (N.riseAfter x n).1, .agg (cMail.enc (N.riseAfter x n).2.1), .bool (N.riseAfter x n).2.2], [], []⟩ : DRes)
  unfold N.riseAfter
  cases ht : ile x.total n with
  | true => rfl
  | false =>
    have ht := ile_nof ht
    have h8 : x.kept.length ≠ 0 := fun e => by
      rw [e] at h8
      have h8 : x.total = 0 := ieq_of h8
      omega
    have w1 := wr_u64 (n := (x.kept.length : Int)) (by omega) (by omega)
    have w2 := wr_u64 (n := x.total - x.kept.length) (by omega) (by omega)
    have w3 := wr_u64 (n := x.total - x.kept.length + 1) (by omega) (by omega)
    have w4 := wr_u64 (n := n + 1) (by omega) (by omega)
    simp only [List.length_map, w1, w2, w3, w4]
    cases hl : ilt (x.total - x.kept.length + 1) (n + 1) with
    | true =>
      have hl := ilt_of hl
      have w5 := wr_u64 (n := n + 1 - (x.total - x.kept.length + 1)) (by omega) (by omega)
      have d : decide (0 ≤ n + 1 - (x.total - x.kept.length + 1) ∧ n + 1 - (x.total - x.kept.length + 1) < x.kept.length) = true := decide_eq_true (by omega)
      have hi : (n + 1 - (x.total - x.kept.length + 1)).toNat < x.kept.length := by omega
      simp only [cond_true, cond_false, w5, d, getD_enc cMail x.kept _ mail0 hi, List.length_map]
      have sm : (x.kept.getD (n + 1 - (x.total - x.kept.length + 1)).toNat mail0).head.length ≤ 1000000 := ble_of (all_getD h6 _ mail0 hi)
      generalize x.kept.getD (n + 1 - (x.total - x.kept.length + 1)).toNat mail0 = m at sm ⊢
      exact mail_got m sm _ _
    | false =>
      have hl := ilt_nof hl
      have w5 := wr_u64 (n := x.total - x.kept.length + 1 - (x.total - x.kept.length + 1)) (by omega) (by omega)
      have e5 : x.total - x.kept.length + 1 - (x.total - x.kept.length + 1) = 0 := by omega
      rw [e5] at w5
      have d : decide ((0 : Int) ≤ 0 ∧ (0 : Int) < x.kept.length) = true := decide_eq_true (by omega)
      have hi : 0 < x.kept.length := by omega
      simp only [cond_true, cond_false, e5, w5, d, Int.toNat_zero, getD_enc cMail x.kept 0 mail0 hi, List.length_map]
      have sm : (x.kept.getD 0 mail0).head.length ≤ 1000000 := ble_of (all_getD h6 _ mail0 hi)
      generalize x.kept.getD 0 mail0 = m at sm ⊢
      exact mail_got m sm _ _
end Go.Ev

/- What rises tell, in plain terms: lemmas, no condition. -/
namespace Go.Ev
open Go Go.Proofs
set_option maxRecDepth 100000

namespace N
def puts : HRise → List HMail → HRise
  | x, [] => x
  | x, m :: r => puts (risePut x m).1 r
def tell (x : HRise) : Nat → Int → List HMail → Int × List HMail
  | 0, last, got => (last, got)
  | n + 1, last, got => cond (riseAfter x last).2.2 (tell x n (riseAfter x last).1 (got ++ [(riseAfter x last).2.1])) (last, got)
def many (asks : List Int) (n k : Nat) : Nat := cond (Nat.blt k n) (cond (Nat.blt k asks.length) (Int.tmod (IntKind.wrap .i64 (asks.getD k 0)) 3).toNat 0) 16
def play (asks : List Int) (l : List HMail) : Nat → Nat → HRise → Int → List HMail → List HMail → Option (HRise × Int × List HMail × List HMail)
  | 0, _, x, last, good, got => some (x, last, good, got)
  | f + 1, k, x, last, good, got => cond (ilt 16 (x.total - last)) none
      (cond (Nat.blt k l.length)
        (play asks l f (k + 1) (risePut x (l.getD k mail0)).1 (tell x (many asks l.length k) last got).1 (cond ((risePut x (l.getD k mail0)).2 == 0) (good ++ [l.getD k mail0]) good) (tell x (many asks l.length k) last got).2)
        (play asks l f (k + 1) x (tell x (many asks l.length k) last got).1 good (tell x (many asks l.length k) last got).2))
end N
/-- A rise that has had just these. -/
structure RInv (x : HRise) (g : List HMail) : Prop where
  total : x.total = g.length
  kept : x.kept = g.drop (g.length - 16)
  small : g.all smallM = true
  few : g.length < 1000
theorem RInv.len {x : HRise} {g : List HMail} (h : RInv x g) : x.kept.length = g.length - (g.length - 16) := by rw [h.kept, List.length_drop]
theorem rinv0 : RInv rise0 [] := ⟨rfl, rfl, rfl, by decide⟩
theorem RInv.good {x : HRise} {g : List HMail} (h : RInv x g) : goodRise x = true := by
  have := h.few
  have hl := h.len
  unfold goodRise
  rw [h.total, ile_t (by omega), ile_t (by omega), ble_t (by omega), h.kept]
  show (List.all (g.drop _) smallM) = true
  rw [List.all_eq_true]
  intro m hm
  exact List.all_eq_true.1 h.small m (List.mem_of_mem_drop hm)
theorem RInv.full {x : HRise} {g : List HMail} (h : RInv x g) : fullRise x = true := by
  have hl := h.len
  unfold fullRise
  rw [h.good, h.total, ile_t (by omega)]
  simp only [cond_true]
  cases e : Nat.beq x.kept.length 0 with
  | false => rfl
  | true =>
    have := Nat.eq_of_beq_eq_true e
    show (((g.length : Nat) : Int) == 0) = true
    exact ieq_t (by omega)
theorem put_bad {x : HRise} {m : HMail} (h : (N.risePut x m).2 ≠ 0) : (N.risePut x m).1 = x := by
  unfold N.risePut at *
  cases hc : N.mailCheck m != 0 with
  | true => rfl
  | false =>
    rw [hc] at h
    cases ht : x.total == 18446744073709551615 with
    | true => rfl
    | false => rw [ht] at h; exact absurd rfl h
theorem put_inv {x : HRise} {g : List HMail} (h : RInv x g) {m : HMail} (h2 : g.length < 999) (hs : smallM m = true) (h0 : (N.risePut x m).2 = 0) : RInv (N.risePut x m).1 (g ++ [m]) := by
  have hl := h.len
  have ht := h.total
  have hlen : (g ++ [m]).length = g.length + 1 := by simp
  unfold N.risePut at *
  cases hc : N.mailCheck m != 0 with
  | true => rw [hc] at h0; have h0 : N.mailCheck m = 0 := h0; rw [h0] at hc; cases hc
  | false =>
    rw [show (x.total == 18446744073709551615) = false from ieq_f (by omega)]
    refine ⟨?_, ?_, ?_, by omega⟩
    · show x.total + 1 = _
      rw [hlen, ht]; rfl
    · show (x.kept ++ [m]).drop (x.kept.length + 1 - 16) = (g ++ [m]).drop ((g ++ [m]).length - 16)
      rw [hlen, hl, h.kept, ← List.drop_append_of_le_length (show g.length - 16 ≤ g.length by omega), List.drop_drop]
      congr 1
      omega
    · rw [List.all_append, h.small]
      show smallM m && true = true
      rw [hs]; rfl
theorem put_any {x : HRise} {g : List HMail} (h : RInv x g) {m : HMail} (h2 : g.length < 999) (hs : smallM m = true) : RInv (N.risePut x m).1 (cond ((N.risePut x m).2 == 0) (g ++ [m]) g) := by
  cases hc : (N.risePut x m).2 == 0 with
  | true => exact put_inv h h2 hs (ieq_of hc)
  | false =>
    rw [put_bad (fun e => by rw [e] at hc; cases hc)]
    exact h
end Go.Ev

/- What the statement on heads that are read reckons: lemmas; the function that writes numbers is a premise. -/
namespace Go.Ev
open Go Go.Proofs
set_option maxRecDepth 100000

end Go.Ev

/- What the statement on heads' bytes reckons: lemmas; the functions that write numbers are premises. -/
namespace Go.Ev
open Go Go.Proofs
set_option maxRecDepth 100000

/-- The search from behind. -/
def N.back (key : Bytes) (l : List HPair) : Nat → HPair × Bool → HPair × Bool
  | 0, w => w
  | k + 1, w => back key l k (cond ((l.getD k pair0).key == key) (l.getD k pair0, true) w)
end Go.Ev

/- What the statement on heads' bytes reckons: it is true; the functions that write numbers are premises. -/
namespace Go.Ev
open Go Go.Proofs
set_option maxRecDepth 100000

def N.okP (p : HPair) : Bool := cond (ile 0 p.kind) (cond (ilt p.kind 256) (cond (ile (-9223372036854775808) p.num) (ile p.num 9223372036854775807) false) false) false
theorem okP_of {p : HPair} (h : N.okP p = true) : PairOk p := by
  obtain ⟨h1, h⟩ := bcond h
  obtain ⟨h2, h⟩ := bcond h
  obtain ⟨h3, h4⟩ := bcond h
  exact ⟨ile_of h1, ilt_of h2, ile_of h3, ile_of h4⟩
theorem refPairB_eq {p : HPair} {l : List HPair} (ho : PairOk p) (h : N.pairE p l = 0) : N.refPairB p = N.pairB p := by
  obtain ⟨_, h2, _⟩ := pairE_zero h
  have h1 := ho.1
  unfold N.refPairB N.pairB
  rcases (by omega : p.kind = 0 ∨ p.kind = 1 ∨ p.kind = 2) with k | k | k <;> rw [k] <;> rfl
theorem refPairs_eq (h : List HPair) (ho : ∀ p ∈ h, PairOk p) (hc : ∀ j, j < h.length → N.pairE (h.getD j pair0) (h.take j) = 0) : ∀ (f i : Nat), i + f = h.length → N.refPairsB (h.drop i) = N.pairsB (h.drop i)
  | 0, i, hi => by rw [List.drop_eq_nil_of_le (by omega)]; rfl
  | f + 1, i, hi => by
    have hlt : i < h.length := by omega
    have hm : h.getD i pair0 ∈ h := by rw [List.getD_eq_getElem?_getD, List.getElem?_eq_getElem hlt]; exact List.getElem_mem _
    rw [getD_drop pair0 hlt]
    show N.refPairB _ ++ N.refPairsB (h.drop (i + 1)) = N.pairB _ ++ N.pairsB (h.drop (i + 1))
    rw [refPairB_eq (ho _ hm) (hc i hlt), refPairs_eq h ho hc f (i + 1) (by omega)]
theorem refHead_eq (h : List HPair) (ho : ∀ p ∈ h, PairOk p) (hz : N.headCheck h = 0) : N.refHeadBytes h = N.headBytes h := by
  unfold N.headCheck at hz
  cases e : ilt 8 h.length with
  | true => rw [e] at hz; cases hz
  | false =>
    have e' := ilt_nof e
    rw [e, cond_false] at hz
    have hc : ∀ j, j < h.length → N.pairE (h.getD j pair0) (h.take j) = 0 := fun j hj => checkFrom_all h h.length 0 (Int.le_refl _) hz j (by omega) (by omega)
    unfold N.refHeadBytes N.headBytes
    have := refPairs_eq h ho hc h.length 0 (by omega)
    rw [List.drop_zero] at this
    rw [this, wrap_u64 (n := (h.length : Int)) (by omega) (by omega)]
end Go.Ev

/- Messages: what was written is read again; the program's reader and the document's go together: lemmas on the plain functions. -/
namespace Go.Ev
open Go

theorem from_appR (z : Bytes) (h : List HPair) (ho : ∀ p ∈ h, PairOk p) (hc : ∀ j, j < h.length → N.pairE (h.getD j pair0) (h.take j) = 0) : ∀ (f i : Nat), i + f = h.length → N.readFrom f ⟨N.pairsB (h.drop i) ++ z, 0⟩ (h.take i) = (h, ⟨z, 0⟩)
  | 0, i, hi => by
    rw [List.drop_eq_nil_of_le (by omega), List.take_of_length_le (by omega)]; rfl
  | f + 1, i, hi => by
    have hlt : i < h.length := by omega
    have hm : h.getD i pair0 ∈ h := by rw [List.getD_eq_getElem?_getD, List.getElem?_eq_getElem hlt]; exact List.getElem_mem _
    rw [getD_drop pair0 hlt]
    have e : N.pairsB (h.getD i pair0 :: h.drop (i + 1)) ++ z = N.pairB (h.getD i pair0) ++ (N.pairsB (h.drop (i + 1)) ++ z) := List.append_assoc ..
    rw [e]
    unfold N.readFrom
    rw [one_app (ho _ hm) (hc i hlt)]
    have b : N.bad (h.getD i pair0) (h.take i) ⟨N.pairsB (h.drop (i + 1)) ++ z, 0⟩ = ⟨N.pairsB (h.drop (i + 1)) ++ z, 0⟩ := by
      unfold N.bad N.inFail
      rw [hc i hlt]; rfl
    show cond ((N.bad (h.getD i pair0) (h.take i) ⟨N.pairsB (h.drop (i + 1)) ++ z, 0⟩).err != 0) _ (N.readFrom f (N.bad (h.getD i pair0) (h.take i) ⟨N.pairsB (h.drop (i + 1)) ++ z, 0⟩) (h.take i ++ [h.getD i pair0])) = _
    rw [b]
    have ht : h.take i ++ [h.getD i pair0] = h.take (i + 1) := by
      rw [List.take_add_one, List.getD_eq_getElem?_getD, List.getElem?_eq_getElem hlt]; rfl
    rw [ht]
    exact from_appR z h ho hc f (i + 1) (by omega)
theorem read_backR (z : Bytes) (h : List HPair) (ho : ∀ p ∈ h, PairOk p) (hz : N.headCheck h = 0) : N.headRead ⟨N.headBytes h ++ z, 0⟩ = (h, ⟨z, 0⟩) := by
  unfold N.headCheck at hz
  cases e : ilt 8 h.length with
  | true => rw [e] at hz; cases hz
  | false =>
    have e' := ilt_nof e
    rw [e, cond_false] at hz
    have hc : ∀ j, j < h.length → N.pairE (h.getD j pair0) (h.take j) = 0 := fun j hj => checkFrom_all h h.length 0 (Int.le_refl _) hz j (by omega) (by omega)
    unfold N.headRead N.headBytes
    have en : N.inNum ⟨N.numB h.length 1 ++ (N.pairsB h ++ z), 0⟩ 1 = ((h.length : Int), ⟨N.pairsB h ++ z, 0⟩) := num_app 1 (by decide) _ (by omega) (by show (h.length : Int) < 256; omega) _
    rw [List.append_assoc, en]
    show N.readFrom (IntKind.wrap .i64 h.length).toNat (cond (ilt 8 (IntKind.wrap .i64 h.length)) _ _) [] = _
    rw [wrap_i64 (n := (h.length : Int)) (by omega) (by omega), e, cond_false, Int.toNat_natCast]
    exact from_appR z h ho hc h.length 0 (by omega)
theorem mail_back (z : Bytes) (m : HMail) (hk : N.okM m = true) (ho : ∀ p ∈ m.head, PairOk p) (hz : N.mailCheck m = 0) : N.mailRead ⟨N.mailB m ++ z, 0⟩ = (m, ⟨z, 0⟩) := by
  obtain ⟨⟨a1, a2⟩, ⟨a3, a4⟩, ⟨a5, a6⟩⟩ := okM_of hk
  obtain ⟨c1, c2, c3, c4, c5, _⟩ := mailCheck_fit hz
  have wh : IntKind.wrap .u64 m.hops = m.hops := wrap_u64 (by omega) (by omega)
  have wh8 : IntKind.wrap .u8 m.hops = m.hops := wrap_u8' a5 a6
  have e : N.mailB m ++ z = N.numB m.id 8 ++ (N.textB m.shop ++ (N.textB m.key ++ (N.headBytes m.head ++ (N.textB m.body ++ (N.numB m.due 8 ++ (N.numB m.hops 1 ++ z)))))) := by
    unfold N.mailB; rw [wh]; simp only [List.append_assoc]
  unfold N.mailRead
  dsimp only
  rw [e]
  have p8 : (256 : Int) ^ 8 = 18446744073709551616 := rfl
  have p1 : (256 : Int) ^ 1 = 256 := rfl
  have s1 := num_app 8 (by decide) m.id a1 (by rw [p8]; exact a2) (N.textB m.shop ++ (N.textB m.key ++ (N.headBytes m.head ++ (N.textB m.body ++ (N.numB m.due 8 ++ (N.numB m.hops 1 ++ z))))))
  have s2 := text_app m.shop 16 (by omega) (by omega) (N.textB m.key ++ (N.headBytes m.head ++ (N.textB m.body ++ (N.numB m.due 8 ++ (N.numB m.hops 1 ++ z)))))
  have s3 := text_app m.key 64 (by omega) (by omega) (N.headBytes m.head ++ (N.textB m.body ++ (N.numB m.due 8 ++ (N.numB m.hops 1 ++ z))))
  have s4 := read_backR (N.textB m.body ++ (N.numB m.due 8 ++ (N.numB m.hops 1 ++ z))) m.head ho c3
  have s5 := text_app m.body 256 (by omega) (by omega) (N.numB m.due 8 ++ (N.numB m.hops 1 ++ z))
  have s6 := num_app 8 (by decide) m.due a3 (by rw [p8]; exact a4) (N.numB m.hops 1 ++ z)
  have s7 := num_app 1 (by decide) m.hops a5 (by rw [p1]; exact a6) z
  have k8 : ((8 : Nat) : Int) = 8 := rfl
  have k1 : ((1 : Nat) : Int) = 1 := rfl
  rw [k8] at s1 s6
  rw [k1] at s7
  rw [s1]
  dsimp only
  rw [s2]
  dsimp only
  rw [s3]
  dsimp only
  rw [s4]
  dsimp only
  rw [s5]
  dsimp only
  rw [s6]
  dsimp only
  rw [s7]
  dsimp only
  rw [wh8]
  unfold N.mailEnd N.inFail
  have ez : N.mailCheck ⟨m.id, m.shop, m.key, m.head, m.body, m.due, m.hops⟩ = 0 := hz
  rw [ez]; rfl
theorem refMailB_eq {m : HMail} (ho : ∀ p ∈ m.head, PairOk p) (hz : N.mailCheck m = 0) : N.refMailB m = N.mailB m := by
  unfold N.refMailB N.mailB
  rw [refHead_eq m.head ho (mailCheck_fit hz).2.2.1]
theorem fitM_of {m : HMail} (hk : N.okM m = true) (hz : N.mailCheck m = 0) : N.fitM m = true := by
  obtain ⟨c1, c2, c3, c4, c5, _⟩ := mailCheck_fit hz
  obtain ⟨c6, c7⟩ := check_fit c3
  unfold N.fitM
  rw [hk, ble_t (by omega), ble_t (by omega), ble_t (by omega), c7, ble_t (by omega)]; rfl
theorem mailSame_refl (m : HMail) : N.mailSame m m = true := by
  unfold N.mailSame
  simp only [beq_self_eq_true, samePs_refl, cond_true]
theorem mailB_len {m : HMail} (hz : N.mailCheck m = 0) : (N.mailB m).length ≤ 1570 := by
  obtain ⟨c1, c2, c3, c4, c5, _⟩ := mailCheck_fit hz
  have := headB_len c3
  unfold N.mailB
  simp only [List.length_append, numB_len, textB_len]; omega
end Go.Ev

/- Rules: the program's way and the document's are one: lemmas on the plain functions. -/
namespace Go.Ev
open Go

end Go.Ev

/- The functions that tell which messages go by a rule answer what the plain ones do: lemmas, no condition. -/
namespace Go.Ev
open Go Go.Proofs
set_option maxRecDepth 100000

end Go.Ev

/- Words joined again, patterns of stars: plain lemmas, no condition. -/
namespace Go.Ev
open Go
namespace N
end N
/-! ### Keys as patterns -/
end Go.Ev

/- What the statements on rules reckon: each is true; lemmas; the function that writes numbers is a premise. -/
namespace Go.Ev
open Go Go.Proofs
set_option maxRecDepth 100000

noncomputable def eAw9' : Env := env Tryz.prog [(85, dTrue)] [] []
theorem q_aw9'  : evFn eAw9' 75 [] [] some =
 some { v := V.bool true, bx := [] : DRes } := by kernel_rfl
theorem ok_aw9' (hN : FnOk Tryz.prog 44 dOutNum) : FnOk Tryz.prog 75 dTrue := den_okF (env_ok ((TOk.nil _).cons (ok_aw9 hN))) (E := eAw9') Tryz.func75 [] (by kernel_rfl) none0 fun _ _ _ => q_aw9'
theorem int_wf' {k : IntKind} {n : Int} (h : wfV (.int k n) = true) : k.min ≤ n ∧ n ≤ k.max := by
  unfold wfV Lit.wf at h
  simp at h
  exact h
end Go.Ev

/- The statement on heads' bytes: what it reckons is true of what comes in; lemmas, no condition. -/
namespace Go.Ev
open Go Go.Proofs
set_option maxRecDepth 100000

theorem int_wf {k : IntKind} {n : Int} (h : wfV (.int k n) = true) : k.min ≤ n ∧ n ≤ k.max := by
  unfold wfV Lit.wf at h
  simp at h
  exact h
theorem pair_wf {p : HPair} (h : wfL (cPair.enc p) = true) : N.okP p = true := by
  have h : cond (wfV (.str p.key)) (cond (wfV (.int .u8 p.kind)) (cond (wfV (.int .i64 p.num)) (wfL [V.str p.text]) false) false) false = true := h
  obtain ⟨_, h⟩ := bcond h
  obtain ⟨h1, h⟩ := bcond h
  obtain ⟨h2, _⟩ := bcond h
  obtain ⟨a1, a2⟩ := int_wf h1
  obtain ⟨b1, b2⟩ := int_wf h2
  have e1 : IntKind.u8.min = 0 := rfl
  have e2 : IntKind.u8.max = 255 := rfl
  have e3 : IntKind.i64.min = -9223372036854775808 := rfl
  have e4 : IntKind.i64.max = 9223372036854775807 := rfl
  unfold N.okP
  rw [ile_t (by omega), ilt_t (by omega), ile_t (by omega), ile_t (by omega)]; rfl
theorem pairs_wfR : ∀ l : List HPair, wfRs (l.map cPair.enc) = true → l.all N.okP = true
  | [], _ => rfl
  | p :: r, h => by
    have h : cond (wfL (cPair.enc p)) (wfRs (r.map cPair.enc)) false = true := h
    obtain ⟨h1, h2⟩ := bcond h
    rw [List.all_cons, pair_wf h1, pairs_wfR r h2]; rfl
theorem pairs_wf {l : List HPair} (h : wfL ((rSl cPair).enc l) = true) : l.all N.okP = true := by
  have h : cond (cond (Nat.ble (l.map cPair.enc).length 9223372036854775807) (cond (fitsRows cPair.sh (l.map cPair.enc)) (wfRs (l.map cPair.enc)) false) false) true false = true := h
  obtain ⟨h, _⟩ := bcond h
  obtain ⟨_, h⟩ := bcond h
  obtain ⟨_, h⟩ := bcond h
  exact pairs_wfR l h
end Go.Ev

/- What the statements on messages' bytes reckon: each is true; lemmas; the function that writes numbers is a premise. -/
namespace Go.Ev
open Go Go.Proofs
set_option maxRecDepth 100000

theorem ok_refMailSize : FnOk Tryz.prog 59 dMailSizeP := by
  refine den_okF (env_ok (((TOk.nil _).cons ok_refMailB).cons ok_refMailCheck)) (E := eRefMailSize) Tryz.func59 [] (by kernel_rfl) none0 fun m _ h => ?_
  obtain ⟨h, hp⟩ := bcond h
  have hp : ∀ p ∈ m.head, PairOk p := fun p hm => okP_of (List.all_eq_true.1 hp p hm)
  obtain ⟨id, shop, key, head, body, due, hops⟩ := m
  refine (q_refMailSize ⟨id, shop, key, head, body, due, hops⟩).trans ?_
  simp only [nrm_rows]
  show _ = some (⟨.int .i64 (N.mailSize ⟨id, shop, key, head, body, due, hops⟩), [], []⟩ : DRes)
  unfold N.mailSize
  cases hc : N.mailCheck ⟨id, shop, key, head, body, due, hops⟩ != 0 with
  | true => rfl
  | false =>
    have hz : N.mailCheck ⟨id, shop, key, head, body, due, hops⟩ = 0 := by simpa using hc
    simp (disch := omega) only [evs, fitM_of h hz, refMailB_eq hp hz]
noncomputable def eAw13 : Env := env Tryz.prog [(75, dTrue), (45, dMailBytes)] [] []
theorem q_aw13 : evFn eAw13 50 [] [] some = some { v := .bool true, bx := [] } := by kernel_rfl
theorem ok_aw13 (hN : FnOk Tryz.prog 44 dOutNum) : FnOk Tryz.prog 50 dTrue :=
  den_okF (env_ok (((TOk.nil _).cons (ok_mailBytes hN)).cons (ok_aw9' hN))) (E := eAw13) Tryz.func50 [] (by kernel_rfl) none0 fun _ _ _ => q_aw13
theorem mail_wf {m : HMail} (h : wfL (cMail.enc m) = true) : cond (N.okM m) (m.head.all N.okP) false = true := by
  have h : cond (wfV (.int .u64 m.id)) (cond (wfV (.str m.shop)) (cond (wfV (.str m.key)) (cond (wfV (.slc [.str, .int .u8, .int .i64, .str] (m.head.map cPair.enc))) (cond (wfV (.str m.body)) (cond (wfV (.int .u64 m.due)) (cond (wfV (.int .u8 m.hops)) true false) false) false) false) false) false) false = true := h
  obtain ⟨h1, h⟩ := bcond h
  obtain ⟨_, h⟩ := bcond h
  obtain ⟨_, h⟩ := bcond h
  obtain ⟨h4, h⟩ := bcond h
  obtain ⟨_, h⟩ := bcond h
  obtain ⟨h6, h⟩ := bcond h
  obtain ⟨h7, _⟩ := bcond h
  have a := int_wf' h1
  have b := int_wf' h6
  have c := int_wf' h7
  have e1 : IntKind.u64.min = 0 := rfl
  have e2 : IntKind.u64.max = 18446744073709551615 := rfl
  have e3 : IntKind.u8.min = 0 := rfl
  have e4 : IntKind.u8.max = 255 := rfl
  have hh : m.head.all N.okP = true := pairs_wf (l := m.head) (by show cond (wfV (.slc [.str, .int .u8, .int .i64, .str] (m.head.map cPair.enc))) true false = true; rw [h4]; rfl)
  unfold N.okM
  rw [ile_t (show 0 ≤ m.id by omega), ilt_t (show m.id < 18446744073709551616 by omega), ile_t (show 0 ≤ m.due by omega), ilt_t (show m.due < 18446744073709551616 by omega), ile_t (show 0 ≤ m.hops by omega), ilt_t (show m.hops < 256 by omega), hh]; rfl
end Go.Ev

/- The example of the statements on rises, and which messages they go through: lemmas; the function that writes numbers is a premise. -/
namespace Go.Ev
open Go Go.Proofs
set_option maxRecDepth 100000
-- FOLD

noncomputable def eAw13' : Env := env Tryz.prog [(50, dTrue)] [] []
theorem q_aw13'  : evFn eAw13' 24 [] [] some =
 some { v := V.bool true, bx := [] : DRes } := by kernel_rfl
theorem ok_aw13' (hN : FnOk Tryz.prog 44 dOutNum) : FnOk Tryz.prog 24 dTrue :=
  den_okF (env_ok ((TOk.nil _).cons (ok_aw13 hN))) (E := eAw13') Tryz.func24 [] (by kernel_rfl) none0 fun _ _ _ => q_aw13'
def schAw20 : SSch := { fr := [(1, .ptr 10000 0 0), (8, .int .i64)], tab := [(10001, .sl [.int .u64, .str, .str, .slc [.str, .int .u8, .int .i64, .str], .str, .int .u64, .int .u8]), (10000, .var [.int .u64, .own 10001])] }
def stAw20 (n : Int) (r : List (List V)) : List (Nat × Box) := [(10000, .var [.int .u64 n, .slc [.int .u64, .str, .str, .slc [.str, .int .u8, .int .i64, .str], .str, .int .u64, .int .u8] r])]
def rowA : List V := [.int .u64 0, .str [97], .str [], .slc [.str, .int .u8, .int .i64, .str] [], .str [], .int .u64 0, .int .u8 0]
def gAw20 : List Leaf → (Ex → St → Option R) → Option R
  | [.i i8, .r rx1, .i ix0], K => cond (i8 == 0) (cond (Nat.beq rx1.length 0) (cond (ix0 == 0) (K (.exit 0) { fr := [(1, .ptr 10000 0 0 0)], tab := stAw20 20 (List.replicate 16 rowA) }) none) none) none
  | _, _ => none
noncomputable def eAw20 : Env := env Tryz.prog [(14, dRisePut), (23, dRiseAfter), (24, dTrue)] [(3, loopF schAw20 gAw20)] [(3, [(0, [1, 8]), (1, [1]), (1000, [0])])]
theorem q_aw20  : evFn eAw20 5 [] [] some =
 some { v := V.bool true, bx := [] : DRes } := by kernel_rfl
theorem aw20_rounds (K : Ex → St → Option R) : iterR eAw20 5 3 21 { fr := [(1, .ptr 10000 0 0 0), (8, .int .i64 0)], tab := [(10001, .sl [.int .u64, .str, .str, .slc [.str, .int .u8, .int .i64, .str], .str, .int .u64, .int .u8] [] 0), (10000, .var [.int .u64 0, .own 10001 0])] } K =
    K (.exit 0) { fr := [(1, .ptr 10000 0 0 0)], tab := stAw20 20 (List.replicate 16 rowA) } := by kernel_rfl
theorem nbeq_of {x y : Nat} (h : Nat.beq x y = true) : x = y := Nat.eq_of_beq_eq_true h
theorem ok_aw20 (hN : FnOk Tryz.prog 44 dOutNum) : FnOk Tryz.prog 5 dTrue := by
  refine den_okF (env_ok ((((TOk.nil _).cons (ok_aw13' hN)).cons ok_riseAfter).cons ok_risePut)) (E := eAw20) Tryz.func5 [3] (by kernel_rfl) (one1 (rounds_of rfl fun l K q h => ?_)) fun _ _ _ => q_aw20
  unfold gAw20 at h
  split at h
  · rename_i i r n
    have h1 := (cond_none h).1; replace h := (cond_none h).2; have h2 := (cond_none h).1; replace h := (cond_none h).2; have h3 := (cond_none h).1; replace h := (cond_none h).2
    have e1 := ieq_of h1
    have e2 := List.eq_nil_of_length_eq_zero (nbeq_of h2)
    have e3 := ieq_of h3
    subst e1 e2 e3
    exact ⟨21, (aw20_rounds K).trans (by assumption)⟩
  · cases h
def schLight20 : SSch := { fr := [(0, .slc [.int .u64, .str, .str, .slc [.str, .int .u8, .int .i64, .str], .str, .int .u64, .int .u8]), (5, .slc [.int .u64, .str, .str, .slc [.str, .int .u8, .int .i64, .str], .str, .int .u64, .int .u8]), (6, .int .i64), (7, .int .i64)], tab := [] }
def gLight20 : List Leaf → (Ex → St → Option R) → Option R
  | [.r r0, .r r5, .i i6, .i i7], K => cond (i6 == r5.length) (cond (i7 == 0) (cond (Nat.ble r5.length 9223372036854775807) (cond (N.lightMs (r5.map cMail.dec)) (K (.exit 0) { fr := [(0, .slc [.int .u64, .str, .str, .slc [.str, .int .u8, .int .i64, .str], .str, .int .u64, .int .u8] r0)], tab := [] }) (K .ret { fr := [(2, .bool false)], tab := [] })) none) none) none
  | _, _ => none
noncomputable def eLight20 : Env := env Tryz.prog [(6, dLightM)] [(2, loopF schLight20 gLight20)] [(2, [(0, [0, 5, 6, 7]), (1, [0]), (1000, [2])])]
theorem q_light20 (l : List HMail) : evFn eLight20 16 ((aOne (vSl cMail)).enc l) ([]) some =
 cond ((↑(List.length (List.map (RCod.enc cMail) l)) : Int) == (↑(List.length (List.map (RCod.enc cMail) l)) : Int)) (cond (Nat.ble (List.length (List.map (RCod.enc cMail) l)) (9223372036854775807 : Nat)) (cond (N.lightMs (List.map (RCod.dec cMail) (List.map (RCod.enc cMail) l))) (some { v := V.bool (ile (↑(List.length (List.map (RCod.enc cMail) l)) : Int) (40 : Int)), bx := [] : DRes }) (some { v := V.bool false, bx := [] : DRes })) (none)) (none) := by kernel_rfl
theorem q_light20R (r0 r5 : List (List V)) (i6 : Int) (i7 : Int) (K : Ex → St → Option R) : evRound eLight20 16 2 { fr := [(0, .slc [.int .u64, .str, .str, .slc [.str, .int .u8, .int .i64, .str], .str, .int .u64, .int .u8] r0), (5, .slc [.int .u64, .str, .str, .slc [.str, .int .u8, .int .i64, .str], .str, .int .u64, .int .u8] r5), (6, .int .i64 i6), (7, .int .i64 i7)], tab := [] } K =
 cond (ilt i7 i6) (cond (decide ((0 : Int) ≤ i7 ∧ i7 < (↑(List.length r5) : Int))) (cond (!N.lightM { id := V.toInt (List.getD (List.getD r5 (Int.toNat i7) []) (0 : Nat) V.undef), shop := V.toStr (List.getD (List.getD r5 (Int.toNat i7) []) (1 : Nat) V.undef), key := V.toStr (List.getD (List.getD r5 (Int.toNat i7) []) (2 : Nat) V.undef), head := List.map (fun r => { key := V.toStr (List.getD r (0 : Nat) V.undef), kind := V.toInt (List.getD r (1 : Nat) V.undef), num := V.toInt (List.getD r (2 : Nat) V.undef), text := V.toStr (List.getD r (3 : Nat) V.undef) : HPair }) (V.toRows (List.getD (List.getD r5 (Int.toNat i7) []) (3 : Nat) V.undef)), body := V.toStr (List.getD (List.getD r5 (Int.toNat i7) []) (4 : Nat) V.undef), due := V.toInt (List.getD (List.getD r5 (Int.toNat i7) []) (5 : Nat) V.undef), hops := V.toInt (List.getD (List.getD r5 (Int.toNat i7) []) (6 : Nat) V.undef) : HMail }) (K Ex.ret { fr := [((2 : Nat), V.bool false)], tab := [] : St }) (K Ex.normal { fr := [((0 : Nat), V.slc [Sh.int IntKind.u64, Sh.str, Sh.str, Sh.slc [Sh.str, Sh.int IntKind.u8, Sh.int IntKind.i64, Sh.str], Sh.str, Sh.int IntKind.u64, Sh.int IntKind.u8] r0), ((5 : Nat), V.slc [Sh.int IntKind.u64, Sh.str, Sh.str, Sh.slc [Sh.str, Sh.int IntKind.u8, Sh.int IntKind.i64, Sh.str], Sh.str, Sh.int IntKind.u64, Sh.int IntKind.u8] r5), ((6 : Nat), V.int IntKind.i64 i6), ((7 : Nat), V.int IntKind.i64 (IntKind.wrap IntKind.i64 (i7 + (1 : Int))))], tab := [] : St })) (none)) (K (Ex.exit (0 : Nat)) { fr := [((0 : Nat), V.slc [Sh.int IntKind.u64, Sh.str, Sh.str, Sh.slc [Sh.str, Sh.int IntKind.u8, Sh.int IntKind.i64, Sh.str], Sh.str, Sh.int IntKind.u64, Sh.int IntKind.u8] r0)], tab := [] : St }) := by kernel_rfl
/-- A message that is read of a row. -/
theorem fold_mail (r : List V) : ({ id := V.toInt (List.getD r 0 .undef), shop := V.toStr (List.getD r 1 .undef), key := V.toStr (List.getD r 2 .undef), head := (V.toRows (List.getD r 3 .undef)).map fun r => ({ key := V.toStr (List.getD r 0 .undef), kind := V.toInt (List.getD r 1 .undef), num := V.toInt (List.getD r 2 .undef), text := V.toStr (List.getD r 3 .undef) } : HPair), body := V.toStr (List.getD r 4 .undef), due := V.toInt (List.getD r 5 .undef), hops := V.toInt (List.getD r 6 .undef) } : HMail) = cMail.dec r := rfl
def dLight20 : Den := den (aOne (vSl cMail)) bNil (oV vBool) (fun l _ => Nat.ble l.length 9223372036854775807) fun l _ => (cond (N.lightMs l) (ile l.length 40) false, ())
theorem ok_light20 : FnOk Tryz.prog 16 dLight20 := by
  refine den_okF (env_ok ((TOk.nil _).cons ok_lightM)) (E := eLight20) Tryz.func16 [2] (by kernel_rfl) (one1 (rounds_of rfl fun l K q h => ?_)) fun l _ hp => ?_
  · unfold gLight20 at h
    split at h
    · rename_i r0 r n i
      have h1 := (cond_none h).1; replace h := (cond_none h).2; have h2 := (cond_none h).1; replace h := (cond_none h).2; have h3 := (cond_none h).1; replace h := (cond_none h).2
      have e1 := ieq_of h1
      have e2 := ieq_of h2
      subst e1 e2
      have h3 : r.length ≤ 9223372036854775807 := ble_of h3
      have main := range_ind (E := eLight20) (f := 16) (id := 2) (A := Unit) r (fun _ i => { fr := [(0, .slc [.int .u64, .str, .str, .slc [.str, .int .u8, .int .i64, .str], .str, .int .u64, .int .u8] r0), (5, .slc [.int .u64, .str, .str, .slc [.str, .int .u8, .int .i64, .str], .str, .int .u64, .int .u8] r), (6, .int .i64 r.length), (7, .int .i64 i)], tab := [] }) (fun _ _ => True)
        (fun _ rows K => cond (N.lightMs (rows.map cMail.dec)) (K (.exit 0) { fr := [(0, .slc [.int .u64, .str, .str, .slc [.str, .int .u8, .int .i64, .str], .str, .int .u64, .int .u8] r0)], tab := [] }) (K .ret { fr := [(2, .bool false)], tab := [] })) (fun _ i _ hi => ?_) (fun _ _ => ?_) () 0 (Int.le_refl _) (by omega) trivial K q (by assumption)
      · exact main
      · rw [List.map_cons]
        cases hc : N.lightM (cMail.dec (r.getD i [])) with
        | true =>
          refine .inl ⟨(), trivial, fun K => ?_, fun K => ?_⟩
          · rw [q_light20R]
            simp (disch := omega) only [evs, Int.toNat_natCast, fold_mail, hc, Bool.not_true]
          · show cond (cond (N.lightM (cMail.dec (r.getD i []))) _ false) _ _ = _
            rw [hc]; rfl
        | false =>
          refine .inr ⟨.ret, { fr := [(2, .bool false)], tab := [] }, by simp, fun K => ?_, fun K => ?_⟩
          · rw [q_light20R]
            simp (disch := omega) only [evs, Int.toNat_natCast, fold_mail, hc, Bool.not_false]
          · show cond (cond (N.lightM (cMail.dec (r.getD i []))) _ false) _ _ = _
            rw [hc]; rfl
      · refine ⟨.exit 0, { fr := [(0, .slc [.int .u64, .str, .str, .slc [.str, .int .u8, .int .i64, .str], .str, .int .u64, .int .u8] r0)], tab := [] }, by simp, fun K => ?_, fun K => rfl⟩
        rw [q_light20R]
        simp (disch := omega) only [evs]
    · cases h
  · refine (q_light20 l).trans ?_
    have hp : Nat.ble l.length 9223372036854775807 = true := hp
    show _ = some (⟨.bool (cond (N.lightMs l) (ile l.length 40) false), [], []⟩ : DRes)
    simp only [List.length_map, dec_encs, hp, beq_self_eq_true, cond_true]
    cases N.lightMs l <;> rfl
end Go.Ev

/- What the statement on a rise's numbers reckons: it is true; lemmas; the function that writes numbers is a premise. -/
namespace Go.Ev
open Go Go.Proofs
set_option maxRecDepth 100000
-- FOLD

theorem fold_enc (m : HMail) : [V.int .u64 m.id, V.str m.shop, V.str m.key, V.slc [.str, .int .u8, .int .i64, .str] (m.head.map fun p => [V.str p.key, V.int .u8 p.kind, V.int .i64 p.num, V.str p.text]), V.str m.body, V.int .u64 m.due, V.int .u8 m.hops] = cMail.enc m := rfl
theorem fold_re (r : List V) : [V.int .u64 (V.toInt (List.getD r 0 .undef)), V.str (V.toStr (List.getD r 1 .undef)), V.str (V.toStr (List.getD r 2 .undef)), V.slc [.str, .int .u8, .int .i64, .str] (((V.toRows (List.getD r 3 .undef)).map fun r => ({ key := V.toStr (List.getD r 0 .undef), kind := V.toInt (List.getD r 1 .undef), num := V.toInt (List.getD r 2 .undef), text := V.toStr (List.getD r 3 .undef) } : HPair)).map fun p => [V.str p.key, V.int .u8 p.kind, V.int .i64 p.num, V.str p.text]),
    V.str (V.toStr (List.getD r 4 .undef)), V.int .u64 (V.toInt (List.getD r 5 .undef)), V.int .u8 (V.toInt (List.getD r 6 .undef))] = cMail.enc (cMail.dec r) := rfl
theorem fold_de (m : HMail) : ({ id := m.id, shop := m.shop, key := m.key, head := (m.head.map fun p => [V.str p.key, V.int .u8 p.kind, V.int .i64 p.num, V.str p.text]).map fun r => ({ key := V.toStr (List.getD r 0 .undef), kind := V.toInt (List.getD r 1 .undef), num := V.toInt (List.getD r 2 .undef), text := V.toStr (List.getD r 3 .undef) } : HPair), body := m.body, due := m.due, hops := m.hops } : HMail) = m := cMail.de m
theorem fold_rise (x : HRise) : (⟨x.total, x.kept⟩ : HRise) = x := rfl
def dAll : Den := den (aOne (vAgg cRise)) bNil (oV (vSl cMail)) (fun x _ => goodRise x) fun x _ => (x.kept, ())
def schAll : SSch := { fr := [(3, .own 10000), (7, .slc [.int .u64, .str, .str, .slc [.str, .int .u8, .int .i64, .str], .str, .int .u64, .int .u8]), (8, .int .i64), (9, .int .i64)], tab := [(10000, .sl [.int .u64, .str, .str, .slc [.str, .int .u8, .int .i64, .str], .str, .int .u64, .int .u8])] }
def gAll : List Leaf → (Ex → St → Option R) → Option R
  | [.r r7, .i i8, .i i9, .r rx0], K => cond (i8 == r7.length) (cond (i9 == 0) (cond (Nat.beq rx0.length 0) (cond (Nat.ble r7.length 16) (cond ((r7.map cMail.dec).all smallM)
      (K (.exit 0) { fr := [(3, .own 10000 0)], tab := [(10000, .sl [.int .u64, .str, .str, .slc [.str, .int .u8, .int .i64, .str], .str, .int .u64, .int .u8] ((r7.map cMail.dec).map cMail.enc) 0)] }) none) none) none) none) none
  | _, _ => none
noncomputable def eAll : Env := env Tryz.prog [(38, dMailCopy)] [(3, loopF schAll gAll)] [(3, [(0, [3, 7, 8, 9]), (1, [3]), (1000, [2])])]
theorem q_all (x : HRise) : evFn eAll 41 ((aOne (vAgg cRise)).enc x) ([]) some =
 cond ((↑(List.length (List.map (RCod.enc cMail) (HRise.kept x))) : Int) == (↑(List.length (List.map (RCod.enc cMail) (HRise.kept x))) : Int)) (cond (Nat.ble (List.length (List.map (RCod.enc cMail) (HRise.kept x))) (16 : Nat)) (cond (List.all (List.map (RCod.dec cMail) (List.map (RCod.enc cMail) (HRise.kept x))) smallM) (some { v := V.slc [Sh.int IntKind.u64, Sh.str, Sh.str, Sh.slc [Sh.str, Sh.int IntKind.u8, Sh.int IntKind.i64, Sh.str], Sh.str, Sh.int IntKind.u64, Sh.int IntKind.u8] (List.map (RCod.enc cMail) (List.map (RCod.dec cMail) (List.map (RCod.enc cMail) (HRise.kept x)))), bx := [] : DRes }) (none)) (none)) (none) := by kernel_rfl
theorem q_allR (r7 : List (List V)) (i8 : Int) (i9 : Int) (rx0 : List (List V)) (K : Ex → St → Option R) : evRound eAll 41 3 { fr := [(3, .own 10000 0), (7, .slc [.int .u64, .str, .str, .slc [.str, .int .u8, .int .i64, .str], .str, .int .u64, .int .u8] r7), (8, .int .i64 i8), (9, .int .i64 i9)], tab := [(10000, .sl [.int .u64, .str, .str, .slc [.str, .int .u8, .int .i64, .str], .str, .int .u64, .int .u8] rx0 0)] } K =
 cond (ilt i9 i8) (cond (decide ((0 : Int) ≤ i9 ∧ i9 < (↑(List.length r7) : Int))) (cond (smallM { id := V.toInt (List.getD (List.getD r7 (Int.toNat i9) []) (0 : Nat) V.undef), shop := V.toStr (List.getD (List.getD r7 (Int.toNat i9) []) (1 : Nat) V.undef), key := V.toStr (List.getD (List.getD r7 (Int.toNat i9) []) (2 : Nat) V.undef), head := List.map (fun r => { key := V.toStr (List.getD r (0 : Nat) V.undef), kind := V.toInt (List.getD r (1 : Nat) V.undef), num := V.toInt (List.getD r (2 : Nat) V.undef), text := V.toStr (List.getD r (3 : Nat) V.undef) : HPair }) (V.toRows (List.getD (List.getD r7 (Int.toNat i9) []) (3 : Nat) V.undef)), body := V.toStr (List.getD (List.getD r7 (Int.toNat i9) []) (4 : Nat) V.undef), due := V.toInt (List.getD (List.getD r7 (Int.toNat i9) []) (5 : Nat) V.undef), hops := V.toInt (List.getD (List.getD r7 (Int.toNat i9) []) (6 : Nat) V.undef) : HMail }) (cond (decide ((List.length rx0 + (1 : Nat)) * (96 : Nat) ≤ (140737488355328 : Nat))) (K Ex.normal { fr := [((3 : Nat), V.own (10000 : Nat) (0 : Nat)), ((7 : Nat), V.slc [Sh.int IntKind.u64, Sh.str, Sh.str, Sh.slc [Sh.str, Sh.int IntKind.u8, Sh.int IntKind.i64, Sh.str], Sh.str, Sh.int IntKind.u64, Sh.int IntKind.u8] r7), ((8 : Nat), V.int IntKind.i64 i8), ((9 : Nat), V.int IntKind.i64 (IntKind.wrap IntKind.i64 (i9 + (1 : Int))))], tab := [((10000 : Nat), Box.sl [Sh.int IntKind.u64, Sh.str, Sh.str, Sh.slc [Sh.str, Sh.int IntKind.u8, Sh.int IntKind.i64, Sh.str], Sh.str, Sh.int IntKind.u64, Sh.int IntKind.u8] (rx0 ++ [[V.int IntKind.u64 (V.toInt (List.getD (List.getD r7 (Int.toNat i9) []) (0 : Nat) V.undef)), V.str (V.toStr (List.getD (List.getD r7 (Int.toNat i9) []) (1 : Nat) V.undef)), V.str (V.toStr (List.getD (List.getD r7 (Int.toNat i9) []) (2 : Nat) V.undef)), V.slc [Sh.str, Sh.int IntKind.u8, Sh.int IntKind.i64, Sh.str] (List.map (fun p => [V.str (HPair.key p), V.int IntKind.u8 (HPair.kind p), V.int IntKind.i64 (HPair.num p), V.str (HPair.text p)]) (List.map (fun r => { key := V.toStr (List.getD r (0 : Nat) V.undef), kind := V.toInt (List.getD r (1 : Nat) V.undef), num := V.toInt (List.getD r (2 : Nat) V.undef), text := V.toStr (List.getD r (3 : Nat) V.undef) : HPair }) (V.toRows (List.getD (List.getD r7 (Int.toNat i9) []) (3 : Nat) V.undef)))), V.str (V.toStr (List.getD (List.getD r7 (Int.toNat i9) []) (4 : Nat) V.undef)), V.int IntKind.u64 (V.toInt (List.getD (List.getD r7 (Int.toNat i9) []) (5 : Nat) V.undef)), V.int IntKind.u8 (V.toInt (List.getD (List.getD r7 (Int.toNat i9) []) (6 : Nat) V.undef))]]) (0 : Nat))] : St }) (none)) (none)) (none)) (K (Ex.exit (0 : Nat)) { fr := [((3 : Nat), V.own (10000 : Nat) (0 : Nat))], tab := [((10000 : Nat), Box.sl [Sh.int IntKind.u64, Sh.str, Sh.str, Sh.slc [Sh.str, Sh.int IntKind.u8, Sh.int IntKind.i64, Sh.str], Sh.str, Sh.int IntKind.u64, Sh.int IntKind.u8] rx0 (0 : Nat))] : St }) := by kernel_rfl
theorem take_rows {r : List (List V)} {i : Nat} (h : i < r.length) : ((r.take (i + 1)).map cMail.dec).map cMail.enc = ((r.take i).map cMail.dec).map cMail.enc ++ [cMail.enc (cMail.dec (r.getD i []))] := by
  rw [List.take_add_one, List.getD_eq_getElem?_getD, List.getElem?_eq_getElem h]
  simp only [Option.toList_some, List.map_append, List.map_cons, List.map_nil, Option.getD_some]
theorem small_getD {l : List HMail} (h : l.all smallM = true) (i : Nat) : smallM (l.getD i mail0) = true := by
  by_cases hi : i < l.length
  · exact all_getD h i mail0 hi
  · rw [List.getD_eq_getElem?_getD, List.getElem?_eq_none (by omega)]; rfl
theorem small_row {r : List (List V)} (h : (r.map cMail.dec).all smallM = true) {i : Nat} (hi : i < r.length) : smallM (cMail.dec (r.getD i [])) = true := by
  refine List.all_eq_true.1 h _ (List.mem_map_of_mem ?_)
  rw [List.getD_eq_getElem?_getD, List.getElem?_eq_getElem hi]
  exact List.getElem_mem hi
theorem ok_all : FnOk Tryz.prog 41 dAll := by
  refine den_okF (env_ok ((TOk.nil _).cons ok_mailCopy)) (E := eAll) Tryz.func41 [3] (by kernel_rfl) (one1 (rounds_of rfl fun l K q h => ?_)) fun x _ hp => ?_
  · unfold gAll at h
    split at h
    · rename_i r n i o
      have h1 := (cond_none h).1; replace h := (cond_none h).2; have h2 := (cond_none h).1; replace h := (cond_none h).2; have h3 := (cond_none h).1; replace h := (cond_none h).2; have h4 := (cond_none h).1; replace h := (cond_none h).2; have h5 := (cond_none h).1; replace h := (cond_none h).2
      have e1 := ieq_of h1
      have e2 := ieq_of h2
      have e3 := List.eq_nil_of_length_eq_zero (nbeq_of h3)
      subst e1 e2 e3
      have h4 : r.length ≤ 16 := ble_of h4
      have main := range_ind (E := eAll) (f := 41) (id := 3) (A := Unit) r (fun _ i => { fr := [(3, .own 10000 0), (7, .slc [.int .u64, .str, .str, .slc [.str, .int .u8, .int .i64, .str], .str, .int .u64, .int .u8] r), (8, .int .i64 r.length), (9, .int .i64 i)], tab := [(10000, .sl [.int .u64, .str, .str, .slc [.str, .int .u8, .int .i64, .str], .str, .int .u64, .int .u8] (((r.take i.toNat).map cMail.dec).map cMail.enc) 0)] }) (fun _ _ => True)
        (fun _ _ K => K (.exit 0) { fr := [(3, .own 10000 0)], tab := [(10000, .sl [.int .u64, .str, .str, .slc [.str, .int .u8, .int .i64, .str], .str, .int .u64, .int .u8] ((r.map cMail.dec).map cMail.enc) 0)] }) (fun _ i _ hi => ?_) (fun _ _ => ?_) () 0 (Int.le_refl _) (by omega) trivial K q (by assumption)
      · exact main
      · refine .inl ⟨(), trivial, fun K => ?_, fun K => rfl⟩
        rw [q_allR]
        have hl : (((r.take i).map cMail.dec).map cMail.enc).length = i := by simp; omega
        have ht := take_rows hi
        have hs := small_row h5 hi
        simp (disch := omega) only [evs, Int.toNat_natCast, fold_mail, fold_re, hs, hl]
        rw [← ht]
        rfl
      · refine ⟨.exit 0, _, by simp, fun K => ?_, fun K => rfl⟩
        rw [q_allR]
        simp (disch := omega) only [evs, Int.toNat_natCast, List.take_length]
    · cases h
  · refine (q_all x).trans ?_
    have hp : goodRise x = true := hp
    show _ = some (⟨.slc [.int .u64, .str, .str, .slc [.str, .int .u8, .int .i64, .str], .str, .int .u64, .int .u8] (x.kept.map cMail.enc), [], []⟩ : DRes)
    obtain ⟨_, hp⟩ := bcond hp
    obtain ⟨h1, h2⟩ := bcond hp
    simp only [List.length_map, dec_encs, beq_self_eq_true, cond_true, h1, h2]
theorem after_small {x : HRise} (h : goodRise x = true) (k : Int) : smallM (N.riseAfter x k).2.1 = true := by
  obtain ⟨_, h⟩ := bcond h
  obtain ⟨_, h⟩ := bcond h
  unfold N.riseAfter
  cases ile x.total k with
  | true => rfl
  | false =>
    cases ilt (x.total - x.kept.length + 1) (k + 1) with
    | true => exact small_getD h _
    | false => exact small_getD h _
theorem puts_row {r : List (List V)} {i : Nat} (x : HRise) : N.puts x ((r.getD i [] :: r.drop (i + 1)).map cMail.dec) = N.puts (N.risePut x (cMail.dec (r.getD i []))).1 ((r.drop (i + 1)).map cMail.dec) := rfl
theorem light_few {l : List HMail} (h : N.lightMs l = true) : l.all smallM = true := by
  induction l with
  | nil => rfl
  | cons m r ih =>
    obtain ⟨h1, h2⟩ := bcond h
    rw [List.all_cons, ih h2, Bool.and_true]
    obtain ⟨_, h1⟩ := bcond h1
    obtain ⟨_, h1⟩ := bcond h1
    obtain ⟨h1, _⟩ := bcond h1
    exact ble_t (Nat.le_trans (light_small h1) (by decide))
theorem len_wf {α : Type} {c : RCod α} {l : List α} (h : wfL ((rSl c).enc l) = true) : Nat.ble l.length 9223372036854775807 = true := by
  have h : cond (cond (Nat.ble (l.map c.enc).length 9223372036854775807) (cond (fitsRows c.sh (l.map c.enc)) (wfRs (l.map c.enc)) false) false) true false = true := h
  rw [List.length_map] at h
  exact (bcond (bcond h).1).1
def N.sameMs : List HMail → List HMail → Bool
  | [], [] => true
  | a :: x, b :: y => cond (N.mailSame a b) (N.sameMs x y) false
  | _, _ => false
theorem drop_dec {r : List (List V)} {i : Nat} (h : i < r.length) : (r.drop i).map cMail.dec = cMail.dec (r.getD i []) :: (r.drop (i + 1)).map cMail.dec := by
  rw [drop_row h]; rfl
theorem sameMs_len : ∀ (a b : List HMail), a.length ≠ b.length → N.sameMs a b = false
  | [], [], h => absurd rfl h
  | [], _ :: _, _ => rfl
  | _ :: _, [], _ => rfl
  | a :: x, b :: y, h => by
    unfold N.sameMs
    rw [sameMs_len x y (fun e => h (by simp [e]))]
    cases N.mailSame a b <;> rfl
theorem sameMs_cons (a b : HMail) (x y : List HMail) : N.sameMs (a :: x) (b :: y) = cond (N.mailSame a b) (N.sameMs x y) false := rfl
theorem sameMs_refl : ∀ l : List HMail, N.sameMs l l = true
  | [] => rfl
  | a :: x => by
    unfold N.sameMs
    rw [mailSame_refl a, sameMs_refl x]; rfl
end Go.Ev

/- The functions on rises that one statement on them needs: sizes, sameness, the document's: lemmas; the function that writes numbers is a premise. -/
namespace Go.Ev
open Go Go.Proofs
set_option maxRecDepth 100000
-- FOLD

/-- A function that is handed on, nothing in it. -/
def vFn0 (f : FuncId) : VCod Unit where
  ok := fun | .fn g [] [] => Nat.beq f g | _ => false
  enc _ := .fn f [] []
  dec _ := ()
  ed _ := ⟨Nat.beq_refl f, rfl⟩
  law w I ρ v x h hx := by
    split at h
    · have := Nat.eq_of_beq_eq_true h; subst this
      exact hx
    · cases h
namespace N
def fineM (m : HMail) : Bool := cond (okM m) (m.head.all okP') false
def riseSize : List HMail → Int
  | [] => 0
  | m :: r => mailSize m + riseSize r
def sameR (x y : HRise) : Bool := cond (x.total == y.total) (sameMs x.kept y.kept) false
end N
def goodOkR (x : HRise) : Bool := cond (goodRise x) (x.kept.all N.okM) false
def goodFineR (x : HRise) : Bool := cond (goodRise x) (x.kept.all N.fineM) false
def dRiseSize : Den := den (aOne (vAgg cRise)) bNil (oV (vInt .i64)) (fun x _ => goodOkR x) fun x _ => (N.riseSize x.kept, ())
def dRefRiseSize : Den := den (aOne (vAgg cRise)) bNil (oV (vInt .i64)) (fun x _ => goodFineR x) fun x _ => (N.riseSize x.kept, ())
def dSameR : Den := den (aCons (vAgg cRise) (aOne (vAgg cRise))) bNil (oV vBool) (fun a _ => cond (goodRise a.1) (goodRise a.2) false) fun a _ => (N.sameR a.1 a.2, ())
def dOf : Den := den (aOne (vAgg cRise)) bNil (oV (vAgg cRise)) (fun x _ => goodRise x) fun x _ => (x, ())
theorem mailSize_le (m : HMail) : 0 ≤ N.mailSize m ∧ N.mailSize m ≤ 1570 := by
  unfold N.mailSize
  cases hc : N.mailCheck m != 0 with
  | true => exact ⟨Int.le_refl 0, (by decide : (0 : Int) ≤ 1570)⟩
  | false =>
    have hz : N.mailCheck m = 0 := by simpa using hc
    have := mailB_len hz
    show 0 ≤ ((N.mailB m).length : Int) ∧ ((N.mailB m).length : Int) ≤ 1570
    omega
theorem all_row {p : HMail → Bool} {r : List (List V)} (h : (r.map cMail.dec).all p = true) {i : Nat} (hi : i < r.length) : p (cMail.dec (r.getD i [])) = true := by
  refine List.all_eq_true.1 h _ (List.mem_map_of_mem ?_)
  rw [List.getD_eq_getElem?_getD, List.getElem?_eq_getElem hi]
  exact List.getElem_mem hi
def schRSize : SSch := { fr := [(3, .int .i64), (7, .slc [.int .u64, .str, .str, .slc [.str, .int .u8, .int .i64, .str], .str, .int .u64, .int .u8]), (8, .int .i64), (9, .int .i64)], tab := [] }
def gRSize : List Leaf → (Ex → St → Option R) → Option R
  | [.i i3, .r r7, .i i8, .i i9], K => cond (i8 == r7.length) (cond (i9 == 0) (cond (i3 == 0) (cond (Nat.ble r7.length 16) (cond ((r7.map cMail.dec).all N.okM)
      (K (.exit 0) { fr := [(3, .int .i64 (N.riseSize (r7.map cMail.dec)))], tab := [] }) none) none) none) none) none
  | _, _ => none
noncomputable def eRSize : Env := env Tryz.prog [(58, dMailSize)] [(3, loopF schRSize gRSize)] [(3, [(0, [3, 7, 8, 9]), (1, [3]), (1000, [2])])]
theorem q_rSize (x : HRise) : evFn eRSize 34 ((aOne (vAgg cRise)).enc x) ([]) some =
 cond ((↑(List.length (List.map (RCod.enc cMail) (HRise.kept x))) : Int) == (↑(List.length (List.map (RCod.enc cMail) (HRise.kept x))) : Int)) (cond (Nat.ble (List.length (List.map (RCod.enc cMail) (HRise.kept x))) (16 : Nat)) (cond (List.all (List.map (RCod.dec cMail) (List.map (RCod.enc cMail) (HRise.kept x))) N.okM) (some { v := V.int IntKind.i64 (N.riseSize (List.map (RCod.dec cMail) (List.map (RCod.enc cMail) (HRise.kept x)))), bx := [] : DRes }) (none)) (none)) (none) := by kernel_rfl
theorem q_rSizeR (i3 : Int) (r7 : List (List V)) (i8 : Int) (i9 : Int) (K : Ex → St → Option R) : evRound eRSize 34 3 { fr := [(3, .int .i64 i3), (7, .slc [.int .u64, .str, .str, .slc [.str, .int .u8, .int .i64, .str], .str, .int .u64, .int .u8] r7), (8, .int .i64 i8), (9, .int .i64 i9)], tab := [] } K =
 cond (ilt i9 i8) (cond (decide ((0 : Int) ≤ i9 ∧ i9 < (↑(List.length r7) : Int))) (cond (N.okM { id := V.toInt (List.getD (List.getD r7 (Int.toNat i9) []) (0 : Nat) V.undef), shop := V.toStr (List.getD (List.getD r7 (Int.toNat i9) []) (1 : Nat) V.undef), key := V.toStr (List.getD (List.getD r7 (Int.toNat i9) []) (2 : Nat) V.undef), head := List.map (fun r => { key := V.toStr (List.getD r (0 : Nat) V.undef), kind := V.toInt (List.getD r (1 : Nat) V.undef), num := V.toInt (List.getD r (2 : Nat) V.undef), text := V.toStr (List.getD r (3 : Nat) V.undef) : HPair }) (V.toRows (List.getD (List.getD r7 (Int.toNat i9) []) (3 : Nat) V.undef)), body := V.toStr (List.getD (List.getD r7 (Int.toNat i9) []) (4 : Nat) V.undef), due := V.toInt (List.getD (List.getD r7 (Int.toNat i9) []) (5 : Nat) V.undef), hops := V.toInt (List.getD (List.getD r7 (Int.toNat i9) []) (6 : Nat) V.undef) : HMail }) (K Ex.normal { fr := [((3 : Nat), V.int IntKind.i64 (IntKind.wrap IntKind.i64 (i3 + N.mailSize { id := V.toInt (List.getD (List.getD r7 (Int.toNat i9) []) (0 : Nat) V.undef), shop := V.toStr (List.getD (List.getD r7 (Int.toNat i9) []) (1 : Nat) V.undef), key := V.toStr (List.getD (List.getD r7 (Int.toNat i9) []) (2 : Nat) V.undef), head := List.map (fun r => { key := V.toStr (List.getD r (0 : Nat) V.undef), kind := V.toInt (List.getD r (1 : Nat) V.undef), num := V.toInt (List.getD r (2 : Nat) V.undef), text := V.toStr (List.getD r (3 : Nat) V.undef) : HPair }) (V.toRows (List.getD (List.getD r7 (Int.toNat i9) []) (3 : Nat) V.undef)), body := V.toStr (List.getD (List.getD r7 (Int.toNat i9) []) (4 : Nat) V.undef), due := V.toInt (List.getD (List.getD r7 (Int.toNat i9) []) (5 : Nat) V.undef), hops := V.toInt (List.getD (List.getD r7 (Int.toNat i9) []) (6 : Nat) V.undef) : HMail }))), ((7 : Nat), V.slc [Sh.int IntKind.u64, Sh.str, Sh.str, Sh.slc [Sh.str, Sh.int IntKind.u8, Sh.int IntKind.i64, Sh.str], Sh.str, Sh.int IntKind.u64, Sh.int IntKind.u8] r7), ((8 : Nat), V.int IntKind.i64 i8), ((9 : Nat), V.int IntKind.i64 (IntKind.wrap IntKind.i64 (i9 + (1 : Int))))], tab := [] : St }) (none)) (none)) (K (Ex.exit (0 : Nat)) { fr := [((3 : Nat), V.int IntKind.i64 i3)], tab := [] : St }) := by kernel_rfl
theorem ok_riseSize (hN : FnOk Tryz.prog 44 dOutNum) : FnOk Tryz.prog 34 dRiseSize := by
  refine den_okF (env_ok ((TOk.nil _).cons (ok_mailSize hN))) (E := eRSize) Tryz.func34 [3] (by kernel_rfl) (one1 (rounds_of rfl fun l K q h => ?_)) fun x _ hp => ?_
  · unfold gRSize at h
    split at h
    · rename_i o r n i
      have h1 := (cond_none h).1; replace h := (cond_none h).2; have h2 := (cond_none h).1; replace h := (cond_none h).2; have h3 := (cond_none h).1; replace h := (cond_none h).2; have h4 := (cond_none h).1; replace h := (cond_none h).2; have h5 := (cond_none h).1; replace h := (cond_none h).2
      have e1 := ieq_of h1
      have e2 := ieq_of h2
      have e3 := ieq_of h3
      subst e1 e2 e3
      have h4 : r.length ≤ 16 := ble_of h4
      have main := range_ind (E := eRSize) (f := 34) (id := 3) (A := Int) r (fun a i => { fr := [(3, .int .i64 a), (7, .slc [.int .u64, .str, .str, .slc [.str, .int .u8, .int .i64, .str], .str, .int .u64, .int .u8] r), (8, .int .i64 r.length), (9, .int .i64 i)], tab := [] }) (fun a i => 0 ≤ a ∧ a ≤ 1570 * i)
        (fun a rows K => K (.exit 0) { fr := [(3, .int .i64 (a + N.riseSize (rows.map cMail.dec)))], tab := [] }) (fun a i ha hi => ?_) (fun a _ => ?_) 0 0 (Int.le_refl _) (by omega) ⟨Int.le_refl _, by decide⟩ K q (by rw [Int.zero_add]; exact h)
      · exact main
      · have hb := mailSize_le (cMail.dec (r.getD i []))
        have hs := all_row h5 hi
        refine .inl ⟨a + N.mailSize (cMail.dec (r.getD i [])), ⟨by omega, by omega⟩, fun K => ?_, fun K => ?_⟩
        · rw [q_rSizeR]
          simp (disch := omega) only [evs, Int.toNat_natCast, fold_mail, hs]
        · show K _ { fr := [(3, .int .i64 (a + (N.mailSize (cMail.dec (r.getD i [])) + N.riseSize ((r.drop (i + 1)).map cMail.dec))))], tab := [] } = _
          rw [Int.add_assoc]
      · refine ⟨.exit 0, _, by simp, fun K => ?_, fun K => rfl⟩
        rw [q_rSizeR]
        simp (disch := omega) only [evs, List.map_nil, Int.add_zero]
        show _ = K _ { fr := [(3, .int .i64 (a + 0))], tab := [] }
        rw [Int.add_zero]
    · cases h
  · refine (q_rSize x).trans ?_
    obtain ⟨hp, h3⟩ := bcond hp
    obtain ⟨_, hp⟩ := bcond hp
    obtain ⟨h1, _⟩ := bcond hp
    show _ = some (⟨.int .i64 (N.riseSize x.kept), [], []⟩ : DRes)
    simp only [List.length_map, dec_encs, beq_self_eq_true, cond_true, h1, h3]
def schRefRSize : SSch := { fr := [(3, .int .i64), (7, .slc [.int .u64, .str, .str, .slc [.str, .int .u8, .int .i64, .str], .str, .int .u64, .int .u8]), (8, .int .i64), (9, .int .i64)], tab := [] }
def gRefRSize : List Leaf → (Ex → St → Option R) → Option R
  | [.i i3, .r r7, .i i8, .i i9], K => cond (i8 == r7.length) (cond (i9 == 0) (cond (i3 == 0) (cond (Nat.ble r7.length 16) (cond ((r7.map cMail.dec).all N.fineM)
      (K (.exit 0) { fr := [(3, .int .i64 (N.riseSize (r7.map cMail.dec)))], tab := [] }) none) none) none) none) none
  | _, _ => none
noncomputable def eRefRSize : Env := env Tryz.prog [(59, dMailSizeP)] [(3, loopF schRefRSize gRefRSize)] [(3, [(0, [3, 7, 8, 9]), (1, [3]), (1000, [2])])]
theorem q_refRSize (x : HRise) : evFn eRefRSize 35 ((aOne (vAgg cRise)).enc x) ([]) some =
 cond ((↑(List.length (List.map (RCod.enc cMail) (HRise.kept x))) : Int) == (↑(List.length (List.map (RCod.enc cMail) (HRise.kept x))) : Int)) (cond (Nat.ble (List.length (List.map (RCod.enc cMail) (HRise.kept x))) (16 : Nat)) (cond (List.all (List.map (RCod.dec cMail) (List.map (RCod.enc cMail) (HRise.kept x))) N.fineM) (some { v := V.int IntKind.i64 (N.riseSize (List.map (RCod.dec cMail) (List.map (RCod.enc cMail) (HRise.kept x)))), bx := [] : DRes }) (none)) (none)) (none) := by kernel_rfl
theorem q_refRSizeR (i3 : Int) (r7 : List (List V)) (i8 : Int) (i9 : Int) (K : Ex → St → Option R) : evRound eRefRSize 35 3 { fr := [(3, .int .i64 i3), (7, .slc [.int .u64, .str, .str, .slc [.str, .int .u8, .int .i64, .str], .str, .int .u64, .int .u8] r7), (8, .int .i64 i8), (9, .int .i64 i9)], tab := [] } K =
 cond (ilt i9 i8) (cond (decide ((0 : Int) ≤ i9 ∧ i9 < (↑(List.length r7) : Int))) (cond (bif N.okM { id := V.toInt (List.getD (List.getD r7 (Int.toNat i9) []) (0 : Nat) V.undef), shop := V.toStr (List.getD (List.getD r7 (Int.toNat i9) []) (1 : Nat) V.undef), key := V.toStr (List.getD (List.getD r7 (Int.toNat i9) []) (2 : Nat) V.undef), head := List.map (fun r => { key := V.toStr (List.getD r (0 : Nat) V.undef), kind := V.toInt (List.getD r (1 : Nat) V.undef), num := V.toInt (List.getD r (2 : Nat) V.undef), text := V.toStr (List.getD r (3 : Nat) V.undef) : HPair }) (V.toRows (List.getD (List.getD r7 (Int.toNat i9) []) (3 : Nat) V.undef)), body := V.toStr (List.getD (List.getD r7 (Int.toNat i9) []) (4 : Nat) V.undef), due := V.toInt (List.getD (List.getD r7 (Int.toNat i9) []) (5 : Nat) V.undef), hops := V.toInt (List.getD (List.getD r7 (Int.toNat i9) []) (6 : Nat) V.undef) : HMail } then List.all (List.map (fun r => { key := V.toStr (List.getD r (0 : Nat) V.undef), kind := V.toInt (List.getD r (1 : Nat) V.undef), num := V.toInt (List.getD r (2 : Nat) V.undef), text := V.toStr (List.getD r (3 : Nat) V.undef) : HPair }) (V.toRows (List.getD (List.getD r7 (Int.toNat i9) []) (3 : Nat) V.undef))) N.okP' else false) (K Ex.normal { fr := [((3 : Nat), V.int IntKind.i64 (IntKind.wrap IntKind.i64 (i3 + N.mailSize { id := V.toInt (List.getD (List.getD r7 (Int.toNat i9) []) (0 : Nat) V.undef), shop := V.toStr (List.getD (List.getD r7 (Int.toNat i9) []) (1 : Nat) V.undef), key := V.toStr (List.getD (List.getD r7 (Int.toNat i9) []) (2 : Nat) V.undef), head := List.map (fun r => { key := V.toStr (List.getD r (0 : Nat) V.undef), kind := V.toInt (List.getD r (1 : Nat) V.undef), num := V.toInt (List.getD r (2 : Nat) V.undef), text := V.toStr (List.getD r (3 : Nat) V.undef) : HPair }) (V.toRows (List.getD (List.getD r7 (Int.toNat i9) []) (3 : Nat) V.undef)), body := V.toStr (List.getD (List.getD r7 (Int.toNat i9) []) (4 : Nat) V.undef), due := V.toInt (List.getD (List.getD r7 (Int.toNat i9) []) (5 : Nat) V.undef), hops := V.toInt (List.getD (List.getD r7 (Int.toNat i9) []) (6 : Nat) V.undef) : HMail }))), ((7 : Nat), V.slc [Sh.int IntKind.u64, Sh.str, Sh.str, Sh.slc [Sh.str, Sh.int IntKind.u8, Sh.int IntKind.i64, Sh.str], Sh.str, Sh.int IntKind.u64, Sh.int IntKind.u8] r7), ((8 : Nat), V.int IntKind.i64 i8), ((9 : Nat), V.int IntKind.i64 (IntKind.wrap IntKind.i64 (i9 + (1 : Int))))], tab := [] : St }) (none)) (none)) (K (Ex.exit (0 : Nat)) { fr := [((3 : Nat), V.int IntKind.i64 i3)], tab := [] : St }) := by kernel_rfl
theorem ok_refRiseSize : FnOk Tryz.prog 35 dRefRiseSize := by
  refine den_okF (env_ok ((TOk.nil _).cons ok_refMailSize)) (E := eRefRSize) Tryz.func35 [3] (by kernel_rfl) (one1 (rounds_of rfl fun l K q h => ?_)) fun x _ hp => ?_
  · unfold gRefRSize at h
    split at h
    · rename_i o r n i
      have h1 := (cond_none h).1; replace h := (cond_none h).2; have h2 := (cond_none h).1; replace h := (cond_none h).2; have h3 := (cond_none h).1; replace h := (cond_none h).2; have h4 := (cond_none h).1; replace h := (cond_none h).2; have h5 := (cond_none h).1; replace h := (cond_none h).2
      have e1 := ieq_of h1
      have e2 := ieq_of h2
      have e3 := ieq_of h3
      subst e1 e2 e3
      have h4 : r.length ≤ 16 := ble_of h4
      have main := range_ind (E := eRefRSize) (f := 35) (id := 3) (A := Int) r (fun a i => { fr := [(3, .int .i64 a), (7, .slc [.int .u64, .str, .str, .slc [.str, .int .u8, .int .i64, .str], .str, .int .u64, .int .u8] r), (8, .int .i64 r.length), (9, .int .i64 i)], tab := [] }) (fun a i => 0 ≤ a ∧ a ≤ 1570 * i)
        (fun a rows K => K (.exit 0) { fr := [(3, .int .i64 (a + N.riseSize (rows.map cMail.dec)))], tab := [] }) (fun a i ha hi => ?_) (fun a _ => ?_) 0 0 (Int.le_refl _) (by omega) ⟨Int.le_refl _, by decide⟩ K q (by rw [Int.zero_add]; exact h)
      · exact main
      · have hb := mailSize_le (cMail.dec (r.getD i []))
        have hs := all_row h5 hi
        refine .inl ⟨a + N.mailSize (cMail.dec (r.getD i [])), ⟨by omega, by omega⟩, fun K => ?_, fun K => ?_⟩
        · rw [q_refRSizeR]
          simp (disch := omega) only [evs, Int.toNat_natCast, fold_mail, hs]
          show cond (N.fineM (cMail.dec (r.getD i []))) _ _ = _
          rw [hs]; rfl
        · show K _ { fr := [(3, .int .i64 (a + (N.mailSize (cMail.dec (r.getD i [])) + N.riseSize ((r.drop (i + 1)).map cMail.dec))))], tab := [] } = _
          rw [Int.add_assoc]
      · refine ⟨.exit 0, _, by simp, fun K => ?_, fun K => rfl⟩
        rw [q_refRSizeR]
        simp (disch := omega) only [evs, List.map_nil, Int.add_zero]
        show _ = K _ { fr := [(3, .int .i64 (a + 0))], tab := [] }
        rw [Int.add_zero]
    · cases h
  · refine (q_refRSize x).trans ?_
    obtain ⟨hp, h3⟩ := bcond hp
    obtain ⟨_, hp⟩ := bcond hp
    obtain ⟨h1, _⟩ := bcond hp
    show _ = some (⟨.int .i64 (N.riseSize x.kept), [], []⟩ : DRes)
    simp only [List.length_map, dec_encs, beq_self_eq_true, cond_true, h1, h3]
noncomputable def eRefRPut : Env := env Tryz.prog [(39, dMailCheck)] [] []
theorem q_refRPut (x : HRise) (m : HMail) : evFn eRefRPut 15 ((aCons (vAgg cRise) (aOne (vAgg cMail))).enc (x, m)) ([]) some =
 cond (N.mailCheck { id := HMail.id m, shop := HMail.shop m, key := HMail.key m, head := List.map (fun r => { key := V.toStr (List.getD r (0 : Nat) V.undef), kind := V.toInt (List.getD r (1 : Nat) V.undef), num := V.toInt (List.getD r (2 : Nat) V.undef), text := V.toStr (List.getD r (3 : Nat) V.undef) : HPair }) (List.map (fun p => [V.str (HPair.key p), V.int IntKind.u8 (HPair.kind p), V.int IntKind.i64 (HPair.num p), V.str (HPair.text p)]) (HMail.head m)), body := HMail.body m, due := HMail.due m, hops := HMail.hops m : HMail } == (0 : Int)) (cond (HRise.total x == (18446744073709551615 : Int)) (some { v := V.tup [V.agg [V.int IntKind.u64 (HRise.total x), V.slc [Sh.int IntKind.u64, Sh.str, Sh.str, Sh.slc [Sh.str, Sh.int IntKind.u8, Sh.int IntKind.i64, Sh.str], Sh.str, Sh.int IntKind.u64, Sh.int IntKind.u8] (List.map (RCod.enc cMail) (HRise.kept x))], V.int IntKind.i64 (18 : Int)], bx := [] : DRes }) (cond (N.mailCheck { id := HMail.id m, shop := HMail.shop m, key := HMail.key m, head := List.map (fun r => { key := V.toStr (List.getD r (0 : Nat) V.undef), kind := V.toInt (List.getD r (1 : Nat) V.undef), num := V.toInt (List.getD r (2 : Nat) V.undef), text := V.toStr (List.getD r (3 : Nat) V.undef) : HPair }) (List.map (fun p => [V.str (HPair.key p), V.int IntKind.u8 (HPair.kind p), V.int IntKind.i64 (HPair.num p), V.str (HPair.text p)]) (HMail.head m)), body := HMail.body m, due := HMail.due m, hops := HMail.hops m : HMail } != (0 : Int)) (some { v := V.tup [V.agg [V.int IntKind.u64 (HRise.total x), V.slc [Sh.int IntKind.u64, Sh.str, Sh.str, Sh.slc [Sh.str, Sh.int IntKind.u8, Sh.int IntKind.i64, Sh.str], Sh.str, Sh.int IntKind.u64, Sh.int IntKind.u8] (List.map (RCod.enc cMail) (HRise.kept x))], V.int IntKind.i64 (N.mailCheck { id := HMail.id m, shop := HMail.shop m, key := HMail.key m, head := List.map (fun r => { key := V.toStr (List.getD r (0 : Nat) V.undef), kind := V.toInt (List.getD r (1 : Nat) V.undef), num := V.toInt (List.getD r (2 : Nat) V.undef), text := V.toStr (List.getD r (3 : Nat) V.undef) : HPair }) (List.map (fun p => [V.str (HPair.key p), V.int IntKind.u8 (HPair.kind p), V.int IntKind.i64 (HPair.num p), V.str (HPair.text p)]) (HMail.head m)), body := HMail.body m, due := HMail.due m, hops := HMail.hops m : HMail })], bx := [] : DRes }) (cond (decide (List.length (List.map (RCod.enc cMail) (HRise.kept x)) * (96 : Nat) ≤ (140737488355328 : Nat))) (cond (decide ((List.length (List.map (RCod.enc cMail) (HRise.kept x)) + (1 : Nat)) * (96 : Nat) ≤ (140737488355328 : Nat))) (cond (ilt (16 : Int) (↑(List.length (List.map (RCod.enc cMail) (HRise.kept x) ++ [[V.int IntKind.u64 (HMail.id m), V.str (HMail.shop m), V.str (HMail.key m), V.slc [Sh.str, Sh.int IntKind.u8, Sh.int IntKind.i64, Sh.str] (List.map (fun p => [V.str (HPair.key p), V.int IntKind.u8 (HPair.kind p), V.int IntKind.i64 (HPair.num p), V.str (HPair.text p)]) (HMail.head m)), V.str (HMail.body m), V.int IntKind.u64 (HMail.due m), V.int IntKind.u8 (HMail.hops m)]])) : Int)) (cond (decide ((0 : Int) ≤ (1 : Int) ∧ (1 : Int) ≤ (↑(List.length (List.map (RCod.enc cMail) (HRise.kept x) ++ [[V.int IntKind.u64 (HMail.id m), V.str (HMail.shop m), V.str (HMail.key m), V.slc [Sh.str, Sh.int IntKind.u8, Sh.int IntKind.i64, Sh.str] (List.map (fun p => [V.str (HPair.key p), V.int IntKind.u8 (HPair.kind p), V.int IntKind.i64 (HPair.num p), V.str (HPair.text p)]) (HMail.head m)), V.str (HMail.body m), V.int IntKind.u64 (HMail.due m), V.int IntKind.u8 (HMail.hops m)]])) : Int))) (some { v := V.tup [V.agg [V.int IntKind.u64 (IntKind.wrap IntKind.u64 (HRise.total x + (1 : Int))), V.slc [Sh.int IntKind.u64, Sh.str, Sh.str, Sh.slc [Sh.str, Sh.int IntKind.u8, Sh.int IntKind.i64, Sh.str], Sh.str, Sh.int IntKind.u64, Sh.int IntKind.u8] (List.drop (1 : Nat) (List.take (List.length (List.map (RCod.enc cMail) (HRise.kept x) ++ [[V.int IntKind.u64 (HMail.id m), V.str (HMail.shop m), V.str (HMail.key m), V.slc [Sh.str, Sh.int IntKind.u8, Sh.int IntKind.i64, Sh.str] (List.map (fun p => [V.str (HPair.key p), V.int IntKind.u8 (HPair.kind p), V.int IntKind.i64 (HPair.num p), V.str (HPair.text p)]) (HMail.head m)), V.str (HMail.body m), V.int IntKind.u64 (HMail.due m), V.int IntKind.u8 (HMail.hops m)]])) (List.map (RCod.enc cMail) (HRise.kept x) ++ [[V.int IntKind.u64 (HMail.id m), V.str (HMail.shop m), V.str (HMail.key m), V.slc [Sh.str, Sh.int IntKind.u8, Sh.int IntKind.i64, Sh.str] (List.map (fun p => [V.str (HPair.key p), V.int IntKind.u8 (HPair.kind p), V.int IntKind.i64 (HPair.num p), V.str (HPair.text p)]) (HMail.head m)), V.str (HMail.body m), V.int IntKind.u64 (HMail.due m), V.int IntKind.u8 (HMail.hops m)]])))], V.int IntKind.i64 (0 : Int)], bx := [] : DRes }) (none)) (some { v := V.tup [V.agg [V.int IntKind.u64 (IntKind.wrap IntKind.u64 (HRise.total x + (1 : Int))), V.slc [Sh.int IntKind.u64, Sh.str, Sh.str, Sh.slc [Sh.str, Sh.int IntKind.u8, Sh.int IntKind.i64, Sh.str], Sh.str, Sh.int IntKind.u64, Sh.int IntKind.u8] (List.map (RCod.enc cMail) (HRise.kept x) ++ [[V.int IntKind.u64 (HMail.id m), V.str (HMail.shop m), V.str (HMail.key m), V.slc [Sh.str, Sh.int IntKind.u8, Sh.int IntKind.i64, Sh.str] (List.map (fun p => [V.str (HPair.key p), V.int IntKind.u8 (HPair.kind p), V.int IntKind.i64 (HPair.num p), V.str (HPair.text p)]) (HMail.head m)), V.str (HMail.body m), V.int IntKind.u64 (HMail.due m), V.int IntKind.u8 (HMail.hops m)]])], V.int IntKind.i64 (0 : Int)], bx := [] : DRes })) (none)) (none)))) (cond (N.mailCheck { id := HMail.id m, shop := HMail.shop m, key := HMail.key m, head := List.map (fun r => { key := V.toStr (List.getD r (0 : Nat) V.undef), kind := V.toInt (List.getD r (1 : Nat) V.undef), num := V.toInt (List.getD r (2 : Nat) V.undef), text := V.toStr (List.getD r (3 : Nat) V.undef) : HPair }) (List.map (fun p => [V.str (HPair.key p), V.int IntKind.u8 (HPair.kind p), V.int IntKind.i64 (HPair.num p), V.str (HPair.text p)]) (HMail.head m)), body := HMail.body m, due := HMail.due m, hops := HMail.hops m : HMail } != (0 : Int)) (some { v := V.tup [V.agg [V.int IntKind.u64 (HRise.total x), V.slc [Sh.int IntKind.u64, Sh.str, Sh.str, Sh.slc [Sh.str, Sh.int IntKind.u8, Sh.int IntKind.i64, Sh.str], Sh.str, Sh.int IntKind.u64, Sh.int IntKind.u8] (List.map (RCod.enc cMail) (HRise.kept x))], V.int IntKind.i64 (N.mailCheck { id := HMail.id m, shop := HMail.shop m, key := HMail.key m, head := List.map (fun r => { key := V.toStr (List.getD r (0 : Nat) V.undef), kind := V.toInt (List.getD r (1 : Nat) V.undef), num := V.toInt (List.getD r (2 : Nat) V.undef), text := V.toStr (List.getD r (3 : Nat) V.undef) : HPair }) (List.map (fun p => [V.str (HPair.key p), V.int IntKind.u8 (HPair.kind p), V.int IntKind.i64 (HPair.num p), V.str (HPair.text p)]) (HMail.head m)), body := HMail.body m, due := HMail.due m, hops := HMail.hops m : HMail })], bx := [] : DRes }) (cond (decide (List.length (List.map (RCod.enc cMail) (HRise.kept x)) * (96 : Nat) ≤ (140737488355328 : Nat))) (cond (decide ((List.length (List.map (RCod.enc cMail) (HRise.kept x)) + (1 : Nat)) * (96 : Nat) ≤ (140737488355328 : Nat))) (cond (ilt (16 : Int) (↑(List.length (List.map (RCod.enc cMail) (HRise.kept x) ++ [[V.int IntKind.u64 (HMail.id m), V.str (HMail.shop m), V.str (HMail.key m), V.slc [Sh.str, Sh.int IntKind.u8, Sh.int IntKind.i64, Sh.str] (List.map (fun p => [V.str (HPair.key p), V.int IntKind.u8 (HPair.kind p), V.int IntKind.i64 (HPair.num p), V.str (HPair.text p)]) (HMail.head m)), V.str (HMail.body m), V.int IntKind.u64 (HMail.due m), V.int IntKind.u8 (HMail.hops m)]])) : Int)) (cond (decide ((0 : Int) ≤ (1 : Int) ∧ (1 : Int) ≤ (↑(List.length (List.map (RCod.enc cMail) (HRise.kept x) ++ [[V.int IntKind.u64 (HMail.id m), V.str (HMail.shop m), V.str (HMail.key m), V.slc [Sh.str, Sh.int IntKind.u8, Sh.int IntKind.i64, Sh.str] (List.map (fun p => [V.str (HPair.key p), V.int IntKind.u8 (HPair.kind p), V.int IntKind.i64 (HPair.num p), V.str (HPair.text p)]) (HMail.head m)), V.str (HMail.body m), V.int IntKind.u64 (HMail.due m), V.int IntKind.u8 (HMail.hops m)]])) : Int))) (some { v := V.tup [V.agg [V.int IntKind.u64 (IntKind.wrap IntKind.u64 (HRise.total x + (1 : Int))), V.slc [Sh.int IntKind.u64, Sh.str, Sh.str, Sh.slc [Sh.str, Sh.int IntKind.u8, Sh.int IntKind.i64, Sh.str], Sh.str, Sh.int IntKind.u64, Sh.int IntKind.u8] (List.drop (1 : Nat) (List.take (List.length (List.map (RCod.enc cMail) (HRise.kept x) ++ [[V.int IntKind.u64 (HMail.id m), V.str (HMail.shop m), V.str (HMail.key m), V.slc [Sh.str, Sh.int IntKind.u8, Sh.int IntKind.i64, Sh.str] (List.map (fun p => [V.str (HPair.key p), V.int IntKind.u8 (HPair.kind p), V.int IntKind.i64 (HPair.num p), V.str (HPair.text p)]) (HMail.head m)), V.str (HMail.body m), V.int IntKind.u64 (HMail.due m), V.int IntKind.u8 (HMail.hops m)]])) (List.map (RCod.enc cMail) (HRise.kept x) ++ [[V.int IntKind.u64 (HMail.id m), V.str (HMail.shop m), V.str (HMail.key m), V.slc [Sh.str, Sh.int IntKind.u8, Sh.int IntKind.i64, Sh.str] (List.map (fun p => [V.str (HPair.key p), V.int IntKind.u8 (HPair.kind p), V.int IntKind.i64 (HPair.num p), V.str (HPair.text p)]) (HMail.head m)), V.str (HMail.body m), V.int IntKind.u64 (HMail.due m), V.int IntKind.u8 (HMail.hops m)]])))], V.int IntKind.i64 (0 : Int)], bx := [] : DRes }) (none)) (some { v := V.tup [V.agg [V.int IntKind.u64 (IntKind.wrap IntKind.u64 (HRise.total x + (1 : Int))), V.slc [Sh.int IntKind.u64, Sh.str, Sh.str, Sh.slc [Sh.str, Sh.int IntKind.u8, Sh.int IntKind.i64, Sh.str], Sh.str, Sh.int IntKind.u64, Sh.int IntKind.u8] (List.map (RCod.enc cMail) (HRise.kept x) ++ [[V.int IntKind.u64 (HMail.id m), V.str (HMail.shop m), V.str (HMail.key m), V.slc [Sh.str, Sh.int IntKind.u8, Sh.int IntKind.i64, Sh.str] (List.map (fun p => [V.str (HPair.key p), V.int IntKind.u8 (HPair.kind p), V.int IntKind.i64 (HPair.num p), V.str (HPair.text p)]) (HMail.head m)), V.str (HMail.body m), V.int IntKind.u64 (HMail.due m), V.int IntKind.u8 (HMail.hops m)]])], V.int IntKind.i64 (0 : Int)], bx := [] : DRes })) (none)) (none))) := by kernel_rfl
theorem ok_refRisePut : FnOk Tryz.prog 15 dRisePut := by
  refine den_okF (env_ok ((TOk.nil _).cons ok_refMailCheck)) (E := eRefRPut) Tryz.func15 [] (by kernel_rfl) none0 fun a _ h => ?_
  obtain ⟨x, m⟩ := a
  obtain ⟨h1, h2⟩ := bcond h
  obtain ⟨h3, h4⟩ := bcond h1
  obtain ⟨h3, h5⟩ := bcond h3
  obtain ⟨h4, h6⟩ := bcond h4
  have h3 : 0 ≤ x.total := ile_of h3
  have h5 : x.total ≤ 18446744073709551615 := ile_of h5
  have h4 : x.kept.length ≤ 16 := ble_of h4
  refine (q_refRPut x m).trans ?_
  show _ = some (⟨.tup [.agg (cRise.enc (N.risePut x m).1), .int .i64 (N.risePut x m).2], [], []⟩ : DRes)
  simp only [fold_de, fold_enc]
  unfold N.risePut
  cases hc : N.mailCheck m != 0 with
  | true =>
    have h0 : (N.mailCheck m == 0) = false := by rw [bne] at hc; simpa using hc
    rw [h0]
    rfl
  | false =>
    have hz : N.mailCheck m = 0 := by simpa using hc
    rw [hz]
    cases ht : x.total == 18446744073709551615 with
    | true => rfl
    | false =>
      have ht : x.total ≠ 18446744073709551615 := fun e => by rw [e] at ht; cases ht
      have l1 : (List.map (RCod.enc cMail) x.kept ++ [cMail.enc m]).length = x.kept.length + 1 := by simp
      have w2 : IntKind.wrap .u64 (x.total + 1) = x.total + 1 := wr_u64 (by omega) (by omega)
      have e1 : List.map (RCod.enc cMail) x.kept ++ [cMail.enc m] = List.map (RCod.enc cMail) (x.kept ++ [m]) := by simp
      have l2 : (List.map (RCod.enc cMail) (x.kept ++ [m])).length = x.kept.length + 1 := by simp
      have e2 : List.take (x.kept.length + 1) (List.map (RCod.enc cMail) (x.kept ++ [m])) = List.map (RCod.enc cMail) (x.kept ++ [m]) := List.take_of_length_le (Nat.le_of_eq l2)
      simp only [cond_true, cond_false, beq_self_eq_true, e1, l2, e2, w2, List.length_map, bne_self_eq_false]
      by_cases hl : x.kept.length = 16
      · simp (disch := omega) only [evs, hl]
        rw [← List.map_drop]
        rfl
      · simp (disch := omega) only [evs]
        rw [show x.kept.length + 1 - 16 = 0 by omega]
        rfl
/-- A message's row, read and written again. -/
def reRow (r : List V) : List V := [V.int .u64 (V.toInt (List.getD r 0 .undef)), V.str (V.toStr (List.getD r 1 .undef)), V.str (V.toStr (List.getD r 2 .undef)), V.slc [.str, .int .u8, .int .i64, .str] (V.toRows (List.getD r 3 .undef)), V.str (V.toStr (List.getD r 4 .undef)), V.int .u64 (V.toInt (List.getD r 5 .undef)), V.int .u8 (V.toInt (List.getD r 6 .undef))]
def schRefRAfter : SSch := { fr := [(1, .int .u64), (2, .ptr 10000 0 0), (5, .ptr 10001 0 0), (11, .slc [.int .u64, .str, .str, .slc [.str, .int .u8, .int .i64, .str], .str, .int .u64, .int .u8]), (12, .int .i64), (13, .int .i64)], tab := [(10000, .var [.int .u64, .slc [.int .u64, .str, .str, .slc [.str, .int .u8, .int .i64, .str], .str, .int .u64, .int .u8]]), (10001, .var [.int .u64, .str, .str, .slc [.str, .int .u8, .int .i64, .str], .str, .int .u64, .int .u8])] }
def N.aftN (t n : Int) (len : Nat) : Int := cond (ilt (t - len + 1) (n + 1)) (n + 1) (t - len + 1)
def gRefRAfter : List Leaf → (Ex → St → Option R) → Option R
  | [.i n, .r r, .i l, .i i, .i t, .r rx, .i a1, .s a2, .s a3, .r a4, .s a5, .i a6, .i a7], K => cond (l == r.length) (cond (i == 0) (cond (Nat.beq rx.length r.length) (cond (Nat.ble r.length 16) (cond (ile r.length t) (cond (ile t 18446744073709551615) (cond (ile 0 n) (cond (cond (Nat.beq r.length 0) (t == 0) true)
      (cond (ile t n) (K (.exit 0) { fr := [(5, .ptr 10000 0 0 0)], tab := [(10000, .var [.int .u64 a1, .str a2, .str a3, .slc [.str, .int .u8, .int .i64, .str] a4, .str a5, .int .u64 a6, .int .u8 a7])] })
        (K .ret { fr := [(4, .int .u64 (N.aftN t n r.length)), (5, .ptr 10000 0 0 0), (6, .bool true)], tab := [(10000, .var (reRow (r.getD (N.aftN t n r.length - (t - r.length + 1)).toNat [])))] })) none) none) none) none) none) none) none) none
  | _, _ => none
noncomputable def eRefRAfter : Env := { env Tryz.prog [] [(2, loopF schRefRAfter gRefRAfter)] [(2, [(0, [1, 2, 5, 11, 12, 13]), (1, [5]), (1000, [4, 5, 6])])] with fz := true }
theorem q_refRAfterR (n : Int) (r : List (List V)) (l i : Int) (t : Int) (rx : List (List V)) (a1 : Int) (a2 a3 : Bytes) (a4 : List (List V)) (a5 : Bytes) (a6 a7 : Int) (K : Ex → St → Option R) : evRound eRefRAfter 32 2 { fr := [(1, .int .u64 n), (2, .ptr 10000 0 0 0), (5, .ptr 10001 0 0 0), (11, .slc [.int .u64, .str, .str, .slc [.str, .int .u8, .int .i64, .str], .str, .int .u64, .int .u8] r), (12, .int .i64 l), (13, .int .i64 i)], tab := [(10000, .var [.int .u64 t, .slc [.int .u64, .str, .str, .slc [.str, .int .u8, .int .i64, .str], .str, .int .u64, .int .u8] rx]), (10001, .var [.int .u64 a1, .str a2, .str a3, .slc [.str, .int .u8, .int .i64, .str] a4, .str a5, .int .u64 a6, .int .u8 a7])] } K =
 cond (ilt i l) (cond (decide ((0 : Int) ≤ i ∧ i < (↑(List.length r) : Int))) (cond (ilt n (IntKind.wrap IntKind.u64 (t - IntKind.wrap IntKind.u64 (IntKind.wrap IntKind.i64 (IntKind.wrap IntKind.i64 ((↑(List.length rx) : Int) - (1 : Int)) - i))))) (K Ex.ret { fr := [((4 : Nat), V.int IntKind.u64 (IntKind.wrap IntKind.u64 (t - IntKind.wrap IntKind.u64 (IntKind.wrap IntKind.i64 (IntKind.wrap IntKind.i64 ((↑(List.length rx) : Int) - (1 : Int)) - i))))), ((5 : Nat), V.ptr (10000 : Nat) (0 : Nat) (0 : Nat) (0 : Nat)), ((6 : Nat), V.bool true)], tab := [((10000 : Nat), Box.var [V.int IntKind.u64 (V.toInt (List.getD (List.getD r (Int.toNat i) []) (0 : Nat) V.undef)), V.str (V.toStr (List.getD (List.getD r (Int.toNat i) []) (1 : Nat) V.undef)), V.str (V.toStr (List.getD (List.getD r (Int.toNat i) []) (2 : Nat) V.undef)), V.slc [Sh.str, Sh.int IntKind.u8, Sh.int IntKind.i64, Sh.str] (V.toRows (List.getD (List.getD r (Int.toNat i) []) (3 : Nat) V.undef)), V.str (V.toStr (List.getD (List.getD r (Int.toNat i) []) (4 : Nat) V.undef)), V.int IntKind.u64 (V.toInt (List.getD (List.getD r (Int.toNat i) []) (5 : Nat) V.undef)), V.int IntKind.u8 (V.toInt (List.getD (List.getD r (Int.toNat i) []) (6 : Nat) V.undef))])] : St }) (K Ex.normal { fr := [((1 : Nat), V.int IntKind.u64 n), ((2 : Nat), V.ptr (10000 : Nat) (0 : Nat) (0 : Nat) (0 : Nat)), ((5 : Nat), V.ptr (10001 : Nat) (0 : Nat) (0 : Nat) (0 : Nat)), ((11 : Nat), V.slc [Sh.int IntKind.u64, Sh.str, Sh.str, Sh.slc [Sh.str, Sh.int IntKind.u8, Sh.int IntKind.i64, Sh.str], Sh.str, Sh.int IntKind.u64, Sh.int IntKind.u8] r), ((12 : Nat), V.int IntKind.i64 l), ((13 : Nat), V.int IntKind.i64 (IntKind.wrap IntKind.i64 (i + (1 : Int))))], tab := [((10000 : Nat), Box.var [V.int IntKind.u64 t, V.slc [Sh.int IntKind.u64, Sh.str, Sh.str, Sh.slc [Sh.str, Sh.int IntKind.u8, Sh.int IntKind.i64, Sh.str], Sh.str, Sh.int IntKind.u64, Sh.int IntKind.u8] rx]), ((10001 : Nat), Box.var [V.int IntKind.u64 a1, V.str a2, V.str a3, V.slc [Sh.str, Sh.int IntKind.u8, Sh.int IntKind.i64, Sh.str] a4, V.str a5, V.int IntKind.u64 a6, V.int IntKind.u8 a7])] : St })) (none)) (K (Ex.exit (0 : Nat)) { fr := [((5 : Nat), V.ptr (10000 : Nat) (0 : Nat) (0 : Nat) (0 : Nat))], tab := [((10000 : Nat), Box.var [V.int IntKind.u64 a1, V.str a2, V.str a3, V.slc [Sh.str, Sh.int IntKind.u8, Sh.int IntKind.i64, Sh.str] a4, V.str a5, V.int IntKind.u64 a6, V.int IntKind.u8 a7])] : St }) := by kernel_rfl
theorem q_refRAfter (x : HRise) (n : Int) : evFn eRefRAfter 32 ((aCons (vAgg cRise) (aOne (vInt .u64))).enc (x, n)) ([]) some =
 cond ((↑(List.length (List.map (RCod.enc cMail) (HRise.kept x))) : Int) == (↑(List.length (List.map (RCod.enc cMail) (HRise.kept x))) : Int)) (cond (Nat.beq (List.length (List.map (RCod.enc cMail) (HRise.kept x))) (List.length (List.map (RCod.enc cMail) (HRise.kept x)))) (cond (Nat.ble (List.length (List.map (RCod.enc cMail) (HRise.kept x))) (16 : Nat)) (cond (ile (↑(List.length (List.map (RCod.enc cMail) (HRise.kept x))) : Int) (HRise.total x)) (cond (ile (HRise.total x) (18446744073709551615 : Int)) (cond (ile (0 : Int) n) (cond (bif Nat.beq (List.length (List.map (RCod.enc cMail) (HRise.kept x))) (0 : Nat) then HRise.total x == (0 : Int) else true) (cond (ile (HRise.total x) n) (some { v := V.tup [V.int IntKind.u64 (0 : Int), V.agg [V.int IntKind.u64 (0 : Int), V.str [], V.str [], V.slc [Sh.str, Sh.int IntKind.u8, Sh.int IntKind.i64, Sh.str] [], V.str [], V.int IntKind.u64 (0 : Int), V.int IntKind.u8 (0 : Int)], V.bool false], bx := [] : DRes }) (some { v := V.tup [V.int IntKind.u64 (N.aftN (HRise.total x) n (List.length (List.map (RCod.enc cMail) (HRise.kept x)))), V.agg [V.int IntKind.u64 (V.toInt (List.getD (List.getD (List.map (RCod.enc cMail) (HRise.kept x)) (Int.toNat (N.aftN (HRise.total x) n (List.length (List.map (RCod.enc cMail) (HRise.kept x))) - (HRise.total x - (↑(List.length (List.map (RCod.enc cMail) (HRise.kept x))) : Int) + (1 : Int)))) []) (0 : Nat) V.undef)), V.str (V.toStr (List.getD (List.getD (List.map (RCod.enc cMail) (HRise.kept x)) (Int.toNat (N.aftN (HRise.total x) n (List.length (List.map (RCod.enc cMail) (HRise.kept x))) - (HRise.total x - (↑(List.length (List.map (RCod.enc cMail) (HRise.kept x))) : Int) + (1 : Int)))) []) (1 : Nat) V.undef)), V.str (V.toStr (List.getD (List.getD (List.map (RCod.enc cMail) (HRise.kept x)) (Int.toNat (N.aftN (HRise.total x) n (List.length (List.map (RCod.enc cMail) (HRise.kept x))) - (HRise.total x - (↑(List.length (List.map (RCod.enc cMail) (HRise.kept x))) : Int) + (1 : Int)))) []) (2 : Nat) V.undef)), V.slc [Sh.str, Sh.int IntKind.u8, Sh.int IntKind.i64, Sh.str] (V.toRows (List.getD (List.getD (List.map (RCod.enc cMail) (HRise.kept x)) (Int.toNat (N.aftN (HRise.total x) n (List.length (List.map (RCod.enc cMail) (HRise.kept x))) - (HRise.total x - (↑(List.length (List.map (RCod.enc cMail) (HRise.kept x))) : Int) + (1 : Int)))) []) (3 : Nat) V.undef)), V.str (V.toStr (List.getD (List.getD (List.map (RCod.enc cMail) (HRise.kept x)) (Int.toNat (N.aftN (HRise.total x) n (List.length (List.map (RCod.enc cMail) (HRise.kept x))) - (HRise.total x - (↑(List.length (List.map (RCod.enc cMail) (HRise.kept x))) : Int) + (1 : Int)))) []) (4 : Nat) V.undef)), V.int IntKind.u64 (V.toInt (List.getD (List.getD (List.map (RCod.enc cMail) (HRise.kept x)) (Int.toNat (N.aftN (HRise.total x) n (List.length (List.map (RCod.enc cMail) (HRise.kept x))) - (HRise.total x - (↑(List.length (List.map (RCod.enc cMail) (HRise.kept x))) : Int) + (1 : Int)))) []) (5 : Nat) V.undef)), V.int IntKind.u8 (V.toInt (List.getD (List.getD (List.map (RCod.enc cMail) (HRise.kept x)) (Int.toNat (N.aftN (HRise.total x) n (List.length (List.map (RCod.enc cMail) (HRise.kept x))) - (HRise.total x - (↑(List.length (List.map (RCod.enc cMail) (HRise.kept x))) : Int) + (1 : Int)))) []) (6 : Nat) V.undef))], V.bool true], bx := [] : DRes })) (none)) (none)) (none)) (none)) (none)) (none)) (none) := by kernel_rfl
theorem ok_refRiseAfter : FnOk Tryz.prog 32 dRiseAfter := by
  refine den_okF (show TOk Tryz.prog _ from TOk.nil _) (E := eRefRAfter) Tryz.func32 [2] (by kernel_rfl) (one1 (rounds_of rfl fun l K q h => ?_)) fun a _ hp => ?_
  · unfold gRefRAfter at h
    split at h
    · rename_i n r l i t rx a1 a2 a3 a4 a5 a6 a7
      have h1 := (cond_none h).1; replace h := (cond_none h).2; have h2 := (cond_none h).1; replace h := (cond_none h).2; have h3 := (cond_none h).1; replace h := (cond_none h).2; have h4 := (cond_none h).1; replace h := (cond_none h).2; have h5 := (cond_none h).1; replace h := (cond_none h).2; have h6 := (cond_none h).1; replace h := (cond_none h).2; have h7 := (cond_none h).1; replace h := (cond_none h).2; have h8 := (cond_none h).1; replace h := (cond_none h).2
      have e1 := ieq_of h1
      have e2 := ieq_of h2
      have e3 := nbeq_of h3
      subst e1 e2
      have h4 : r.length ≤ 16 := ble_of h4
      have h5 := ile_of h5
      have h6 := ile_of h6
      have h7 := ile_of h7
      have h9 : r.length = 0 → t = 0 := fun e => by
        rw [e] at h8
        exact ieq_of h8
      refine loop_ind (E := eRefRAfter) (f := 32) (id := 2) (σ := Nat) (fun i => { fr := [(1, .int .u64 n), (2, .ptr 10000 0 0 0), (5, .ptr 10001 0 0 0), (11, .slc [.int .u64, .str, .str, .slc [.str, .int .u8, .int .i64, .str], .str, .int .u64, .int .u8] r), (12, .int .i64 r.length), (13, .int .i64 i)], tab := [(10000, .var [.int .u64 t, .slc [.int .u64, .str, .str, .slc [.str, .int .u8, .int .i64, .str], .str, .int .u64, .int .u8] rx]), (10001, .var [.int .u64 a1, .str a2, .str a3, .slc [.str, .int .u8, .int .i64, .str] a4, .str a5, .int .u64 a6, .int .u8 a7])] })
        (fun i => i ≤ r.length ∧ (i = 0 ∨ t - r.length + i ≤ n)) (fun i => r.length - i)
        (fun _ K => cond (ile t n) (K (.exit 0) { fr := [(5, .ptr 10000 0 0 0)], tab := [(10000, .var [.int .u64 a1, .str a2, .str a3, .slc [.str, .int .u8, .int .i64, .str] a4, .str a5, .int .u64 a6, .int .u8 a7])] })
          (K .ret { fr := [(4, .int .u64 (N.aftN t n r.length)), (5, .ptr 10000 0 0 0), (6, .bool true)], tab := [(10000, .var (reRow (r.getD (N.aftN t n r.length - (t - r.length + 1)).toNat [])))] })) (fun i hi => ?_) 0 ⟨Nat.zero_le _, .inl rfl⟩ K q (by assumption)
      obtain ⟨hi, hn⟩ := hi
      have w1 : IntKind.wrap .i64 ((rx.length : Int) - 1) = (r.length : Int) - 1 := by rw [e3]; exact wr_i64 (by omega) (by omega)
      by_cases hl : i < r.length
      · have w2 : IntKind.wrap .i64 ((r.length : Int) - 1 - i) = (r.length : Int) - 1 - i := wr_i64 (by omega) (by omega)
        have w3 : IntKind.wrap .u64 ((r.length : Int) - 1 - i) = (r.length : Int) - 1 - i := wr_u64 (by omega) (by omega)
        have w4 : IntKind.wrap .u64 (t - ((r.length : Int) - 1 - i)) = t - ((r.length : Int) - 1 - i) := wr_u64 (by omega) (by omega)
        by_cases hc : n < t - ((r.length : Int) - 1 - i)
        · refine .inr ⟨.ret, { fr := [(4, .int .u64 (N.aftN t n r.length)), (5, .ptr 10000 0 0 0), (6, .bool true)], tab := [(10000, .var (reRow (r.getD (N.aftN t n r.length - (t - r.length + 1)).toNat [])))] }, by simp, fun K => ?_, fun K => ?_⟩
          · have ea : N.aftN t n r.length = t - ((r.length : Int) - 1 - i) := by
              unfold N.aftN
              by_cases hh : t - (r.length : Int) + 1 < n + 1
              · rw [ilt_t hh, cond_true]; omega
              · rw [ilt_f (by omega), cond_false]; omega
            have eb : (t - ((r.length : Int) - 1 - i) - (t - r.length + 1)).toNat = i := by omega
            rw [q_refRAfterR, ea, eb]
            simp (disch := omega) only [evs, w1, w2, w3, w4, Int.toNat_natCast]
            rfl
          · rw [ile_f (by omega)]; rfl
        · refine .inl ⟨i + 1, ⟨hl, .inr (by omega)⟩, by omega, fun K => ?_, fun K => rfl⟩
          rw [q_refRAfterR]
          simp (disch := omega) only [evs, w1, w2, w3, w4]
          rfl
      · have ei : i = r.length := by omega
        refine .inr ⟨.exit 0, { fr := [(5, .ptr 10000 0 0 0)], tab := [(10000, .var [.int .u64 a1, .str a2, .str a3, .slc [.str, .int .u8, .int .i64, .str] a4, .str a5, .int .u64 a6, .int .u8 a7])] }, by simp, fun K => ?_, fun K => ?_⟩
        · rw [q_refRAfterR]
          simp (disch := omega) only [evs]
        · have : t ≤ n := by
            rcases hn with h0 | h0
            · have := h9 (by omega); omega
            · omega
          rw [ile_t this]; rfl
    · cases h
  · obtain ⟨x, n⟩ := a
    obtain ⟨h1, h2⟩ := bcond hp
    obtain ⟨h1, h7⟩ := bcond h1
    obtain ⟨h7, h8⟩ := bcond h7
    obtain ⟨h3, h4⟩ := bcond h1
    obtain ⟨h3, h5⟩ := bcond h3
    obtain ⟨h4, h6⟩ := bcond h4
    obtain ⟨h2, h9⟩ := bcond h2
    have h2 : ile 0 n = true := h2
    have h5 : ile x.total 18446744073709551615 = true := h5
    have h4 : Nat.ble x.kept.length 16 = true := h4
    have h7 : ile x.kept.length x.total = true := h7
    have h8 : cond (Nat.beq x.kept.length 0) (x.total == 0) true = true := h8
    refine (q_refRAfter x n).trans ?_
    show _ = some (⟨.tup [.int .u64 (N.riseAfter x n).1, .agg (cMail.enc (N.riseAfter x n).2.1), .bool (N.riseAfter x n).2.2], [], []⟩ : DRes)
    simp only [List.length_map, beq_self_eq_true, cond_true, h2, h4, h5, h7, h8, Nat.beq_refl]
    unfold N.riseAfter
    cases ht : ile x.total n with
    | true => rfl
    | false =>
      have ht := ile_nof ht
      have h8 : x.kept.length ≠ 0 := fun e => by
        rw [e] at h8
        have h8 : x.total = 0 := ieq_of h8
        have := ile_of h2
        omega
      have h7 := ile_of h7
      simp only [cond_false]
      unfold N.aftN
      cases hl : ilt (x.total - x.kept.length + 1) (n + 1) with
      | true =>
        have hl := ilt_of hl
        have hi : (n + 1 - (x.total - x.kept.length + 1)).toNat < x.kept.length := by omega
        simp only [cond_true, getD_enc cMail x.kept _ mail0 hi]
        rfl
      | false =>
        have hi : 0 < x.kept.length := by omega
        simp only [cond_false, Int.sub_self, Int.toNat_zero, getD_enc cMail x.kept 0 mail0 hi]
        rfl
end Go.Ev

/- Sameness of rises, and what the statements' helpers tell: lemmas; the function that writes numbers is a premise. -/
namespace Go.Ev
open Go Go.Proofs
set_option maxRecDepth 100000
-- FOLD

def schRefRSame : SSch := { fr := [(2, .ptr 10000 0 0), (3, .ptr 10001 0 0), (22, .int .i64), (23, .int .i64)], tab := [(10000, .var [.int .u64, .slc [.int .u64, .str, .str, .slc [.str, .int .u8, .int .i64, .str], .str, .int .u64, .int .u8]]), (10001, .var [.int .u64, .slc [.int .u64, .str, .str, .slc [.str, .int .u8, .int .i64, .str], .str, .int .u64, .int .u8]])] }
def gRefRSame : List Leaf → (Ex → St → Option R) → Option R
  | [.i n, .i i, .i t0, .r r, .i t1, .r r1], K => cond (n == r.length) (cond (i == 0) (cond (Nat.beq r.length r1.length) (cond (Nat.ble r.length LIM) (cond ((r.map cMail.dec).all smallM)
      (cond (N.sameMs (r.map cMail.dec) (r1.map cMail.dec)) (K (.exit 0) { fr := [], tab := [] }) (K .ret { fr := [(4, .bool false)], tab := [] })) none) none) none) none) none
  | _, _ => none
noncomputable def eRefRSame : Env := env Tryz.prog [(33, dMailSame)] [(4, loopF schRefRSame gRefRSame)] [(4, [(0, [2, 3, 22, 23]), (1, []), (1000, [4])])]
theorem q_refRSameR (t0 t1 : Int) (n i : Int) (r r1 : List (List V)) (K : Ex → St → Option R) : evRound eRefRSame 17 4 { fr := [(2, .ptr 10000 0 0 0), (3, .ptr 10001 0 0 0), (22, .int .i64 n), (23, .int .i64 i)], tab := [(10000, .var [.int .u64 t0, .slc [.int .u64, .str, .str, .slc [.str, .int .u8, .int .i64, .str], .str, .int .u64, .int .u8] r]), (10001, .var [.int .u64 t1, .slc [.int .u64, .str, .str, .slc [.str, .int .u8, .int .i64, .str], .str, .int .u64, .int .u8] r1])] } K =
 cond (ilt i n) (cond (decide ((0 : Int) ≤ i ∧ i < (↑(List.length r) : Int))) (cond (decide ((0 : Int) ≤ i ∧ i < (↑(List.length r1) : Int))) (cond (smallM { id := V.toInt (List.getD (List.getD r (Int.toNat i) []) (0 : Nat) V.undef), shop := V.toStr (List.getD (List.getD r (Int.toNat i) []) (1 : Nat) V.undef), key := V.toStr (List.getD (List.getD r (Int.toNat i) []) (2 : Nat) V.undef), head := List.map (fun r => { key := V.toStr (List.getD r (0 : Nat) V.undef), kind := V.toInt (List.getD r (1 : Nat) V.undef), num := V.toInt (List.getD r (2 : Nat) V.undef), text := V.toStr (List.getD r (3 : Nat) V.undef) : HPair }) (V.toRows (List.getD (List.getD r (Int.toNat i) []) (3 : Nat) V.undef)), body := V.toStr (List.getD (List.getD r (Int.toNat i) []) (4 : Nat) V.undef), due := V.toInt (List.getD (List.getD r (Int.toNat i) []) (5 : Nat) V.undef), hops := V.toInt (List.getD (List.getD r (Int.toNat i) []) (6 : Nat) V.undef) : HMail }) (cond (!N.mailSame { id := V.toInt (List.getD (List.getD r (Int.toNat i) []) (0 : Nat) V.undef), shop := V.toStr (List.getD (List.getD r (Int.toNat i) []) (1 : Nat) V.undef), key := V.toStr (List.getD (List.getD r (Int.toNat i) []) (2 : Nat) V.undef), head := List.map (fun r => { key := V.toStr (List.getD r (0 : Nat) V.undef), kind := V.toInt (List.getD r (1 : Nat) V.undef), num := V.toInt (List.getD r (2 : Nat) V.undef), text := V.toStr (List.getD r (3 : Nat) V.undef) : HPair }) (V.toRows (List.getD (List.getD r (Int.toNat i) []) (3 : Nat) V.undef)), body := V.toStr (List.getD (List.getD r (Int.toNat i) []) (4 : Nat) V.undef), due := V.toInt (List.getD (List.getD r (Int.toNat i) []) (5 : Nat) V.undef), hops := V.toInt (List.getD (List.getD r (Int.toNat i) []) (6 : Nat) V.undef) : HMail } { id := V.toInt (List.getD (List.getD r1 (Int.toNat i) []) (0 : Nat) V.undef), shop := V.toStr (List.getD (List.getD r1 (Int.toNat i) []) (1 : Nat) V.undef), key := V.toStr (List.getD (List.getD r1 (Int.toNat i) []) (2 : Nat) V.undef), head := List.map (fun r => { key := V.toStr (List.getD r (0 : Nat) V.undef), kind := V.toInt (List.getD r (1 : Nat) V.undef), num := V.toInt (List.getD r (2 : Nat) V.undef), text := V.toStr (List.getD r (3 : Nat) V.undef) : HPair }) (V.toRows (List.getD (List.getD r1 (Int.toNat i) []) (3 : Nat) V.undef)), body := V.toStr (List.getD (List.getD r1 (Int.toNat i) []) (4 : Nat) V.undef), due := V.toInt (List.getD (List.getD r1 (Int.toNat i) []) (5 : Nat) V.undef), hops := V.toInt (List.getD (List.getD r1 (Int.toNat i) []) (6 : Nat) V.undef) : HMail }) (K Ex.ret { fr := [((4 : Nat), V.bool false)], tab := [] : St }) (K Ex.normal { fr := [((2 : Nat), V.ptr (10000 : Nat) (0 : Nat) (0 : Nat) (0 : Nat)), ((3 : Nat), V.ptr (10001 : Nat) (0 : Nat) (0 : Nat) (0 : Nat)), ((22 : Nat), V.int IntKind.i64 n), ((23 : Nat), V.int IntKind.i64 (IntKind.wrap IntKind.i64 (i + (1 : Int))))], tab := [((10000 : Nat), Box.var [V.int IntKind.u64 t0, V.slc [Sh.int IntKind.u64, Sh.str, Sh.str, Sh.slc [Sh.str, Sh.int IntKind.u8, Sh.int IntKind.i64, Sh.str], Sh.str, Sh.int IntKind.u64, Sh.int IntKind.u8] r]), ((10001 : Nat), Box.var [V.int IntKind.u64 t1, V.slc [Sh.int IntKind.u64, Sh.str, Sh.str, Sh.slc [Sh.str, Sh.int IntKind.u8, Sh.int IntKind.i64, Sh.str], Sh.str, Sh.int IntKind.u64, Sh.int IntKind.u8] r1])] : St })) (none)) (none)) (none)) (K (Ex.exit (0 : Nat)) { fr := [], tab := [] : St }) := by kernel_rfl
theorem ok_refRSame4 : RoundsOk eRefRSame 17 4 := by
  refine rounds_of rfl fun l K q h => ?_
  unfold gRefRSame at h
  split at h
  · rename_i n i t0 r t1 r1
    have h1 := (cond_none h).1; replace h := (cond_none h).2; have h2 := (cond_none h).1; replace h := (cond_none h).2; have h3 := (cond_none h).1; replace h := (cond_none h).2; have h4 := (cond_none h).1; replace h := (cond_none h).2; have h5 := (cond_none h).1; replace h := (cond_none h).2
    have e1 := ieq_of h1
    have e2 := ieq_of h2
    have e3 := nbeq_of h3
    subst e1 e2
    have h4 : r.length ≤ 1000000 := ble_of h4
    refine loop_ind (E := eRefRSame) (f := 17) (id := 4) (σ := Nat) (fun i => { fr := [(2, .ptr 10000 0 0 0), (3, .ptr 10001 0 0 0), (22, .int .i64 r.length), (23, .int .i64 i)], tab := [(10000, .var [.int .u64 t0, .slc [.int .u64, .str, .str, .slc [.str, .int .u8, .int .i64, .str], .str, .int .u64, .int .u8] r]), (10001, .var [.int .u64 t1, .slc [.int .u64, .str, .str, .slc [.str, .int .u8, .int .i64, .str], .str, .int .u64, .int .u8] r1])] }) (fun i => i ≤ r.length) (fun i => r.length - i)
      (fun i K => cond (N.sameMs ((r.drop i).map cMail.dec) ((r1.drop i).map cMail.dec)) (K (.exit 0) { fr := [], tab := [] }) (K .ret { fr := [(4, .bool false)], tab := [] })) (fun i hi => ?_) 0 (Nat.zero_le _) K q (by assumption)
    by_cases hl : i < r.length
    · rw [drop_dec hl, drop_dec (show i < r1.length by omega), sameMs_cons]
      have hs := small_row h5 hl
      cases hc : N.mailSame (cMail.dec (r.getD i [])) (cMail.dec (r1.getD i [])) with
      | true =>
        refine .inl ⟨i + 1, hl, by omega, fun K => ?_, fun K => rfl⟩
        rw [q_refRSameR]
        simp (disch := omega) only [evs, Int.toNat_natCast, fold_mail, hs, hc, Bool.not_true]
        rfl
      | false =>
        refine .inr ⟨.ret, { fr := [(4, .bool false)], tab := [] }, by simp, fun K => ?_, fun K => rfl⟩
        rw [q_refRSameR]
        simp (disch := omega) only [evs, Int.toNat_natCast, fold_mail, hs, hc, Bool.not_false]
    · refine .inr ⟨.exit 0, { fr := [], tab := [] }, by simp, fun K => ?_, fun K => ?_⟩
      · rw [q_refRSameR]
        simp (disch := omega) only [evs]
      · rw [List.drop_eq_nil_of_le (show r.length ≤ i by omega), List.drop_eq_nil_of_le (show r1.length ≤ i by omega)]; rfl
  · cases h
def schEqF : SSch := { fr := [(1, .slc [.int .u64, .str, .str, .slc [.str, .int .u8, .int .i64, .str], .str, .int .u64, .int .u8]), (2, .fn 43 [] []), (15, .slc [.int .u64, .str, .str, .slc [.str, .int .u8, .int .i64, .str], .str, .int .u64, .int .u8]), (16, .int .i64), (17, .int .i64)], tab := [] }
def gEqF : List Leaf → (Ex → St → Option R) → Option R
  | [.r r1, .r r, .i n, .i i], K => cond (n == r.length) (cond (i == 0) (cond (Nat.beq r.length r1.length) (cond (Nat.ble r.length LIM) (cond ((r.map cMail.dec).all smallM)
      (cond (N.sameMs (r.map cMail.dec) (r1.map cMail.dec)) (K (.exit 0) { fr := [], tab := [] }) (K .ret { fr := [(6, .bool false)], tab := [] })) none) none) none) none) none
  | _, _ => none
noncomputable def eEqF : Env := env Tryz.prog [(43, dMailSame)] [(4, loopF schEqF gEqF)] [(4, [(0, [1, 2, 15, 16, 17]), (1, []), (1000, [6])])]
theorem q_eqFR (n i : Int) (r r1 : List (List V)) (K : Ex → St → Option R) : evRound eEqF 42 4 { fr := [(1, .slc [.int .u64, .str, .str, .slc [.str, .int .u8, .int .i64, .str], .str, .int .u64, .int .u8] r1), (2, .fn 43 [] []), (15, .slc [.int .u64, .str, .str, .slc [.str, .int .u8, .int .i64, .str], .str, .int .u64, .int .u8] r), (16, .int .i64 n), (17, .int .i64 i)], tab := [] } K =
 cond (ilt i n) (cond (decide ((0 : Int) ≤ i ∧ i < (↑(List.length r) : Int))) (cond (decide ((0 : Int) ≤ i ∧ i < (↑(List.length r1) : Int))) (cond (smallM { id := V.toInt (List.getD (List.getD r (Int.toNat i) []) (0 : Nat) V.undef), shop := V.toStr (List.getD (List.getD r (Int.toNat i) []) (1 : Nat) V.undef), key := V.toStr (List.getD (List.getD r (Int.toNat i) []) (2 : Nat) V.undef), head := List.map (fun r => { key := V.toStr (List.getD r (0 : Nat) V.undef), kind := V.toInt (List.getD r (1 : Nat) V.undef), num := V.toInt (List.getD r (2 : Nat) V.undef), text := V.toStr (List.getD r (3 : Nat) V.undef) : HPair }) (V.toRows (List.getD (List.getD r (Int.toNat i) []) (3 : Nat) V.undef)), body := V.toStr (List.getD (List.getD r (Int.toNat i) []) (4 : Nat) V.undef), due := V.toInt (List.getD (List.getD r (Int.toNat i) []) (5 : Nat) V.undef), hops := V.toInt (List.getD (List.getD r (Int.toNat i) []) (6 : Nat) V.undef) : HMail }) (cond (!N.mailSame { id := V.toInt (List.getD (List.getD r (Int.toNat i) []) (0 : Nat) V.undef), shop := V.toStr (List.getD (List.getD r (Int.toNat i) []) (1 : Nat) V.undef), key := V.toStr (List.getD (List.getD r (Int.toNat i) []) (2 : Nat) V.undef), head := List.map (fun r => { key := V.toStr (List.getD r (0 : Nat) V.undef), kind := V.toInt (List.getD r (1 : Nat) V.undef), num := V.toInt (List.getD r (2 : Nat) V.undef), text := V.toStr (List.getD r (3 : Nat) V.undef) : HPair }) (V.toRows (List.getD (List.getD r (Int.toNat i) []) (3 : Nat) V.undef)), body := V.toStr (List.getD (List.getD r (Int.toNat i) []) (4 : Nat) V.undef), due := V.toInt (List.getD (List.getD r (Int.toNat i) []) (5 : Nat) V.undef), hops := V.toInt (List.getD (List.getD r (Int.toNat i) []) (6 : Nat) V.undef) : HMail } { id := V.toInt (List.getD (List.getD r1 (Int.toNat i) []) (0 : Nat) V.undef), shop := V.toStr (List.getD (List.getD r1 (Int.toNat i) []) (1 : Nat) V.undef), key := V.toStr (List.getD (List.getD r1 (Int.toNat i) []) (2 : Nat) V.undef), head := List.map (fun r => { key := V.toStr (List.getD r (0 : Nat) V.undef), kind := V.toInt (List.getD r (1 : Nat) V.undef), num := V.toInt (List.getD r (2 : Nat) V.undef), text := V.toStr (List.getD r (3 : Nat) V.undef) : HPair }) (V.toRows (List.getD (List.getD r1 (Int.toNat i) []) (3 : Nat) V.undef)), body := V.toStr (List.getD (List.getD r1 (Int.toNat i) []) (4 : Nat) V.undef), due := V.toInt (List.getD (List.getD r1 (Int.toNat i) []) (5 : Nat) V.undef), hops := V.toInt (List.getD (List.getD r1 (Int.toNat i) []) (6 : Nat) V.undef) : HMail }) (K Ex.ret { fr := [((6 : Nat), V.bool false)], tab := [] : St }) (K Ex.normal { fr := [((1 : Nat), V.slc [Sh.int IntKind.u64, Sh.str, Sh.str, Sh.slc [Sh.str, Sh.int IntKind.u8, Sh.int IntKind.i64, Sh.str], Sh.str, Sh.int IntKind.u64, Sh.int IntKind.u8] r1), ((2 : Nat), V.fn 43 [] []), ((15 : Nat), V.slc [Sh.int IntKind.u64, Sh.str, Sh.str, Sh.slc [Sh.str, Sh.int IntKind.u8, Sh.int IntKind.i64, Sh.str], Sh.str, Sh.int IntKind.u64, Sh.int IntKind.u8] r), ((16 : Nat), V.int IntKind.i64 n), ((17 : Nat), V.int IntKind.i64 (IntKind.wrap IntKind.i64 (i + (1 : Int))))], tab := [] : St })) (none)) (none)) (none)) (K (Ex.exit (0 : Nat)) { fr := [], tab := [] : St }) := by kernel_rfl
theorem ok_eqF4 : RoundsOk eEqF 42 4 := by
  refine rounds_of rfl fun l K q h => ?_
  unfold gEqF at h
  split at h
  · rename_i r1 r n i
    have h1 := (cond_none h).1; replace h := (cond_none h).2; have h2 := (cond_none h).1; replace h := (cond_none h).2; have h3 := (cond_none h).1; replace h := (cond_none h).2; have h4 := (cond_none h).1; replace h := (cond_none h).2; have h5 := (cond_none h).1; replace h := (cond_none h).2
    have e1 := ieq_of h1
    have e2 := ieq_of h2
    have e3 := nbeq_of h3
    subst e1 e2
    have h4 : r.length ≤ 1000000 := ble_of h4
    refine loop_ind (E := eEqF) (f := 42) (id := 4) (σ := Nat) (fun i => { fr := [(1, .slc [.int .u64, .str, .str, .slc [.str, .int .u8, .int .i64, .str], .str, .int .u64, .int .u8] r1), (2, .fn 43 [] []), (15, .slc [.int .u64, .str, .str, .slc [.str, .int .u8, .int .i64, .str], .str, .int .u64, .int .u8] r), (16, .int .i64 r.length), (17, .int .i64 i)], tab := [] }) (fun i => i ≤ r.length) (fun i => r.length - i)
      (fun i K => cond (N.sameMs ((r.drop i).map cMail.dec) ((r1.drop i).map cMail.dec)) (K (.exit 0) { fr := [], tab := [] }) (K .ret { fr := [(6, .bool false)], tab := [] })) (fun i hi => ?_) 0 (Nat.zero_le _) K q (by assumption)
    by_cases hl : i < r.length
    · rw [drop_dec hl, drop_dec (show i < r1.length by omega), sameMs_cons]
      have hs := small_row h5 hl
      cases hc : N.mailSame (cMail.dec (r.getD i [])) (cMail.dec (r1.getD i [])) with
      | true =>
        refine .inl ⟨i + 1, hl, by omega, fun K => ?_, fun K => rfl⟩
        rw [q_eqFR]
        simp (disch := omega) only [evs, Int.toNat_natCast, fold_mail, hs, hc, Bool.not_true]
        rfl
      | false =>
        refine .inr ⟨.ret, { fr := [(6, .bool false)], tab := [] }, by simp, fun K => ?_, fun K => rfl⟩
        rw [q_eqFR]
        simp (disch := omega) only [evs, Int.toNat_natCast, fold_mail, hs, hc, Bool.not_false]
    · refine .inr ⟨.exit 0, { fr := [], tab := [] }, by simp, fun K => ?_, fun K => ?_⟩
      · rw [q_eqFR]
        simp (disch := omega) only [evs]
      · rw [List.drop_eq_nil_of_le (show r.length ≤ i by omega), List.drop_eq_nil_of_le (show r1.length ≤ i by omega)]; rfl
  · cases h
theorem q_refRSame (x y : HRise) : evFn eRefRSame 17 ((aCons (vAgg cRise) (aOne (vAgg cRise))).enc (x, y)) ([]) some =
 cond (HRise.total x != HRise.total y) (some { v := V.bool false, bx := [] : DRes }) (cond ((↑(List.length (List.map (RCod.enc cMail) (HRise.kept x))) : Int) != (↑(List.length (List.map (RCod.enc cMail) (HRise.kept y))) : Int)) (some { v := V.bool false, bx := [] : DRes }) (cond ((↑(List.length (List.map (RCod.enc cMail) (HRise.kept x))) : Int) == (↑(List.length (List.map (RCod.enc cMail) (HRise.kept x))) : Int)) (cond (Nat.beq (List.length (List.map (RCod.enc cMail) (HRise.kept x))) (List.length (List.map (RCod.enc cMail) (HRise.kept y)))) (cond (Nat.ble (List.length (List.map (RCod.enc cMail) (HRise.kept x))) (1000000 : Nat)) (cond (List.all (List.map (RCod.dec cMail) (List.map (RCod.enc cMail) (HRise.kept x))) smallM) (cond (N.sameMs (List.map (RCod.dec cMail) (List.map (RCod.enc cMail) (HRise.kept x))) (List.map (RCod.dec cMail) (List.map (RCod.enc cMail) (HRise.kept y)))) (some { v := V.bool true, bx := [] : DRes }) (some { v := V.bool false, bx := [] : DRes })) (none)) (none)) (none)) (none))) := by kernel_rfl
theorem q_eqF (a b : List HMail) : evFn eEqF 42 ((aCons (vSl cMail) (aCons (vSl cMail) (aOne (vFn0 43)))).enc (a, b, ())) ([]) some =
 cond ((↑(List.length (List.map (RCod.enc cMail) a)) : Int) != (↑(List.length (List.map (RCod.enc cMail) b)) : Int)) (some { v := V.bool false, bx := [] : DRes }) (cond ((↑(List.length (List.map (RCod.enc cMail) a)) : Int) == (↑(List.length (List.map (RCod.enc cMail) a)) : Int)) (cond (Nat.beq (List.length (List.map (RCod.enc cMail) a)) (List.length (List.map (RCod.enc cMail) b))) (cond (Nat.ble (List.length (List.map (RCod.enc cMail) a)) (1000000 : Nat)) (cond (List.all (List.map (RCod.dec cMail) (List.map (RCod.enc cMail) a)) smallM) (cond (N.sameMs (List.map (RCod.dec cMail) (List.map (RCod.enc cMail) a)) (List.map (RCod.dec cMail) (List.map (RCod.enc cMail) b))) (some { v := V.bool true, bx := [] : DRes }) (some { v := V.bool false, bx := [] : DRes })) (none)) (none)) (none)) (none)) := by kernel_rfl
def dEqF (f : FuncId) : Den := den (aCons (vSl cMail) (aCons (vSl cMail) (aOne (vFn0 f)))) bNil (oV vBool) (fun a _ => cond (Nat.ble a.1.length LIM) (a.1.all smallM) false) fun a _ => (N.sameMs a.1 a.2.1, ())
theorem ok_refRSame : FnOk Tryz.prog 17 dSameR := by
  refine den_okF (env_ok ((TOk.nil _).cons ok_refMailSame)) (E := eRefRSame) Tryz.func17 [4] (by kernel_rfl) (one1 ok_refRSame4) fun a _ h => ?_
  obtain ⟨x, y⟩ := a
  obtain ⟨h1, _⟩ := bcond h
  obtain ⟨_, h1⟩ := bcond h1
  obtain ⟨h2, h3⟩ := bcond h1
  have h2 : x.kept.length ≤ 16 := ble_of h2
  have h3 : x.kept.all smallM = true := h3
  refine (q_refRSame x y).trans ?_
  show _ = some (⟨.bool (N.sameR x y), [], []⟩ : DRes)
  unfold N.sameR
  by_cases ht : x.total = y.total
  · by_cases hl : x.kept.length = y.kept.length
    · simp (disch := omega) only [evs, dec_encs, ht, hl, h3, Nat.beq_refl]
      cases N.sameMs x.kept y.kept <;> rfl
    · rw [sameMs_len _ _ hl]
      simp (disch := omega) only [evs, ht]
  · simp (disch := omega) only [evs]
theorem ok_eqF : FnOk Tryz.prog 42 (dEqF 43) := by
  refine den_okF (env_ok ((TOk.nil _).cons ok_mailSame)) (E := eEqF) Tryz.func42 [4] (by kernel_rfl) (one1 ok_eqF4) fun a _ h => ?_
  obtain ⟨a, b, ⟨⟩⟩ := a
  obtain ⟨h2, h3⟩ := bcond h
  have h2 : a.length ≤ 1000000 := ble_of h2
  have h3 : a.all smallM = true := h3
  refine (q_eqF a b).trans ?_
  show _ = some (⟨.bool (N.sameMs a b), [], []⟩ : DRes)
  by_cases hl : a.length = b.length
  · simp (disch := omega) only [evs, dec_encs, hl, h3, Nat.beq_refl]
    cases N.sameMs a b <;> rfl
  · rw [sameMs_len _ _ hl]
    simp (disch := omega) only [evs]
noncomputable def eRSame : Env := env Tryz.prog [(42, dEqF 43)] [] []
theorem q_rSame (x y : HRise) : evFn eRSame 19 ((aCons (vAgg cRise) (aOne (vAgg cRise))).enc (x, y)) ([]) some =
 cond (HRise.total x == HRise.total y) (cond (bif Nat.ble (List.length (List.map (RCod.dec cMail) (List.map (RCod.enc cMail) (HRise.kept x)))) (1000000 : Nat) then List.all (List.map (RCod.dec cMail) (List.map (RCod.enc cMail) (HRise.kept x))) smallM else false) (some { v := V.bool (N.sameMs (List.map (RCod.dec cMail) (List.map (RCod.enc cMail) (HRise.kept x))) (List.map (RCod.dec cMail) (List.map (RCod.enc cMail) (HRise.kept y)))), bx := [] : DRes }) (none)) (some { v := V.bool false, bx := [] : DRes }) := by kernel_rfl
theorem ok_rSame : FnOk Tryz.prog 19 dSameR := by
  refine den_okF (env_ok ((TOk.nil _).cons ok_eqF)) (E := eRSame) Tryz.func19 [] (by kernel_rfl) none0 fun a _ h => ?_
  obtain ⟨x, y⟩ := a
  obtain ⟨h1, _⟩ := bcond h
  obtain ⟨_, h1⟩ := bcond h1
  obtain ⟨h2, h3⟩ := bcond h1
  have h2 : x.kept.length ≤ 16 := ble_of h2
  have h3 : x.kept.all smallM = true := h3
  refine (q_rSame x y).trans ?_
  show _ = some (⟨.bool (N.sameR x y), [], []⟩ : DRes)
  unfold N.sameR
  by_cases ht : x.total = y.total
  · simp (disch := omega) only [evs, dec_encs, ht, h3]
  · simp (disch := omega) only [evs]
noncomputable def eOf : Env := env Tryz.prog [(40, dTotal), (41, dAll)] [] []
theorem q_of (x : HRise) : evFn eOf 18 ((aOne (vAgg cRise)).enc x) ([]) some =
 cond (goodRise { total := HRise.total x, kept := List.map (RCod.dec cMail) (List.map (RCod.enc cMail) (HRise.kept x)) : HRise }) (some { v := V.agg [V.int IntKind.u64 (HRise.total x), V.slc [Sh.int IntKind.u64, Sh.str, Sh.str, Sh.slc [Sh.str, Sh.int IntKind.u8, Sh.int IntKind.i64, Sh.str], Sh.str, Sh.int IntKind.u64, Sh.int IntKind.u8] (List.map (RCod.enc cMail) (List.map (RCod.dec cMail) (List.map (RCod.enc cMail) (HRise.kept x))))], bx := [] : DRes }) (none) := by kernel_rfl
theorem ok_of : FnOk Tryz.prog 18 dOf := by
  refine den_okF (env_ok (((TOk.nil _).cons ok_all).cons ok_total)) (E := eOf) Tryz.func18 [] (by kernel_rfl) none0 fun x _ h => ?_
  have h : goodRise x = true := h
  refine (q_of x).trans ?_
  simp (disch := omega) only [evs, dec_encs, fold_rise, h]
  rfl
namespace N
def toldR (x y : HRise) (n : Int) : Bool := cond (sameR x y) (cond ((riseAfter x n).1 == (riseAfter y n).1) (cond (mailSame (riseAfter x n).2.1 (riseAfter y n).2.1) (cond ((riseAfter x n).2.2 == (riseAfter y n).2.2) (riseSize x.kept == riseSize y.kept) false) false) false) false
end N
def fullFine (x : HRise) : Bool := cond (fullRise x) (cond (x.kept.all N.fineM) (x.kept.all N.okM) false) false
def dTold : Den := den (aCons (vAgg cRise) (aCons (vAgg cRise) (aOne (vInt .u64)))) bNil (oV vBool) (fun a _ => cond (fullFine a.1) (cond (fullFine a.2.1) (cond (ile 0 a.2.2) (ile a.2.2 18446744073709551615) false) false) false) fun a _ => (N.toldR a.1 a.2.1 a.2.2, ())
noncomputable def eTold20 : Env := env Tryz.prog [(23, dRiseAfter), (32, dRiseAfter), (18, dOf), (17, dSameR), (33, dMailSame), (34, dRiseSize), (35, dRefRiseSize)] [] []
theorem q_told20 (x y : HRise) (n : Int) : evFn eTold20 13 ((aCons (vAgg cRise) (aCons (vAgg cRise) (aOne (vInt .u64)))).enc (x, y, n)) ([]) some =
 cond (bif fullRise { total := HRise.total x, kept := List.map (RCod.dec cMail) (List.map (RCod.enc cMail) (HRise.kept x)) : HRise } then bif ile (0 : Int) n then ile n (18446744073709551615 : Int) else false else false) (cond (bif fullRise { total := HRise.total y, kept := List.map (RCod.dec cMail) (List.map (RCod.enc cMail) (HRise.kept y)) : HRise } then bif ile (0 : Int) n then ile n (18446744073709551615 : Int) else false else false) (cond (goodRise { total := HRise.total x, kept := List.map (RCod.dec cMail) (List.map (RCod.enc cMail) (HRise.kept x)) : HRise }) (cond (bif goodRise { total := HRise.total x, kept := List.map (RCod.dec cMail) (List.map (RCod.enc cMail) (List.map (RCod.dec cMail) (List.map (RCod.enc cMail) (HRise.kept x)))) : HRise } then goodRise { total := HRise.total y, kept := List.map (RCod.dec cMail) (List.map (RCod.enc cMail) (HRise.kept y)) : HRise } else false) (cond (N.sameR { total := HRise.total x, kept := List.map (RCod.dec cMail) (List.map (RCod.enc cMail) (List.map (RCod.dec cMail) (List.map (RCod.enc cMail) (HRise.kept x)))) : HRise } { total := HRise.total y, kept := List.map (RCod.dec cMail) (List.map (RCod.enc cMail) (HRise.kept y)) : HRise }) (cond (Prod.fst (N.riseAfter { total := HRise.total x, kept := List.map (RCod.dec cMail) (List.map (RCod.enc cMail) (HRise.kept x)) : HRise } n) == Prod.fst (N.riseAfter { total := HRise.total y, kept := List.map (RCod.dec cMail) (List.map (RCod.enc cMail) (HRise.kept y)) : HRise } n)) (cond (smallM { id := HMail.id (Prod.fst (Prod.snd (N.riseAfter { total := HRise.total x, kept := List.map (RCod.dec cMail) (List.map (RCod.enc cMail) (HRise.kept x)) : HRise } n))), shop := HMail.shop (Prod.fst (Prod.snd (N.riseAfter { total := HRise.total x, kept := List.map (RCod.dec cMail) (List.map (RCod.enc cMail) (HRise.kept x)) : HRise } n))), key := HMail.key (Prod.fst (Prod.snd (N.riseAfter { total := HRise.total x, kept := List.map (RCod.dec cMail) (List.map (RCod.enc cMail) (HRise.kept x)) : HRise } n))), head := List.map (fun r => { key := V.toStr (List.getD r (0 : Nat) V.undef), kind := V.toInt (List.getD r (1 : Nat) V.undef), num := V.toInt (List.getD r (2 : Nat) V.undef), text := V.toStr (List.getD r (3 : Nat) V.undef) : HPair }) (List.map (fun p => [V.str (HPair.key p), V.int IntKind.u8 (HPair.kind p), V.int IntKind.i64 (HPair.num p), V.str (HPair.text p)]) (HMail.head (Prod.fst (Prod.snd (N.riseAfter { total := HRise.total x, kept := List.map (RCod.dec cMail) (List.map (RCod.enc cMail) (HRise.kept x)) : HRise } n))))), body := HMail.body (Prod.fst (Prod.snd (N.riseAfter { total := HRise.total x, kept := List.map (RCod.dec cMail) (List.map (RCod.enc cMail) (HRise.kept x)) : HRise } n))), due := HMail.due (Prod.fst (Prod.snd (N.riseAfter { total := HRise.total x, kept := List.map (RCod.dec cMail) (List.map (RCod.enc cMail) (HRise.kept x)) : HRise } n))), hops := HMail.hops (Prod.fst (Prod.snd (N.riseAfter { total := HRise.total x, kept := List.map (RCod.dec cMail) (List.map (RCod.enc cMail) (HRise.kept x)) : HRise } n))) : HMail }) (cond (N.mailSame { id := HMail.id (Prod.fst (Prod.snd (N.riseAfter { total := HRise.total x, kept := List.map (RCod.dec cMail) (List.map (RCod.enc cMail) (HRise.kept x)) : HRise } n))), shop := HMail.shop (Prod.fst (Prod.snd (N.riseAfter { total := HRise.total x, kept := List.map (RCod.dec cMail) (List.map (RCod.enc cMail) (HRise.kept x)) : HRise } n))), key := HMail.key (Prod.fst (Prod.snd (N.riseAfter { total := HRise.total x, kept := List.map (RCod.dec cMail) (List.map (RCod.enc cMail) (HRise.kept x)) : HRise } n))), head := List.map (fun r => { key := V.toStr (List.getD r (0 : Nat) V.undef), kind := V.toInt (List.getD r (1 : Nat) V.undef), num := V.toInt (List.getD r (2 : Nat) V.undef), text := V.toStr (List.getD r (3 : Nat) V.undef) : HPair }) (List.map (fun p => [V.str (HPair.key p), V.int IntKind.u8 (HPair.kind p), V.int IntKind.i64 (HPair.num p), V.str (HPair.text p)]) (HMail.head (Prod.fst (Prod.snd (N.riseAfter { total := HRise.total x, kept := List.map (RCod.dec cMail) (List.map (RCod.enc cMail) (HRise.kept x)) : HRise } n))))), body := HMail.body (Prod.fst (Prod.snd (N.riseAfter { total := HRise.total x, kept := List.map (RCod.dec cMail) (List.map (RCod.enc cMail) (HRise.kept x)) : HRise } n))), due := HMail.due (Prod.fst (Prod.snd (N.riseAfter { total := HRise.total x, kept := List.map (RCod.dec cMail) (List.map (RCod.enc cMail) (HRise.kept x)) : HRise } n))), hops := HMail.hops (Prod.fst (Prod.snd (N.riseAfter { total := HRise.total x, kept := List.map (RCod.dec cMail) (List.map (RCod.enc cMail) (HRise.kept x)) : HRise } n))) : HMail } { id := HMail.id (Prod.fst (Prod.snd (N.riseAfter { total := HRise.total y, kept := List.map (RCod.dec cMail) (List.map (RCod.enc cMail) (HRise.kept y)) : HRise } n))), shop := HMail.shop (Prod.fst (Prod.snd (N.riseAfter { total := HRise.total y, kept := List.map (RCod.dec cMail) (List.map (RCod.enc cMail) (HRise.kept y)) : HRise } n))), key := HMail.key (Prod.fst (Prod.snd (N.riseAfter { total := HRise.total y, kept := List.map (RCod.dec cMail) (List.map (RCod.enc cMail) (HRise.kept y)) : HRise } n))), head := List.map (fun r => { key := V.toStr (List.getD r (0 : Nat) V.undef), kind := V.toInt (List.getD r (1 : Nat) V.undef), num := V.toInt (List.getD r (2 : Nat) V.undef), text := V.toStr (List.getD r (3 : Nat) V.undef) : HPair }) (List.map (fun p => [V.str (HPair.key p), V.int IntKind.u8 (HPair.kind p), V.int IntKind.i64 (HPair.num p), V.str (HPair.text p)]) (HMail.head (Prod.fst (Prod.snd (N.riseAfter { total := HRise.total y, kept := List.map (RCod.dec cMail) (List.map (RCod.enc cMail) (HRise.kept y)) : HRise } n))))), body := HMail.body (Prod.fst (Prod.snd (N.riseAfter { total := HRise.total y, kept := List.map (RCod.dec cMail) (List.map (RCod.enc cMail) (HRise.kept y)) : HRise } n))), due := HMail.due (Prod.fst (Prod.snd (N.riseAfter { total := HRise.total y, kept := List.map (RCod.dec cMail) (List.map (RCod.enc cMail) (HRise.kept y)) : HRise } n))), hops := HMail.hops (Prod.fst (Prod.snd (N.riseAfter { total := HRise.total y, kept := List.map (RCod.dec cMail) (List.map (RCod.enc cMail) (HRise.kept y)) : HRise } n))) : HMail }) (cond (Prod.snd (Prod.snd (N.riseAfter { total := HRise.total x, kept := List.map (RCod.dec cMail) (List.map (RCod.enc cMail) (HRise.kept x)) : HRise } n)) == Prod.snd (Prod.snd (N.riseAfter { total := HRise.total y, kept := List.map (RCod.dec cMail) (List.map (RCod.enc cMail) (HRise.kept y)) : HRise } n))) (cond (goodOkR { total := HRise.total x, kept := List.map (RCod.dec cMail) (List.map (RCod.enc cMail) (HRise.kept x)) : HRise }) (cond (goodFineR { total := HRise.total y, kept := List.map (RCod.dec cMail) (List.map (RCod.enc cMail) (HRise.kept y)) : HRise }) (some { v := V.bool (N.riseSize (List.map (RCod.dec cMail) (List.map (RCod.enc cMail) (HRise.kept x))) == N.riseSize (List.map (RCod.dec cMail) (List.map (RCod.enc cMail) (HRise.kept y)))), bx := [] : DRes }) (none)) (none)) (some { v := V.bool false, bx := [] : DRes })) (some { v := V.bool false, bx := [] : DRes })) (none)) (some { v := V.bool false, bx := [] : DRes })) (some { v := V.bool false, bx := [] : DRes })) (none)) (none)) (none)) (none) := by kernel_rfl
theorem fullFine_of {x : HRise} (h : fullFine x = true) : fullRise x = true ∧ goodRise x = true ∧ goodOkR x = true ∧ goodFineR x = true := by
  obtain ⟨h1, h2⟩ := bcond h
  obtain ⟨h2, h3⟩ := bcond h2
  have hg : goodRise x = true := (bcond h1).1
  refine ⟨h1, hg, ?_, ?_⟩
  · unfold goodOkR; rw [hg, h3]; rfl
  · unfold goodFineR; rw [hg, h2]; rfl
theorem ok_told20 (hN : FnOk Tryz.prog 44 dOutNum) : FnOk Tryz.prog 13 dTold := by
  refine den_okF (env_ok ((((((((TOk.nil _).cons ok_refRiseSize).cons (ok_riseSize hN)).cons ok_refMailSame).cons ok_refRSame).cons ok_of).cons ok_refRiseAfter).cons ok_riseAfter)) (E := eTold20) Tryz.func13 [] (by kernel_rfl) none0 fun a _ h => ?_
  obtain ⟨x, y, n⟩ := a
  obtain ⟨h1, h2⟩ := bcond h
  obtain ⟨h2, h3⟩ := bcond h2
  obtain ⟨h3, h4⟩ := bcond h3
  obtain ⟨x1, x2, x3, x4⟩ := fullFine_of h1
  obtain ⟨y1, y2, y3, y4⟩ := fullFine_of h2
  have h3 : ile 0 n = true := h3
  have h4 : ile n 18446744073709551615 = true := h4
  refine (q_told20 x y n).trans ?_
  show _ = some (⟨.bool (N.toldR x y n), [], []⟩ : DRes)
  simp only [fold_de, dec_encs, fold_rise, x1, x2, x3, x4, y1, y2, y3, y4, h3, h4, cond_true, after_small x2]
  unfold N.toldR
  cases N.sameR x y <;> cases (N.riseAfter x n).1 == (N.riseAfter y n).1 <;> cases N.mailSame (N.riseAfter x n).2.1 (N.riseAfter y n).2.1 <;> cases (N.riseAfter x n).2.2 <;> cases (N.riseAfter y n).2.2 <;> rfl
end Go.Ev

/- Rises as bytes, and read of them: lemmas; the functions that write numbers are premises. -/
namespace Go.Ev
open Go Go.Proofs
set_option maxRecDepth 100000
-- FOLD

namespace N
def fineCk (m : HMail) : Bool := cond (fineM m) (mailCheck m == 0) false
def mailsB : List HMail → Bytes
  | [] => []
  | m :: r => mailB m ++ mailsB r
def riseB (x : HRise) : Bytes := numB x.total 8 ++ numB x.kept.length 1 ++ mailsB x.kept
def readMs : Nat → InS → List HMail → List HMail × InS
  | 0, i, acc => (acc, i)
  | k + 1, i, acc => cond (i.err == 0) (readMs k (mailRead i).2 (acc ++ [(mailRead i).1])) (acc, i)
end N
def goodFineCk (x : HRise) : Bool := cond (goodRise x) (x.kept.all N.fineCk) false
def dRiseB : Den := den (aOne (vAgg cRise)) bNil (oV vStr) (fun x _ => goodFineCk x) fun x _ => (N.riseB x, ())
theorem fineCk_of {m : HMail} (h : N.fineCk m = true) : N.okM m = true ∧ N.mailCheck m = 0 ∧ (∀ p ∈ m.head, PairOk p) ∧ N.fitM m = true := by
  obtain ⟨h1, h2⟩ := bcond h
  obtain ⟨h1, h3⟩ := bcond h1
  exact ⟨h1, ieq_of h2, fun p hm => okP_of (List.all_eq_true.1 h3 p hm), fitM_of h1 (ieq_of h2)⟩
def schRBytes : SSch := { fr := [(3, .ptr 10000 0 0), (18, .slc [.int .u64, .str, .str, .slc [.str, .int .u8, .int .i64, .str], .str, .int .u64, .int .u8]), (19, .int .i64), (20, .int .i64)], tab := [(10000, .var [.str, .int .i64])] }
def gRBytes : List Leaf → (Ex → St → Option R) → Option R
  | [.r r, .i n, .i i, .s s, .i e], K => cond (n == r.length) (cond (i == 0) (cond (e == 0) (cond (Nat.ble s.length 1000) (cond (Nat.ble r.length 16) (cond ((r.map cMail.dec).all N.fineCk)
      (K (.exit 0) { fr := [(3, .ptr 10000 0 0 0)], tab := [(10000, .var [.str (s ++ N.mailsB (r.map cMail.dec)), .int .i64 0])] }) none) none) none) none) none) none
  | _, _ => none
noncomputable def eRBytes : Env := env Tryz.prog [(45, dMailBytes), (44, dOutNum), (46, dOutRaw), (47, dOutString)] [(3, loopF schRBytes gRBytes)] [(3, [(0, [3, 18, 19, 20]), (1, [3]), (1000, [2])])]
theorem q_rBytes (x : HRise) : evFn eRBytes 20 ((aOne (vAgg cRise)).enc x) ([]) some =
 cond (bif ile (0 : Int) (HRise.total x) then bif ilt (HRise.total x) (18446744073709551616 : Int) then true else false else false) (cond (bif ilt (IntKind.wrap IntKind.u64 (↑(List.length (List.map (RCod.enc cMail) (HRise.kept x))) : Int)) (18446744073709551616 : Int) then true else false) (cond ((↑(List.length (List.map (RCod.enc cMail) (HRise.kept x))) : Int) == (↑(List.length (List.map (RCod.enc cMail) (HRise.kept x))) : Int)) (cond (Nat.ble (List.length (List.map (RCod.enc cMail) (HRise.kept x))) (16 : Nat)) (cond (List.all (List.map (RCod.dec cMail) (List.map (RCod.enc cMail) (HRise.kept x))) N.fineCk) (some { v := V.str (OutS.s (N.outNum (N.outNum { s := [], err := (0 : Int) : OutS } (HRise.total x) (8 : Int)) (IntKind.wrap IntKind.u64 (↑(List.length (List.map (RCod.enc cMail) (HRise.kept x))) : Int)) (1 : Int)) ++ N.mailsB (List.map (RCod.dec cMail) (List.map (RCod.enc cMail) (HRise.kept x)))), bx := [] : DRes }) (none)) (none)) (none)) (none)) (none) := by kernel_rfl
theorem q_rBytesR (r : List (List V)) (n i : Int) (s : Bytes) (e : Int) (K : Ex → St → Option R) : evRound eRBytes 20 3 { fr := [(3, .ptr 10000 0 0 0), (18, .slc [.int .u64, .str, .str, .slc [.str, .int .u8, .int .i64, .str], .str, .int .u64, .int .u8] r), (19, .int .i64 n), (20, .int .i64 i)], tab := [(10000, .var [.str s, .int .i64 e])] } K =
 cond (ilt i n) (cond (decide ((0 : Int) ≤ i ∧ i < (↑(List.length r) : Int))) (cond (N.okM { id := V.toInt (List.getD (List.getD r (Int.toNat i) []) (0 : Nat) V.undef), shop := V.toStr (List.getD (List.getD r (Int.toNat i) []) (1 : Nat) V.undef), key := V.toStr (List.getD (List.getD r (Int.toNat i) []) (2 : Nat) V.undef), head := List.map (fun r => { key := V.toStr (List.getD r (0 : Nat) V.undef), kind := V.toInt (List.getD r (1 : Nat) V.undef), num := V.toInt (List.getD r (2 : Nat) V.undef), text := V.toStr (List.getD r (3 : Nat) V.undef) : HPair }) (V.toRows (List.getD (List.getD r (Int.toNat i) []) (3 : Nat) V.undef)), body := V.toStr (List.getD (List.getD r (Int.toNat i) []) (4 : Nat) V.undef), due := V.toInt (List.getD (List.getD r (Int.toNat i) []) (5 : Nat) V.undef), hops := V.toInt (List.getD (List.getD r (Int.toNat i) []) (6 : Nat) V.undef) : HMail }) (cond (Nat.ble (List.length s + List.length (Prod.fst (bif N.mailCheck { id := V.toInt (List.getD (List.getD r (Int.toNat i) []) (0 : Nat) V.undef), shop := V.toStr (List.getD (List.getD r (Int.toNat i) []) (1 : Nat) V.undef), key := V.toStr (List.getD (List.getD r (Int.toNat i) []) (2 : Nat) V.undef), head := List.map (fun r => { key := V.toStr (List.getD r (0 : Nat) V.undef), kind := V.toInt (List.getD r (1 : Nat) V.undef), num := V.toInt (List.getD r (2 : Nat) V.undef), text := V.toStr (List.getD r (3 : Nat) V.undef) : HPair }) (V.toRows (List.getD (List.getD r (Int.toNat i) []) (3 : Nat) V.undef)), body := V.toStr (List.getD (List.getD r (Int.toNat i) []) (4 : Nat) V.undef), due := V.toInt (List.getD (List.getD r (Int.toNat i) []) (5 : Nat) V.undef), hops := V.toInt (List.getD (List.getD r (Int.toNat i) []) (6 : Nat) V.undef) : HMail } != (0 : Int) then ([], N.mailCheck { id := V.toInt (List.getD (List.getD r (Int.toNat i) []) (0 : Nat) V.undef), shop := V.toStr (List.getD (List.getD r (Int.toNat i) []) (1 : Nat) V.undef), key := V.toStr (List.getD (List.getD r (Int.toNat i) []) (2 : Nat) V.undef), head := List.map (fun r => { key := V.toStr (List.getD r (0 : Nat) V.undef), kind := V.toInt (List.getD r (1 : Nat) V.undef), num := V.toInt (List.getD r (2 : Nat) V.undef), text := V.toStr (List.getD r (3 : Nat) V.undef) : HPair }) (V.toRows (List.getD (List.getD r (Int.toNat i) []) (3 : Nat) V.undef)), body := V.toStr (List.getD (List.getD r (Int.toNat i) []) (4 : Nat) V.undef), due := V.toInt (List.getD (List.getD r (Int.toNat i) []) (5 : Nat) V.undef), hops := V.toInt (List.getD (List.getD r (Int.toNat i) []) (6 : Nat) V.undef) : HMail }) else (N.mailB { id := V.toInt (List.getD (List.getD r (Int.toNat i) []) (0 : Nat) V.undef), shop := V.toStr (List.getD (List.getD r (Int.toNat i) []) (1 : Nat) V.undef), key := V.toStr (List.getD (List.getD r (Int.toNat i) []) (2 : Nat) V.undef), head := List.map (fun r => { key := V.toStr (List.getD r (0 : Nat) V.undef), kind := V.toInt (List.getD r (1 : Nat) V.undef), num := V.toInt (List.getD r (2 : Nat) V.undef), text := V.toStr (List.getD r (3 : Nat) V.undef) : HPair }) (V.toRows (List.getD (List.getD r (Int.toNat i) []) (3 : Nat) V.undef)), body := V.toStr (List.getD (List.getD r (Int.toNat i) []) (4 : Nat) V.undef), due := V.toInt (List.getD (List.getD r (Int.toNat i) []) (5 : Nat) V.undef), hops := V.toInt (List.getD (List.getD r (Int.toNat i) []) (6 : Nat) V.undef) : HMail }, (0 : Int))))) (9223372036854775807 : Nat)) (K Ex.normal { fr := [((3 : Nat), V.ptr (10000 : Nat) (0 : Nat) (0 : Nat) (0 : Nat)), ((18 : Nat), V.slc [Sh.int IntKind.u64, Sh.str, Sh.str, Sh.slc [Sh.str, Sh.int IntKind.u8, Sh.int IntKind.i64, Sh.str], Sh.str, Sh.int IntKind.u64, Sh.int IntKind.u8] r), ((19 : Nat), V.int IntKind.i64 n), ((20 : Nat), V.int IntKind.i64 (IntKind.wrap IntKind.i64 (i + (1 : Int))))], tab := [((10000 : Nat), Box.var [V.str (OutS.s (N.outRaw { s := s, err := e : OutS } (Prod.fst (bif N.mailCheck { id := V.toInt (List.getD (List.getD r (Int.toNat i) []) (0 : Nat) V.undef), shop := V.toStr (List.getD (List.getD r (Int.toNat i) []) (1 : Nat) V.undef), key := V.toStr (List.getD (List.getD r (Int.toNat i) []) (2 : Nat) V.undef), head := List.map (fun r => { key := V.toStr (List.getD r (0 : Nat) V.undef), kind := V.toInt (List.getD r (1 : Nat) V.undef), num := V.toInt (List.getD r (2 : Nat) V.undef), text := V.toStr (List.getD r (3 : Nat) V.undef) : HPair }) (V.toRows (List.getD (List.getD r (Int.toNat i) []) (3 : Nat) V.undef)), body := V.toStr (List.getD (List.getD r (Int.toNat i) []) (4 : Nat) V.undef), due := V.toInt (List.getD (List.getD r (Int.toNat i) []) (5 : Nat) V.undef), hops := V.toInt (List.getD (List.getD r (Int.toNat i) []) (6 : Nat) V.undef) : HMail } != (0 : Int) then ([], N.mailCheck { id := V.toInt (List.getD (List.getD r (Int.toNat i) []) (0 : Nat) V.undef), shop := V.toStr (List.getD (List.getD r (Int.toNat i) []) (1 : Nat) V.undef), key := V.toStr (List.getD (List.getD r (Int.toNat i) []) (2 : Nat) V.undef), head := List.map (fun r => { key := V.toStr (List.getD r (0 : Nat) V.undef), kind := V.toInt (List.getD r (1 : Nat) V.undef), num := V.toInt (List.getD r (2 : Nat) V.undef), text := V.toStr (List.getD r (3 : Nat) V.undef) : HPair }) (V.toRows (List.getD (List.getD r (Int.toNat i) []) (3 : Nat) V.undef)), body := V.toStr (List.getD (List.getD r (Int.toNat i) []) (4 : Nat) V.undef), due := V.toInt (List.getD (List.getD r (Int.toNat i) []) (5 : Nat) V.undef), hops := V.toInt (List.getD (List.getD r (Int.toNat i) []) (6 : Nat) V.undef) : HMail }) else (N.mailB { id := V.toInt (List.getD (List.getD r (Int.toNat i) []) (0 : Nat) V.undef), shop := V.toStr (List.getD (List.getD r (Int.toNat i) []) (1 : Nat) V.undef), key := V.toStr (List.getD (List.getD r (Int.toNat i) []) (2 : Nat) V.undef), head := List.map (fun r => { key := V.toStr (List.getD r (0 : Nat) V.undef), kind := V.toInt (List.getD r (1 : Nat) V.undef), num := V.toInt (List.getD r (2 : Nat) V.undef), text := V.toStr (List.getD r (3 : Nat) V.undef) : HPair }) (V.toRows (List.getD (List.getD r (Int.toNat i) []) (3 : Nat) V.undef)), body := V.toStr (List.getD (List.getD r (Int.toNat i) []) (4 : Nat) V.undef), due := V.toInt (List.getD (List.getD r (Int.toNat i) []) (5 : Nat) V.undef), hops := V.toInt (List.getD (List.getD r (Int.toNat i) []) (6 : Nat) V.undef) : HMail }, (0 : Int)))))), V.int IntKind.i64 (OutS.err (N.outRaw { s := s, err := e : OutS } (Prod.fst (bif N.mailCheck { id := V.toInt (List.getD (List.getD r (Int.toNat i) []) (0 : Nat) V.undef), shop := V.toStr (List.getD (List.getD r (Int.toNat i) []) (1 : Nat) V.undef), key := V.toStr (List.getD (List.getD r (Int.toNat i) []) (2 : Nat) V.undef), head := List.map (fun r => { key := V.toStr (List.getD r (0 : Nat) V.undef), kind := V.toInt (List.getD r (1 : Nat) V.undef), num := V.toInt (List.getD r (2 : Nat) V.undef), text := V.toStr (List.getD r (3 : Nat) V.undef) : HPair }) (V.toRows (List.getD (List.getD r (Int.toNat i) []) (3 : Nat) V.undef)), body := V.toStr (List.getD (List.getD r (Int.toNat i) []) (4 : Nat) V.undef), due := V.toInt (List.getD (List.getD r (Int.toNat i) []) (5 : Nat) V.undef), hops := V.toInt (List.getD (List.getD r (Int.toNat i) []) (6 : Nat) V.undef) : HMail } != (0 : Int) then ([], N.mailCheck { id := V.toInt (List.getD (List.getD r (Int.toNat i) []) (0 : Nat) V.undef), shop := V.toStr (List.getD (List.getD r (Int.toNat i) []) (1 : Nat) V.undef), key := V.toStr (List.getD (List.getD r (Int.toNat i) []) (2 : Nat) V.undef), head := List.map (fun r => { key := V.toStr (List.getD r (0 : Nat) V.undef), kind := V.toInt (List.getD r (1 : Nat) V.undef), num := V.toInt (List.getD r (2 : Nat) V.undef), text := V.toStr (List.getD r (3 : Nat) V.undef) : HPair }) (V.toRows (List.getD (List.getD r (Int.toNat i) []) (3 : Nat) V.undef)), body := V.toStr (List.getD (List.getD r (Int.toNat i) []) (4 : Nat) V.undef), due := V.toInt (List.getD (List.getD r (Int.toNat i) []) (5 : Nat) V.undef), hops := V.toInt (List.getD (List.getD r (Int.toNat i) []) (6 : Nat) V.undef) : HMail }) else (N.mailB { id := V.toInt (List.getD (List.getD r (Int.toNat i) []) (0 : Nat) V.undef), shop := V.toStr (List.getD (List.getD r (Int.toNat i) []) (1 : Nat) V.undef), key := V.toStr (List.getD (List.getD r (Int.toNat i) []) (2 : Nat) V.undef), head := List.map (fun r => { key := V.toStr (List.getD r (0 : Nat) V.undef), kind := V.toInt (List.getD r (1 : Nat) V.undef), num := V.toInt (List.getD r (2 : Nat) V.undef), text := V.toStr (List.getD r (3 : Nat) V.undef) : HPair }) (V.toRows (List.getD (List.getD r (Int.toNat i) []) (3 : Nat) V.undef)), body := V.toStr (List.getD (List.getD r (Int.toNat i) []) (4 : Nat) V.undef), due := V.toInt (List.getD (List.getD r (Int.toNat i) []) (5 : Nat) V.undef), hops := V.toInt (List.getD (List.getD r (Int.toNat i) []) (6 : Nat) V.undef) : HMail }, (0 : Int))))))])] : St }) (none)) (none)) (none)) (K (Ex.exit (0 : Nat)) { fr := [((3 : Nat), V.ptr (10000 : Nat) (0 : Nat) (0 : Nat) (0 : Nat))], tab := [((10000 : Nat), Box.var [V.str s, V.int IntKind.i64 e])] : St }) := by kernel_rfl
def schRefRBytes : SSch := { fr := [(3, .str), (16, .slc [.int .u64, .str, .str, .slc [.str, .int .u8, .int .i64, .str], .str, .int .u64, .int .u8]), (17, .int .i64), (18, .int .i64)], tab := [] }
def gRefRBytes : List Leaf → (Ex → St → Option R) → Option R
  | [.s s, .r r, .i n, .i i], K => cond (n == r.length) (cond (i == 0) (cond (Nat.ble s.length 1000) (cond (Nat.ble r.length 16) (cond ((r.map cMail.dec).all N.fineCk)
      (K (.exit 0) { fr := [(3, .str (s ++ N.mailsB (r.map cMail.dec)))], tab := [] }) none) none) none) none) none
  | _, _ => none
noncomputable def eRefRBytes : Env := env Tryz.prog [(49, dRefMailB), (48, dRefNum 8)] [(3, loopF schRefRBytes gRefRBytes)] [(3, [(0, [3, 16, 17, 18]), (1, [3]), (1000, [2])])]
theorem q_refRBytes (x : HRise) : evFn eRefRBytes 21 ((aOne (vAgg cRise)).enc x) ([]) some =
 cond (bif ile (0 : Int) (HRise.total x) then bif ilt (HRise.total x) (18446744073709551616 : Int) then N.fuelOk (8 : Nat) (8 : Int) else false else false) (cond (bif ilt (IntKind.wrap IntKind.u64 (↑(List.length (List.map (RCod.enc cMail) (HRise.kept x))) : Int)) (18446744073709551616 : Int) then N.fuelOk (8 : Nat) (1 : Int) else false) (cond ((↑(List.length (List.map (RCod.enc cMail) (HRise.kept x))) : Int) == (↑(List.length (List.map (RCod.enc cMail) (HRise.kept x))) : Int)) (cond (Nat.ble (List.length (List.map (RCod.enc cMail) (HRise.kept x))) (16 : Nat)) (cond (List.all (List.map (RCod.dec cMail) (List.map (RCod.enc cMail) (HRise.kept x))) N.fineCk) (some { v := V.str (N.numB (HRise.total x) (N.clamp (8 : Int)) ++ N.numB (IntKind.wrap IntKind.u64 (↑(List.length (List.map (RCod.enc cMail) (HRise.kept x))) : Int)) (N.clamp (1 : Int)) ++ N.mailsB (List.map (RCod.dec cMail) (List.map (RCod.enc cMail) (HRise.kept x)))), bx := [] : DRes }) (none)) (none)) (none)) (none)) (none) := by kernel_rfl
theorem q_refRBytesR (r : List (List V)) (n i : Int) (s : Bytes) (K : Ex → St → Option R) : evRound eRefRBytes 21 3 { fr := [(3, .str s), (16, .slc [.int .u64, .str, .str, .slc [.str, .int .u8, .int .i64, .str], .str, .int .u64, .int .u8] r), (17, .int .i64 n), (18, .int .i64 i)], tab := [] } K =
 cond (ilt i n) (cond (decide ((0 : Int) ≤ i ∧ i < (↑(List.length r) : Int))) (cond (N.fitM { id := V.toInt (List.getD (List.getD r (Int.toNat i) []) (0 : Nat) V.undef), shop := V.toStr (List.getD (List.getD r (Int.toNat i) []) (1 : Nat) V.undef), key := V.toStr (List.getD (List.getD r (Int.toNat i) []) (2 : Nat) V.undef), head := List.map (fun r => { key := V.toStr (List.getD r (0 : Nat) V.undef), kind := V.toInt (List.getD r (1 : Nat) V.undef), num := V.toInt (List.getD r (2 : Nat) V.undef), text := V.toStr (List.getD r (3 : Nat) V.undef) : HPair }) (V.toRows (List.getD (List.getD r (Int.toNat i) []) (3 : Nat) V.undef)), body := V.toStr (List.getD (List.getD r (Int.toNat i) []) (4 : Nat) V.undef), due := V.toInt (List.getD (List.getD r (Int.toNat i) []) (5 : Nat) V.undef), hops := V.toInt (List.getD (List.getD r (Int.toNat i) []) (6 : Nat) V.undef) : HMail }) (cond (Nat.ble (List.length s + List.length (N.refMailB { id := V.toInt (List.getD (List.getD r (Int.toNat i) []) (0 : Nat) V.undef), shop := V.toStr (List.getD (List.getD r (Int.toNat i) []) (1 : Nat) V.undef), key := V.toStr (List.getD (List.getD r (Int.toNat i) []) (2 : Nat) V.undef), head := List.map (fun r => { key := V.toStr (List.getD r (0 : Nat) V.undef), kind := V.toInt (List.getD r (1 : Nat) V.undef), num := V.toInt (List.getD r (2 : Nat) V.undef), text := V.toStr (List.getD r (3 : Nat) V.undef) : HPair }) (V.toRows (List.getD (List.getD r (Int.toNat i) []) (3 : Nat) V.undef)), body := V.toStr (List.getD (List.getD r (Int.toNat i) []) (4 : Nat) V.undef), due := V.toInt (List.getD (List.getD r (Int.toNat i) []) (5 : Nat) V.undef), hops := V.toInt (List.getD (List.getD r (Int.toNat i) []) (6 : Nat) V.undef) : HMail })) (9223372036854775807 : Nat)) (K Ex.normal { fr := [((3 : Nat), V.str (s ++ N.refMailB { id := V.toInt (List.getD (List.getD r (Int.toNat i) []) (0 : Nat) V.undef), shop := V.toStr (List.getD (List.getD r (Int.toNat i) []) (1 : Nat) V.undef), key := V.toStr (List.getD (List.getD r (Int.toNat i) []) (2 : Nat) V.undef), head := List.map (fun r => { key := V.toStr (List.getD r (0 : Nat) V.undef), kind := V.toInt (List.getD r (1 : Nat) V.undef), num := V.toInt (List.getD r (2 : Nat) V.undef), text := V.toStr (List.getD r (3 : Nat) V.undef) : HPair }) (V.toRows (List.getD (List.getD r (Int.toNat i) []) (3 : Nat) V.undef)), body := V.toStr (List.getD (List.getD r (Int.toNat i) []) (4 : Nat) V.undef), due := V.toInt (List.getD (List.getD r (Int.toNat i) []) (5 : Nat) V.undef), hops := V.toInt (List.getD (List.getD r (Int.toNat i) []) (6 : Nat) V.undef) : HMail })), ((16 : Nat), V.slc [Sh.int IntKind.u64, Sh.str, Sh.str, Sh.slc [Sh.str, Sh.int IntKind.u8, Sh.int IntKind.i64, Sh.str], Sh.str, Sh.int IntKind.u64, Sh.int IntKind.u8] r), ((17 : Nat), V.int IntKind.i64 n), ((18 : Nat), V.int IntKind.i64 (IntKind.wrap IntKind.i64 (i + (1 : Int))))], tab := [] : St }) (none)) (none)) (none)) (K (Ex.exit (0 : Nat)) { fr := [((3 : Nat), V.str s)], tab := [] : St }) := by kernel_rfl
theorem ok_rBytes (hN : FnOk Tryz.prog 44 dOutNum) : FnOk Tryz.prog 20 dRiseB := by
  refine den_okF (env_ok (((((TOk.nil _).cons ok_outString).cons ok_outRaw).cons hN).cons (ok_mailBytes hN))) (E := eRBytes) Tryz.func20 [3] (by kernel_rfl) (one1 (rounds_of rfl fun l K q h => ?_)) fun x _ hp => ?_
  · unfold gRBytes at h
    split at h
    · rename_i r n i s e
      have h1 := (cond_none h).1; replace h := (cond_none h).2; have h2 := (cond_none h).1; replace h := (cond_none h).2; have h3 := (cond_none h).1; replace h := (cond_none h).2; have h4 := (cond_none h).1; replace h := (cond_none h).2; have h5 := (cond_none h).1; replace h := (cond_none h).2; have h6 := (cond_none h).1; replace h := (cond_none h).2
      have e1 := ieq_of h1
      have e2 := ieq_of h2
      have e3 := ieq_of h3
      subst e1 e2 e3
      have h4 : s.length ≤ 1000 := ble_of h4
      have h5 : r.length ≤ 16 := ble_of h5
      have main := range_ind (E := eRBytes) (f := 20) (id := 3) (A := Bytes) r (fun a i => { fr := [(3, .ptr 10000 0 0 0), (18, .slc [.int .u64, .str, .str, .slc [.str, .int .u8, .int .i64, .str], .str, .int .u64, .int .u8] r), (19, .int .i64 r.length), (20, .int .i64 i)], tab := [(10000, .var [.str a, .int .i64 0])] }) (fun a i => a.length ≤ 1000 + 1570 * i)
        (fun a rows K => K (.exit 0) { fr := [(3, .ptr 10000 0 0 0)], tab := [(10000, .var [.str (a ++ N.mailsB (rows.map cMail.dec)), .int .i64 0])] }) (fun a i ha hi => ?_) (fun a _ => ?_) s 0 (Int.le_refl _) (by omega) (by show s.length ≤ 1000 + 1570 * 0; omega) K q (by assumption)
      · exact main
      · have hs := fineCk_of (all_row h6 hi)
        have hb := mailB_len hs.2.1
        refine .inl ⟨a ++ N.mailB (cMail.dec (r.getD i [])), by rw [List.length_append]; omega, fun K => ?_, fun K => ?_⟩
        · rw [q_rBytesR]
          simp (disch := omega) only [evs, Int.toNat_natCast, fold_mail, hs.1, hs.2.1, bne_self_eq_false, raw_le]
        · show K _ { fr := [(3, .ptr 10000 0 0 0)], tab := [(10000, .var [.str (a ++ (N.mailB (cMail.dec (r.getD i [])) ++ N.mailsB ((r.drop (i + 1)).map cMail.dec))), .int .i64 0])] } = _
          rw [List.append_assoc]
      · refine ⟨.exit 0, { fr := [(3, .ptr 10000 0 0 0)], tab := [(10000, .var [.str (a ++ []), .int .i64 0])] }, by simp, fun K => ?_, fun K => rfl⟩
        rw [q_rBytesR, List.append_nil]
        simp (disch := omega) only [evs]
    · cases h
  · refine (q_rBytes x).trans ?_
    obtain ⟨hp, h3⟩ := bcond hp
    obtain ⟨h0, hp⟩ := bcond hp
    obtain ⟨h1, _⟩ := bcond hp
    obtain ⟨h4, h5⟩ := bcond h0
    have h1 := ble_of h1
    have h4 := ile_of h4
    have h5 := ile_of h5
    have w := wr_u64 (n := (x.kept.length : Int)) (by omega) (by omega)
    show _ = some (⟨.str (N.riseB x), [], []⟩ : DRes)
    unfold N.riseB
    simp (disch := omega) only [evs, dec_encs, w, h3, outNum_8, outNum_1, List.length_nil, numB_len, List.nil_append]
theorem ok_refRBytes : FnOk Tryz.prog 21 dRiseB := by
  refine den_okF (env_ok (((TOk.nil _).cons (ok_refNum 8)).cons ok_refMailB)) (E := eRefRBytes) Tryz.func21 [3] (by kernel_rfl) (one1 (rounds_of rfl fun l K q h => ?_)) fun x _ hp => ?_
  · unfold gRefRBytes at h
    split at h
    · rename_i s r n i
      have h1 := (cond_none h).1; replace h := (cond_none h).2; have h2 := (cond_none h).1; replace h := (cond_none h).2; have h4 := (cond_none h).1; replace h := (cond_none h).2; have h5 := (cond_none h).1; replace h := (cond_none h).2; have h6 := (cond_none h).1; replace h := (cond_none h).2
      have e1 := ieq_of h1
      have e2 := ieq_of h2
      subst e1 e2
      have h4 : s.length ≤ 1000 := ble_of h4
      have h5 : r.length ≤ 16 := ble_of h5
      have main := range_ind (E := eRefRBytes) (f := 21) (id := 3) (A := Bytes) r (fun a i => { fr := [(3, .str a), (16, .slc [.int .u64, .str, .str, .slc [.str, .int .u8, .int .i64, .str], .str, .int .u64, .int .u8] r), (17, .int .i64 r.length), (18, .int .i64 i)], tab := [] }) (fun a i => a.length ≤ 1000 + 1570 * i)
        (fun a rows K => K (.exit 0) { fr := [(3, .str (a ++ N.mailsB (rows.map cMail.dec)))], tab := [] }) (fun a i ha hi => ?_) (fun a _ => ?_) s 0 (Int.le_refl _) (by omega) (by show s.length ≤ 1000 + 1570 * 0; omega) K q (by assumption)
      · exact main
      · have hs := fineCk_of (all_row h6 hi)
        have hb := mailB_len hs.2.1
        have hr := refMailB_eq hs.2.2.1 hs.2.1
        refine .inl ⟨a ++ N.mailB (cMail.dec (r.getD i [])), by rw [List.length_append]; omega, fun K => ?_, fun K => ?_⟩
        · rw [q_refRBytesR]
          simp (disch := omega) only [evs, Int.toNat_natCast, fold_mail, hs.2.2.2, hr]
        · show K _ { fr := [(3, .str (a ++ (N.mailB (cMail.dec (r.getD i [])) ++ N.mailsB ((r.drop (i + 1)).map cMail.dec))))], tab := [] } = _
          rw [List.append_assoc]
      · refine ⟨.exit 0, { fr := [(3, .str (a ++ []))], tab := [] }, by simp, fun K => ?_, fun K => rfl⟩
        rw [q_refRBytesR, List.append_nil]
        simp (disch := omega) only [evs]
    · cases h
  · refine (q_refRBytes x).trans ?_
    obtain ⟨hp, h3⟩ := bcond hp
    obtain ⟨h0, hp⟩ := bcond hp
    obtain ⟨h1, _⟩ := bcond hp
    obtain ⟨h4, h5⟩ := bcond h0
    have h1 := ble_of h1
    have h4 := ile_of h4
    have h5 := ile_of h5
    have w := wr_u64 (n := (x.kept.length : Int)) (by omega) (by omega)
    show _ = some (⟨.str (N.riseB x), [], []⟩ : DRes)
    unfold N.riseB
    simp (disch := omega) only [evs, dec_encs, w, h3, show N.fuelOk 8 8 = true from rfl, show N.fuelOk 8 1 = true from rfl, show N.clamp 8 = 8 from rfl, show N.clamp 1 = 1 from rfl, numB_len]
end Go.Ev

/- Rises read of bytes: the program's and the document's: lemmas. -/
namespace Go.Ev
open Go Go.Proofs
set_option maxRecDepth 100000
-- FOLD

def schRRead : SSch := { fr := [(0, .ptr 0 0 0), (2, .ptr 10000 0 0), (3, .ptr 10002 0 0), (4, .int .u64), (5, .int .u64)], tab := [(0, .var [.str, .int .i64]), (10001, .sl [.int .u64, .str, .str, .slc [.str, .int .u8, .int .i64, .str], .str, .int .u64, .int .u8]), (10000, .var [.int .u64, .own 10001]), (10003, .sl [.int .u64, .str, .str, .slc [.str, .int .u8, .int .i64, .str], .str, .int .u64, .int .u8]), (10002, .var [.int .u64, .own 10003])] }
def gRRead : List Leaf → (Ex → St → Option R) → Option R
  | [.i n, .i k, .s s, .i e, .r r1, .i t1, .r r3, .i t], K => cond (k == 0) (cond (ile n 255) (cond (Nat.beq r3.length 0)
      (K (.exit 1) { fr := [(0, .ptr 0 0 0 0), (2, .ptr 10000 0 0 0), (3, .ptr 10002 0 0 0)], tab := [(0, .var [.str (N.readMs n.toNat ⟨s, e⟩ []).2.s, .int .i64 (N.readMs n.toNat ⟨s, e⟩ []).2.err]), (10001, .sl [.int .u64, .str, .str, .slc [.str, .int .u8, .int .i64, .str], .str, .int .u64, .int .u8] r1 0), (10000, .var [.int .u64 t1, .own 10001 0]), (10003, .sl [.int .u64, .str, .str, .slc [.str, .int .u8, .int .i64, .str], .str, .int .u64, .int .u8] ((N.readMs n.toNat ⟨s, e⟩ []).1.map cMail.enc) 0), (10002, .var [.int .u64 t, .own 10003 0])] }) none) none) none
  | _, _ => none
noncomputable def eRRead : Env := env Tryz.prog [(26, dNum), (27, dFail), (10, dInErr), (28, dMailRead)] [(9, loopF schRRead gRRead)] [(9, [(0, [0, 2, 3, 4, 5]), (2, [0, 2, 3]), (1000, [2])])]
theorem q_rRead (i : InS) : evFn eRRead 8 ((aOne (vPtr 0)).enc ()) ((bOne cIn).enc i) some =
 cond (InS.err (Prod.snd (N.inNum (Prod.snd (N.inNum i (8 : Int))) (1 : Int))) != (0 : Int)) (cond (ile (Prod.fst (N.inNum (Prod.snd (N.inNum i (8 : Int))) (1 : Int))) (255 : Int)) (cond (InS.err (Prod.snd (N.readMs (Int.toNat (Prod.fst (N.inNum (Prod.snd (N.inNum i (8 : Int))) (1 : Int)))) (Prod.snd (N.inNum (Prod.snd (N.inNum i (8 : Int))) (1 : Int))) [])) != (0 : Int)) (some { v := V.agg [V.int IntKind.u64 (0 : Int), V.slc [Sh.int IntKind.u64, Sh.str, Sh.str, Sh.slc [Sh.str, Sh.int IntKind.u8, Sh.int IntKind.i64, Sh.str], Sh.str, Sh.int IntKind.u64, Sh.int IntKind.u8] []], bx := [[V.str (InS.s (Prod.snd (N.readMs (Int.toNat (Prod.fst (N.inNum (Prod.snd (N.inNum i (8 : Int))) (1 : Int)))) (Prod.snd (N.inNum (Prod.snd (N.inNum i (8 : Int))) (1 : Int))) []))), V.int IntKind.i64 (InS.err (Prod.snd (N.readMs (Int.toNat (Prod.fst (N.inNum (Prod.snd (N.inNum i (8 : Int))) (1 : Int)))) (Prod.snd (N.inNum (Prod.snd (N.inNum i (8 : Int))) (1 : Int))) [])))]] : DRes }) (some { v := V.agg [V.int IntKind.u64 (Prod.fst (N.inNum i (8 : Int))), V.slc [Sh.int IntKind.u64, Sh.str, Sh.str, Sh.slc [Sh.str, Sh.int IntKind.u8, Sh.int IntKind.i64, Sh.str], Sh.str, Sh.int IntKind.u64, Sh.int IntKind.u8] (List.map (RCod.enc cMail) (Prod.fst (N.readMs (Int.toNat (Prod.fst (N.inNum (Prod.snd (N.inNum i (8 : Int))) (1 : Int)))) (Prod.snd (N.inNum (Prod.snd (N.inNum i (8 : Int))) (1 : Int))) [])))], bx := [[V.str (InS.s (Prod.snd (N.readMs (Int.toNat (Prod.fst (N.inNum (Prod.snd (N.inNum i (8 : Int))) (1 : Int)))) (Prod.snd (N.inNum (Prod.snd (N.inNum i (8 : Int))) (1 : Int))) []))), V.int IntKind.i64 (InS.err (Prod.snd (N.readMs (Int.toNat (Prod.fst (N.inNum (Prod.snd (N.inNum i (8 : Int))) (1 : Int)))) (Prod.snd (N.inNum (Prod.snd (N.inNum i (8 : Int))) (1 : Int))) [])))]] : DRes })) (none)) (cond (ilt (16 : Int) (Prod.fst (N.inNum (Prod.snd (N.inNum i (8 : Int))) (1 : Int)))) (cond (ile (Prod.fst (N.inNum (Prod.snd (N.inNum i (8 : Int))) (1 : Int))) (255 : Int)) (cond (InS.err (Prod.snd (N.readMs (Int.toNat (Prod.fst (N.inNum (Prod.snd (N.inNum i (8 : Int))) (1 : Int)))) (N.inFail (Prod.snd (N.inNum (Prod.snd (N.inNum i (8 : Int))) (1 : Int))) (6 : Int)) [])) != (0 : Int)) (some { v := V.agg [V.int IntKind.u64 (0 : Int), V.slc [Sh.int IntKind.u64, Sh.str, Sh.str, Sh.slc [Sh.str, Sh.int IntKind.u8, Sh.int IntKind.i64, Sh.str], Sh.str, Sh.int IntKind.u64, Sh.int IntKind.u8] []], bx := [[V.str (InS.s (Prod.snd (N.readMs (Int.toNat (Prod.fst (N.inNum (Prod.snd (N.inNum i (8 : Int))) (1 : Int)))) (N.inFail (Prod.snd (N.inNum (Prod.snd (N.inNum i (8 : Int))) (1 : Int))) (6 : Int)) []))), V.int IntKind.i64 (InS.err (Prod.snd (N.readMs (Int.toNat (Prod.fst (N.inNum (Prod.snd (N.inNum i (8 : Int))) (1 : Int)))) (N.inFail (Prod.snd (N.inNum (Prod.snd (N.inNum i (8 : Int))) (1 : Int))) (6 : Int)) [])))]] : DRes }) (some { v := V.agg [V.int IntKind.u64 (Prod.fst (N.inNum i (8 : Int))), V.slc [Sh.int IntKind.u64, Sh.str, Sh.str, Sh.slc [Sh.str, Sh.int IntKind.u8, Sh.int IntKind.i64, Sh.str], Sh.str, Sh.int IntKind.u64, Sh.int IntKind.u8] (List.map (RCod.enc cMail) (Prod.fst (N.readMs (Int.toNat (Prod.fst (N.inNum (Prod.snd (N.inNum i (8 : Int))) (1 : Int)))) (N.inFail (Prod.snd (N.inNum (Prod.snd (N.inNum i (8 : Int))) (1 : Int))) (6 : Int)) [])))], bx := [[V.str (InS.s (Prod.snd (N.readMs (Int.toNat (Prod.fst (N.inNum (Prod.snd (N.inNum i (8 : Int))) (1 : Int)))) (N.inFail (Prod.snd (N.inNum (Prod.snd (N.inNum i (8 : Int))) (1 : Int))) (6 : Int)) []))), V.int IntKind.i64 (InS.err (Prod.snd (N.readMs (Int.toNat (Prod.fst (N.inNum (Prod.snd (N.inNum i (8 : Int))) (1 : Int)))) (N.inFail (Prod.snd (N.inNum (Prod.snd (N.inNum i (8 : Int))) (1 : Int))) (6 : Int)) [])))]] : DRes })) (none)) (cond (Prod.fst (N.inNum (Prod.snd (N.inNum i (8 : Int))) (1 : Int)) != bif ilt (16 : Int) (Prod.fst (N.inNum i (8 : Int))) then (16 : Int) else Prod.fst (N.inNum i (8 : Int))) (cond (ile (Prod.fst (N.inNum (Prod.snd (N.inNum i (8 : Int))) (1 : Int))) (255 : Int)) (cond (InS.err (Prod.snd (N.readMs (Int.toNat (Prod.fst (N.inNum (Prod.snd (N.inNum i (8 : Int))) (1 : Int)))) (N.inFail (Prod.snd (N.inNum (Prod.snd (N.inNum i (8 : Int))) (1 : Int))) (7 : Int)) [])) != (0 : Int)) (some { v := V.agg [V.int IntKind.u64 (0 : Int), V.slc [Sh.int IntKind.u64, Sh.str, Sh.str, Sh.slc [Sh.str, Sh.int IntKind.u8, Sh.int IntKind.i64, Sh.str], Sh.str, Sh.int IntKind.u64, Sh.int IntKind.u8] []], bx := [[V.str (InS.s (Prod.snd (N.readMs (Int.toNat (Prod.fst (N.inNum (Prod.snd (N.inNum i (8 : Int))) (1 : Int)))) (N.inFail (Prod.snd (N.inNum (Prod.snd (N.inNum i (8 : Int))) (1 : Int))) (7 : Int)) []))), V.int IntKind.i64 (InS.err (Prod.snd (N.readMs (Int.toNat (Prod.fst (N.inNum (Prod.snd (N.inNum i (8 : Int))) (1 : Int)))) (N.inFail (Prod.snd (N.inNum (Prod.snd (N.inNum i (8 : Int))) (1 : Int))) (7 : Int)) [])))]] : DRes }) (some { v := V.agg [V.int IntKind.u64 (Prod.fst (N.inNum i (8 : Int))), V.slc [Sh.int IntKind.u64, Sh.str, Sh.str, Sh.slc [Sh.str, Sh.int IntKind.u8, Sh.int IntKind.i64, Sh.str], Sh.str, Sh.int IntKind.u64, Sh.int IntKind.u8] (List.map (RCod.enc cMail) (Prod.fst (N.readMs (Int.toNat (Prod.fst (N.inNum (Prod.snd (N.inNum i (8 : Int))) (1 : Int)))) (N.inFail (Prod.snd (N.inNum (Prod.snd (N.inNum i (8 : Int))) (1 : Int))) (7 : Int)) [])))], bx := [[V.str (InS.s (Prod.snd (N.readMs (Int.toNat (Prod.fst (N.inNum (Prod.snd (N.inNum i (8 : Int))) (1 : Int)))) (N.inFail (Prod.snd (N.inNum (Prod.snd (N.inNum i (8 : Int))) (1 : Int))) (7 : Int)) []))), V.int IntKind.i64 (InS.err (Prod.snd (N.readMs (Int.toNat (Prod.fst (N.inNum (Prod.snd (N.inNum i (8 : Int))) (1 : Int)))) (N.inFail (Prod.snd (N.inNum (Prod.snd (N.inNum i (8 : Int))) (1 : Int))) (7 : Int)) [])))]] : DRes })) (none)) (cond (ile (Prod.fst (N.inNum (Prod.snd (N.inNum i (8 : Int))) (1 : Int))) (255 : Int)) (cond (InS.err (Prod.snd (N.readMs (Int.toNat (Prod.fst (N.inNum (Prod.snd (N.inNum i (8 : Int))) (1 : Int)))) (Prod.snd (N.inNum (Prod.snd (N.inNum i (8 : Int))) (1 : Int))) [])) != (0 : Int)) (some { v := V.agg [V.int IntKind.u64 (0 : Int), V.slc [Sh.int IntKind.u64, Sh.str, Sh.str, Sh.slc [Sh.str, Sh.int IntKind.u8, Sh.int IntKind.i64, Sh.str], Sh.str, Sh.int IntKind.u64, Sh.int IntKind.u8] []], bx := [[V.str (InS.s (Prod.snd (N.readMs (Int.toNat (Prod.fst (N.inNum (Prod.snd (N.inNum i (8 : Int))) (1 : Int)))) (Prod.snd (N.inNum (Prod.snd (N.inNum i (8 : Int))) (1 : Int))) []))), V.int IntKind.i64 (InS.err (Prod.snd (N.readMs (Int.toNat (Prod.fst (N.inNum (Prod.snd (N.inNum i (8 : Int))) (1 : Int)))) (Prod.snd (N.inNum (Prod.snd (N.inNum i (8 : Int))) (1 : Int))) [])))]] : DRes }) (some { v := V.agg [V.int IntKind.u64 (Prod.fst (N.inNum i (8 : Int))), V.slc [Sh.int IntKind.u64, Sh.str, Sh.str, Sh.slc [Sh.str, Sh.int IntKind.u8, Sh.int IntKind.i64, Sh.str], Sh.str, Sh.int IntKind.u64, Sh.int IntKind.u8] (List.map (RCod.enc cMail) (Prod.fst (N.readMs (Int.toNat (Prod.fst (N.inNum (Prod.snd (N.inNum i (8 : Int))) (1 : Int)))) (Prod.snd (N.inNum (Prod.snd (N.inNum i (8 : Int))) (1 : Int))) [])))], bx := [[V.str (InS.s (Prod.snd (N.readMs (Int.toNat (Prod.fst (N.inNum (Prod.snd (N.inNum i (8 : Int))) (1 : Int)))) (Prod.snd (N.inNum (Prod.snd (N.inNum i (8 : Int))) (1 : Int))) []))), V.int IntKind.i64 (InS.err (Prod.snd (N.readMs (Int.toNat (Prod.fst (N.inNum (Prod.snd (N.inNum i (8 : Int))) (1 : Int)))) (Prod.snd (N.inNum (Prod.snd (N.inNum i (8 : Int))) (1 : Int))) [])))]] : DRes })) (none)))) := by kernel_rfl
theorem q_rReadR (n k : Int) (s : Bytes) (e : Int) (r1 : List (List V)) (t1 : Int) (r3 : List (List V)) (t : Int) (K : Ex → St → Option R) : evRound eRRead 8 9 { fr := [(0, .ptr 0 0 0 0), (2, .ptr 10000 0 0 0), (3, .ptr 10002 0 0 0), (4, .int .u64 n), (5, .int .u64 k)], tab := [(0, .var [.str s, .int .i64 e]), (10001, .sl [.int .u64, .str, .str, .slc [.str, .int .u8, .int .i64, .str], .str, .int .u64, .int .u8] r1 0), (10000, .var [.int .u64 t1, .own 10001 0]), (10003, .sl [.int .u64, .str, .str, .slc [.str, .int .u8, .int .i64, .str], .str, .int .u64, .int .u8] r3 0), (10002, .var [.int .u64 t, .own 10003 0])] } K =
 cond (ilt k n) (cond (e == (0 : Int)) (cond (decide ((List.length r3 + (1 : Nat)) * (96 : Nat) ≤ (140737488355328 : Nat))) (K Ex.normal { fr := [((0 : Nat), V.ptr (0 : Nat) (0 : Nat) (0 : Nat) (0 : Nat)), ((2 : Nat), V.ptr (10000 : Nat) (0 : Nat) (0 : Nat) (0 : Nat)), ((3 : Nat), V.ptr (10002 : Nat) (0 : Nat) (0 : Nat) (0 : Nat)), ((4 : Nat), V.int IntKind.u64 n), ((5 : Nat), V.int IntKind.u64 (IntKind.wrap IntKind.u64 (k + (1 : Int))))], tab := [((0 : Nat), Box.var [V.str (InS.s (Prod.snd (N.mailRead { s := s, err := e : InS }))), V.int IntKind.i64 (InS.err (Prod.snd (N.mailRead { s := s, err := e : InS })))]), ((10001 : Nat), Box.sl [Sh.int IntKind.u64, Sh.str, Sh.str, Sh.slc [Sh.str, Sh.int IntKind.u8, Sh.int IntKind.i64, Sh.str], Sh.str, Sh.int IntKind.u64, Sh.int IntKind.u8] r1 (0 : Nat)), ((10000 : Nat), Box.var [V.int IntKind.u64 t1, V.own (10001 : Nat) (0 : Nat)]), ((10003 : Nat), Box.sl [Sh.int IntKind.u64, Sh.str, Sh.str, Sh.slc [Sh.str, Sh.int IntKind.u8, Sh.int IntKind.i64, Sh.str], Sh.str, Sh.int IntKind.u64, Sh.int IntKind.u8] (r3 ++ [[V.int IntKind.u64 (HMail.id (Prod.fst (N.mailRead { s := s, err := e : InS }))), V.str (HMail.shop (Prod.fst (N.mailRead { s := s, err := e : InS }))), V.str (HMail.key (Prod.fst (N.mailRead { s := s, err := e : InS }))), V.slc [Sh.str, Sh.int IntKind.u8, Sh.int IntKind.i64, Sh.str] (List.map (fun p => [V.str (HPair.key p), V.int IntKind.u8 (HPair.kind p), V.int IntKind.i64 (HPair.num p), V.str (HPair.text p)]) (HMail.head (Prod.fst (N.mailRead { s := s, err := e : InS })))), V.str (HMail.body (Prod.fst (N.mailRead { s := s, err := e : InS }))), V.int IntKind.u64 (HMail.due (Prod.fst (N.mailRead { s := s, err := e : InS }))), V.int IntKind.u8 (HMail.hops (Prod.fst (N.mailRead { s := s, err := e : InS })))]]) (0 : Nat)), ((10002 : Nat), Box.var [V.int IntKind.u64 t, V.own (10003 : Nat) (0 : Nat)])] : St }) (none)) (K (Ex.exit (1 : Nat)) { fr := [((0 : Nat), V.ptr (0 : Nat) (0 : Nat) (0 : Nat) (0 : Nat)), ((2 : Nat), V.ptr (10000 : Nat) (0 : Nat) (0 : Nat) (0 : Nat)), ((3 : Nat), V.ptr (10002 : Nat) (0 : Nat) (0 : Nat) (0 : Nat))], tab := [((0 : Nat), Box.var [V.str s, V.int IntKind.i64 e]), ((10001 : Nat), Box.sl [Sh.int IntKind.u64, Sh.str, Sh.str, Sh.slc [Sh.str, Sh.int IntKind.u8, Sh.int IntKind.i64, Sh.str], Sh.str, Sh.int IntKind.u64, Sh.int IntKind.u8] r1 (0 : Nat)), ((10000 : Nat), Box.var [V.int IntKind.u64 t1, V.own (10001 : Nat) (0 : Nat)]), ((10003 : Nat), Box.sl [Sh.int IntKind.u64, Sh.str, Sh.str, Sh.slc [Sh.str, Sh.int IntKind.u8, Sh.int IntKind.i64, Sh.str], Sh.str, Sh.int IntKind.u64, Sh.int IntKind.u8] r3 (0 : Nat)), ((10002 : Nat), Box.var [V.int IntKind.u64 t, V.own (10003 : Nat) (0 : Nat)])] : St })) (K (Ex.exit (1 : Nat)) { fr := [((0 : Nat), V.ptr (0 : Nat) (0 : Nat) (0 : Nat) (0 : Nat)), ((2 : Nat), V.ptr (10000 : Nat) (0 : Nat) (0 : Nat) (0 : Nat)), ((3 : Nat), V.ptr (10002 : Nat) (0 : Nat) (0 : Nat) (0 : Nat))], tab := [((0 : Nat), Box.var [V.str s, V.int IntKind.i64 e]), ((10001 : Nat), Box.sl [Sh.int IntKind.u64, Sh.str, Sh.str, Sh.slc [Sh.str, Sh.int IntKind.u8, Sh.int IntKind.i64, Sh.str], Sh.str, Sh.int IntKind.u64, Sh.int IntKind.u8] r1 (0 : Nat)), ((10000 : Nat), Box.var [V.int IntKind.u64 t1, V.own (10001 : Nat) (0 : Nat)]), ((10003 : Nat), Box.sl [Sh.int IntKind.u64, Sh.str, Sh.str, Sh.slc [Sh.str, Sh.int IntKind.u8, Sh.int IntKind.i64, Sh.str], Sh.str, Sh.int IntKind.u64, Sh.int IntKind.u8] r3 (0 : Nat)), ((10002 : Nat), Box.var [V.int IntKind.u64 t, V.own (10003 : Nat) (0 : Nat)])] : St }) := by kernel_rfl
namespace N
def rrN (i : InS) : Int × InS := inNum (inNum i 8).2 1
def rrI (i : InS) : InS := cond ((rrN i).2.err != 0) (rrN i).2 (cond (ilt 16 (rrN i).1) (inFail (rrN i).2 6) (cond ((rrN i).1 != cond (ilt 16 (inNum i 8).1) 16 (inNum i 8).1) (inFail (rrN i).2 7) (rrN i).2))
def rrE (t : Int) (w : List HMail × InS) : HRise × InS := cond (w.2.err != 0) (rise0, w.2) (⟨t, w.1⟩, w.2)
def riseRead (i : InS) : HRise × InS := rrE (inNum i 8).1 (readMs (rrN i).1.toNat (rrI i) [])
end N
def dRiseRead : Den := den (aOne (vPtr 0)) (bOne cIn) (oV (vAgg cRise)) (fun _ _ => true) fun _ i => N.riseRead i
theorem ok_rRead9 : RoundsOk eRRead 8 9 := by
  refine rounds_of rfl fun l K q h => ?_
  unfold gRRead at h
  split at h
  · rename_i n k s e r1 t1 r3 t
    have h1 := (cond_none h).1; replace h := (cond_none h).2; have h2 := (cond_none h).1; replace h := (cond_none h).2; have h3 := (cond_none h).1; replace h := (cond_none h).2
    have e1 := ieq_of h1
    have e3 := List.eq_nil_of_length_eq_zero (nbeq_of h3)
    subst e1 e3
    have h2 := ile_of h2
    have main := loop_ind (E := eRRead) (f := 8) (id := 9) (σ := Nat × InS × List HMail) (fun x => { fr := [(0, .ptr 0 0 0 0), (2, .ptr 10000 0 0 0), (3, .ptr 10002 0 0 0), (4, .int .u64 n), (5, .int .u64 (x.1 : Int))], tab := [(0, .var [.str x.2.1.s, .int .i64 x.2.1.err]), (10001, .sl [.int .u64, .str, .str, .slc [.str, .int .u8, .int .i64, .str], .str, .int .u64, .int .u8] r1 0), (10000, .var [.int .u64 t1, .own 10001 0]), (10003, .sl [.int .u64, .str, .str, .slc [.str, .int .u8, .int .i64, .str], .str, .int .u64, .int .u8] (x.2.2.map cMail.enc) 0), (10002, .var [.int .u64 t, .own 10003 0])] })
      (fun x => x.2.2.length ≤ 256 ∧ (x.1 : Int) ≤ 256 ∧ x.2.2.length = x.1) (fun x => (n - x.1).toNat)
      (fun x K => K (.exit 1) { fr := [(0, .ptr 0 0 0 0), (2, .ptr 10000 0 0 0), (3, .ptr 10002 0 0 0)], tab := [(0, .var [.str (N.readMs (n - x.1).toNat x.2.1 x.2.2).2.s, .int .i64 (N.readMs (n - x.1).toNat x.2.1 x.2.2).2.err]), (10001, .sl [.int .u64, .str, .str, .slc [.str, .int .u8, .int .i64, .str], .str, .int .u64, .int .u8] r1 0), (10000, .var [.int .u64 t1, .own 10001 0]), (10003, .sl [.int .u64, .str, .str, .slc [.str, .int .u8, .int .i64, .str], .str, .int .u64, .int .u8] ((N.readMs (n - x.1).toNat x.2.1 x.2.2).1.map cMail.enc) 0), (10002, .var [.int .u64 t, .own 10003 0])] })
      (fun x hx => ?_) (0, ⟨s, e⟩, []) ⟨Nat.zero_le _, by show ((0 : Nat) : Int) ≤ 256; omega, rfl⟩ K q (by simpa using h)
    · exact main
    · obtain ⟨k, i, acc⟩ := x
      obtain ⟨k1, k2, k3⟩ := hx
      simp only at k1 k2 k3 ⊢
      by_cases hl : (k : Int) < n
      · have ef : (n - (k : Int)).toNat = (n - ((k + 1 : Nat) : Int)).toNat + 1 := by omega
        have w : IntKind.wrap .u64 ((k : Int) + 1) = (k : Int) + 1 := wr_u64 (by omega) (by omega)
        rw [ef]
        cases he : i.err == 0 with
        | true =>
          refine .inl ⟨(k + 1, (N.mailRead i).2, acc ++ [(N.mailRead i).1]), ⟨by simp only [List.length_append, List.length_cons, List.length_nil]; omega, by simp only; omega, by simp only [List.length_append, List.length_cons, List.length_nil]; omega⟩, by simp only; omega, fun K => ?_, fun K => ?_⟩
          · rw [q_rReadR]
            have ei : ({ s := i.s, err := i.err } : InS) = i := rfl
            simp (disch := omega) only [evs, he, w, ei, fold_enc]
            rw [List.map_append]
            rfl
          · show K _ { fr := _, tab := [(0, .var [.str (cond (i.err == 0) (N.readMs (n - ((k + 1 : Nat) : Int)).toNat (N.mailRead i).2 (acc ++ [(N.mailRead i).1])) (acc, i)).2.s, .int .i64 (cond (i.err == 0) (N.readMs (n - ((k + 1 : Nat) : Int)).toNat (N.mailRead i).2 (acc ++ [(N.mailRead i).1])) (acc, i)).2.err]), _, _, (10003, .sl [.int .u64, .str, .str, .slc [.str, .int .u8, .int .i64, .str], .str, .int .u64, .int .u8] ((cond (i.err == 0) (N.readMs (n - ((k + 1 : Nat) : Int)).toNat (N.mailRead i).2 (acc ++ [(N.mailRead i).1])) (acc, i)).1.map cMail.enc) 0), _] } = _
            rw [he]
            rfl
        | false =>
          refine .inr ⟨.exit 1, { fr := [(0, .ptr 0 0 0 0), (2, .ptr 10000 0 0 0), (3, .ptr 10002 0 0 0)], tab := [(0, .var [.str i.s, .int .i64 i.err]), (10001, .sl [.int .u64, .str, .str, .slc [.str, .int .u8, .int .i64, .str], .str, .int .u64, .int .u8] r1 0), (10000, .var [.int .u64 t1, .own 10001 0]), (10003, .sl [.int .u64, .str, .str, .slc [.str, .int .u8, .int .i64, .str], .str, .int .u64, .int .u8] (acc.map cMail.enc) 0), (10002, .var [.int .u64 t, .own 10003 0])] }, by simp, fun K => ?_, fun K => ?_⟩
          · rw [q_rReadR]
            simp (disch := omega) only [evs, he]
          · have e0 : N.readMs ((n - ((k + 1 : Nat) : Int)).toNat + 1) i acc = (acc, i) := by
              unfold N.readMs
              rw [he]; rfl
            rw [e0]
      · have ef : (n - (k : Int)).toNat = 0 := by omega
        rw [ef]
        refine .inr ⟨.exit 1, { fr := [(0, .ptr 0 0 0 0), (2, .ptr 10000 0 0 0), (3, .ptr 10002 0 0 0)], tab := [(0, .var [.str i.s, .int .i64 i.err]), (10001, .sl [.int .u64, .str, .str, .slc [.str, .int .u8, .int .i64, .str], .str, .int .u64, .int .u8] r1 0), (10000, .var [.int .u64 t1, .own 10001 0]), (10003, .sl [.int .u64, .str, .str, .slc [.str, .int .u8, .int .i64, .str], .str, .int .u64, .int .u8] (acc.map cMail.enc) 0), (10002, .var [.int .u64 t, .own 10003 0])] }, by simp, fun K => ?_, fun K => rfl⟩
        rw [q_rReadR]
        simp (disch := omega) only [evs]
  · cases h
theorem ok_riseRead : FnOk Tryz.prog 8 dRiseRead := by
  refine den_okF (env_ok (((((TOk.nil _).cons ok_mailRead).cons ok_inErr).cons ok_fail).cons ok_num)) (E := eRRead) Tryz.func8 [9] (by kernel_rfl) (one1 ok_rRead9) fun _ i _ => ?_
  refine (q_rRead i).trans ?_
  have hn := inNum1 (N.inNum i 8).2
  show _ = some (⟨.agg (cRise.enc (N.riseRead i).1), [cIn.enc (N.riseRead i).2], []⟩ : DRes)
  have er : N.riseRead i = N.rrE (N.inNum i 8).1 (N.readMs (N.rrN i).1.toNat (N.rrI i) []) := rfl
  rw [er]
  have en : N.rrN i = N.inNum (N.inNum i 8).2 1 := rfl
  unfold N.rrI
  rw [en]
  generalize N.inNum (N.inNum i 8).2 1 = b at *
  generalize (N.inNum i 8).1 = t at *
  have hb : ile b.1 255 = true := ile_t (by omega)
  simp only [hb, cond_true]
  have fin : ∀ z : InS, cond ((N.readMs b.1.toNat z []).2.err != 0) (some (⟨.agg [.int .u64 0, .slc [.int .u64, .str, .str, .slc [.str, .int .u8, .int .i64, .str], .str, .int .u64, .int .u8] []], [[.str (N.readMs b.1.toNat z []).2.s, .int .i64 (N.readMs b.1.toNat z []).2.err]], []⟩ : DRes))
      (some (⟨.agg [.int .u64 t, .slc [.int .u64, .str, .str, .slc [.str, .int .u8, .int .i64, .str], .str, .int .u64, .int .u8] ((N.readMs b.1.toNat z []).1.map cMail.enc)], [[.str (N.readMs b.1.toNat z []).2.s, .int .i64 (N.readMs b.1.toNat z []).2.err]], []⟩ : DRes)) = some (⟨.agg (cRise.enc (N.rrE t (N.readMs b.1.toNat z [])).1), [cIn.enc (N.rrE t (N.readMs b.1.toNat z [])).2], []⟩ : DRes) := fun z => by
    unfold N.rrE
    cases (N.readMs b.1.toNat z []).2.err != 0 <;> rfl
  cases b.2.err != 0 with
  | true => exact fin b.2
  | false =>
    cases ilt 16 b.1 with
    | true => exact fin (N.inFail b.2 6)
    | false =>
      cases b.1 != cond (ilt 16 t) 16 t with
      | true => exact fin (N.inFail b.2 7)
      | false => exact fin b.2
end Go.Ev

/- What the statements that play and read rises reckon: each is true; lemmas; the functions that write numbers are premises. -/
namespace Go.Ev
open Go Go.Proofs
set_option maxRecDepth 100000
-- FOLD

def schRPl : SSch := { fr := [(1, .int .u64), (5, .ptr 10000 0 0), (6, .ptr 10001 0 0), (20, .slc [.int .u64, .str, .str, .slc [.str, .int .u8, .int .i64, .str], .str, .int .u64, .int .u8]), (21, .int .i64), (22, .int .i64)], tab := [(10000, .var [.int .u64, .slc [.int .u64, .str, .str, .slc [.str, .int .u8, .int .i64, .str], .str, .int .u64, .int .u8]]), (10001, .var [.int .u64, .slc [.int .u64, .str, .str, .slc [.str, .int .u8, .int .i64, .str], .str, .int .u64, .int .u8]])] }
def gRPl : List Leaf → (Ex → St → Option R) → Option R
  | [.i num, .r r, .i n, .i i, .i t, .r k, .i t2, .r k2], K => cond (n == r.length) (cond (i == 0) (cond (Nat.ble r.length 40) (cond (t == 0) (cond (t2 == 0) (cond (Nat.beq k.length 0) (cond (Nat.beq k2.length 0) (cond ((r.map cMail.dec).all smallM) (cond ((r.map cMail.dec).all N.fineM) (cond (ile 0 num) (cond (ile num 18446744073709551615)
      (K (.exit 0) { fr := [(5, .ptr 10000 0 0 0), (6, .ptr 10001 0 0 0)], tab := [(10000, .var [.int .u64 (N.puts rise0 (r.map cMail.dec)).total, .slc [.int .u64, .str, .str, .slc [.str, .int .u8, .int .i64, .str], .str, .int .u64, .int .u8] ((N.puts rise0 (r.map cMail.dec)).kept.map cMail.enc)]), (10001, .var [.int .u64 (N.puts rise0 (r.map cMail.dec)).total, .slc [.int .u64, .str, .str, .slc [.str, .int .u8, .int .i64, .str], .str, .int .u64, .int .u8] ((N.puts rise0 (r.map cMail.dec)).kept.map cMail.enc)])] }) none) none) none) none) none) none) none) none) none) none) none
  | _, _ => none
noncomputable def eRPl : Env := { env Tryz.prog [(5, dTrue), (16, dLight20), (14, dRisePut), (15, dRisePut), (13, dTold), (18, dOf), (17, dSameR), (19, dSameR), (20, dRiseB), (21, dRiseB), (7, dNew), (8, dRiseRead), (22, dInEnd)] [(8, loopF schRPl gRPl)] [(8, [(0, [1, 5, 6, 20, 21, 22]), (1, [5, 6]), (1000, [4])])] with fz := true }
theorem q_rPl (l : List HMail) (n : Int) : evFn eRPl 4 ((aCons (vSl cMail) (aOne (vInt .u64))).enc (l, n)) ([]) some =
 cond (Nat.ble (List.length (List.map (RCod.dec cMail) (List.map (RCod.enc cMail) l))) (9223372036854775807 : Nat)) (cond (!bif N.lightMs (List.map (RCod.dec cMail) (List.map (RCod.enc cMail) l)) then ile (↑(List.length (List.map (RCod.dec cMail) (List.map (RCod.enc cMail) l))) : Int) (40 : Int) else false) (some { v := V.bool true, bx := [] : DRes }) (cond ((↑(List.length (List.map (RCod.enc cMail) l)) : Int) == (↑(List.length (List.map (RCod.enc cMail) l)) : Int)) (cond (Nat.ble (List.length (List.map (RCod.enc cMail) l)) (40 : Nat)) (cond (List.all (List.map (RCod.dec cMail) (List.map (RCod.enc cMail) l)) smallM) (cond (List.all (List.map (RCod.dec cMail) (List.map (RCod.enc cMail) l)) N.fineM) (cond (ile (0 : Int) n) (cond (ile n (18446744073709551615 : Int)) (cond (goodFineCk { total := HRise.total (N.puts { total := (0 : Int), kept := [] : HRise } (List.map (RCod.dec cMail) (List.map (RCod.enc cMail) l))), kept := List.map (RCod.dec cMail) (List.map (RCod.enc cMail) (HRise.kept (N.puts { total := (0 : Int), kept := [] : HRise } (List.map (RCod.dec cMail) (List.map (RCod.enc cMail) l))))) : HRise }) (cond (goodFineCk { total := HRise.total (N.puts { total := (0 : Int), kept := [] : HRise } (List.map (RCod.dec cMail) (List.map (RCod.enc cMail) l))), kept := List.map (RCod.dec cMail) (List.map (RCod.enc cMail) (HRise.kept (N.puts { total := (0 : Int), kept := [] : HRise } (List.map (RCod.dec cMail) (List.map (RCod.enc cMail) l))))) : HRise }) (cond (N.riseB { total := HRise.total (N.puts { total := (0 : Int), kept := [] : HRise } (List.map (RCod.dec cMail) (List.map (RCod.enc cMail) l))), kept := List.map (RCod.dec cMail) (List.map (RCod.enc cMail) (HRise.kept (N.puts { total := (0 : Int), kept := [] : HRise } (List.map (RCod.dec cMail) (List.map (RCod.enc cMail) l))))) : HRise } == N.riseB { total := HRise.total (N.puts { total := (0 : Int), kept := [] : HRise } (List.map (RCod.dec cMail) (List.map (RCod.enc cMail) l))), kept := List.map (RCod.dec cMail) (List.map (RCod.enc cMail) (HRise.kept (N.puts { total := (0 : Int), kept := [] : HRise } (List.map (RCod.dec cMail) (List.map (RCod.enc cMail) l))))) : HRise }) (cond (bif goodRise { total := HRise.total (Prod.fst (N.riseRead { s := N.riseB { total := HRise.total (N.puts { total := (0 : Int), kept := [] : HRise } (List.map (RCod.dec cMail) (List.map (RCod.enc cMail) l))), kept := List.map (RCod.dec cMail) (List.map (RCod.enc cMail) (HRise.kept (N.puts { total := (0 : Int), kept := [] : HRise } (List.map (RCod.dec cMail) (List.map (RCod.enc cMail) l))))) : HRise }, err := (0 : Int) : InS })), kept := List.map (RCod.dec cMail) (List.map (RCod.enc cMail) (HRise.kept (Prod.fst (N.riseRead { s := N.riseB { total := HRise.total (N.puts { total := (0 : Int), kept := [] : HRise } (List.map (RCod.dec cMail) (List.map (RCod.enc cMail) l))), kept := List.map (RCod.dec cMail) (List.map (RCod.enc cMail) (HRise.kept (N.puts { total := (0 : Int), kept := [] : HRise } (List.map (RCod.dec cMail) (List.map (RCod.enc cMail) l))))) : HRise }, err := (0 : Int) : InS })))) : HRise } then goodRise { total := HRise.total (N.puts { total := (0 : Int), kept := [] : HRise } (List.map (RCod.dec cMail) (List.map (RCod.enc cMail) l))), kept := List.map (RCod.dec cMail) (List.map (RCod.enc cMail) (HRise.kept (N.puts { total := (0 : Int), kept := [] : HRise } (List.map (RCod.dec cMail) (List.map (RCod.enc cMail) l))))) : HRise } else false) (cond (N.sameR { total := HRise.total (Prod.fst (N.riseRead { s := N.riseB { total := HRise.total (N.puts { total := (0 : Int), kept := [] : HRise } (List.map (RCod.dec cMail) (List.map (RCod.enc cMail) l))), kept := List.map (RCod.dec cMail) (List.map (RCod.enc cMail) (HRise.kept (N.puts { total := (0 : Int), kept := [] : HRise } (List.map (RCod.dec cMail) (List.map (RCod.enc cMail) l))))) : HRise }, err := (0 : Int) : InS })), kept := List.map (RCod.dec cMail) (List.map (RCod.enc cMail) (HRise.kept (Prod.fst (N.riseRead { s := N.riseB { total := HRise.total (N.puts { total := (0 : Int), kept := [] : HRise } (List.map (RCod.dec cMail) (List.map (RCod.enc cMail) l))), kept := List.map (RCod.dec cMail) (List.map (RCod.enc cMail) (HRise.kept (N.puts { total := (0 : Int), kept := [] : HRise } (List.map (RCod.dec cMail) (List.map (RCod.enc cMail) l))))) : HRise }, err := (0 : Int) : InS })))) : HRise } { total := HRise.total (N.puts { total := (0 : Int), kept := [] : HRise } (List.map (RCod.dec cMail) (List.map (RCod.enc cMail) l))), kept := List.map (RCod.dec cMail) (List.map (RCod.enc cMail) (HRise.kept (N.puts { total := (0 : Int), kept := [] : HRise } (List.map (RCod.dec cMail) (List.map (RCod.enc cMail) l))))) : HRise }) (some { v := V.bool ((bif InS.err (Prod.snd (N.riseRead { s := N.riseB { total := HRise.total (N.puts { total := (0 : Int), kept := [] : HRise } (List.map (RCod.dec cMail) (List.map (RCod.enc cMail) l))), kept := List.map (RCod.dec cMail) (List.map (RCod.enc cMail) (HRise.kept (N.puts { total := (0 : Int), kept := [] : HRise } (List.map (RCod.dec cMail) (List.map (RCod.enc cMail) l))))) : HRise }, err := (0 : Int) : InS })) == (0 : Int) then bif ilt (0 : Int) (↑(List.length (InS.s (Prod.snd (N.riseRead { s := N.riseB { total := HRise.total (N.puts { total := (0 : Int), kept := [] : HRise } (List.map (RCod.dec cMail) (List.map (RCod.enc cMail) l))), kept := List.map (RCod.dec cMail) (List.map (RCod.enc cMail) (HRise.kept (N.puts { total := (0 : Int), kept := [] : HRise } (List.map (RCod.dec cMail) (List.map (RCod.enc cMail) l))))) : HRise }, err := (0 : Int) : InS })))) : Int) then (4 : Int) else (0 : Int) else InS.err (Prod.snd (N.riseRead { s := N.riseB { total := HRise.total (N.puts { total := (0 : Int), kept := [] : HRise } (List.map (RCod.dec cMail) (List.map (RCod.enc cMail) l))), kept := List.map (RCod.dec cMail) (List.map (RCod.enc cMail) (HRise.kept (N.puts { total := (0 : Int), kept := [] : HRise } (List.map (RCod.dec cMail) (List.map (RCod.enc cMail) l))))) : HRise }, err := (0 : Int) : InS }))) == (0 : Int)), bx := [] : DRes }) (some { v := V.bool false, bx := [] : DRes })) (none)) (some { v := V.bool false, bx := [] : DRes })) (none)) (none)) (none)) (none)) (none)) (none)) (none)) (none))) (none) := by kernel_rfl
theorem q_rPlR (num : Int) (r : List (List V)) (n i t : Int) (k : List (List V)) (t2 : Int) (k2 : List (List V)) (K : Ex → St → Option R) : evRound eRPl 4 8 { fr := [(1, .int .u64 num), (5, .ptr 10000 0 0 0), (6, .ptr 10001 0 0 0), (20, .slc [.int .u64, .str, .str, .slc [.str, .int .u8, .int .i64, .str], .str, .int .u64, .int .u8] r), (21, .int .i64 n), (22, .int .i64 i)], tab := [(10000, .var [.int .u64 t, .slc [.int .u64, .str, .str, .slc [.str, .int .u8, .int .i64, .str], .str, .int .u64, .int .u8] k]), (10001, .var [.int .u64 t2, .slc [.int .u64, .str, .str, .slc [.str, .int .u8, .int .i64, .str], .str, .int .u64, .int .u8] k2])] } K =
 cond (ilt i n) (cond (decide ((0 : Int) ≤ i ∧ i < (↑(List.length r) : Int))) (cond (bif goodRise { total := t, kept := List.map (RCod.dec cMail) k : HRise } then smallM { id := V.toInt (List.getD (List.getD r (Int.toNat i) []) (0 : Nat) V.undef), shop := V.toStr (List.getD (List.getD r (Int.toNat i) []) (1 : Nat) V.undef), key := V.toStr (List.getD (List.getD r (Int.toNat i) []) (2 : Nat) V.undef), head := List.map (fun r => { key := V.toStr (List.getD r (0 : Nat) V.undef), kind := V.toInt (List.getD r (1 : Nat) V.undef), num := V.toInt (List.getD r (2 : Nat) V.undef), text := V.toStr (List.getD r (3 : Nat) V.undef) : HPair }) (V.toRows (List.getD (List.getD r (Int.toNat i) []) (3 : Nat) V.undef)), body := V.toStr (List.getD (List.getD r (Int.toNat i) []) (4 : Nat) V.undef), due := V.toInt (List.getD (List.getD r (Int.toNat i) []) (5 : Nat) V.undef), hops := V.toInt (List.getD (List.getD r (Int.toNat i) []) (6 : Nat) V.undef) : HMail } else false) (cond (bif goodRise { total := t2, kept := List.map (RCod.dec cMail) k2 : HRise } then smallM { id := V.toInt (List.getD (List.getD r (Int.toNat i) []) (0 : Nat) V.undef), shop := V.toStr (List.getD (List.getD r (Int.toNat i) []) (1 : Nat) V.undef), key := V.toStr (List.getD (List.getD r (Int.toNat i) []) (2 : Nat) V.undef), head := List.map (fun r => { key := V.toStr (List.getD r (0 : Nat) V.undef), kind := V.toInt (List.getD r (1 : Nat) V.undef), num := V.toInt (List.getD r (2 : Nat) V.undef), text := V.toStr (List.getD r (3 : Nat) V.undef) : HPair }) (V.toRows (List.getD (List.getD r (Int.toNat i) []) (3 : Nat) V.undef)), body := V.toStr (List.getD (List.getD r (Int.toNat i) []) (4 : Nat) V.undef), due := V.toInt (List.getD (List.getD r (Int.toNat i) []) (5 : Nat) V.undef), hops := V.toInt (List.getD (List.getD r (Int.toNat i) []) (6 : Nat) V.undef) : HMail } else false) (cond (Prod.snd (N.risePut { total := t, kept := List.map (RCod.dec cMail) k : HRise } { id := V.toInt (List.getD (List.getD r (Int.toNat i) []) (0 : Nat) V.undef), shop := V.toStr (List.getD (List.getD r (Int.toNat i) []) (1 : Nat) V.undef), key := V.toStr (List.getD (List.getD r (Int.toNat i) []) (2 : Nat) V.undef), head := List.map (fun r => { key := V.toStr (List.getD r (0 : Nat) V.undef), kind := V.toInt (List.getD r (1 : Nat) V.undef), num := V.toInt (List.getD r (2 : Nat) V.undef), text := V.toStr (List.getD r (3 : Nat) V.undef) : HPair }) (V.toRows (List.getD (List.getD r (Int.toNat i) []) (3 : Nat) V.undef)), body := V.toStr (List.getD (List.getD r (Int.toNat i) []) (4 : Nat) V.undef), due := V.toInt (List.getD (List.getD r (Int.toNat i) []) (5 : Nat) V.undef), hops := V.toInt (List.getD (List.getD r (Int.toNat i) []) (6 : Nat) V.undef) : HMail }) != Prod.snd (N.risePut { total := t2, kept := List.map (RCod.dec cMail) k2 : HRise } { id := V.toInt (List.getD (List.getD r (Int.toNat i) []) (0 : Nat) V.undef), shop := V.toStr (List.getD (List.getD r (Int.toNat i) []) (1 : Nat) V.undef), key := V.toStr (List.getD (List.getD r (Int.toNat i) []) (2 : Nat) V.undef), head := List.map (fun r => { key := V.toStr (List.getD r (0 : Nat) V.undef), kind := V.toInt (List.getD r (1 : Nat) V.undef), num := V.toInt (List.getD r (2 : Nat) V.undef), text := V.toStr (List.getD r (3 : Nat) V.undef) : HPair }) (V.toRows (List.getD (List.getD r (Int.toNat i) []) (3 : Nat) V.undef)), body := V.toStr (List.getD (List.getD r (Int.toNat i) []) (4 : Nat) V.undef), due := V.toInt (List.getD (List.getD r (Int.toNat i) []) (5 : Nat) V.undef), hops := V.toInt (List.getD (List.getD r (Int.toNat i) []) (6 : Nat) V.undef) : HMail })) (K Ex.ret { fr := [((4 : Nat), V.bool false)], tab := [] : St }) (cond (bif fullFine { total := HRise.total (Prod.fst (N.risePut { total := t, kept := List.map (RCod.dec cMail) k : HRise } { id := V.toInt (List.getD (List.getD r (Int.toNat i) []) (0 : Nat) V.undef), shop := V.toStr (List.getD (List.getD r (Int.toNat i) []) (1 : Nat) V.undef), key := V.toStr (List.getD (List.getD r (Int.toNat i) []) (2 : Nat) V.undef), head := List.map (fun r => { key := V.toStr (List.getD r (0 : Nat) V.undef), kind := V.toInt (List.getD r (1 : Nat) V.undef), num := V.toInt (List.getD r (2 : Nat) V.undef), text := V.toStr (List.getD r (3 : Nat) V.undef) : HPair }) (V.toRows (List.getD (List.getD r (Int.toNat i) []) (3 : Nat) V.undef)), body := V.toStr (List.getD (List.getD r (Int.toNat i) []) (4 : Nat) V.undef), due := V.toInt (List.getD (List.getD r (Int.toNat i) []) (5 : Nat) V.undef), hops := V.toInt (List.getD (List.getD r (Int.toNat i) []) (6 : Nat) V.undef) : HMail })), kept := List.map (RCod.dec cMail) (List.map (RCod.enc cMail) (HRise.kept (Prod.fst (N.risePut { total := t, kept := List.map (RCod.dec cMail) k : HRise } { id := V.toInt (List.getD (List.getD r (Int.toNat i) []) (0 : Nat) V.undef), shop := V.toStr (List.getD (List.getD r (Int.toNat i) []) (1 : Nat) V.undef), key := V.toStr (List.getD (List.getD r (Int.toNat i) []) (2 : Nat) V.undef), head := List.map (fun r => { key := V.toStr (List.getD r (0 : Nat) V.undef), kind := V.toInt (List.getD r (1 : Nat) V.undef), num := V.toInt (List.getD r (2 : Nat) V.undef), text := V.toStr (List.getD r (3 : Nat) V.undef) : HPair }) (V.toRows (List.getD (List.getD r (Int.toNat i) []) (3 : Nat) V.undef)), body := V.toStr (List.getD (List.getD r (Int.toNat i) []) (4 : Nat) V.undef), due := V.toInt (List.getD (List.getD r (Int.toNat i) []) (5 : Nat) V.undef), hops := V.toInt (List.getD (List.getD r (Int.toNat i) []) (6 : Nat) V.undef) : HMail })))) : HRise } then bif fullFine { total := HRise.total (Prod.fst (N.risePut { total := t2, kept := List.map (RCod.dec cMail) k2 : HRise } { id := V.toInt (List.getD (List.getD r (Int.toNat i) []) (0 : Nat) V.undef), shop := V.toStr (List.getD (List.getD r (Int.toNat i) []) (1 : Nat) V.undef), key := V.toStr (List.getD (List.getD r (Int.toNat i) []) (2 : Nat) V.undef), head := List.map (fun r => { key := V.toStr (List.getD r (0 : Nat) V.undef), kind := V.toInt (List.getD r (1 : Nat) V.undef), num := V.toInt (List.getD r (2 : Nat) V.undef), text := V.toStr (List.getD r (3 : Nat) V.undef) : HPair }) (V.toRows (List.getD (List.getD r (Int.toNat i) []) (3 : Nat) V.undef)), body := V.toStr (List.getD (List.getD r (Int.toNat i) []) (4 : Nat) V.undef), due := V.toInt (List.getD (List.getD r (Int.toNat i) []) (5 : Nat) V.undef), hops := V.toInt (List.getD (List.getD r (Int.toNat i) []) (6 : Nat) V.undef) : HMail })), kept := List.map (RCod.dec cMail) (List.map (RCod.enc cMail) (HRise.kept (Prod.fst (N.risePut { total := t2, kept := List.map (RCod.dec cMail) k2 : HRise } { id := V.toInt (List.getD (List.getD r (Int.toNat i) []) (0 : Nat) V.undef), shop := V.toStr (List.getD (List.getD r (Int.toNat i) []) (1 : Nat) V.undef), key := V.toStr (List.getD (List.getD r (Int.toNat i) []) (2 : Nat) V.undef), head := List.map (fun r => { key := V.toStr (List.getD r (0 : Nat) V.undef), kind := V.toInt (List.getD r (1 : Nat) V.undef), num := V.toInt (List.getD r (2 : Nat) V.undef), text := V.toStr (List.getD r (3 : Nat) V.undef) : HPair }) (V.toRows (List.getD (List.getD r (Int.toNat i) []) (3 : Nat) V.undef)), body := V.toStr (List.getD (List.getD r (Int.toNat i) []) (4 : Nat) V.undef), due := V.toInt (List.getD (List.getD r (Int.toNat i) []) (5 : Nat) V.undef), hops := V.toInt (List.getD (List.getD r (Int.toNat i) []) (6 : Nat) V.undef) : HMail })))) : HRise } then bif ile (0 : Int) num then ile num (18446744073709551615 : Int) else false else false else false) (cond (!N.toldR { total := HRise.total (Prod.fst (N.risePut { total := t, kept := List.map (RCod.dec cMail) k : HRise } { id := V.toInt (List.getD (List.getD r (Int.toNat i) []) (0 : Nat) V.undef), shop := V.toStr (List.getD (List.getD r (Int.toNat i) []) (1 : Nat) V.undef), key := V.toStr (List.getD (List.getD r (Int.toNat i) []) (2 : Nat) V.undef), head := List.map (fun r => { key := V.toStr (List.getD r (0 : Nat) V.undef), kind := V.toInt (List.getD r (1 : Nat) V.undef), num := V.toInt (List.getD r (2 : Nat) V.undef), text := V.toStr (List.getD r (3 : Nat) V.undef) : HPair }) (V.toRows (List.getD (List.getD r (Int.toNat i) []) (3 : Nat) V.undef)), body := V.toStr (List.getD (List.getD r (Int.toNat i) []) (4 : Nat) V.undef), due := V.toInt (List.getD (List.getD r (Int.toNat i) []) (5 : Nat) V.undef), hops := V.toInt (List.getD (List.getD r (Int.toNat i) []) (6 : Nat) V.undef) : HMail })), kept := List.map (RCod.dec cMail) (List.map (RCod.enc cMail) (HRise.kept (Prod.fst (N.risePut { total := t, kept := List.map (RCod.dec cMail) k : HRise } { id := V.toInt (List.getD (List.getD r (Int.toNat i) []) (0 : Nat) V.undef), shop := V.toStr (List.getD (List.getD r (Int.toNat i) []) (1 : Nat) V.undef), key := V.toStr (List.getD (List.getD r (Int.toNat i) []) (2 : Nat) V.undef), head := List.map (fun r => { key := V.toStr (List.getD r (0 : Nat) V.undef), kind := V.toInt (List.getD r (1 : Nat) V.undef), num := V.toInt (List.getD r (2 : Nat) V.undef), text := V.toStr (List.getD r (3 : Nat) V.undef) : HPair }) (V.toRows (List.getD (List.getD r (Int.toNat i) []) (3 : Nat) V.undef)), body := V.toStr (List.getD (List.getD r (Int.toNat i) []) (4 : Nat) V.undef), due := V.toInt (List.getD (List.getD r (Int.toNat i) []) (5 : Nat) V.undef), hops := V.toInt (List.getD (List.getD r (Int.toNat i) []) (6 : Nat) V.undef) : HMail })))) : HRise } { total := HRise.total (Prod.fst (N.risePut { total := t2, kept := List.map (RCod.dec cMail) k2 : HRise } { id := V.toInt (List.getD (List.getD r (Int.toNat i) []) (0 : Nat) V.undef), shop := V.toStr (List.getD (List.getD r (Int.toNat i) []) (1 : Nat) V.undef), key := V.toStr (List.getD (List.getD r (Int.toNat i) []) (2 : Nat) V.undef), head := List.map (fun r => { key := V.toStr (List.getD r (0 : Nat) V.undef), kind := V.toInt (List.getD r (1 : Nat) V.undef), num := V.toInt (List.getD r (2 : Nat) V.undef), text := V.toStr (List.getD r (3 : Nat) V.undef) : HPair }) (V.toRows (List.getD (List.getD r (Int.toNat i) []) (3 : Nat) V.undef)), body := V.toStr (List.getD (List.getD r (Int.toNat i) []) (4 : Nat) V.undef), due := V.toInt (List.getD (List.getD r (Int.toNat i) []) (5 : Nat) V.undef), hops := V.toInt (List.getD (List.getD r (Int.toNat i) []) (6 : Nat) V.undef) : HMail })), kept := List.map (RCod.dec cMail) (List.map (RCod.enc cMail) (HRise.kept (Prod.fst (N.risePut { total := t2, kept := List.map (RCod.dec cMail) k2 : HRise } { id := V.toInt (List.getD (List.getD r (Int.toNat i) []) (0 : Nat) V.undef), shop := V.toStr (List.getD (List.getD r (Int.toNat i) []) (1 : Nat) V.undef), key := V.toStr (List.getD (List.getD r (Int.toNat i) []) (2 : Nat) V.undef), head := List.map (fun r => { key := V.toStr (List.getD r (0 : Nat) V.undef), kind := V.toInt (List.getD r (1 : Nat) V.undef), num := V.toInt (List.getD r (2 : Nat) V.undef), text := V.toStr (List.getD r (3 : Nat) V.undef) : HPair }) (V.toRows (List.getD (List.getD r (Int.toNat i) []) (3 : Nat) V.undef)), body := V.toStr (List.getD (List.getD r (Int.toNat i) []) (4 : Nat) V.undef), due := V.toInt (List.getD (List.getD r (Int.toNat i) []) (5 : Nat) V.undef), hops := V.toInt (List.getD (List.getD r (Int.toNat i) []) (6 : Nat) V.undef) : HMail })))) : HRise } num) (K Ex.ret { fr := [((4 : Nat), V.bool false)], tab := [] : St }) (cond (goodRise { total := t, kept := List.map (RCod.dec cMail) k : HRise }) (cond (bif goodRise { total := t, kept := List.map (RCod.dec cMail) (List.map (RCod.enc cMail) (List.map (RCod.dec cMail) k)) : HRise } then goodRise { total := t2, kept := List.map (RCod.dec cMail) k2 : HRise } else false) (cond (!N.sameR { total := t, kept := List.map (RCod.dec cMail) (List.map (RCod.enc cMail) (List.map (RCod.dec cMail) k)) : HRise } { total := t2, kept := List.map (RCod.dec cMail) k2 : HRise }) (K Ex.ret { fr := [((4 : Nat), V.bool false)], tab := [] : St }) (cond (bif goodRise { total := t, kept := List.map (RCod.dec cMail) k : HRise } then goodRise { total := HRise.total (Prod.fst (N.risePut { total := t, kept := List.map (RCod.dec cMail) k : HRise } { id := V.toInt (List.getD (List.getD r (Int.toNat i) []) (0 : Nat) V.undef), shop := V.toStr (List.getD (List.getD r (Int.toNat i) []) (1 : Nat) V.undef), key := V.toStr (List.getD (List.getD r (Int.toNat i) []) (2 : Nat) V.undef), head := List.map (fun r => { key := V.toStr (List.getD r (0 : Nat) V.undef), kind := V.toInt (List.getD r (1 : Nat) V.undef), num := V.toInt (List.getD r (2 : Nat) V.undef), text := V.toStr (List.getD r (3 : Nat) V.undef) : HPair }) (V.toRows (List.getD (List.getD r (Int.toNat i) []) (3 : Nat) V.undef)), body := V.toStr (List.getD (List.getD r (Int.toNat i) []) (4 : Nat) V.undef), due := V.toInt (List.getD (List.getD r (Int.toNat i) []) (5 : Nat) V.undef), hops := V.toInt (List.getD (List.getD r (Int.toNat i) []) (6 : Nat) V.undef) : HMail })), kept := List.map (RCod.dec cMail) (List.map (RCod.enc cMail) (HRise.kept (Prod.fst (N.risePut { total := t, kept := List.map (RCod.dec cMail) k : HRise } { id := V.toInt (List.getD (List.getD r (Int.toNat i) []) (0 : Nat) V.undef), shop := V.toStr (List.getD (List.getD r (Int.toNat i) []) (1 : Nat) V.undef), key := V.toStr (List.getD (List.getD r (Int.toNat i) []) (2 : Nat) V.undef), head := List.map (fun r => { key := V.toStr (List.getD r (0 : Nat) V.undef), kind := V.toInt (List.getD r (1 : Nat) V.undef), num := V.toInt (List.getD r (2 : Nat) V.undef), text := V.toStr (List.getD r (3 : Nat) V.undef) : HPair }) (V.toRows (List.getD (List.getD r (Int.toNat i) []) (3 : Nat) V.undef)), body := V.toStr (List.getD (List.getD r (Int.toNat i) []) (4 : Nat) V.undef), due := V.toInt (List.getD (List.getD r (Int.toNat i) []) (5 : Nat) V.undef), hops := V.toInt (List.getD (List.getD r (Int.toNat i) []) (6 : Nat) V.undef) : HMail })))) : HRise } else false) (cond (bif goodRise { total := t2, kept := List.map (RCod.dec cMail) k2 : HRise } then goodRise { total := HRise.total (Prod.fst (N.risePut { total := t2, kept := List.map (RCod.dec cMail) k2 : HRise } { id := V.toInt (List.getD (List.getD r (Int.toNat i) []) (0 : Nat) V.undef), shop := V.toStr (List.getD (List.getD r (Int.toNat i) []) (1 : Nat) V.undef), key := V.toStr (List.getD (List.getD r (Int.toNat i) []) (2 : Nat) V.undef), head := List.map (fun r => { key := V.toStr (List.getD r (0 : Nat) V.undef), kind := V.toInt (List.getD r (1 : Nat) V.undef), num := V.toInt (List.getD r (2 : Nat) V.undef), text := V.toStr (List.getD r (3 : Nat) V.undef) : HPair }) (V.toRows (List.getD (List.getD r (Int.toNat i) []) (3 : Nat) V.undef)), body := V.toStr (List.getD (List.getD r (Int.toNat i) []) (4 : Nat) V.undef), due := V.toInt (List.getD (List.getD r (Int.toNat i) []) (5 : Nat) V.undef), hops := V.toInt (List.getD (List.getD r (Int.toNat i) []) (6 : Nat) V.undef) : HMail })), kept := List.map (RCod.dec cMail) (List.map (RCod.enc cMail) (HRise.kept (Prod.fst (N.risePut { total := t2, kept := List.map (RCod.dec cMail) k2 : HRise } { id := V.toInt (List.getD (List.getD r (Int.toNat i) []) (0 : Nat) V.undef), shop := V.toStr (List.getD (List.getD r (Int.toNat i) []) (1 : Nat) V.undef), key := V.toStr (List.getD (List.getD r (Int.toNat i) []) (2 : Nat) V.undef), head := List.map (fun r => { key := V.toStr (List.getD r (0 : Nat) V.undef), kind := V.toInt (List.getD r (1 : Nat) V.undef), num := V.toInt (List.getD r (2 : Nat) V.undef), text := V.toStr (List.getD r (3 : Nat) V.undef) : HPair }) (V.toRows (List.getD (List.getD r (Int.toNat i) []) (3 : Nat) V.undef)), body := V.toStr (List.getD (List.getD r (Int.toNat i) []) (4 : Nat) V.undef), due := V.toInt (List.getD (List.getD r (Int.toNat i) []) (5 : Nat) V.undef), hops := V.toInt (List.getD (List.getD r (Int.toNat i) []) (6 : Nat) V.undef) : HMail })))) : HRise } else false) (cond (!N.sameR { total := t, kept := List.map (RCod.dec cMail) k : HRise } { total := HRise.total (Prod.fst (N.risePut { total := t, kept := List.map (RCod.dec cMail) k : HRise } { id := V.toInt (List.getD (List.getD r (Int.toNat i) []) (0 : Nat) V.undef), shop := V.toStr (List.getD (List.getD r (Int.toNat i) []) (1 : Nat) V.undef), key := V.toStr (List.getD (List.getD r (Int.toNat i) []) (2 : Nat) V.undef), head := List.map (fun r => { key := V.toStr (List.getD r (0 : Nat) V.undef), kind := V.toInt (List.getD r (1 : Nat) V.undef), num := V.toInt (List.getD r (2 : Nat) V.undef), text := V.toStr (List.getD r (3 : Nat) V.undef) : HPair }) (V.toRows (List.getD (List.getD r (Int.toNat i) []) (3 : Nat) V.undef)), body := V.toStr (List.getD (List.getD r (Int.toNat i) []) (4 : Nat) V.undef), due := V.toInt (List.getD (List.getD r (Int.toNat i) []) (5 : Nat) V.undef), hops := V.toInt (List.getD (List.getD r (Int.toNat i) []) (6 : Nat) V.undef) : HMail })), kept := List.map (RCod.dec cMail) (List.map (RCod.enc cMail) (HRise.kept (Prod.fst (N.risePut { total := t, kept := List.map (RCod.dec cMail) k : HRise } { id := V.toInt (List.getD (List.getD r (Int.toNat i) []) (0 : Nat) V.undef), shop := V.toStr (List.getD (List.getD r (Int.toNat i) []) (1 : Nat) V.undef), key := V.toStr (List.getD (List.getD r (Int.toNat i) []) (2 : Nat) V.undef), head := List.map (fun r => { key := V.toStr (List.getD r (0 : Nat) V.undef), kind := V.toInt (List.getD r (1 : Nat) V.undef), num := V.toInt (List.getD r (2 : Nat) V.undef), text := V.toStr (List.getD r (3 : Nat) V.undef) : HPair }) (V.toRows (List.getD (List.getD r (Int.toNat i) []) (3 : Nat) V.undef)), body := V.toStr (List.getD (List.getD r (Int.toNat i) []) (4 : Nat) V.undef), due := V.toInt (List.getD (List.getD r (Int.toNat i) []) (5 : Nat) V.undef), hops := V.toInt (List.getD (List.getD r (Int.toNat i) []) (6 : Nat) V.undef) : HMail })))) : HRise } == N.sameR { total := t2, kept := List.map (RCod.dec cMail) k2 : HRise } { total := HRise.total (Prod.fst (N.risePut { total := t2, kept := List.map (RCod.dec cMail) k2 : HRise } { id := V.toInt (List.getD (List.getD r (Int.toNat i) []) (0 : Nat) V.undef), shop := V.toStr (List.getD (List.getD r (Int.toNat i) []) (1 : Nat) V.undef), key := V.toStr (List.getD (List.getD r (Int.toNat i) []) (2 : Nat) V.undef), head := List.map (fun r => { key := V.toStr (List.getD r (0 : Nat) V.undef), kind := V.toInt (List.getD r (1 : Nat) V.undef), num := V.toInt (List.getD r (2 : Nat) V.undef), text := V.toStr (List.getD r (3 : Nat) V.undef) : HPair }) (V.toRows (List.getD (List.getD r (Int.toNat i) []) (3 : Nat) V.undef)), body := V.toStr (List.getD (List.getD r (Int.toNat i) []) (4 : Nat) V.undef), due := V.toInt (List.getD (List.getD r (Int.toNat i) []) (5 : Nat) V.undef), hops := V.toInt (List.getD (List.getD r (Int.toNat i) []) (6 : Nat) V.undef) : HMail })), kept := List.map (RCod.dec cMail) (List.map (RCod.enc cMail) (HRise.kept (Prod.fst (N.risePut { total := t2, kept := List.map (RCod.dec cMail) k2 : HRise } { id := V.toInt (List.getD (List.getD r (Int.toNat i) []) (0 : Nat) V.undef), shop := V.toStr (List.getD (List.getD r (Int.toNat i) []) (1 : Nat) V.undef), key := V.toStr (List.getD (List.getD r (Int.toNat i) []) (2 : Nat) V.undef), head := List.map (fun r => { key := V.toStr (List.getD r (0 : Nat) V.undef), kind := V.toInt (List.getD r (1 : Nat) V.undef), num := V.toInt (List.getD r (2 : Nat) V.undef), text := V.toStr (List.getD r (3 : Nat) V.undef) : HPair }) (V.toRows (List.getD (List.getD r (Int.toNat i) []) (3 : Nat) V.undef)), body := V.toStr (List.getD (List.getD r (Int.toNat i) []) (4 : Nat) V.undef), due := V.toInt (List.getD (List.getD r (Int.toNat i) []) (5 : Nat) V.undef), hops := V.toInt (List.getD (List.getD r (Int.toNat i) []) (6 : Nat) V.undef) : HMail })))) : HRise }) (K Ex.ret { fr := [((4 : Nat), V.bool false)], tab := [] : St }) (K Ex.normal { fr := [((1 : Nat), V.int IntKind.u64 num), ((5 : Nat), V.ptr (10000 : Nat) (0 : Nat) (0 : Nat) (0 : Nat)), ((6 : Nat), V.ptr (10001 : Nat) (0 : Nat) (0 : Nat) (0 : Nat)), ((20 : Nat), V.slc [Sh.int IntKind.u64, Sh.str, Sh.str, Sh.slc [Sh.str, Sh.int IntKind.u8, Sh.int IntKind.i64, Sh.str], Sh.str, Sh.int IntKind.u64, Sh.int IntKind.u8] r), ((21 : Nat), V.int IntKind.i64 n), ((22 : Nat), V.int IntKind.i64 (IntKind.wrap IntKind.i64 (i + (1 : Int))))], tab := [((10000 : Nat), Box.var [V.int IntKind.u64 (HRise.total (Prod.fst (N.risePut { total := t, kept := List.map (RCod.dec cMail) k : HRise } { id := V.toInt (List.getD (List.getD r (Int.toNat i) []) (0 : Nat) V.undef), shop := V.toStr (List.getD (List.getD r (Int.toNat i) []) (1 : Nat) V.undef), key := V.toStr (List.getD (List.getD r (Int.toNat i) []) (2 : Nat) V.undef), head := List.map (fun r => { key := V.toStr (List.getD r (0 : Nat) V.undef), kind := V.toInt (List.getD r (1 : Nat) V.undef), num := V.toInt (List.getD r (2 : Nat) V.undef), text := V.toStr (List.getD r (3 : Nat) V.undef) : HPair }) (V.toRows (List.getD (List.getD r (Int.toNat i) []) (3 : Nat) V.undef)), body := V.toStr (List.getD (List.getD r (Int.toNat i) []) (4 : Nat) V.undef), due := V.toInt (List.getD (List.getD r (Int.toNat i) []) (5 : Nat) V.undef), hops := V.toInt (List.getD (List.getD r (Int.toNat i) []) (6 : Nat) V.undef) : HMail }))), V.slc [Sh.int IntKind.u64, Sh.str, Sh.str, Sh.slc [Sh.str, Sh.int IntKind.u8, Sh.int IntKind.i64, Sh.str], Sh.str, Sh.int IntKind.u64, Sh.int IntKind.u8] (List.map (RCod.enc cMail) (HRise.kept (Prod.fst (N.risePut { total := t, kept := List.map (RCod.dec cMail) k : HRise } { id := V.toInt (List.getD (List.getD r (Int.toNat i) []) (0 : Nat) V.undef), shop := V.toStr (List.getD (List.getD r (Int.toNat i) []) (1 : Nat) V.undef), key := V.toStr (List.getD (List.getD r (Int.toNat i) []) (2 : Nat) V.undef), head := List.map (fun r => { key := V.toStr (List.getD r (0 : Nat) V.undef), kind := V.toInt (List.getD r (1 : Nat) V.undef), num := V.toInt (List.getD r (2 : Nat) V.undef), text := V.toStr (List.getD r (3 : Nat) V.undef) : HPair }) (V.toRows (List.getD (List.getD r (Int.toNat i) []) (3 : Nat) V.undef)), body := V.toStr (List.getD (List.getD r (Int.toNat i) []) (4 : Nat) V.undef), due := V.toInt (List.getD (List.getD r (Int.toNat i) []) (5 : Nat) V.undef), hops := V.toInt (List.getD (List.getD r (Int.toNat i) []) (6 : Nat) V.undef) : HMail }))))]), ((10001 : Nat), Box.var [V.int IntKind.u64 (HRise.total (Prod.fst (N.risePut { total := t2, kept := List.map (RCod.dec cMail) k2 : HRise } { id := V.toInt (List.getD (List.getD r (Int.toNat i) []) (0 : Nat) V.undef), shop := V.toStr (List.getD (List.getD r (Int.toNat i) []) (1 : Nat) V.undef), key := V.toStr (List.getD (List.getD r (Int.toNat i) []) (2 : Nat) V.undef), head := List.map (fun r => { key := V.toStr (List.getD r (0 : Nat) V.undef), kind := V.toInt (List.getD r (1 : Nat) V.undef), num := V.toInt (List.getD r (2 : Nat) V.undef), text := V.toStr (List.getD r (3 : Nat) V.undef) : HPair }) (V.toRows (List.getD (List.getD r (Int.toNat i) []) (3 : Nat) V.undef)), body := V.toStr (List.getD (List.getD r (Int.toNat i) []) (4 : Nat) V.undef), due := V.toInt (List.getD (List.getD r (Int.toNat i) []) (5 : Nat) V.undef), hops := V.toInt (List.getD (List.getD r (Int.toNat i) []) (6 : Nat) V.undef) : HMail }))), V.slc [Sh.int IntKind.u64, Sh.str, Sh.str, Sh.slc [Sh.str, Sh.int IntKind.u8, Sh.int IntKind.i64, Sh.str], Sh.str, Sh.int IntKind.u64, Sh.int IntKind.u8] (List.map (RCod.enc cMail) (HRise.kept (Prod.fst (N.risePut { total := t2, kept := List.map (RCod.dec cMail) k2 : HRise } { id := V.toInt (List.getD (List.getD r (Int.toNat i) []) (0 : Nat) V.undef), shop := V.toStr (List.getD (List.getD r (Int.toNat i) []) (1 : Nat) V.undef), key := V.toStr (List.getD (List.getD r (Int.toNat i) []) (2 : Nat) V.undef), head := List.map (fun r => { key := V.toStr (List.getD r (0 : Nat) V.undef), kind := V.toInt (List.getD r (1 : Nat) V.undef), num := V.toInt (List.getD r (2 : Nat) V.undef), text := V.toStr (List.getD r (3 : Nat) V.undef) : HPair }) (V.toRows (List.getD (List.getD r (Int.toNat i) []) (3 : Nat) V.undef)), body := V.toStr (List.getD (List.getD r (Int.toNat i) []) (4 : Nat) V.undef), due := V.toInt (List.getD (List.getD r (Int.toNat i) []) (5 : Nat) V.undef), hops := V.toInt (List.getD (List.getD r (Int.toNat i) []) (6 : Nat) V.undef) : HMail }))))])] : St })) (none)) (none))) (none)) (none))) (none))) (none)) (none)) (none)) (K (Ex.exit (0 : Nat)) { fr := [((5 : Nat), V.ptr (10000 : Nat) (0 : Nat) (0 : Nat) (0 : Nat)), ((6 : Nat), V.ptr (10001 : Nat) (0 : Nat) (0 : Nat) (0 : Nat))], tab := [((10000 : Nat), Box.var [V.int IntKind.u64 t, V.slc [Sh.int IntKind.u64, Sh.str, Sh.str, Sh.slc [Sh.str, Sh.int IntKind.u8, Sh.int IntKind.i64, Sh.str], Sh.str, Sh.int IntKind.u64, Sh.int IntKind.u8] k]), ((10001 : Nat), Box.var [V.int IntKind.u64 t2, V.slc [Sh.int IntKind.u64, Sh.str, Sh.str, Sh.slc [Sh.str, Sh.int IntKind.u8, Sh.int IntKind.i64, Sh.str], Sh.str, Sh.int IntKind.u64, Sh.int IntKind.u8] k2])] : St }) := by kernel_rfl
theorem fine_okM {l : List HMail} (h : l.all N.fineM = true) : l.all N.okM = true := by
  rw [List.all_eq_true] at h ⊢
  exact fun m hm => (bcond (h m hm)).1
theorem fullFine_t {x : HRise} (h1 : fullRise x = true) (h2 : x.kept.all N.fineM = true) : fullFine x = true := by
  unfold fullFine
  rw [h1, h2, fine_okM h2]; rfl
theorem put_all {p : HMail → Bool} {x : HRise} (h : x.kept.all p = true) {m : HMail} (hm : N.mailCheck m = 0 → p m = true) : (N.risePut x m).1.kept.all p = true := by
  unfold N.risePut
  cases hc : N.mailCheck m != 0 with
  | true => exact h
  | false =>
    have hz : N.mailCheck m = 0 := by simpa using hc
    cases x.total == 18446744073709551615 with
    | true => exact h
    | false =>
      show ((x.kept ++ [m]).drop (x.kept.length + 1 - 16)).all p = true
      rw [List.all_eq_true]
      intro a ha
      rcases List.mem_append.1 (List.mem_of_mem_drop ha) with ha | ha
      · exact List.all_eq_true.1 h a ha
      · rw [List.mem_singleton.1 ha]; exact hm hz
theorem sameR_refl (x : HRise) : N.sameR x x = true := by
  unfold N.sameR
  rw [beq_self_eq_true, sameMs_refl]; rfl
theorem toldR_refl (x : HRise) (n : Int) : N.toldR x x n = true := by
  unfold N.toldR
  simp only [sameR_refl, mailSame_refl, beq_self_eq_true, cond_true]
theorem ms_back : ∀ (l : List HMail) (acc : List HMail), l.all N.fineCk = true → N.readMs l.length ⟨N.mailsB l, 0⟩ acc = (acc ++ l, ⟨[], 0⟩)
  | [], acc, _ => by
    show (acc, (⟨[], 0⟩ : InS)) = _
    rw [List.append_nil]
  | m :: r, acc, h => by
    rw [List.all_cons, Bool.and_eq_true] at h
    have hm := fineCk_of h.1
    show cond ((0 : Int) == 0) (N.readMs r.length (N.mailRead ⟨N.mailB m ++ N.mailsB r, 0⟩).2 (acc ++ [(N.mailRead ⟨N.mailB m ++ N.mailsB r, 0⟩).1])) _ = _
    rw [mail_back (N.mailsB r) m hm.1 hm.2.2.1 hm.2.1]
    show N.readMs r.length ⟨N.mailsB r, 0⟩ (acc ++ [m]) = _
    rw [ms_back r _ h.2, List.append_assoc]
    rfl
theorem rise_back {x : HRise} {g : List HMail} (h : RInv x g) (hc : x.kept.all N.fineCk = true) : N.riseRead ⟨N.riseB x, 0⟩ = (x, ⟨[], 0⟩) := by
  have hl := h.len
  have ht := h.total
  have hf := h.few
  have a1 := num_app 8 (Nat.le_refl 8) x.total (by omega) (by rw [show (256 : Int) ^ 8 = 18446744073709551616 by decide]; omega) (N.numB x.kept.length 1 ++ N.mailsB x.kept)
  have a2 := num_app 1 (by decide) (x.kept.length : Int) (by omega) (by rw [show (256 : Int) ^ 1 = 256 by decide]; omega) (N.mailsB x.kept)
  have e : N.riseB x = N.numB x.total 8 ++ (N.numB x.kept.length 1 ++ N.mailsB x.kept) := by
    unfold N.riseB; rw [List.append_assoc]
  have b1 : N.inNum ⟨N.riseB x, 0⟩ 8 = (x.total, ⟨N.numB x.kept.length 1 ++ N.mailsB x.kept, 0⟩) := by rw [e]; exact a1
  have b2 : N.rrN ⟨N.riseB x, 0⟩ = ((x.kept.length : Int), ⟨N.mailsB x.kept, 0⟩) := by
    show N.inNum (N.inNum ⟨N.riseB x, 0⟩ 8).2 1 = _
    rw [b1]; exact a2
  have b3 : N.rrI ⟨N.riseB x, 0⟩ = ⟨N.mailsB x.kept, 0⟩ := by
    unfold N.rrI
    rw [b2, b1]
    have e1 : ilt 16 (x.kept.length : Int) = false := ilt_f (by omega)
    have e2 : ((x.kept.length : Int) != cond (ilt 16 x.total) 16 x.total) = false := ine_f (by
      by_cases h16 : 16 < x.total
      · rw [ilt_t h16, cond_true]; omega
      · rw [ilt_f (by omega), cond_false]; omega)
    show cond ((0 : Int) != 0) _ (cond (ilt 16 (x.kept.length : Int)) _ (cond ((x.kept.length : Int) != cond (ilt 16 x.total) 16 x.total) _ _)) = _
    rw [e1, e2]; rfl
  show N.rrE (N.inNum ⟨N.riseB x, 0⟩ 8).1 (N.readMs (N.rrN ⟨N.riseB x, 0⟩).1.toNat (N.rrI ⟨N.riseB x, 0⟩) []) = _
  rw [b1, b2, b3]
  show N.rrE x.total (N.readMs x.kept.length ⟨N.mailsB x.kept, 0⟩ []) = _
  rw [ms_back _ _ hc]
  rfl
theorem ck_fine {l : List HMail} (h : l.all N.fineCk = true) : l.all N.fineM = true := by
  rw [List.all_eq_true] at h ⊢
  exact fun m hm => (bcond (h m hm)).1
theorem fineCk_t {m : HMail} (h : N.fineM m = true) (hz : N.mailCheck m = 0) : N.fineCk m = true := by
  unfold N.fineCk
  rw [h, hz]; rfl
/-- What is known of a rise behind so many messages. -/
def PInv (x : HRise) (i : Nat) : Prop := (∃ g, RInv x g ∧ g.length ≤ i) ∧ x.kept.all N.fineCk = true
theorem pinv_put {x : HRise} {i : Nat} (h : PInv x i) (hi : i < 40) {m : HMail} (hs : smallM m = true) (hm : N.fineM m = true) : PInv (N.risePut x m).1 (i + 1) := by
  obtain ⟨⟨g, hg, hgi⟩, hc⟩ := h
  refine ⟨⟨_, put_any hg (m := m) (by omega) hs, ?_⟩, put_all hc fun hz => fineCk_t hm hz⟩
  cases (N.risePut x m).2 == 0 <;> simp <;> omega
theorem pinv_puts : ∀ (l : List HMail) (x : HRise) (i : Nat), PInv x i → i + l.length ≤ 40 → l.all smallM = true → l.all N.fineM = true → PInv (N.puts x l) (i + l.length)
  | [], x, i, h, _, _, _ => h
  | m :: r, x, i, h, hl, hs, hf => by
    rw [List.all_cons, Bool.and_eq_true] at hs hf
    have hl : i + (r.length + 1) ≤ 40 := hl
    have := pinv_puts r _ (i + 1) (pinv_put h (by omega) hs.1 hf.1) (by omega) hs.2 hf.2
    show PInv (N.puts (N.risePut x m).1 r) (i + (r.length + 1))
    rw [show i + (r.length + 1) = i + 1 + r.length by omega]
    exact this
theorem PInv.fine {x : HRise} {i : Nat} (h : PInv x i) : fullFine x = true := by
  obtain ⟨⟨g, hg, _⟩, hc⟩ := h
  exact fullFine_t hg.full (ck_fine hc)
theorem ok_rPl8 : RoundsOk eRPl 4 8 := by
  refine rounds_of rfl fun l K q h => ?_
  unfold gRPl at h
  split at h
  · rename_i num r n i t k t2 k2
    have h1 := (cond_none h).1; replace h := (cond_none h).2; have h2 := (cond_none h).1; replace h := (cond_none h).2; have h3 := (cond_none h).1; replace h := (cond_none h).2; have h4 := (cond_none h).1; replace h := (cond_none h).2; have h5 := (cond_none h).1; replace h := (cond_none h).2; have h6 := (cond_none h).1; replace h := (cond_none h).2; have h7 := (cond_none h).1; replace h := (cond_none h).2; have h8 := (cond_none h).1; replace h := (cond_none h).2; have h9 := (cond_none h).1; replace h := (cond_none h).2; have ha := (cond_none h).1; replace h := (cond_none h).2; have hb := (cond_none h).1; replace h := (cond_none h).2
    have e1 := ieq_of h1
    have e2 := ieq_of h2
    have e4 := ieq_of h4
    have e5 := ieq_of h5
    have e6 := List.eq_nil_of_length_eq_zero (nbeq_of h6)
    have e7 := List.eq_nil_of_length_eq_zero (nbeq_of h7)
    subst e1 e2 e4 e5 e6 e7
    have h3 : r.length ≤ 40 := ble_of h3
    have main := range_ind (E := eRPl) (f := 4) (id := 8) (A := HRise) r (fun x i => { fr := [(1, .int .u64 num), (5, .ptr 10000 0 0 0), (6, .ptr 10001 0 0 0), (20, .slc [.int .u64, .str, .str, .slc [.str, .int .u8, .int .i64, .str], .str, .int .u64, .int .u8] r), (21, .int .i64 r.length), (22, .int .i64 i)], tab := [(10000, .var [.int .u64 x.total, .slc [.int .u64, .str, .str, .slc [.str, .int .u8, .int .i64, .str], .str, .int .u64, .int .u8] (x.kept.map cMail.enc)]), (10001, .var [.int .u64 x.total, .slc [.int .u64, .str, .str, .slc [.str, .int .u8, .int .i64, .str], .str, .int .u64, .int .u8] (x.kept.map cMail.enc)])] })
      PInv
      (fun x rows K => K (.exit 0) { fr := [(5, .ptr 10000 0 0 0), (6, .ptr 10001 0 0 0)], tab := [(10000, .var [.int .u64 (N.puts x (rows.map cMail.dec)).total, .slc [.int .u64, .str, .str, .slc [.str, .int .u8, .int .i64, .str], .str, .int .u64, .int .u8] ((N.puts x (rows.map cMail.dec)).kept.map cMail.enc)]), (10001, .var [.int .u64 (N.puts x (rows.map cMail.dec)).total, .slc [.int .u64, .str, .str, .slc [.str, .int .u8, .int .i64, .str], .str, .int .u64, .int .u8] ((N.puts x (rows.map cMail.dec)).kept.map cMail.enc)])] }) (fun x i hx hi => ?_) (fun x _ => ?_) rise0 0 (Int.le_refl _) (by omega) ⟨⟨[], rinv0, Nat.le_refl _⟩, rfl⟩ K q (by assumption)
    · exact main
    · have hs := small_row h8 hi
      have hf := all_row h9 hi
      have hp := pinv_put hx (by omega) hs hf
      have x1 := fullFine_of hx.fine
      have y1 := fullFine_of hp.fine
      refine .inl ⟨(N.risePut x (cMail.dec (r.getD i []))).1, hp, fun K => ?_, fun K => ?_⟩
      · rw [q_rPlR]
        simp (disch := omega) only [evs, Int.toNat_natCast, fold_mail, dec_encs, fold_rise, hs, x1.2.1, y1.2.1, hp.fine, ha, hb, toldR_refl, sameR_refl, bne_self_eq_false, Bool.not_true]
        cases N.sameR x (N.risePut x (cMail.dec (r.getD i []))).1 <;> rfl
      · rw [puts_row]
    · refine ⟨.exit 0, _, by simp, fun K => ?_, fun K => rfl⟩
      rw [q_rPlR]
      simp (disch := omega) only [evs]
      rfl
  · cases h
theorem ok_lawRPl (hN : FnOk Tryz.prog 44 dOutNum) : FnOk Tryz.prog 4 (den (aCons (vSl cMail) (aOne (vInt .u64))) bNil (oV vBool) (fun a _ => cond (Nat.ble a.1.length 9223372036854775807) (cond (a.1.all N.fineM) (cond (ile 0 a.2) (ile a.2 18446744073709551615) false) false) false) fun _ _ => (true, ())) := by
  refine den_okF (show TOk Tryz.prog _ from (((((((((((((TOk.nil _).cons ok_inEnd).cons ok_riseRead).cons ok_new).cons ok_refRBytes).cons (ok_rBytes hN)).cons ok_rSame).cons ok_refRSame).cons ok_of).cons (ok_told20 hN)).cons ok_refRisePut).cons ok_risePut).cons ok_light20).cons (ok_aw20 hN)) (E := eRPl) Tryz.func4 [8] (by kernel_rfl) (one1 ok_rPl8) fun a _ hp => ?_
  obtain ⟨l, n⟩ := a
  obtain ⟨h1, h2⟩ := bcond hp
  obtain ⟨h2, h3⟩ := bcond h2
  obtain ⟨h3, h4⟩ := bcond h3
  have h1 : Nat.ble l.length 9223372036854775807 = true := h1
  have h2 : l.all N.fineM = true := h2
  have h3 : ile 0 n = true := h3
  have h4 : ile n 18446744073709551615 = true := h4
  refine (q_rPl l n).trans ?_
  show _ = some (⟨.bool true, [], []⟩ : DRes)
  simp only [dec_encs, List.length_map, h1, cond_true, fold_rise]
  cases hl : N.lightMs l with
  | false => rfl
  | true =>
    by_cases h40 : l.length ≤ 40
    · have hs := light_few hl
      have hp := pinv_puts l rise0 0 ⟨⟨[], rinv0, Nat.le_refl _⟩, rfl⟩ (by omega) hs h2
      have e0 : ({ total := 0, kept := [] } : HRise) = rise0 := rfl
      rw [e0]
      generalize N.puts rise0 l = x at *
      have hf := fullFine_of hp.fine
      obtain ⟨⟨g, hg, _⟩, hc⟩ := hp
      have hgf : goodFineCk x = true := by unfold goodFineCk; rw [hf.2.1, hc]; rfl
      have hb := rise_back hg hc
      simp (disch := omega) only [evs, hs, h2, h3, h4, hgf, hb, hf.2.1, beq_self_eq_true, sameR_refl, Bool.not_true, List.length_nil]
      try rfl
    · simp (disch := omega) only [evs, Bool.not_false]
theorem u64_wf {n : Int} (h : wfL ((rInt .u64).enc n) = true) : cond (ile 0 n) (ile n 18446744073709551615) false = true := by
  have h : cond (wfV (.int .u64 n)) true false = true := h
  obtain ⟨a, b⟩ := int_wf (bcond h).1
  have e1 : IntKind.u64.min = 0 := rfl
  have e2 : IntKind.u64.max = 18446744073709551615 := rfl
  rw [ile_t (by omega), ile_t (by omega)]; rfl
theorem mails_wfR : ∀ l : List HMail, wfRs (l.map cMail.enc) = true → l.all N.fineM = true
  | [], _ => rfl
  | m :: r, h => by
    have h : cond (wfL (cMail.enc m)) (wfRs (r.map cMail.enc)) false = true := h
    obtain ⟨h1, h2⟩ := bcond h
    rw [List.all_cons, mails_wfR r h2, show N.fineM m = true from mail_wf h1]; rfl
theorem mails_wf {l : List HMail} (h : wfL ((rSl cMail).enc l) = true) : l.all N.fineM = true := by
  have h : cond (cond (Nat.ble (l.map cMail.enc).length 9223372036854775807) (cond (fitsRows cMail.sh (l.map cMail.enc)) (wfRs (l.map cMail.enc)) false) false) true false = true := h
  exact mails_wfR l (bcond (bcond (bcond h).1).2).2
theorem rPl_wf {l : List HMail} {n : Int} (h1 : wfL ((rSl cMail).enc l) = true) (h2 : wfL ((rInt .u64).enc n) = true) : cond (Nat.ble l.length 9223372036854775807) (cond (l.all N.fineM) (cond (ile 0 n) (ile n 18446744073709551615) false) false) false = true := by
  rw [len_wf h1, mails_wf h1, u64_wf h2]; rfl
end Go.Ev

/- The library's text builder in this program, and the function that writes a number's bytes with it: lemmas, no condition but the text's length. -/
namespace Go.Ev
open Go Go.Proofs Go.RowKit Go.Shelf

theorem bSize : (Tryz.prog.info? 101).map (·.size) = some 2 := by kernel_rfl
theorem bLies : liesAt Tryz.prog Tryz.prog.depth 101 (2 / Tryz.prog.cellsOf 101) 0 101 1 = true := by kernel_rfl
theorem bByte : (Tryz.prog.info? 5).map (fun i => (i.zero, i.size, i.bytes)) = some (some (.int .u8 0), 1, 1) := by kernel_rfl

set_option maxHeartbeats 1000000 in
set_option maxRecDepth 100000 in
theorem cc_used (b : Nat) (w : World) (h0 : w.cell? ⟨b, 0, none⟩ = some (.pointer (some ⟨b, 0, none⟩))) :
    Calls Tryz.prog 84 #[.pointer (some ⟨b, 0, none⟩)] w fun e w' => e = .returned (.tuple #[]) ∧ w' = w := by
  obtain ⟨j, hj, _⟩ := Option.map_eq_some_iff.1 bSize
  go_enter Tryz.func84, Tryz.ntmps84
  go_wp2
  rw [Lib.run_neq_ptr_same w _ Tryz.underlying99 hj]
  go_wp2
  go_end0
  exact ⟨rfl, rfl⟩
set_option maxHeartbeats 1000000 in
set_option maxRecDepth 100000 in
theorem cc_fresh (b : Nat) (w : World) (h0 : w.cell? ⟨b, 0, none⟩ = some (.pointer none)) (hsh : w.shape? b = some (101, 2)) (hfz : w.frozen? ⟨b, 0, none⟩ = false) :
    Calls Tryz.prog 84 #[.pointer (some ⟨b, 0, none⟩)] w fun e w' => e = .returned (.tuple #[]) ∧ w' = w.setCell ⟨b, 0, none⟩ (.pointer (some ⟨b, 0, none⟩)) := by
  obtain ⟨j, hj, hjs⟩ := Option.map_eq_some_iff.1 bSize
  go_enter Tryz.func84, Tryz.ntmps84
  go_wp2
  rw [Lib.run_to_unsafe w ⟨b, 0, none⟩ Tryz.underlying99 Tryz.underlying119 hj (by rw [hjs]; decide) hsh (Nat.zero_lt_succ 1)]
  simp only [Result.andThen]
  rw [Oper.upon_value]
  go_wp2
  rw [run_callFunc_extern Tryz.func88 (by kernel_rfl) (by kernel_rfl) (by kernel_rfl) (e := Extern.AbiNoEscape.same) (by kernel_rfl)]
  rw [Lib.run_noEscape]
  simp only [Result.andThen]
  rw [Oper.upon_value]
  go_wp2
  rw [Lib.run_from_unsafe w ⟨b, 0, none⟩ Tryz.underlying119 Tryz.underlying99 hj hsh bLies]
  simp only [Result.andThen]
  rw [Oper.upon_value]
  go_wp2
  go_end0
  exact ⟨rfl, rfl⟩
theorem cc (B b : Nat) (bs : List Value) (w : World) (h : Lib.IsBuilder 101 5 B b bs w) :
    Calls Tryz.prog 84 #[.pointer (some ⟨b, 0, none⟩)] w fun e w' => e = .returned (.tuple #[]) ∧ (Lib.BuilderAt 101 5 B b (.pointer (some ⟨b, 0, none⟩)) bs w' ∧ Below B w w') := by
  rcases h with h | h
  · refine (cc_fresh b w h.cell0 h.shape h.frozen0).mono ?_
    rintro e w' ⟨rfl, rfl⟩
    exact ⟨rfl, h.used _, (Below.refl B w).setCell (p := ⟨b, 0, none⟩) h.1 _⟩
  · refine (cc_used b w h.cell0).mono ?_
    rintro e w' ⟨rfl, rfl⟩
    exact ⟨rfl, h, Below.refl B _⟩
set_option maxHeartbeats 2000000 in
set_option maxRecDepth 100000 in
theorem writeByte (B b : Nat) (bs : List Value) (c : Int) (w : World) (h : Lib.IsBuilder 101 5 B b bs w) (hlen : bs.length + 1 ≤ 140737488355328) (hBw : B ≤ w.heap.size) :
    Calls Tryz.prog 69 #[.pointer (some ⟨b, 0, none⟩), .int .u8 c] w fun e w' => e = .returned .nilIface ∧ (Lib.BuilderAt 101 5 B b (.pointer (some ⟨b, 0, none⟩)) (bs ++ [.int .u8 c]) w' ∧ Below B w w') := by
  obtain ⟨i0, hi, hz0, hz1, hz2⟩ := info_parts bByte
  go_enter Tryz.func69, Tryz.ntmps69
  go_wp2_with (go_at_call 84; refine (cc B b bs _ h).mono ?_)
  rintro e w1 ⟨rfl, h1, hb1⟩
  obtain ⟨hB, v, hbk, hown, hne⟩ := h1
  have c0 : w1.cell? ⟨b, 0, none⟩ = some (.pointer (some ⟨b, 0, none⟩)) := by rw [Lib.cell_of_heap hbk]; rfl
  have c1 : w1.cell? ⟨b, 1, none⟩ = some v := by rw [Lib.cell_of_heap hbk]; rfl
  go_wp2_with (at_builtin; refine wpList_append_own _ rfl _ _ 85 rfl B 5 i0 (.int .u8 0) 1 1 Tryz.underlying85 hi hz0 hz1 hz2 rfl (by decide) _ _ _ rfl (hown.alloc _) ⟨w1.heap.size, 0, none⟩ 1 1 [.int .u8 c] rfl rfl ?c1 ?c2 ?c3 ?c4 ?c5 ?_)
  case c1 =>
    intro j u hj
    match j, hj with
    | 0, hj => simp at hj; subst hj; simp [Addr.add]
  case c2 => intro u hu; simp at hu; subst hu; rfl
  case c3 => unfold maxLen; omega
  case c4 => omega
  case c5 => have := hb1.size; simp; omega
  intro v' w2 hown' hgrow _
  have hlt : b < w1.heap.size := by
    rcases Nat.lt_or_ge b w1.heap.size with h' | h'
    · exact h'
    · simp [Array.getElem?_eq_none h'] at hbk
  have hb2 : w2.heap[b]? = some (.cells #[.pointer (some ⟨b, 0, none⟩), v] 101 (0, 0)) := by
    rw [hgrow.block b (by simp; omega) (fun e => hne e.symm), Lib.alloc_old w1 _ b hlt]
    exact hbk
  have d0 : w2.cell? ⟨b, 0, none⟩ = some (.pointer (some ⟨b, 0, none⟩)) := by rw [Lib.cell_of_heap hb2]; rfl
  have d1 : w2.cell? ⟨b, 1, none⟩ = some v := by rw [Lib.cell_of_heap hb2]; rfl
  have f1 : w2.frozen? ⟨b, 1, none⟩ = false := Lib.frozen_of_heap hb2 1
  obtain ⟨g, cap, rfl⟩ : ∃ g cap, v' = .slice (some ⟨g, 0, none⟩) (bs.length + 1) cap := by
    rcases hown'.2 with ⟨_, h0⟩ | ⟨g, cap, cur, hv, _⟩
    · omega
    · exact ⟨g, cap, hv⟩
  go_wp2
  go_ret
  refine ⟨rfl, ?_, ?_⟩
  · exact Lib.BuilderAt.put (T := 101) (e := 5) hB hb2 (bs' := bs ++ [.int .u8 c]) (by simpa using hown') (by decide)
  · exact ((hb1.alloc (by have := hb1.size; omega) _).grown hgrow (by have := hb1.size; simp; omega) (fun k hk => (hown.lt k hk).1)).setCell (p := ⟨b, 1, none⟩) hB _
/-! ### The text of a builder: the library's contract at this program -/
def lays169_ren : Go.Shelf.Ren := ⟨fun | 169 => 70 | n => n, fun | 70 => 99 | 9 => 9 | 0 => 0 | 72 => 101 | 37 => 85 | 127 => 116 | 3 => 3 | 5 => 5 | n => n, fun | n => n⟩
theorem lays169 : Go.Proofs.Lays.n169 Tryz.prog lays169_ren := {
  mixed := by kernel_rfl
  f169 := Tryz.func70.trans (congrArg some (by kernel_rfl))
  t0 := Tryz.underlying0
  a0 := Tryz.isAgg0
  z0 := Tryz.sizeOf0
  v0 := Tryz.zeroValue0
  t3 := Tryz.underlying3
  a3 := Tryz.isAgg3
  z3 := Tryz.sizeOf3
  v3 := Tryz.zeroValue3
  t9 := Tryz.underlying9
  a9 := Tryz.isAgg9
  z9 := Tryz.sizeOf9
  v9 := Tryz.zeroValue9
  t37 := Tryz.underlying85
  a37 := Tryz.isAgg85
  z37 := Tryz.sizeOf85
  v37 := Tryz.zeroValue85
  t70 := Tryz.underlying99
  a70 := Tryz.isAgg99
  z70 := Tryz.sizeOf99
  v70 := Tryz.zeroValue99
  t72 := Tryz.underlying101
  a72 := Tryz.isAgg101
  z72 := Tryz.sizeOf101
  v72 := Tryz.zeroValue101
  t127 := Tryz.underlying116
  a127 := Tryz.isAgg116
  z127 := Tryz.sizeOf116
  v127 := Tryz.zeroValue116 }
theorem extra169 : Builder.Extra Tryz.prog lays169_ren := {
  sizeBuilder := by kernel_rfl
  liesBuilder := by kernel_rfl
  t5 := Tryz.underlying5
  a5 := Tryz.isAgg5
  z5 := Tryz.sizeOf5
  v5 := Tryz.zeroValue5
  infoByte := by kernel_rfl
  cellsByte := by kernel_rfl
  sizeByte := by kernel_rfl
  neB5 := by decide }
theorem bString (B b : Nat) (l : List UInt8) (w : World) (h : Lib.IsBuilder 101 5 B b (Lib.byteCells l) w) (hBw : B ≤ w.heap.size) :
    Calls Tryz.prog 70 #[.pointer (some ⟨b, 0, none⟩)] w fun e w' => e = .returned (.string ⟨l.toArray⟩) ∧ Below B w w' := Any.Builder_String_any lays169 extra169 B b l w h hBw
end Go.Ev

/- The function that writes a number's bytes: its walk. -/
namespace Go.Ev
open Go Go.Proofs Go.RowKit Go.Shelf

theorem clamp_eq {bytes : Int} : min (max bytes 0) 8 = (N.clamp bytes : Int) ∧ N.clamp bytes ≤ 8 := by
  unfold N.clamp
  rw [ilt_eq, ilt_eq]
  by_cases h1 : 0 < bytes
  · by_cases h2 : 8 < bytes
    · simp [h1, h2]; omega
    · simp [h1, h2]; omega
  · simp [h1]; omega

theorem two_blocks {w wr : World} {o1 o2 : Obj} (h : Below (w.heap.size + 1 + 1) ((w.alloc o1).alloc o2) wr) : wr.heap[w.heap.size]? = some o1 ∧ wr.heap[w.heap.size + 1]? = some o2 := by
  have e : (w.alloc o1).heap.size = w.heap.size + 1 := by simp
  refine ⟨?_, ?_⟩
  · rw [h.block _ (by omega), Below.heap_alloc _ _ _ (by omega)]; exact Go.heap_alloc_new w o1
  · rw [h.block _ (by omega), ← e]; exact Go.heap_alloc_new _ o2

set_option maxHeartbeats 4000000 in
set_option maxRecDepth 1000000 in
theorem outNum_walk (s : ByteArray) (er n bytes : Int) (w : World) (hs : (s.size : Int) ≤ 9223372036854775799) :
    Calls Tryz.prog 44 #[.agg #[.string s, .int .i64 er], .int .u64 n, .int .i64 bytes] w fun e w' =>
      e = .returned (.agg #[.string ⟨(s.data.toList ++ N.numB n (N.clamp bytes)).toArray⟩, .int .i64 er]) ∧ Below w.heap.size w w' := by
  go_enter Tryz.func44, Tryz.ntmps44
  go_wp2
  go_loopw [8] (fun i wr => ∃ (k : Int) (acc : List UInt8), i = .int .i64 k ∧ Lib.IsBuilder 101 5 (w.heap.size + 1 + 1) (w.heap.size + 1 + 1) (Lib.byteCells acc) wr ∧
      Below (w.heap.size + 1 + 1) ((w.alloc (Obj.cells #[Value.string s, Value.int IntKind.i64 er] 76)).alloc (Obj.cells #[Value.string { data := #[] }, Value.int IntKind.i64 0] 76)) wr ∧
      -1 ≤ k ∧ acc ++ N.numB n (k + 1).toNat = N.numB n (N.clamp bytes) ∧ acc.length + (k + 1).toNat ≤ 8) (fun i _ => (intOf i + 1).toNat)
  case atStart =>
    obtain ⟨hcl, hc8⟩ := clamp_eq (bytes := bytes)
    have hf := Lib.fresh_isBuilder 101 5 ((w.alloc (Obj.cells #[Value.string s, Value.int IntKind.i64 er] 76)).alloc (Obj.cells #[Value.string { data := #[] }, Value.int IntKind.i64 0] 76))
    have e0 : ((w.alloc (Obj.cells #[Value.string s, Value.int IntKind.i64 er] 76)).alloc (Obj.cells #[Value.string { data := #[] }, Value.int IntKind.i64 0] 76)).heap.size = w.heap.size + 1 + 1 := by simp
    rw [e0] at hf
    refine ⟨(N.clamp bytes : Int) - 1, [], by rw [hcl], hf, (Below.refl _ _).alloc (by simp) _, by omega, ?_, ?_⟩
    · rw [show ((N.clamp bytes : Int) - 1 + 1).toNat = N.clamp bytes by omega]; rfl
    · simp only [List.length_nil]; omega
  case round =>
    obtain ⟨k, acc, rfl, hI, hB, hk, hacc, hal⟩ := hrel
    by_cases hk0 : 0 ≤ k
    · go_wp2_with (go_at_call 69; refine (writeByte (w.heap.size + 1 + 1) (w.heap.size + 1 + 1) _ _ _ hI (by rw [Lib.byteCells_length]; omega) (by have := hB.size; simp at this; omega)).mono ?_)
      rintro e w1 ⟨rfl, h1, b1⟩
      go_wp2
      go_roundw
      case rel =>
        have e1 : N.numB n (k + 1).toNat = UInt8.ofNat ((n / 2 ^ (8 * k.toNat)) % 256).toNat :: N.numB n k.toNat := by
          rw [show (k + 1).toNat = k.toNat + 1 by omega]; rfl
        have e2 : ((UInt8.ofNat ((n / 2 ^ (8 * k.toNat)) % 256).toNat).toNat : Int) = n / 2 ^ (8 * k).toNat % 256 := by
          rw [show (8 * k).toNat = 8 * k.toNat by omega]
          have h0 : 0 ≤ (n / 2 ^ (8 * k.toNat)) % 256 := Int.emod_nonneg _ (by decide)
          have h1 : (n / 2 ^ (8 * k.toNat)) % 256 < 256 := Int.emod_lt_of_pos _ (by decide)
          have h2 : (UInt8.ofNat ((n / 2 ^ (8 * k.toNat)) % 256).toNat).toNat = ((n / 2 ^ (8 * k.toNat)) % 256).toNat := UInt8.toNat_ofNat_of_lt' (by
            show ((n / 2 ^ (8 * k.toNat)) % 256).toNat < 256
            omega)
          rw [h2]; omega
        refine ⟨k - 1, acc ++ [UInt8.ofNat ((n / 2 ^ (8 * k.toNat)) % 256).toNat], rfl, ?_, hB.trans b1, by omega, ?_, ?_⟩
        · rw [Lib.byteCells_append]
          have e3 : Lib.byteCells [UInt8.ofNat ((n / 2 ^ (8 * k.toNat)) % 256).toNat] = [Value.int .u8 (n / 2 ^ (8 * k).toNat % 256)] := by
            rw [← e2]; rfl
          rw [e3]; exact Or.inr h1
        · rw [e1] at hacc
          rw [← hacc, show (k - 1 + 1).toNat = k.toNat by omega, List.append_assoc]; rfl
        · rw [List.length_append]; simp only [List.length_cons, List.length_nil]; omega
      case measure => simp [intOf]; omega
    · have hk1 : k = -1 := by omega
      subst hk1
      have hfin : N.numB n (N.clamp bytes) = acc := by rw [← hacc]; show acc ++ [] = acc; simp
      have hal : acc.length ≤ 8 := by omega
      clear hacc
      rw [hfin]
      obtain ⟨hb0, hb1⟩ := two_blocks hB
      have c0 : wr.cell? ⟨w.heap.size, 0, none⟩ = some (.string s) := by rw [Lib.cell_of_heap hb0]; rfl
      have c1 : wr.cell? ⟨w.heap.size, 1, none⟩ = some (.int .i64 er) := by rw [Lib.cell_of_heap hb0]; rfl
      have c2 : wr.cell? ⟨w.heap.size + 1, 0, none⟩ = some (.string ⟨#[]⟩) := by rw [Lib.cell_of_heap hb1]; rfl
      have c3 : wr.cell? ⟨w.heap.size + 1, 1, none⟩ = some (.int .i64 0) := by rw [Lib.cell_of_heap hb1]; rfl
      have f0 : wr.frozen? ⟨w.heap.size, 0, none⟩ = false := Lib.frozen_of_heap hb0 0
      have f1 : wr.frozen? ⟨w.heap.size, 1, none⟩ = false := Lib.frozen_of_heap hb0 1
      have f2 : wr.frozen? ⟨w.heap.size + 1, 0, none⟩ = false := Lib.frozen_of_heap hb1 0
      have f3 : wr.frozen? ⟨w.heap.size + 1, 1, none⟩ = false := Lib.frozen_of_heap hb1 1
      have hBw : w.heap.size + 1 + 1 ≤ wr.heap.size := by have := hB.size; simp at this; omega
      have hadd : ¬ 9223372036854775807 < s.size + acc.length := by omega
      have hadd2 : ¬ 9223372036854775807 < s.size + (⟨acc.toArray⟩ : ByteArray).size := by
        show ¬ 9223372036854775807 < s.size + acc.toArray.size
        rw [List.size_toArray]; exact hadd
      have hadd3 : ¬ (s.size + (⟨acc.toArray⟩ : ByteArray).size > 9223372036854775807) := hadd2
      have hadd4 : s.size + (⟨acc.toArray⟩ : ByteArray).size ≤ 9223372036854775807 := Nat.not_lt.1 hadd2
      have hadd5 : s.size + acc.length ≤ 9223372036854775807 := Nat.not_lt.1 hadd
      go_wp2
      go_region_with (go_at_call 70; refine (bString (w.heap.size + 1 + 1) (w.heap.size + 1 + 1) acc _ (by exact hI) (by exact hBw)).mono ?_; rintro e w2 ⟨rfl, b2⟩
                      have d0 : w2.cell? ⟨w.heap.size, 0, none⟩ = some (.string s) := by rw [b2.cell (by show w.heap.size < w.heap.size + 1 + 1; omega)]; exact c0
                      have d1 : w2.cell? ⟨w.heap.size, 1, none⟩ = some (.int .i64 er) := by rw [b2.cell (by show w.heap.size < w.heap.size + 1 + 1; omega)]; exact c1
                      have d2 : w2.cell? ⟨w.heap.size + 1, 0, none⟩ = some (.string ⟨#[]⟩) := by rw [b2.cell (by show w.heap.size + 1 < w.heap.size + 1 + 1; omega)]; exact c2
                      have d3 : w2.cell? ⟨w.heap.size + 1, 1, none⟩ = some (.int .i64 0) := by rw [b2.cell (by show w.heap.size + 1 < w.heap.size + 1 + 1; omega)]; exact c3
                      have e0 : w2.frozen? ⟨w.heap.size, 0, none⟩ = false := by rw [b2.frozen (by show w.heap.size < w.heap.size + 1 + 1; omega)]; exact f0
                      have e1 : w2.frozen? ⟨w.heap.size, 1, none⟩ = false := by rw [b2.frozen (by show w.heap.size < w.heap.size + 1 + 1; omega)]; exact f1
                      have e2 : w2.frozen? ⟨w.heap.size + 1, 0, none⟩ = false := by rw [b2.frozen (by show w.heap.size + 1 < w.heap.size + 1 + 1; omega)]; exact f2
                      have e3 : w2.frozen? ⟨w.heap.size + 1, 1, none⟩ = false := by rw [b2.frozen (by show w.heap.size + 1 < w.heap.size + 1 + 1; omega)]; exact f3)
      all_goals go_wp2
      all_goals
        refine ⟨rfl, .agg #[.string (s ++ ⟨acc.toArray⟩), .int .i64 er], ?_, ?_, ?_⟩
        · simp [results, Tryz.results44, go_sem, d2, d3]
        · rw [hfin, ← bytes_append]
        · have b0 : Below w.heap.size w wr := (((Below.refl _ w).alloc (Nat.le_refl _) _).alloc (by simp) _).trans (hB.mono (by omega))
          exact (((b0.drew.trans (b2.mono (by omega))).setCell (p := ⟨w.heap.size, 0, none⟩) (Nat.le_refl _) _).setCell (p := ⟨w.heap.size + 1, 0, none⟩) (Nat.le_succ _) _).setCell (p := ⟨w.heap.size + 1, 1, none⟩) (Nat.le_succ _) _

/-- What leaves the memory at hand as it is keeps it. -/
theorem keeps_below {w w' : World} (X : Nat → Nat → Prop) (h : Below w.heap.size w w') : Keeps X w w' :=
  ⟨h.os, h.tape, h.output, h.size, fun b hb => ObjOk.same (h.block b hb)⟩
theorem outNum_ok : FnOk Tryz.prog 44 dOutNum := by
  refine den_of fun a b hp => ?_
  obtain ⟨o, n, bytes⟩ := a
  intro x y hxy w J locs xs hlen hJ hx _ _ _
  have hxy : x = (aCons (vAgg cOut) (aCons (vInt .u64) (aOne (vInt .i64)))).enc (o, n, bytes) ∧ y = bNil.enc b := by simpa using hxy
  obtain ⟨rfl, rfl⟩ := hxy
  have hlen : locs = [] := List.eq_nil_of_length_eq_zero hlen
  subst hlen
  obtain ⟨hp1, hp⟩ := bcond hp
  obtain ⟨hp2, hp3⟩ := bcond hp
  have hp3 : o.s.length ≤ 9223372036854775799 := Nat.le_of_ble_eq_true hp3
  obtain ⟨x0, xs1, rfl, hx0, hx⟩ := hx.uncons
  obtain ⟨x1, xs2, rfl, hx1, hx⟩ := hx.uncons
  obtain ⟨x2, rfl, hx2⟩ := hx.one
  obtain ⟨cs, rfl, hc1, hc2⟩ := Rv.agg_inv (show Rv w J _ (.agg [.str o.s, .int .i64 o.err]) x0 from hx0)
  have hx1 := Rv.int_inv (show Rv w J _ (.int .u64 n) x1 from hx1)
  have hx2 := Rv.int_inv (show Rv w J _ (.int .i64 bytes) x2 from hx2)
  subst hx1 hx2
  match cs, hc1, hc2 with
  | [c0, c1], _, hc2 =>
    have h0 := Rv.str_inv (show Rv w J _ (.str o.s) c0 from hc2 0 (by simp))
    have h1 := Rv.int_inv (show Rv w J _ (.int .i64 o.err) c1 from hc2 1 (by simp))
    subst h0 h1
    refine .inl ⟨?_, ?_⟩
    · have hnm : ¬ (Tryz.f44).name = "runtime.NumGoroutine" := by
        intro e
        have : ((Tryz.f44).name == "runtime.NumGoroutine") = false := by kernel_rfl
        rw [e] at this; cases this
      obtain ⟨c, hc⟩ := Option.isSome_iff_exists.1 (show (Tryz.f44).body.isSome = true by kernel_rfl)
      simp [callFunc, Tryz.func44, hnm, hc]
    · refine (outNum_walk ⟨o.s.toArray⟩ o.err n bytes w (by rw [bytes_size]; omega)).mono fun e w' ⟨he, hb⟩ => ⟨_, he, J, ?_⟩
      refine ⟨keeps_below _ hb, fun _ _ h => h, fun b o' h => Nat.lt_of_lt_of_le (hJ b o' h) hb.size, fun _ _ h _ => h, rfl, (fun j cs cs' p hj => by cases hj), .inl ⟨rfl, ?_⟩⟩
      refine .agg [.str (N.outNum o n bytes).s, .int .i64 (N.outNum o n bytes).err] [.string ⟨(o.s ++ N.numB n (N.clamp bytes)).toArray⟩, .int .i64 o.err] rfl fun i hi => ?_
      match i, hi with
      | 0, _ => exact .dat (.str _)
      | 1, _ => exact .dat (.int _ _)
end Go.Ev
