/- LatticeBounds: the statement holds. -/
import Derived.Test.YtajdamefabfoaaaRows
import Derived.Test.YtajdamefabfoaaaOpen
import Derived.Test.YtajdamefabfoaaaL4
import Derived.Test.YtajdamefabfoaaaO2
namespace Go.Proofs.Ytajdamefabfoaaa
open Go.ChangeShapes Go.WideShapes Go.ChangeAt Go.RowKit Go.Ev

theorem own1 : ownKnob Try.prog.godebug = none := by kernel_rfl
theorem laidOut1 : laidOutB Try.prog = true := by kernel_rfl
theorem shut_true {H : Type} {enc : TypeId × Value → H} {w : World} {base : Nat} {sp : Nat → Bool} {held : Bool} : DataW.Trod enc Try.prog w base sp held 4 (.bool true) (.lit (.bool true)) [] := shut_bool Try.underlying4 true

set_option maxRecDepth 100000 in
theorem bounds_lifted (os : Os) (started : os.Started) (H : Type) (enc : TypeId × Value → H) :
    ReturnsInHanded {} Try.checked os 5 .any (Rows.latticeBoundsSpec.pre6 enc Try.prog Try.f5 Rows.latticeBoundsRow.domain false) (Rows.latticeBoundsSpec.post enc Try.prog Try.f5 false true false false) := by
  refine returnsInHanded_of_change (C := Try.checked) own1 started (by kernel_rfl) Try.func5
    (ChangeSpec.witness6 (enc := enc) (C := Try.checked) false ⟨#[], #[.agg #[.int .u8 0, .int .u32 0], .agg #[.int .u8 0, .int .u32 0], .agg #[.int .u8 0, .int .u32 0]], []⟩ 8 (by kernel_rfl) (by kernel_rfl) (by kernel_rfl) (by kernel_rfl)) ?_
  intro W base args ds gs before hval0 hW hcnd _
  have hval : ∀ (j : Nat) t v, Try.f5.params[j]? = some t → args[j]? = some v → Value.okWide Try.prog W .any base t v := hval0
  have hW' := hW
  obtain ⟨p, q, hA0, hV, rfl, hfz, hnd⟩ := hW
  have hA : DataW.TrodAll enc Try.prog W 0 (fun _ => true) true Try.f5.params.toList args.toList ds p := hA0
  rw [Try.params5] at hA hval
  obtain ⟨v0, v1, v2, d0, d1, d2, p0, p1, p2, rfl, rfl, rfl, h0, h1, h2⟩ := trodAll_three hA
  obtain ⟨rfl, rfl⟩ := trodVars_none hV
  obtain ⟨a, wa, ra⟩ := open_agg (n := 12) cLabel Try.underlying24 (by kernel_rfl) (by kernel_rfl) (hval 0 24 v0 rfl rfl) h0
  obtain ⟨b, wb, rb⟩ := open_agg (n := 12) cLabel Try.underlying24 (by kernel_rfl) (by kernel_rfl) (hval 1 24 v1 rfl rfl) h1
  obtain ⟨c, wc, rc⟩ := open_agg (n := 12) cLabel Try.underlying24 (by kernel_rfl) (by kernel_rfl) (hval 2 24 v2 rfl rfl) h2
  have hall : AllRv W (oldI W) noRho ((aCons (vAgg cLabel) (aCons (vAgg cLabel) (aOne (vAgg cLabel)))).enc (a, b, c)) [v0, v1, v2] := ⟨rfl, fun i hi => by
    match i, hi with
    | 0, _ => exact ra
    | 1, _ => exact rb
    | 2, _ => exact rc⟩
  have main := law_calls Try.func5 (by kernel_rfl) (by kernel_rfl) (ok_bounds outNum_ok) (a, b, c) rfl (bounds_true a b c (label_wf wa) (label_wf wb)) hall
  refine main.mono fun e W' ⟨he, hB⟩ => ?_
  subst he
  have t0 := Below.trod laidOut1 (by kernel_rfl) (of_decide_eq_true (by kernel_rfl)) h0 hB fun x hx => hW'.lt x (by simp [hx])
  have t1 := Below.trod laidOut1 (by kernel_rfl) (of_decide_eq_true (by kernel_rfl)) h1 hB fun x hx => hW'.lt x (by simp [hx])
  have t2 := Below.trod laidOut1 (by kernel_rfl) (of_decide_eq_true (by kernel_rfl)) h2 hB fun x hx => hW'.lt x (by simp [hx])
  refine ⟨_, rfl, _, _, _, [], _, [], hW', trodAll_mk1 shut_true, trodAll_mk3 t0 t1 t2, rfl, hB.frame _, fun h => by cases h⟩

theorem latticeBounds_holds : Rows.LatticeBoundsSaid :=
  OpenClaim.holds_of_wide 5 Try.f5 rfl rfl rfl rfl rfl rfl rfl ⟨rfl, rfl, rfl, rfl, rfl⟩ rfl rfl rfl rfl rfl (by kernel_rfl) Try.func5 (by kernel_rfl)
    (of_decide_eq_true (by kernel_rfl)) (by unfold Func.isWrapper; first | (rw [if_pos (by decide +kernel)]; kernel_rfl) | (rw [if_neg (by decide +kernel)]; exact ⟨rfl, rfl⟩))
    (fun os started H enc _ => bounds_lifted os started H enc)
end Go.Proofs.Ytajdamefabfoaaa
