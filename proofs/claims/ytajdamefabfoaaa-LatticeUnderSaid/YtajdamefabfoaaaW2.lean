/- LatticeUnder: the statement holds. -/
import Derived.Test.YtajdamefabfoaaaRows
import Derived.Test.YtajdamefabfoaaaOpen
import Derived.Test.YtajdamefabfoaaaL3
import Derived.Test.YtajdamefabfoaaaO2
namespace Go.Proofs.Ytajdamefabfoaaa
open Go.ChangeShapes Go.WideShapes Go.ChangeAt Go.RowKit Go.Ev

theorem own2 : ownKnob Try.prog.godebug = none := by kernel_rfl
theorem laidOut2 : laidOutB Try.prog = true := by kernel_rfl
theorem shut_true2 {H : Type} {enc : TypeId × Value → H} {w : World} {base : Nat} {sp : Nat → Bool} {held : Bool} : DataW.Trod enc Try.prog w base sp held 4 (.bool true) (.lit (.bool true)) [] := shut_bool Try.underlying4 true

set_option maxRecDepth 100000 in
theorem under_lifted (os : Os) (started : os.Started) (H : Type) (enc : TypeId × Value → H) :
    ReturnsInHanded {} Try.checked os 4 .any (Rows.latticeUnderSpec.pre6 enc Try.prog Try.f4 Rows.latticeUnderRow.domain false) (Rows.latticeUnderSpec.post enc Try.prog Try.f4 false true false false) := by
  refine returnsInHanded_of_change (C := Try.checked) own2 started (by kernel_rfl) Try.func4
    (ChangeSpec.witness6 (enc := enc) (C := Try.checked) false ⟨#[], #[.agg #[.int .u8 0, .int .u32 0], .agg #[.int .u8 0, .int .u32 0]], []⟩ 8 (by kernel_rfl) (by kernel_rfl) (by kernel_rfl) (by kernel_rfl)) ?_
  intro W base args ds gs before hval0 hW hcnd _
  have hval : ∀ (j : Nat) t v, Try.f4.params[j]? = some t → args[j]? = some v → Value.okWide Try.prog W .any base t v := hval0
  have hW' := hW
  obtain ⟨p, q, hA0, hV, rfl, hfz, hnd⟩ := hW
  have hA : DataW.TrodAll enc Try.prog W 0 (fun _ => true) true Try.f4.params.toList args.toList ds p := hA0
  rw [Try.params4] at hA hval
  obtain ⟨v0, v1, d0, d1, p0, p1, rfl, rfl, rfl, h0, h1⟩ := trodAll_two hA
  obtain ⟨rfl, rfl⟩ := trodVars_none hV
  obtain ⟨a, wa, ra⟩ := open_agg (n := 12) cLabel Try.underlying24 (by kernel_rfl) (by kernel_rfl) (hval 0 24 v0 rfl rfl) h0
  obtain ⟨b, wb, rb⟩ := open_agg (n := 12) cLabel Try.underlying24 (by kernel_rfl) (by kernel_rfl) (hval 1 24 v1 rfl rfl) h1
  have hall : AllRv W (oldI W) noRho ((aCons (vAgg cLabel) (aOne (vAgg cLabel))).enc (a, b)) [v0, v1] := ⟨rfl, fun i hi => by
    match i, hi with
    | 0, _ => exact ra
    | 1, _ => exact rb⟩
  have main := law_calls Try.func4 (by kernel_rfl) (by kernel_rfl) (ok_lawUnder outNum_ok) (a, b) rfl (lawUnder_true (label_wf wa) (label_wf wb)) hall
  refine main.mono fun e W' ⟨he, hB⟩ => ?_
  subst he
  have t0 := Below.trod laidOut2 (by kernel_rfl) (of_decide_eq_true (by kernel_rfl)) h0 hB fun x hx => hW'.lt x (by simp [hx])
  have t1 := Below.trod laidOut2 (by kernel_rfl) (of_decide_eq_true (by kernel_rfl)) h1 hB fun x hx => hW'.lt x (by simp [hx])
  refine ⟨_, rfl, _, _, _, [], _, [], hW', trodAll_mk1 shut_true2, trodAll_mk2 t0 t1, rfl, hB.frame _, fun h => by cases h⟩

theorem latticeUnder_holds : Rows.LatticeUnderSaid :=
  OpenClaim.holds_of_wide 4 Try.f4 rfl rfl rfl rfl rfl rfl rfl ⟨rfl, rfl, rfl, rfl, rfl⟩ rfl rfl rfl rfl rfl (by kernel_rfl) Try.func4 (by kernel_rfl)
    (of_decide_eq_true (by kernel_rfl)) (by unfold Func.isWrapper; first | (rw [if_pos (by decide +kernel)]; kernel_rfl) | (rw [if_neg (by decide +kernel)]; exact ⟨rfl, rfl⟩))
    (fun os started H enc _ => under_lifted os started H enc)
end Go.Proofs.Ytajdamefabfoaaa
