/- PolicyParses: the statement holds, its listed variables tied to the program's text. -/
import Derived.Test.YtcfmdajabkjafaaGreatDoorTie
import Derived.Test.YtcfmdajabkjafaaGreatDoorCards
import Derived.Test.YtcfmdajabkjafaaGreatDoorGc
import Derived.Test.YtcfmdajabkjafaaGreatDoorGf
import Derived.LaidMore
import Derived.Lay
import Derived.SevenTiedAt
import Derived.Stop.Joined
namespace Go.Proofs.YtcfmdajabkjafaaGreatDoor
open Go.ChangeShapes Go.WideShapes Go.ChangeAt Go.RowKit Go.Ev

theorem own1 : ownKnob Tryz.prog.godebug = none := by kernel_rfl
theorem laidOut1 : laidOutB Tryz.prog = true := by kernel_rfl
theorem shut_true {H : Type} {enc : TypeId × Value → H} {w : World} {base : Nat} {sp : Nat → Bool} {held : Bool} : DataW.Trod enc Tryz.prog w base sp held 4 (.bool true) (.lit (.bool true)) [] := shut_bool Tryz.underlying4 true

set_option maxRecDepth 100000 in
theorem lifted (os : Os) (started : os.Started) (H : Type) (enc : TypeId × Value → H) :
    ReturnsInHanded {} Tryz.checked os 3 .any (fun w args => (Rows.policyParsesSpec.pre enc Tryz.prog Tryz.f3 Rows.policyParsesRow.domain false w args ∧ laidMetH Tryz.prog Rows.policyParsesRow.laid w) ∧ sizedMet enc Tryz.prog Tryz.f3 (OpenSpec.ofChange Rows.policyParsesSpec) false w args)
      (Rows.policyParsesSpec.post enc Tryz.prog Tryz.f3 false true false false) := by
  refine returnsInHanded_of_change_and (C := Tryz.checked) (X := fun w _ => laidMetH Tryz.prog Rows.policyParsesRow.laid w) (fun _ _ _ hh h => h.of_heap hh) own1 started (by kernel_rfl) Tryz.func3
    (ChangeSpec.witness_shaped (enc := enc) (C := Tryz.checked) (os := os) (X := fun w _ => laidMetH Tryz.prog Rows.policyParsesRow.laid w) false (World.laidAll Tryz.prog os Rows.policyParsesRow.laid) #[.string ⟨#[]⟩] 8 (World.laidAll_os _ _ _)
      (World.shaped_of_ZipB (by kernel_rfl) (by kernel_rfl)) (by kernel_rfl) (by kernel_rfl) (by kernel_rfl)
      (by rw [MakeChecks.laidMetH_plain _ _ _ (by kernel_rfl)]; exact laidMet_laidAll _ (by kernel_rfl) (by kernel_rfl))) ?_
  intro W base args ds gs before hval0 hW hcnd _ hL _
  have hval : ∀ (j : Nat) t v, Tryz.f3.params[j]? = some t → args[j]? = some v → Value.okWide Tryz.prog W .any base t v := hval0
  have hW' := hW
  obtain ⟨p, q, hA0, hV, rfl, hfz, hnd⟩ := hW
  have hA : DataW.TrodAll enc Tryz.prog W 0 (fun _ => true) true Tryz.f3.params.toList args.toList ds p := hA0
  rw [Tryz.params3] at hA hval
  obtain ⟨v0, d0, rfl, rfl, h0⟩ := trodAll_one hA
  obtain ⟨rfl, rfl⟩ := trodVars_none hV
  obtain ⟨a0, w0, r0⟩ := open_one (n := 12) rStr rfl (by kernel_rfl) (by kernel_rfl) (by kernel_rfl) (hval 0 9 v0 rfl rfl) h0
  have hall : AllRv W (oldI W) noRho ((aOne (vOne rStr rfl)).enc a0) [v0] := ⟨rfl, fun i hi => by
    match i, hi with
    | 0, _ => exact r0⟩
  have main := law_calls Tryz.func3 (by kernel_rfl) (by kernel_rfl) (ok_parsesL outNum_ok) a0 (rfl) (rfl) hall (held5 hL)
  refine main.mono fun e W' ⟨he, hB⟩ => ?_
  subst he
  have t0 := Below.trod laidOut1 (by kernel_rfl) (of_decide_eq_true (by kernel_rfl)) h0 hB fun x hx => hW'.lt x (by simp [hx])
  exact ⟨_, rfl, _, _, _, [], _, [], hW', trodAll_mk1 shut_true, trodAll_mk1 t0, rfl, hB.frame _, fun h => by cases h⟩

theorem row_holds : Rows.PolicyParsesSaid :=
  OpenClaim.holds_of_wide 3 Tryz.f3 rfl rfl rfl rfl rfl rfl rfl ⟨rfl, rfl, rfl, rfl, rfl⟩ rfl rfl rfl rfl rfl (by kernel_rfl) Tryz.func3 (by kernel_rfl)
    (of_decide_eq_true (by kernel_rfl)) (by unfold Func.isWrapper; first | (rw [if_pos (by decide +kernel)]; kernel_rfl) | (rw [if_neg (by decide +kernel)]; exact ⟨rfl, rfl⟩))
    (fun os started H enc _ => lifted os started H enc)
theorem policyParses_holds : Rows.PolicyParsesCardSaid :=
  Claim7.holds_tied_plain_at .later [] [.data, .data, .data, .data, .sentinel, .sentinel, .pinned] true (true, "03552e61c6578e1813801d1cf8b0f38c922bcf6bb89440fd96bb8acde40092a6") true row_holds (fun _ h => by cases h) (by kernel_rfl) (fun _ h => by cases h) policyParses_row_tie rfl ⟨rfl, rfl⟩ (by kernel_rfl) rfl
    (fun f fn hf hfn => by
      obtain rfl : f = 3 := Option.some.inj ((show Tryz.prog.funcNamed "stairwell/stairwelllaw05.PolicyParses" = some 3 by kernel_rfl).symm.trans hf) |>.symm
      obtain rfl : fn = Tryz.f3 := (Option.some.inj (Tryz.func3.symm.trans hfn)).symm
      exact ⟨by kernel_rfl, fun j t ht => by
        rw [Tryz.params3] at ht
        have hm : t ∈ [9] := by simpa using Array.mem_of_getElem? ht
        have hall : ([9].all fun u => !Tryz.prog.wantsStandIn u) = true := by kernel_rfl
        exact (show Tryz.prog.wantsStandIn t = false by simpa using List.all_eq_true.1 hall t hm)⟩)
    (by kernel_rfl)
end Go.Proofs.YtcfmdajabkjafaaGreatDoor
