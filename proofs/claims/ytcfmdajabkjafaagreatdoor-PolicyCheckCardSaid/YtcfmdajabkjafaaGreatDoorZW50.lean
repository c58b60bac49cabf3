/- PolicyCheck: the statement holds, its listed variables tied to the program's text. -/
import Derived.Test.YtcfmdajabkjafaaGreatDoorTie
import Derived.Test.YtcfmdajabkjafaaGreatDoorCards
import Derived.Test.YtcfmdajabkjafaaGreatDoorGc
import Derived.Test.YtcfmdajabkjafaaGreatDoorGh
import Derived.LaidMore
import Derived.Lay
import Derived.SevenTiedAt
import Derived.Stop.Joined
namespace Go.Proofs.YtcfmdajabkjafaaGreatDoor
open Go.ChangeShapes Go.WideShapes Go.ChangeAt Go.RowKit Go.Ev

theorem own1 : ownKnob Tryz.prog.godebug = none := by kernel_rfl
theorem laidOut1 : laidOutB Tryz.prog = true := by kernel_rfl
theorem shut_true {H : Type} {enc : TypeId × Value → H} {w : World} {base : Nat} {sp : Nat → Bool} {held : Bool} : DataW.Trod enc Tryz.prog w base sp held 4 (.bool true) (.lit (.bool true)) [] := shut_bool Tryz.underlying4 true

set_option maxRecDepth 100000 in
theorem lifted (os : Os) (started : os.Started) (H : Type) (enc : TypeId × Value → H) :
    ReturnsInHanded {} Tryz.checked os 8 .any (fun w args => (Rows.policyCheckSpec.pre enc Tryz.prog Tryz.f8 Rows.policyCheckRow.domain false w args ∧ laidMetH Tryz.prog Rows.policyCheckRow.laid w) ∧ sizedMet enc Tryz.prog Tryz.f8 (OpenSpec.ofChange Rows.policyCheckSpec) false w args)
      (Rows.policyCheckSpec.post enc Tryz.prog Tryz.f8 false true false false) := by
  refine returnsInHanded_of_change_and (C := Tryz.checked) (X := fun w _ => laidMetH Tryz.prog Rows.policyCheckRow.laid w) (fun _ _ _ hh h => h.of_heap hh) own1 started (by kernel_rfl) Tryz.func8
    (ChangeSpec.witness_shaped (enc := enc) (C := Tryz.checked) (os := os) (X := fun w _ => laidMetH Tryz.prog Rows.policyCheckRow.laid w) false (World.laidAll Tryz.prog os Rows.policyCheckRow.laid) #[.agg #[.int .i64 0, .int .i64 0, .slice none 0 0, .slice none 0 0, .slice none 0 0], .string ⟨#[]⟩] 8 (World.laidAll_os _ _ _)
      (World.shaped_of_ZipB (by kernel_rfl) (by kernel_rfl)) (by kernel_rfl) (by kernel_rfl) (by kernel_rfl)
      (by rw [MakeChecks.laidMetH_plain _ _ _ (by kernel_rfl)]; exact laidMet_laidAll _ (by kernel_rfl) (by kernel_rfl))) ?_
  intro W base args ds gs before hval0 hW hcnd _ hL _
  have hval : ∀ (j : Nat) t v, Tryz.f8.params[j]? = some t → args[j]? = some v → Value.okWide Tryz.prog W .any base t v := hval0
  have hW' := hW
  obtain ⟨p, q, hA0, hV, rfl, hfz, hnd⟩ := hW
  have hA : DataW.TrodAll enc Tryz.prog W 0 (fun _ => true) true Tryz.f8.params.toList args.toList ds p := hA0
  rw [Tryz.params8] at hA hval
  obtain ⟨v0, v1, d0, d1, p0, p1, rfl, rfl, rfl, h0, h1⟩ := trodAll_two hA
  obtain ⟨rfl, rfl⟩ := trodVars_none hV
  obtain ⟨a0, w0, r0⟩ := open_agg (n := 12) cPolicy Tryz.underlying27 (by kernel_rfl) (by kernel_rfl) (hval 0 27 v0 rfl rfl) h0
  obtain ⟨a1, w1, r1⟩ := open_one (n := 12) rStr rfl (by kernel_rfl) (by kernel_rfl) (by kernel_rfl) (hval 1 9 v1 rfl rfl) h1
  have hall : AllRv W (oldI W) noRho ((aCons (vAgg cPolicy) (aOne (vOne rStr rfl))).enc (a0, a1)) [v0, v1] := ⟨rfl, fun i hi => by
    match i, hi with
    | 0, _ => exact r0
    | 1, _ => exact r1⟩
  have main := law_calls Tryz.func8 (by kernel_rfl) (by kernel_rfl) (ok_checkL outNum_ok) (a0, a1) (check_wf w0) (rfl) hall (held5 hL)
  refine main.mono fun e W' ⟨he, hB⟩ => ?_
  subst he
  have t0 := Below.trod laidOut1 (by kernel_rfl) (of_decide_eq_true (by kernel_rfl)) h0 hB fun x hx => hW'.lt x (by simp [hx])
  have t1 := Below.trod laidOut1 (by kernel_rfl) (of_decide_eq_true (by kernel_rfl)) h1 hB fun x hx => hW'.lt x (by simp [hx])
  exact ⟨_, rfl, _, _, _, [], _, [], hW', trodAll_mk1 shut_true, trodAll_mk2 t0 t1, rfl, hB.frame _, fun h => by cases h⟩

theorem row_holds : Rows.PolicyCheckSaid :=
  OpenClaim.holds_of_wide 8 Tryz.f8 rfl rfl rfl rfl rfl rfl rfl ⟨rfl, rfl, rfl, rfl, rfl⟩ rfl rfl rfl rfl rfl (by kernel_rfl) Tryz.func8 (by kernel_rfl)
    (of_decide_eq_true (by kernel_rfl)) (by unfold Func.isWrapper; first | (rw [if_pos (by decide +kernel)]; kernel_rfl) | (rw [if_neg (by decide +kernel)]; exact ⟨rfl, rfl⟩))
    (fun os started H enc _ => lifted os started H enc)
theorem policyCheck_holds : Rows.PolicyCheckCardSaid :=
  Claim7.holds_tied_plain_at .later [] [.data, .data, .data, .data, .sentinel, .sentinel, .pinned] true (true, "03552e61c6578e1813801d1cf8b0f38c922bcf6bb89440fd96bb8acde40092a6") true row_holds (fun _ h => by cases h) (by kernel_rfl) (fun _ h => by cases h) policyCheck_row_tie rfl ⟨rfl, rfl⟩ (by kernel_rfl) rfl
    (fun f fn hf hfn => by
      obtain rfl : f = 8 := Option.some.inj ((show Tryz.prog.funcNamed "stairwell/stairwelllaw05.PolicyCheck" = some 8 by kernel_rfl).symm.trans hf) |>.symm
      obtain rfl : fn = Tryz.f8 := (Option.some.inj (Tryz.func8.symm.trans hfn)).symm
      exact ⟨by kernel_rfl, fun j t ht => by
        rw [Tryz.params8] at ht
        have hm : t ∈ [27, 9] := by simpa using Array.mem_of_getElem? ht
        have hall : ([27, 9].all fun u => !Tryz.prog.wantsStandIn u) = true := by kernel_rfl
        exact (show Tryz.prog.wantsStandIn t = false by simpa using List.all_eq_true.1 hall t hm)⟩)
    (by kernel_rfl)
end Go.Proofs.YtcfmdajabkjafaaGreatDoor
