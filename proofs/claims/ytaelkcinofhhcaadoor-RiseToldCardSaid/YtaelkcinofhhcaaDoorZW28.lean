/- RiseTold: the statement holds, its listed variables tied to the program's text. -/
import Derived.Test.YtaelkcinofhhcaaDoorTie
import Derived.Test.YtaelkcinofhhcaaDoorCards
import Derived.Test.YtaelkcinofhhcaaDoorGc
import Derived.Test.YtaelkcinofhhcaaDoorGe
import Derived.LaidMore
import Derived.Lay
import Derived.SevenTiedAt
import Derived.Stop.Joined
namespace Go.Proofs.YtaelkcinofhhcaaDoor
open Go.ChangeShapes Go.WideShapes Go.ChangeAt Go.RowKit Go.Ev

theorem own1 : ownKnob Tryd.prog.godebug = none := by kernel_rfl
theorem laidOut1 : laidOutB Tryd.prog = true := by kernel_rfl
theorem shut_true {H : Type} {enc : TypeId × Value → H} {w : World} {base : Nat} {sp : Nat → Bool} {held : Bool} : DataW.Trod enc Tryd.prog w base sp held 4 (.bool true) (.lit (.bool true)) [] := shut_bool Tryd.underlying4 true

set_option maxRecDepth 100000 in
theorem lifted (os : Os) (started : os.Started) (H : Type) (enc : TypeId × Value → H) :
    ReturnsInHanded {} Tryd.checked os 7 .any (fun w args => (Rows.riseToldSpec.pre enc Tryd.prog Tryd.f7 Rows.riseToldRow.domain false w args ∧ laidMetH Tryd.prog Rows.riseToldRow.laid w) ∧ sizedMet enc Tryd.prog Tryd.f7 (OpenSpec.ofChange Rows.riseToldSpec) false w args)
      (Rows.riseToldSpec.post enc Tryd.prog Tryd.f7 false true false false) := by
  refine returnsInHanded_of_change_and (C := Tryd.checked) (X := fun w _ => laidMetH Tryd.prog Rows.riseToldRow.laid w) (fun _ _ _ hh h => h.of_heap hh) own1 started (by kernel_rfl) Tryd.func7
    (ChangeSpec.witness_shaped (enc := enc) (C := Tryd.checked) (os := os) (X := fun w _ => laidMetH Tryd.prog Rows.riseToldRow.laid w) false (World.laidAll Tryd.prog os Rows.riseToldRow.laid) #[.slice none 0 0, .slice none 0 0] 8 (World.laidAll_os _ _ _)
      (World.shaped_of_ZipB (by kernel_rfl) (by kernel_rfl)) (by kernel_rfl) (by kernel_rfl) (by kernel_rfl)
      (by rw [MakeChecks.laidMetH_plain _ _ _ (by kernel_rfl)]; exact laidMet_laidAll _ (by kernel_rfl) (by kernel_rfl))) ?_
  intro W base args ds gs before hval0 hW hcnd _ hL _
  have hval : ∀ (j : Nat) t v, Tryd.f7.params[j]? = some t → args[j]? = some v → Value.okWide Tryd.prog W .any base t v := hval0
  have hW' := hW
  obtain ⟨p, q, hA0, hV, rfl, hfz, hnd⟩ := hW
  have hA : DataW.TrodAll enc Tryd.prog W 0 (fun _ => true) true Tryd.f7.params.toList args.toList ds p := hA0
  rw [Tryd.params7] at hA hval
  obtain ⟨v0, v1, d0, d1, p0, p1, rfl, rfl, rfl, h0, h1⟩ := trodAll_two hA
  obtain ⟨rfl, rfl⟩ := trodVars_none hV
  obtain ⟨a0, w0, r0⟩ := open_one (n := 12) (rSl cMail) rfl (by kernel_rfl) (by kernel_rfl) (by kernel_rfl) (hval 0 49 v0 rfl rfl) h0
  obtain ⟨a1, w1, r1⟩ := open_one (n := 12) (rSl (rInt .u8)) rfl (by kernel_rfl) (by kernel_rfl) (by kernel_rfl) (hval 1 50 v1 rfl rfl) h1
  have hall : AllRv W (oldI W) noRho ((aCons (vOne (rSl cMail) rfl) (aOne (vOne (rSl (rInt .u8)) rfl))).enc (a0, a1)) [v0, v1] := ⟨rfl, fun i hi => by
    match i, hi with
    | 0, _ => exact r0
    | 1, _ => exact r1⟩
  have main := law_calls Tryd.func7 (by kernel_rfl) (by kernel_rfl) (ok_lawRT outNum_ok) (a0, a1) (len_wf w0) (rfl) hall (held_of (by kernel_rfl))
  refine main.mono fun e W' ⟨he, hB⟩ => ?_
  subst he
  have t0 := Below.trod laidOut1 (by kernel_rfl) (of_decide_eq_true (by kernel_rfl)) h0 hB fun x hx => hW'.lt x (by simp [hx])
  have t1 := Below.trod laidOut1 (by kernel_rfl) (of_decide_eq_true (by kernel_rfl)) h1 hB fun x hx => hW'.lt x (by simp [hx])
  exact ⟨_, rfl, _, _, _, [], _, [], hW', trodAll_mk1 shut_true, trodAll_mk2 t0 t1, rfl, hB.frame _, fun h => by cases h⟩

theorem row_holds : Rows.RiseToldSaid :=
  OpenClaim.holds_of_wide 7 Tryd.f7 rfl rfl rfl rfl rfl rfl rfl ⟨rfl, rfl, rfl, rfl, rfl⟩ rfl rfl rfl rfl rfl (by kernel_rfl) Tryd.func7 (by kernel_rfl)
    (of_decide_eq_true (by kernel_rfl)) (by unfold Func.isWrapper; first | (rw [if_pos (by decide +kernel)]; kernel_rfl) | (rw [if_neg (by decide +kernel)]; exact ⟨rfl, rfl⟩))
    (fun os started H enc _ => lifted os started H enc)
theorem riseTold_holds : Rows.RiseToldCardSaid :=
  Claim7.holds_tied_plain_at .later [] [.data, .pinned] true (true, "65a7beb20700ef24c7710fcba03cc1ad40dd0ff07cf18a6b34ea087614c550a0") false row_holds (fun _ h => by cases h) (by kernel_rfl) (fun _ h => by cases h) riseTold_row_tie rfl ⟨rfl, rfl⟩ (by kernel_rfl) rfl
    (fun f fn hf hfn => by
      obtain rfl : f = 7 := Option.some.inj ((show Tryd.prog.funcNamed "stairwell/stairwelllaw20.RiseTold" = some 7 by kernel_rfl).symm.trans hf) |>.symm
      obtain rfl : fn = Tryd.f7 := (Option.some.inj (Tryd.func7.symm.trans hfn)).symm
      exact ⟨by kernel_rfl, fun j t ht => by
        rw [Tryd.params7] at ht
        have hm : t ∈ [49, 50] := by simpa using Array.mem_of_getElem? ht
        have hall : ([49, 50].all fun u => !Tryd.prog.wantsStandIn u) = true := by kernel_rfl
        exact (show Tryd.prog.wantsStandIn t = false by simpa using List.all_eq_true.1 hall t hm)⟩)
    (by kernel_rfl)
end Go.Proofs.YtaelkcinofhhcaaDoor
