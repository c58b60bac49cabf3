/- LatticeTexts: the statement holds, its listed variables tied to the program's text. -/
import Derived.Test.YtcfmdajabkjafaaDoorTie
import Derived.Test.YtcfmdajabkjafaaDoorCards
import Derived.Test.YtcfmdajabkjafaaDoorGc
import Derived.Test.YtcfmdajabkjafaaDoorGe
import Derived.LaidMore
import Derived.Lay
import Derived.SevenTiedAt
import Derived.Stop.Joined
namespace Go.Proofs.YtcfmdajabkjafaaDoor
open Go.ChangeShapes Go.WideShapes Go.ChangeAt Go.RowKit Go.Ev

theorem own1 : ownKnob Tryd.prog.godebug = none := by kernel_rfl
theorem laidOut1 : laidOutB Tryd.prog = true := by kernel_rfl
theorem shut_true {H : Type} {enc : TypeId × Value → H} {w : World} {base : Nat} {sp : Nat → Bool} {held : Bool} : DataW.Trod enc Tryd.prog w base sp held 4 (.bool true) (.lit (.bool true)) [] := shut_bool Tryd.underlying4 true

theorem laid3 : (Rows.laid_internal_strconv_uint64pow10 : DataW Unit) = Lib.tabData .u64 Lib.pow10Tab := by kernel_rfl
theorem held1 {W : World} (hL : laidMetH Tryd.prog Rows.latticeTextsRow.laid W) : Held Tryd.prog (oldI W) W := by
  rw [MakeChecks.laidMetH_plain _ _ _ (by kernel_rfl)] at hL
  have h3 : laidMet Tryd.prog [("internal/strconv.uint64pow10", Rows.laid_internal_strconv_uint64pow10)] W := hL.tail.tail
  rw [laid3] at h3
  exact held_tab (n := "internal/strconv.uint64pow10") (zs := Lib.pow10Tab) (by kernel_rfl) rfl (by kernel_rfl) (tabIs_laid (by kernel_rfl) h3)
set_option maxRecDepth 100000 in
theorem lifted (os : Os) (started : os.Started) (H : Type) (enc : TypeId × Value → H) :
    ReturnsInHanded {} Tryd.checked os 3 .any (fun w args => (Rows.latticeTextsSpec.pre enc Tryd.prog Tryd.f3 Rows.latticeTextsRow.domain false w args ∧ laidMetH Tryd.prog Rows.latticeTextsRow.laid w) ∧ sizedMet enc Tryd.prog Tryd.f3 (OpenSpec.ofChange Rows.latticeTextsSpec) false w args)
      (Rows.latticeTextsSpec.post enc Tryd.prog Tryd.f3 false true false false) := by
  refine returnsInHanded_of_change_and (C := Tryd.checked) (X := fun w _ => laidMetH Tryd.prog Rows.latticeTextsRow.laid w) (fun _ _ _ hh h => h.of_heap hh) own1 started (by kernel_rfl) Tryd.func3
    (ChangeSpec.witness_shaped (enc := enc) (C := Tryd.checked) (os := os) (X := fun w _ => laidMetH Tryd.prog Rows.latticeTextsRow.laid w) false (World.laidAll Tryd.prog os Rows.latticeTextsRow.laid) #[.agg #[.int .u8 0, .int .u32 0], .string ⟨#[]⟩] 8 (World.laidAll_os _ _ _)
      (World.shaped_of_ZipB (by kernel_rfl) (by kernel_rfl)) (by kernel_rfl) (by kernel_rfl) (by kernel_rfl)
      (by rw [MakeChecks.laidMetH_plain _ _ _ (by kernel_rfl)]; exact laidMet_laidAll _ (by kernel_rfl) (by kernel_rfl))) ?_
  intro W base args ds gs before hval0 hW hcnd _ hL _
  have hval : ∀ (j : Nat) t v, Tryd.f3.params[j]? = some t → args[j]? = some v → Value.okWide Tryd.prog W .any base t v := hval0
  have hW' := hW
  obtain ⟨p, q, hA0, hV, rfl, hfz, hnd⟩ := hW
  have hA : DataW.TrodAll enc Tryd.prog W 0 (fun _ => true) true Tryd.f3.params.toList args.toList ds p := hA0
  rw [Tryd.params3] at hA hval
  obtain ⟨v0, v1, d0, d1, p0, p1, rfl, rfl, rfl, h0, h1⟩ := trodAll_two hA
  obtain ⟨rfl, rfl⟩ := trodVars_none hV
  obtain ⟨a0, w0, r0⟩ := open_agg (n := 12) cLabel Tryd.underlying24 (by kernel_rfl) (by kernel_rfl) (hval 0 24 v0 rfl rfl) h0
  obtain ⟨a1, w1, r1⟩ := open_one (n := 12) rStr rfl (by kernel_rfl) (by kernel_rfl) (by kernel_rfl) (hval 1 9 v1 rfl rfl) h1
  have hall : AllRv W (oldI W) noRho ((aCons (vAgg cLabel) (aOne (vOne rStr rfl))).enc (a0, a1)) [v0, v1] := ⟨rfl, fun i hi => by
    match i, hi with
    | 0, _ => exact r0
    | 1, _ => exact r1⟩
  have main := law_calls Tryd.func3 (by kernel_rfl) (by kernel_rfl) ((ok_lTexts outNum_ok)) (a0, a1) (okL_wf w0) (rfl) hall (held1 hL)
  refine main.mono fun e W' ⟨he, hB⟩ => ?_
  subst he
  have t0 := Below.trod laidOut1 (by kernel_rfl) (of_decide_eq_true (by kernel_rfl)) h0 hB fun x hx => hW'.lt x (by simp [hx])
  have t1 := Below.trod laidOut1 (by kernel_rfl) (of_decide_eq_true (by kernel_rfl)) h1 hB fun x hx => hW'.lt x (by simp [hx])
  exact ⟨_, rfl, _, _, _, [], _, [], hW', trodAll_mk1 shut_true, trodAll_mk2 t0 t1, rfl, hB.frame _, fun h => by cases h⟩

theorem row_holds : Rows.LatticeTextsSaid :=
  OpenClaim.holds_of_wide 3 Tryd.f3 rfl rfl rfl rfl rfl rfl rfl ⟨rfl, rfl, rfl, rfl, rfl⟩ rfl rfl rfl rfl rfl (by kernel_rfl) Tryd.func3 (by kernel_rfl)
    (of_decide_eq_true (by kernel_rfl)) (by unfold Func.isWrapper; first | (rw [if_pos (by decide +kernel)]; kernel_rfl) | (rw [if_neg (by decide +kernel)]; exact ⟨rfl, rfl⟩))
    (fun os started H enc _ => lifted os started H enc)
theorem latticeTexts_holds : Rows.LatticeTextsCardSaid :=
  Claim7.holds_tied_plain_at .later [] [.data, .data, .data] true (true, "9fe382de72c6b90960dab67b3adb1f7caefdf6a6f5d55623b4e006684e5a40ce") false row_holds (fun _ h => by cases h) (by kernel_rfl) (fun _ h => by cases h) latticeTexts_row_tie rfl ⟨rfl, rfl⟩ (by kernel_rfl) rfl
    (fun f fn hf hfn => by
      obtain rfl : f = 3 := Option.some.inj ((show Tryd.prog.funcNamed "stairwell/stairwelllaw03.LatticeTexts" = some 3 by kernel_rfl).symm.trans hf) |>.symm
      obtain rfl : fn = Tryd.f3 := (Option.some.inj (Tryd.func3.symm.trans hfn)).symm
      exact ⟨by kernel_rfl, fun j t ht => by
        rw [Tryd.params3] at ht
        have hm : t ∈ [24, 9] := by simpa using Array.mem_of_getElem? ht
        have hall : ([24, 9].all fun u => !Tryd.prog.wantsStandIn u) = true := by kernel_rfl
        exact (show Tryd.prog.wantsStandIn t = false by simpa using List.all_eq_true.1 hall t hm)⟩)
    (by kernel_rfl)
end Go.Proofs.YtcfmdajabkjafaaDoor
