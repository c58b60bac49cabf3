/- StockReads: the statement holds, its listed variables tied to the program's text. -/
import Derived.Test.YtojpdhfnmodinaaGreatDoorTie
import Derived.Test.YtojpdhfnmodinaaGreatDoorCards
import Derived.Test.YtojpdhfnmodinaaGreatDoorGc
import Derived.Test.YtojpdhfnmodinaaGreatDoorGe
import Derived.Test.YtojpdhfnmodinaaGreatDoorGf
import Derived.LaidMore
import Derived.Lay
import Derived.SevenTiedAt
import Derived.Stop.Joined
namespace Go.Proofs.YtojpdhfnmodinaaGreatDoor
open Go.ChangeShapes Go.WideShapes Go.ChangeAt Go.RowKit Go.Ev

theorem aot : ownKnob Tryz.prog.godebug = none := by kernel_rfl
theorem XE : laidOutB Tryz.prog = true := by kernel_rfl
theorem ady {H : Type} {enc : TypeId × Value → H} {w : World} {base : Nat} {sp : Nat → Bool} {held : Bool} : DataW.Trod enc Tryz.prog w base sp held 4 (.bool true) (.lit (.bool true)) [] := shut_bool Tryz.underlying4 true

set_option maxRecDepth 100000 in
theorem lifted (os : Os) (started : os.Started) (H : Type) (enc : TypeId × Value → H) :
    ReturnsInHanded {} Tryz.checked os 6 .any (fun w args => (Rows.stockReadsSpec.pre enc Tryz.prog Tryz.f6 Rows.stockReadsRow.domain false w args ∧ laidMetH Tryz.prog Rows.stockReadsRow.laid w) ∧ sizedMet enc Tryz.prog Tryz.f6 (OpenSpec.ofChange Rows.stockReadsSpec) false w args)
      (Rows.stockReadsSpec.post enc Tryz.prog Tryz.f6 false true false false) := by
  refine returnsInHanded_of_change_and (C := Tryz.checked) (X := fun w _ => laidMetH Tryz.prog Rows.stockReadsRow.laid w) (fun _ _ _ hh h => h.of_heap hh) aot started (by kernel_rfl) Tryz.func6
    (ChangeSpec.witness_shaped (enc := enc) (C := Tryz.checked) (os := os) (X := fun w _ => laidMetH Tryz.prog Rows.stockReadsRow.laid w) false (World.laidAll Tryz.prog os Rows.stockReadsRow.laid) #[.string ⟨#[]⟩, .int .i64 0] 8 (World.laidAll_os _ _ _)
      (World.shaped_of_ZipB (by kernel_rfl) (by kernel_rfl)) (by kernel_rfl) (by kernel_rfl) (by kernel_rfl)
      (by rw [MakeChecks.laidMetH_plain _ _ _ (by kernel_rfl)]; exact laidMet_laidAll _ (by kernel_rfl) (by kernel_rfl))) ?_
  intro W base args ds gs before hval0 hW hcnd _ hL _
  have hval : ∀ (j : Nat) t v, Tryz.f6.params[j]? = some t → args[j]? = some v → Value.okWide Tryz.prog W .any base t v := hval0
  have hW' := hW
  obtain ⟨p, q, hA0, hV, rfl, hfz, hnd⟩ := hW
  have hA : DataW.TrodAll enc Tryz.prog W 0 (fun _ => true) true Tryz.f6.params.toList args.toList ds p := hA0
  rw [Tryz.params6] at hA hval
  obtain ⟨v0, v1, d0, d1, p0, p1, rfl, rfl, rfl, h0, h1⟩ := trodAll_two hA
  obtain ⟨rfl, rfl⟩ := trodVars_none hV
  obtain ⟨a0, w0, r0⟩ := U1 (n := 12) oH rfl (by kernel_rfl) (by kernel_rfl) (by kernel_rfl) (hval 0 9 v0 rfl rfl) h0
  obtain ⟨a1, w1, r1⟩ := U1 (n := 12) (vw .i64) rfl (by kernel_rfl) (by kernel_rfl) (by kernel_rfl) (hval 1 3 v1 rfl rfl) h1
  have hall : dh W (OY W) mD ((bg (UZ oH rfl) (aT (UZ (vw .i64) rfl))).enc (a0, a1)) [v0, v1] := ⟨rfl, fun i hi => by
    match i, hi with
    | 0, _ => exact r0
    | 1, _ => exact r1⟩
  have main := ab3 Tryz.func6 (by kernel_rfl) (by kernel_rfl) ((adv adx)) (a0, a1) (adw w1) (rfl) hall (aie (by kernel_rfl))
  refine main.mono fun e W' ⟨he, hB⟩ => ?_
  subst he
  have t0 := Below.trod XE (by kernel_rfl) (of_decide_eq_true (by kernel_rfl)) h0 hB fun x hx => hW'.lt x (by simp [hx])
  have t1 := Below.trod XE (by kernel_rfl) (of_decide_eq_true (by kernel_rfl)) h1 hB fun x hx => hW'.lt x (by simp [hx])
  exact ⟨_, rfl, _, _, _, [], _, [], hW', trodAll_mk1 ady, trodAll_mk2 t0 t1, rfl, hB.frame _, fun h => by cases h⟩

theorem adz : Rows.StockReadsSaid :=
  OpenClaim.holds_of_wide 6 Tryz.f6 rfl rfl rfl rfl rfl rfl rfl ⟨rfl, rfl, rfl, rfl, rfl⟩ rfl rfl rfl rfl rfl (by kernel_rfl) Tryz.func6 (by kernel_rfl)
    (of_decide_eq_true (by kernel_rfl)) (by unfold Func.isWrapper; first | (rw [if_pos (by decide +kernel)]; kernel_rfl) | (rw [if_neg (by decide +kernel)]; exact ⟨rfl, rfl⟩))
    (fun os started H enc _ => lifted os started H enc)
theorem stockReads_holds : Rows.StockReadsCardSaid :=
  Claim7.holds_tied_plain_at .later [] [.data, .pinned] true (true, "1c775cda4fca38e5779690faeffe20db4dbf1d6c6aa416c937e862fa3332d3be") false adz (fun _ h => by cases h) (by kernel_rfl) (fun _ h => by cases h) stockReads_row_tie rfl ⟨rfl, rfl⟩ (by kernel_rfl) rfl
    (fun f fn hf hfn => by
      obtain rfl : f = 6 := Option.some.inj ((show Tryz.prog.funcNamed "stairwell/stairwelllaw21.StockReads" = some 6 by kernel_rfl).symm.trans hf) |>.symm
      obtain rfl : fn = Tryz.f6 := (Option.some.inj (Tryz.func6.symm.trans hfn)).symm
      exact ⟨by kernel_rfl, fun j t ht => by
        rw [Tryz.params6] at ht
        have hm : t ∈ [9, 3] := by simpa using Array.mem_of_getElem? ht
        have hall : ([9, 3].all fun u => !Tryz.prog.wantsStandIn u) = true := by kernel_rfl
        exact (show Tryz.prog.wantsStandIn t = false by simpa using List.all_eq_true.1 hall t hm)⟩)
    (by kernel_rfl)
end Go.Proofs.YtojpdhfnmodinaaGreatDoor
