/- RouteOwn: the statement holds, its listed variables tied to the program's text. -/
import Derived.Test.YtpdaepodhfdplaaGreatDoorTie
import Derived.Test.YtpdaepodhfdplaaGreatDoorCards
import Derived.Test.YtpdaepodhfdplaaGreatDoorGc
import Derived.Test.YtpdaepodhfdplaaGreatDoorGf
import Derived.LaidMore
import Derived.Lay
import Derived.SevenTiedAt
import Derived.Stop.Joined
namespace Go.Proofs.YtpdaepodhfdplaaGreatDoor
open Go.ChangeShapes Go.WideShapes Go.ChangeAt Go.RowKit Go.Ev

theorem own1 : ownKnob Tryz.prog.godebug = none := by kernel_rfl
theorem laidOut1 : laidOutB Tryz.prog = true := by kernel_rfl
theorem shut_true {H : Type} {enc : TypeId × Value → H} {w : World} {base : Nat} {sp : Nat → Bool} {held : Bool} : DataW.Trod enc Tryz.prog w base sp held 4 (.bool true) (.lit (.bool true)) [] := shut_bool Tryz.underlying4 true

set_option maxRecDepth 100000 in
theorem lifted (os : Os) (started : os.Started) (H : Type) (enc : TypeId × Value → H) :
    ReturnsInHanded {} Tryz.checked os 9 .any (fun w args => (Rows.routeOwnSpec.pre enc Tryz.prog Tryz.f9 Rows.routeOwnRow.domain false w args ∧ laidMetH Tryz.prog Rows.routeOwnRow.laid w) ∧ sizedMet enc Tryz.prog Tryz.f9 (OpenSpec.ofChange Rows.routeOwnSpec) false w args)
      (Rows.routeOwnSpec.post enc Tryz.prog Tryz.f9 false true false false) := by
  refine returnsInHanded_of_change_and (C := Tryz.checked) (X := fun w _ => laidMetH Tryz.prog Rows.routeOwnRow.laid w) (fun _ _ _ hh h => h.of_heap hh) own1 started (by kernel_rfl) Tryz.func9
    (ChangeSpec.witness_shaped (enc := enc) (C := Tryz.checked) (os := os) (X := fun w _ => laidMetH Tryz.prog Rows.routeOwnRow.laid w) false (World.laidAll Tryz.prog os Rows.routeOwnRow.laid) #[.slice none 0 0, .slice none 0 0, .string ⟨#[]⟩, .string ⟨#[]⟩, .slice none 0 0] 8 (World.laidAll_os _ _ _)
      (World.shaped_of_ZipB (by kernel_rfl) (by kernel_rfl)) (by kernel_rfl) (by kernel_rfl) (by kernel_rfl)
      (by rw [MakeChecks.laidMetH_plain _ _ _ (by kernel_rfl)]; exact laidMet_laidAll _ (by kernel_rfl) (by kernel_rfl))) ?_
  intro W base args ds gs before hval0 hW hcnd _ hL _
  have hval : ∀ (j : Nat) t v, Tryz.f9.params[j]? = some t → args[j]? = some v → Value.okWide Tryz.prog W .any base t v := hval0
  have hW' := hW
  obtain ⟨p, q, hA0, hV, rfl, hfz, hnd⟩ := hW
  have hA : DataW.TrodAll enc Tryz.prog W 0 (fun _ => true) true Tryz.f9.params.toList args.toList ds p := hA0
  rw [Tryz.params9] at hA hval
  obtain ⟨v0, v1, v2, v3, v4, d0, d1, d2, d3, d4, p0, p1, p2, p3, p4, rfl, rfl, rfl, h0, h1, h2, h3, h4⟩ := trodAll_five hA
  obtain ⟨rfl, rfl⟩ := trodVars_none hV
  obtain ⟨a0, w0, r0⟩ := open_one (n := 12) (rSl cRA) rfl (by kernel_rfl) (by kernel_rfl) (by kernel_rfl) (hval 0 62 v0 rfl rfl) h0
  obtain ⟨a1, w1, r1⟩ := open_one (n := 12) (rSl cRA) rfl (by kernel_rfl) (by kernel_rfl) (by kernel_rfl) (hval 1 62 v1 rfl rfl) h1
  obtain ⟨a2, w2, r2⟩ := open_one (n := 12) rStr rfl (by kernel_rfl) (by kernel_rfl) (by kernel_rfl) (hval 2 9 v2 rfl rfl) h2
  obtain ⟨a3, w3, r3⟩ := open_one (n := 12) rStr rfl (by kernel_rfl) (by kernel_rfl) (by kernel_rfl) (hval 3 9 v3 rfl rfl) h3
  obtain ⟨a4, w4, r4⟩ := open_one (n := 12) (rSl cPair) rfl (by kernel_rfl) (by kernel_rfl) (by kernel_rfl) (hval 4 29 v4 rfl rfl) h4
  have hall : AllRv W (oldI W) noRho ((aCons (vOne (rSl cRA) rfl) (aCons (vOne (rSl cRA) rfl) (aCons (vOne rStr rfl) (aCons (vOne rStr rfl) (aOne (vOne (rSl cPair) rfl)))))).enc (a0, a1, a2, a3, a4)) [v0, v1, v2, v3, v4] := ⟨rfl, fun i hi => by
    match i, hi with
    | 0, _ => exact r0
    | 1, _ => exact r1
    | 2, _ => exact r2
    | 3, _ => exact r3
    | 4, _ => exact r4⟩
  have main := law_calls Tryz.func9 (by kernel_rfl) (by kernel_rfl) ((ok_routeOwn outNum_ok)) (a0, a1, a2, a3, a4) (by rw [len_wf w0, len_wf w1, cond_true, cond_true, ras_wf w0, cond_true]; exact ras_wf w1) (rfl) hall (held_of (by kernel_rfl))
  refine main.mono fun e W' ⟨he, hB⟩ => ?_
  subst he
  have t0 := Below.trod laidOut1 (by kernel_rfl) (of_decide_eq_true (by kernel_rfl)) h0 hB fun x hx => hW'.lt x (by simp [hx])
  have t1 := Below.trod laidOut1 (by kernel_rfl) (of_decide_eq_true (by kernel_rfl)) h1 hB fun x hx => hW'.lt x (by simp [hx])
  have t2 := Below.trod laidOut1 (by kernel_rfl) (of_decide_eq_true (by kernel_rfl)) h2 hB fun x hx => hW'.lt x (by simp [hx])
  have t3 := Below.trod laidOut1 (by kernel_rfl) (of_decide_eq_true (by kernel_rfl)) h3 hB fun x hx => hW'.lt x (by simp [hx])
  have t4 := Below.trod laidOut1 (by kernel_rfl) (of_decide_eq_true (by kernel_rfl)) h4 hB fun x hx => hW'.lt x (by simp [hx])
  exact ⟨_, rfl, _, _, _, [], _, [], hW', trodAll_mk1 shut_true, trodAll_mk5 t0 t1 t2 t3 t4, rfl, hB.frame _, fun h => by cases h⟩

theorem row_holds : Rows.RouteOwnSaid :=
  OpenClaim.holds_of_wide 9 Tryz.f9 rfl rfl rfl rfl rfl rfl rfl ⟨rfl, rfl, rfl, rfl, rfl⟩ rfl rfl rfl rfl rfl (by kernel_rfl) Tryz.func9 (by kernel_rfl)
    (of_decide_eq_true (by kernel_rfl)) (by unfold Func.isWrapper; first | (rw [if_pos (by decide +kernel)]; kernel_rfl) | (rw [if_neg (by decide +kernel)]; exact ⟨rfl, rfl⟩))
    (fun os started H enc _ => lifted os started H enc)
theorem routeOwn_holds : Rows.RouteOwnCardSaid :=
  Claim7.holds_tied_plain_at .later [] [.data, .pinned] true (true, "c7ca4fb19bb5c2498c89354fbf8341cc24f48ba5b918d3e6ed548f3fa8386d46") false row_holds (fun _ h => by cases h) (by kernel_rfl) (fun _ h => by cases h) routeOwn_row_tie rfl ⟨rfl, rfl⟩ (by kernel_rfl) rfl
    (fun f fn hf hfn => by
      obtain rfl : f = 9 := Option.some.inj ((show Tryz.prog.funcNamed "stairwell/stairwelllaw14.RouteOwn" = some 9 by kernel_rfl).symm.trans hf) |>.symm
      obtain rfl : fn = Tryz.f9 := (Option.some.inj (Tryz.func9.symm.trans hfn)).symm
      exact ⟨by kernel_rfl, fun j t ht => by
        rw [Tryz.params9] at ht
        have hm : t ∈ [62, 62, 9, 9, 29] := by simpa using Array.mem_of_getElem? ht
        have hall : ([62, 62, 9, 9, 29].all fun u => !Tryz.prog.wantsStandIn u) = true := by kernel_rfl
        exact (show Tryz.prog.wantsStandIn t = false by simpa using List.all_eq_true.1 hall t hm)⟩)
    (by kernel_rfl)
end Go.Proofs.YtpdaepodhfdplaaGreatDoor
