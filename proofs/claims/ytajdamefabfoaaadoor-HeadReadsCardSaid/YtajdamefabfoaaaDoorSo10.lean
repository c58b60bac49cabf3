/- A call: lemmas; the callee's own soundness is a premise. -/
import Derived.Test.YtajdamefabfoaaaDoorSo9
namespace Go.Ev
open Go Go.RowKit

section
variable {m : Nat} {S : St}

theorem flatV_ok {v : V} {x : Value} {w : World} {I : Nat → Nat → Prop} {ρ : Nat → Option Real} (h : Rv w I ρ v x) (hf : flatV v = true) (w' : World) (I' : Nat → Nat → Prop) : Dat w' I' v x := by
  cases h with
  | dat h => cases h with
    | bool b => exact .bool b
    | int k n => exact .int k n
    | str s => exact .str s
    | nils => cases hf
    | slc => cases hf
  | _ => cases hf
theorem flatL_spec : ∀ (vs : List V), flatL vs = true → ∀ i, i < vs.length → flatV (vs.getD i .undef) = true
  | [], _, _, h => by cases h
  | v :: vs, h, i, hi => by
    simp only [flatL] at h
    cases hs : flatV v with
    | false => rw [hs] at h; cases h
    | true =>
      rw [hs] at h
      cases i with
      | zero => exact hs
      | succ i => exact flatL_spec vs h i (by simpa using hi)
theorem flatBx_spec : ∀ (bs : List (List V)), flatBx bs = true → ∀ (i : Nat) (c : List V), bs[i]? = some c → flatL c = true
  | [], _, _, _, h => by cases h
  | b :: bs, h, i, c, hi => by
    simp only [flatBx] at h
    cases hs : flatL b with
    | false => rw [hs] at h; cases h
    | true =>
      rw [hs] at h
      cases i with
      | zero => cases hi; exact hs
      | succ i => exact flatBx_spec bs h i c (by simpa using hi)
theorem flatOne_ok {v : V} {x : Value} {w : World} {I : Nat → Nat → Prop} {ρ : Nat → Option Real} (h : Rv w I ρ v x)
    (hf : (∃ cs, v = .agg cs ∧ flatL cs = true) ∨ flatV v = true) (w' : World) (I' : Nat → Nat → Prop) (ρ' : Nat → Option Real) : Rv w' I' ρ' v x := by
  rcases hf with ⟨cs, rfl, hf⟩ | hf
  · obtain ⟨xs, rfl, l, hh⟩ := h.agg_inv
    exact .agg cs xs l fun i hi => .dat (flatV_ok (hh i hi) (flatL_spec cs hf i hi) w' I')
  · exact .dat (flatV_ok h hf w' I')
theorem flatT_spec : ∀ (vs : List V), flatRes.flatT vs = true → ∀ i, i < vs.length → (∃ cs, vs.getD i .undef = .agg cs ∧ flatL cs = true) ∨ flatV (vs.getD i .undef) = true
  | [], _, _, h => by cases h
  | v :: vs, h, i, hi => by
    have : ((∃ cs, v = .agg cs ∧ flatL cs = true) ∨ flatV v = true) ∧ flatRes.flatT vs = true := by
      cases v with
      | agg cs =>
        simp only [flatRes.flatT] at h
        cases hs : flatL cs with
        | false => rw [hs] at h; cases h
        | true => rw [hs] at h; exact ⟨.inl ⟨cs, rfl, hs⟩, h⟩
      | _ =>
        simp only [flatRes.flatT] at h
        first
        | (simp only [flatV, cond_true] at h; exact ⟨.inr rfl, h⟩)
        | (simp only [flatV, cond_false] at h; cases h)
    cases i with
    | zero => exact this.1
    | succ i => exact flatT_spec vs this.2 i (by simpa using hi)
theorem flatRes_ok {v : V} {x : Value} {w : World} {I : Nat → Nat → Prop} {ρ : Nat → Option Real} (h : Rv w I ρ v x) (hf : flatRes v = true) (w' : World) (I' : Nat → Nat → Prop) (ρ' : Nat → Option Real) : Rv w' I' ρ' v x := by
  cases v with
  | agg cs => exact flatOne_ok h (.inl ⟨cs, rfl, hf⟩) w' I' ρ'
  | tup vs =>
    obtain ⟨xs, rfl, l, hh⟩ := h.tup_inv
    exact .tup vs xs l fun i hi => flatOne_ok (hh i hi) (flatT_spec vs hf i hi) w' I' ρ'
  | _ => exact flatOne_ok h (.inr hf) w' I' ρ'

theorem evo_no (ρ : Nat → Option Real) : Evo noRho ρ := fun d br h => by cases h
theorem rename_ok {id : Nat} {v : V} {x : Value} {w : World} {I : Nat → Nat → Prop} {ρ : Nat → Option Real} {br : Real} (h : Rv w I (oneRho br) v x) : Rv w I (upd ρ id br) (rename id v) x := by
  cases v with
  | ptr d r o g =>
    simp only [rename]
    cases e : Nat.beq d NEW with
    | false => exact .undef x
    | true =>
      have e := Nat.eq_of_beq_eq_true e
      subst e
      cases h with
      | dat h => cases h
      | ptr _ _ _ _ br' _ hd hg hh hp =>
        simp [oneRho] at hd; subst hd
        exact .ptr id r o g br x (by simp [upd]) hg hh hp
  | own d g =>
    simp only [rename]
    cases e : Nat.beq d NEW with
    | false => exact .undef x
    | true =>
      have e := Nat.eq_of_beq_eq_true e
      subst e
      cases h with
      | dat h => cases h
      | own _ _ br' _ hd hg hh hp =>
        simp [oneRho] at hd; subst hd
        exact .own id g br x (by simp [upd]) hg hh hp
  | _ => exact .undef x

def locOf : Value → Nat × Nat
  | .pointer (some ⟨b, o, none⟩) => (b, o)
  | _ => (0, 0)

theorem CallsV.mono {P : Program} {f : FuncId} {xs : Array Value} {w : World} {Q Q' : Value → World → Prop} (h : CallsV P f xs w Q) (hq : ∀ v w', Q v w' → Q' v w') : CallsV P f xs w Q' := by
  rcases h with ⟨h1, h2⟩ | ⟨v, w', h1, h2⟩
  · exact .inl ⟨h1, h2.mono fun e w' ⟨v, e1, e2⟩ => ⟨v, e1, hq v w' e2⟩⟩
  · exact .inr ⟨v, w', h1, hq v w' h2⟩

theorem callFn_ok {E : Env} (hG : ∀ f D, E.G f = some D → FnOk E.P f D) {f : FuncId} {dst : Option Nat} {vs : List V} {ts : List TypeId} {K : V → St → Option R} {q : R} (h : callFn E f dst vs ts S K = some q) :
    ∃ v S', K v S' = some q ∧ S'.fr = S.fr ∧ ∀ w₀ I₀ O₀ ρ I a w, Rel m w₀ I₀ O₀ ρ I S a w → Good E.P w₀.toWorld I₀ O₀ → ∀ xs, AllRv w I ρ vs xs →
      CallsV E.P f xs.toArray w fun x w' => ∃ ρ' I', Rel m w₀ I₀ O₀ ρ' I' S' a w' ∧ Rv w' I' ρ' v x ∧ (noPtrL vs = true → Keeps (fun _ _ => False) w w') := by
  unfold callFn at h
  split at h
  · cases h
  rename_i D hGf
  obtain ⟨vs', ls, B, h, _, hno, hlend⟩ := lendAll_ok (m := m) vs ts 0 h
  obtain ⟨cs, B', h, hcl, hcells⟩ := loanCells_ok (m := m) ls h
  obtain ⟨hap, h⟩ := cond_none h
  obtain ⟨hab, h⟩ := cond_none h
  obtain ⟨hpre, h⟩ := cond_none h
  have still : ∀ (locs : List (Nat × Nat)) (w w' : World), Keeps (LocHas locs cs) w w' → noPtrL vs = true → Keeps (fun _ _ => False) w w' := fun locs w w' hk hp => by
    have e : cs = [] := by
      have := hno hp
      rw [this] at hcl
      exact List.eq_nil_of_length_eq_zero hcl
    subst e
    exact hk.mono fun b o _ ⟨j, p, c, _, h2, _⟩ => by cases h2
  -- the call itself
  have main : ∀ w₀ I₀ O₀ ρ I a w, Rel m w₀ I₀ O₀ ρ I S a w → Good E.P w₀.toWorld I₀ O₀ → ∀ xs, AllRv w I ρ vs xs →
      (∀ (i : Nat) (l : Loan), ls[i]? = some l → ∃ box box' c, c.length = l.sz ∧ lk? S.tab l.d = some box ∧ writeBox box l.r l.o l.g c = some box') →
      ∃ ptrs locs, PtrsOk w I ρ ls ptrs ∧ (∀ (i : Nat) (x : Value), ptrs[i]? = some x → ∃ b p, locs[i]? = some (b, p) ∧ x = .pointer (some ⟨b, p, none⟩)) ∧
        CallsV E.P f xs.toArray w fun v w' => ∃ J', RetOk w w' (fun b o => I b o ∨ HasOf S ρ (B ++ B') b o) locs cs (D.res vs' cs) v J' := by
    intro w₀ I₀ O₀ ρ I a w hr hgd xs hxs hbox
    obtain ⟨ptrs, hp, hargs⟩ := hlend w₀ I₀ O₀ ρ I a w hr xs hxs
    let J : Nat → Nat → Prop := fun b o => I b o ∨ HasOf S ρ (B ++ B') b o
    have lo : ∀ d br b o, Live S d → ρ d = some br → br.has b o → b < w.heap.size := fun d br b o hl hd hh => by
      obtain ⟨⟨x, hx⟩, _⟩ := hr.alive d br b o hl hd hh
      exact lt_of_cell hx
    have full : ∀ (i : Nat) (l : Loan), ls[i]? = some l → ∃ x br b p c, ptrs[i]? = some x ∧ x = .pointer (some ⟨b, p, none⟩) ∧ cs[i]? = some c ∧ c.length = l.sz ∧ Live S l.d ∧ ρ l.d = some br ∧ (∀ j, j < l.sz → br.has b (p + j)) ∧
        ∀ j, j < c.length → ∃ y, w.cell? ⟨b, p + j, none⟩ = some y ∧ Dat w J (c.getD j .undef) y := by
      intro i l hl
      have hi := (List.getElem?_eq_some_iff.1 hl).1
      have hpt : ptrs[i]? = some (ptrs[i]'(by rw [hp.1]; exact hi)) := List.getElem?_eq_getElem _
      have hcs : cs[i]? = some (cs[i]'(by omega)) := List.getElem?_eq_getElem _
      obtain ⟨box, box', c', e1, e2, e3⟩ := hbox i l hl
      obtain ⟨br₀, hd₀, hbx₀⟩ := hr.tab _ _ e2
      obtain ⟨f1, f2, f3⟩ := writeBox_size e3 hbx₀
      obtain ⟨br, b, p, g1, g2, g3, g4, _, g5, g6⟩ := ptr_real hr (hp.2 i l _ hl hpt) e2 f2 f3
      rw [hd₀] at g1; cases g1
      obtain ⟨k1, k2⟩ := hcells i l _ hl hcs
      obtain ⟨b', p', k3, k4⟩ := k2 w₀ I₀ O₀ ρ I a w hr _ (hp.2 i l _ hl hpt)
      rw [g5] at k3; cases k3
      exact ⟨_, br₀, b, _, _, hpt, g5, hcs, k1, ⟨box, e2, f2⟩, hd₀, fun j hj => g6 l.o l.sz (by omega) j hj,
        k4 J (fun _ _ h => .inl h) fun b o hh => .inr hh.right⟩
    have inv : ∀ (i : Nat) (x : Value), ptrs[i]? = some x → ∃ l, ls[i]? = some l := fun i x hx => by
      have := (List.getElem?_eq_some_iff.1 hx).1
      exact ⟨ls[i]'(by rw [← hp.1]; exact this), List.getElem?_eq_getElem _⟩
    have hloc : ∀ (i : Nat) (x : Value), ptrs[i]? = some x → ∃ b p, (ptrs.map locOf)[i]? = some (b, p) ∧ x = .pointer (some ⟨b, p, none⟩) := fun i x hx => by
      obtain ⟨l, hl⟩ := inv i x hx
      obtain ⟨x', br, b, p, c, e1, e2, _⟩ := full i l hl
      rw [hx] at e1; cases e1
      exact ⟨b, p, by simp [hx, e2, locOf], e2⟩
    have loc : ∀ (i : Nat) (p : Nat × Nat) (c : List V), (ptrs.map locOf)[i]? = some p → cs[i]? = some c → ∃ l br, ls[i]? = some l ∧ c.length = l.sz ∧ Live S l.d ∧ ρ l.d = some br ∧ (∀ j, j < l.sz → br.has p.1 (p.2 + j)) ∧
        ∀ j, j < c.length → ∃ y, w.cell? ⟨p.1, p.2 + j, none⟩ = some y ∧ Dat w J (c.getD j .undef) y := fun i p c hpi hci => by
      have hi := (List.getElem?_eq_some_iff.1 hci).1
      have hl : ls[i]? = some (ls[i]'(by omega)) := List.getElem?_eq_getElem _
      obtain ⟨x, br, b, p', c', e1, e2, e3, e4, e5, e6, e7, e8⟩ := full i _ hl
      rw [hci] at e3; cases e3
      have : p = (b, p') := by simpa [e1, e2, locOf] using hpi.symm
      subst this
      exact ⟨_, br, hl, e4, e5, e6, e7, e8⟩
    refine ⟨ptrs, ptrs.map locOf, hp, hloc, ?_⟩
    refine hG f D hGf vs' cs hpre w J (ptrs.map locOf) xs (by simp [hp.1, hcl]) ?_ ?_ ?_ ?_ fun b o x hx => ⟨.inl (hr.held hgd b o x hx).1, (hr.held hgd b o x hx).2⟩
    · rintro b o (hi | ⟨d, _, br, sh, rows, g, e1, e2, e3⟩)
      · exact hr.ilt b o hi
      · exact lo d br b o ⟨_, e1, by simp⟩ e2 e3
    · refine hargs J (fun _ _ h => .inl h) (fun b o hh => .inr hh.left) _ fun i x hx => ?_
      obtain ⟨l, hl⟩ := inv i x hx
      obtain ⟨x', br, b, p, c, e1, e2, e3, _⟩ := full i l hl
      rw [hx] at e1; cases e1
      refine ⟨{ base := some (b, p), sz := c.length, n := 1, cap := 1, gen := 0 }, ?_, rfl, Nat.one_pos, b, p, rfl, e2⟩
      unfold locReal
      rw [Nat.zero_add, e3]
      simp [hx, e2, locOf]
    · intro i p c hpi hci k hk
      obtain ⟨l, br, e1, e2, e3, e4, e5, e6⟩ := loc i p c hpi hci
      have hh := e5 k (by omega)
      obtain ⟨y, k1, k2⟩ := e6 k hk
      refine ⟨⟨y, k1, .dat k2⟩, (hr.alive _ br _ _ e3 e4 hh).2, ?_⟩
      rintro (hi | ⟨d, hdB, br', sh, rows, g, f1, f2, f3⟩)
      · exact hr.notI _ br _ _ e3 e4 hh hi
      · exact apartB_spec ls (B ++ B') hab d hdB i l e1 (hr.apart _ d br br' _ _ e3 ⟨_, f1, by simp⟩ e4 f2 hh f3)
    · intro i i' p p' c c' b o hpi hpi' hci hci' hb1 ho1 ho2 hb2 ho3 ho4
      obtain ⟨l, br, e1, e2, e3, e4, e5, _⟩ := loc i p c hpi hci
      obtain ⟨l', br', e1', e2', e3', e4', e5', _⟩ := loc i' p' c' hpi' hci'
      have h1 := e5 (o - p.2) (by omega)
      have h2 := e5' (o - p'.2) (by omega)
      rw [show p.2 + (o - p.2) = o by omega, ← hb1] at h1
      rw [show p'.2 + (o - p'.2) = o by omega, ← hb2] at h2
      exact apartL_spec ls hap i i' l l' e1 e1' (hr.apart _ _ br br' b o e3 e3' e4 e4' h1 h2)
  -- what the callee writes is what was lent
  have hXL : ∀ (locs : List (Nat × Nat)) b o, LocHas locs cs b o → ∃ (i : Nat) (l : Loan) (p : Nat × Nat), ls[i]? = some l ∧ locs[i]? = some p ∧ b = p.1 ∧ p.2 ≤ o ∧ o < p.2 + l.sz := by
    rintro locs b o ⟨i, p, c, e1, e2, e3, e4, e5⟩
    have hi := (List.getElem?_eq_some_iff.1 e2).1
    have hl : ls[i]? = some (ls[i]'(by omega)) := List.getElem?_eq_getElem _
    have := (hcells i _ c hl e2).1
    exact ⟨i, _, p, hl, e1, e3, e4, by omega⟩
  rcases cond_some h with ⟨_, h⟩ | ⟨_, h⟩
  · -- a flat answer
    obtain ⟨hfv, h⟩ := cond_none h
    obtain ⟨hfb, h⟩ := cond_none h
    obtain ⟨S', h, b1, b2, b3, b4⟩ := backAll_spec ls _ S h hap
    refine ⟨_, S', h, b1, fun w₀ I₀ O₀ ρ I a w hr hgd xs hxs => ?_⟩
    obtain ⟨ptrs, locs, hp, hloc, hcall⟩ := main w₀ I₀ O₀ ρ I a w hr hgd xs hxs (fun i l hl => by
      have hi := (List.getElem?_eq_some_iff.1 hl).1
      obtain ⟨k1, _, box, box', k2, k3, _⟩ := b4 i l _ hl (List.getElem?_eq_getElem (by omega))
      exact ⟨box, box', _, k1, k2, k3⟩)
    refine hcall.mono fun x w' ⟨J', ret⟩ => ⟨ρ, I, ?_, ?_, still locs w w' ret.keeps⟩
    · refine (hr.back (fun _ => False) hp hloc hap ret.keeps (hXL locs) b1 b2 (fun _ h => h.elim) (fun d _ hd => b3 d hd) (fun i l c hl hc => by
          obtain ⟨k1, _, k2⟩ := b4 i l c hl hc; exact ⟨k1, k2⟩) (fun _ _ h => h) (fun _ _ h => .inl h) ?_).1
      intro i p c hc hpi j hj
      have hi := (List.getElem?_eq_some_iff.1 hc).1
      obtain ⟨_, e2⟩ := ret.bx i (cs[i]'(by omega)) c p (List.getElem?_eq_getElem _) hc hpi
      obtain ⟨y, f1, f2⟩ := e2 j hj
      exact ⟨y, f1, .dat (flatV_ok f2 (flatL_spec c (flatBx_spec _ hfb i c hc) j hj) w' I)⟩
    · rcases ret.val with ⟨_, hv⟩ | ⟨_, _, _, _, _, _, hv⟩
      · exact flatRes_ok hv hfv w' I ρ
      · exact flatRes_ok hv hfv w' I ρ
  · obtain ⟨S₂, h, b1, b2, b3, b4⟩ := backAll_spec ls _ _ h hap
    obtain ⟨k1, k2, k3⟩ := killAll_spec (B ++ B') S
    have hnl : ∀ (i : Nat) (l : Loan), ls[i]? = some l → lk? (killAll (B ++ B') S).tab l.d = lk? S.tab l.d := fun i l hl =>
      k3 l.d fun hh => apartB_spec ls (B ++ B') hab l.d hh.1 i l hl rfl
    have step : ∀ w₀ I₀ O₀ ρ I a w, Rel m w₀ I₀ O₀ ρ I S a w → Good E.P w₀.toWorld I₀ O₀ → ∀ xs, AllRv w I ρ vs xs → CallsV E.P f xs.toArray w fun v w' => ∃ J' locs,
        RetOk w w' (fun b o => I b o ∨ HasOf S ρ (B ++ B') b o) locs cs (D.res vs' cs) v J' ∧ Rel m w₀ I₀ O₀ ρ J' S₂ a w' ∧ ∀ d, Live S₂ d → Live S d := by
      intro w₀ I₀ O₀ ρ I a w hr hgd xs hxs
      obtain ⟨ptrs, locs, hp, hloc, hcall⟩ := main w₀ I₀ O₀ ρ I a w hr hgd xs hxs (fun i l hl => by
        have hi := (List.getElem?_eq_some_iff.1 hl).1
        obtain ⟨k1, _, box, box', k2, k3, _⟩ := b4 i l _ hl (List.getElem?_eq_getElem (by omega))
        exact ⟨box, box', _, k1, (hnl i l hl) ▸ k2, k3⟩)
      refine hcall.mono fun x w' ⟨J', ret⟩ => ⟨J', locs, ret, ?_⟩
      refine hr.back (fun d => d ∈ B ++ B' ∧ IsSl S d) hp hloc hap ret.keeps (hXL locs) (b1.trans k1) b2 (fun d hd => ?_) (fun d hd hd' => ?_) (fun i l c hl hc => ?_) (fun b o hi => ret.mono b o (.inl hi)) (fun b o hj => ?_) ?_
      · have hn := fun i l hl => apartB_spec ls (B ++ B') hab d hd.1 i l hl
        exact ⟨hd.2, (b3 d hn).trans (k2 d hd.1 hd.2), hn⟩
      · rw [b3 d hd', k3 d hd]
      · obtain ⟨e1, _, box, box', e2, e3, e4⟩ := b4 i l c hl hc
        exact ⟨e1, box, box', (hnl i l hl) ▸ e2, e3, e4⟩
      · by_cases hb : b < w.heap.size
        · rcases ret.old b o hj hb with h1 | ⟨d, hd, br, sh, rows, g, e1, e2, e3⟩
          · exact .inl h1
          · exact .inr (.inr ⟨d, br, ⟨hd, sh, rows, g, e1⟩, e2, e3⟩)
        · exact .inr (.inl ⟨by omega, ret.lt b o hj⟩)
      · intro i p c hc hpi j hj
        have hi := (List.getElem?_eq_some_iff.1 hc).1
        obtain ⟨_, e2⟩ := ret.bx i (cs[i]'(by omega)) c p (List.getElem?_eq_getElem _) hc hpi
        obtain ⟨y, f1, f2⟩ := e2 j hj
        exact ⟨y, f1, f2.keep (fun _ _ _ => rfl) (fun _ _ h => h) (evo_no ρ)⟩
    split at h
    · rename_i hnb
      refine ⟨_, S₂, h, b1.trans k1, fun w₀ I₀ O₀ ρ I a w hr hgd xs hxs => (step w₀ I₀ O₀ ρ I a w hr hgd xs hxs).mono fun x w' ⟨J', locs, ret, hr', _⟩ => ⟨ρ, J', hr', ?_, still locs w w' ret.keeps⟩⟩
      rcases ret.val with ⟨_, hv⟩ | ⟨_, _, hn, _⟩
      · exact hv.keep (fun _ _ _ => rfl) (fun _ _ h => h) (evo_no ρ)
      · rw [hnb] at hn; cases hn
    · rename_i box hnb
      split at h
      · rename_i d
        unfold putBox at h
        split at h
        · rename_i hid
          refine ⟨_, _, h, b1.trans k1, fun w₀ I₀ O₀ ρ I a w hr hgd xs hxs => (step w₀ I₀ O₀ ρ I a w hr hgd xs hxs).mono fun x w' ⟨J', locs, ret, hr', hlv⟩ => ?_⟩
          rcases ret.val with ⟨hn, _⟩ | ⟨box', br, hn, hnd, hbx, hhas, hv⟩
          · rw [hnb] at hn; cases hn
          · rw [hnb] at hn; cases hn
            obtain ⟨f1, f2⟩ := hr'.addBox hid (br := br) (box := box) (hbx.keep (fun _ _ _ => rfl) (fun _ _ h => h) (evo_no _) (fun _ _ _ => rfl) fun b cur e f hh => ⟨cur, hh, rfl⟩) (fun b o hh => by
              obtain ⟨g1, g2, g3, g4⟩ := hhas b o hh
              refine ⟨Nat.le_trans hr.keeps.size g1, g4, g2, g3, fun d' br' hl hd hh' => ?_⟩
              obtain ⟨⟨y, hy⟩, _⟩ := hr.alive d' br' b o (hlv d' hl) hd hh'
              have := lt_of_cell hy; omega)
            exact ⟨_, J', f1, rename_ok hv, still locs w w' ret.keeps⟩
        · cases h
      · cases h
    · cases h
end
end Go.Ev
