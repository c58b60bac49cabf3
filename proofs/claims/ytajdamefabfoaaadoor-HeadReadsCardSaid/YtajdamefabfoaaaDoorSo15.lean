/- What a function gives back; a function's own soundness: lemmas. -/
import Derived.Test.YtajdamefabfoaaaDoorSo14
namespace Go.Ev
open Go Go.RowKit

/-! ### A slice that is none -/
theorem Dat.nrm1 {w : World} {I : Nat → Nat → Prop} {v : V} {x : Value} (h : Dat w I v x) : Dat w I (nrm1 v) x := by
  cases h with
  | nils sh => exact .slc sh [] _ 0 (fun _ _ => Go.undef) (Nat.le_refl _) rfl (fun h => absurd rfl h) (fun i j hi => by cases hi)
  | bool b => exact .bool b
  | int k n => exact .int k n
  | str s => exact .str s
  | slc sh rows a cap val h1 h2 h3 h4 => exact .slc sh rows a cap val h1 h2 h3 h4
theorem nrmL_length : ∀ l : List V, (nrmL l).length = l.length
  | [] => rfl
  | v :: r => by simp [nrmL, nrmL_length r]
theorem nrmL_getD : ∀ (l : List V) (i : Nat), (nrmL l).getD i .undef = nrm1 (l.getD i .undef)
  | [], i => by simp [nrmL, Go.Ev.nrm1]
  | v :: r, 0 => by simp [nrmL]
  | v :: r, i + 1 => by simpa [nrmL] using nrmL_getD r i
theorem AllDat.nrm {w : World} {I : Nat → Nat → Prop} {vs : List V} {xs : List Value} (h : AllDat w I vs xs) : AllDat w I (nrmL vs) xs :=
  ⟨by rw [nrmL_length]; exact h.1, fun i hi => by rw [nrmL_getD]; rw [nrmL_length] at hi; exact (h.2 i hi).nrm1⟩
theorem Rv.nrm1 {w : World} {I : Nat → Nat → Prop} {ρ : Nat → Option Real} {v : V} {x : Value} (h : Rv w I ρ v x) : Rv w I ρ (nrm1 v) x := by
  cases v with
  | nils sh => cases h with | dat h => exact .dat h.nrm1
  | _ => exact h
theorem Rv.nrm {w : World} {I : Nat → Nat → Prop} {ρ : Nat → Option Real} {v : V} {x : Value} (h : Rv w I ρ v x) : Rv w I ρ (nrm v) x := by
  cases v with
  | agg cs =>
    obtain ⟨xs, rfl, l, hh⟩ := h.agg_inv
    exact .agg _ xs (by rw [nrmL_length]; exact l) fun i hi => by rw [nrmL_getD]; rw [nrmL_length] at hi; exact (hh i hi).nrm1
  | _ => exact h.nrm1
theorem nrmA_length : ∀ l : List V, (nrmA l).length = l.length
  | [] => rfl
  | v :: r => by simp [nrmA, nrmA_length r]
theorem nrmA_getD : ∀ (l : List V) (i : Nat), (nrmA l).getD i .undef = Go.Ev.nrm (l.getD i .undef)
  | [], i => by simp [nrmA, Go.Ev.nrm, Go.Ev.nrm1]
  | v :: r, 0 => by simp [nrmA]
  | v :: r, i + 1 => by simpa [nrmA] using nrmA_getD r i
theorem AllRv.nrm {w : World} {I : Nat → Nat → Prop} {ρ : Nat → Option Real} {vs : List V} {xs : List Value} (h : AllRv w I ρ vs xs) : AllRv w I ρ (nrmA vs) xs :=
  ⟨by rw [nrmA_length]; exact h.1, fun i hi => by rw [nrmA_getD]; rw [nrmA_length] at hi; exact (h.2 i hi).nrm⟩

section
variable {m : Nat} {S : St}

theorem lentCells_ok : ∀ (js : List Nat) {K : List (List V) → List Nat → Option R} {q : R}, giveBack.lentCells S js K = some q → ∃ bs B, K bs B = some q ∧ bs.length = js.length ∧
    ∀ (i j : Nat) (c : List V), js[i]? = some j → bs[i]? = some c → ∃ cells, lk? S.tab j = some (.var cells) ∧ c.length = cells.length ∧
      ∀ w₀ I₀ O₀ ρ I a w, Rel m w₀ I₀ O₀ ρ I S a w → ∀ J : Nat → Nat → Prop, (∀ b o, I b o → J b o) → (∀ b o, HasOf S ρ B b o → J b o) → ∀ xs, AllRv w I ρ cells xs → AllDat w J c xs
  | [], K, q, h => ⟨[], [], h, rfl, fun i j c hi => by cases hi⟩
  | j₀ :: js, K, q, h => by
    simp only [giveBack.lentCells] at h
    split at h
    · rename_i cells ht
      obtain ⟨c₀, B, h1, h2, _, h3⟩ := borL_ok (m := m) cells h
      obtain ⟨bs, B', g1, g2, g3⟩ := lentCells_ok js h1
      refine ⟨_, _, g1, by simp [g2], fun i j c hi hc => ?_⟩
      cases i with
      | zero =>
        cases hi; cases hc
        exact ⟨cells, ht, by rw [nrmL_length]; exact h2, fun w₀ I₀ O₀ ρ I a w hr J hJ hB xs hx => (h3 w₀ I₀ O₀ ρ I a w hr J hJ (fun b o hh => hB b o hh.left) xs hx).nrm⟩
      | succ i =>
        obtain ⟨cells', e1, e2, e3⟩ := g3 i j c (by simpa using hi) (by simpa using hc)
        exact ⟨cells', e1, e2, fun w₀ I₀ O₀ ρ I a w hr J hJ hB xs hx => e3 w₀ I₀ O₀ ρ I a w hr J hJ (fun b o hh => hB b o hh.right) xs hx⟩
    · cases h

theorem borVs_ok : ∀ (vs : List V) {K : List V → Option R} {q : R}, borVs S vs K = some q → ∃ vs' B, K vs' = some q ∧ vs'.length = vs.length ∧
    ∀ w₀ I₀ O₀ ρ I a w, Rel m w₀ I₀ O₀ ρ I S a w → ∀ J : Nat → Nat → Prop, (∀ b o, I b o → J b o) → (∀ b o, HasOf S ρ B b o → J b o) → ∀ xs, AllRv w I ρ vs xs → ∀ ρ', AllRv w J ρ' vs' xs
  | [], K, q, h => ⟨[], [], h, rfl, fun w₀ I₀ O₀ ρ I a w hr J hJ hB xs hx ρ' => ⟨hx.1, fun i hi => by cases hi⟩⟩
  | v :: vs, K, q, h => by
    obtain ⟨v', B, h1, h2⟩ := borV_ok (m := m) h
    obtain ⟨vs', B', g1, g2, g3⟩ := borVs_ok vs h1
    refine ⟨_, B ++ B', g1, by simp [g2], fun w₀ I₀ O₀ ρ I a w hr J hJ hB xs hx ρ' => ?_⟩
    obtain ⟨x, xs', rfl, hx1, hx2⟩ := hx.uncons
    have e1 := h2 w₀ I₀ O₀ ρ I a w hr J hJ (fun b o h => hB b o h.left) x hx1 ρ'
    have e2 := g3 w₀ I₀ O₀ ρ I a w hr J hJ (fun b o h => hB b o h.right) xs' hx2 ρ'
    refine ⟨by simp [e2.1], fun i hi => ?_⟩
    cases i with
    | zero => exact e1
    | succ i => exact e2.2 i (by simpa using hi)

/-- A variable's cells, as values. -/
theorem var_cells {w : World} {I : Nat → Nat → Prop} {ρ : Nat → Option Real} {cells : List V} {br : Real} (h : BoxR w I ρ (.var cells) br) : ∃ (b p : Nat) (val : Nat → Value), br.base = some (b, p) ∧
    (∀ j, j < cells.length → w.cell? ⟨b, p + j, none⟩ = some (val j)) ∧ AllRv w I ρ cells ((List.range cells.length).map val) := by
  obtain ⟨_, _, _, _, b, p, hb, hc⟩ := h
  have hget : ∀ j, ∃ y, j < cells.length → w.cell? ⟨b, p + j, none⟩ = some y ∧ Rv w I ρ (cells.getD j .undef) y := fun j => by
    by_cases hj : j < cells.length
    · obtain ⟨y, hy⟩ := hc j hj; exact ⟨y, fun _ => hy⟩
    · exact ⟨Go.undef, fun h => absurd h hj⟩
  have hv := fun j => Classical.choose_spec (hget j)
  refine ⟨b, p, fun j => Classical.choose (hget j), hb, fun j hj => (hv j hj).1, by simp, fun j hj => ?_⟩
  have := (hv j hj).2
  simpa [List.getD_eq_getElem?_getD, hj] using this
theorem range_val (val : Nat → Value) (n j : Nat) (h : j < n) : ((List.range n).map val).getD j Go.undef = val j := by simp [List.getD_eq_getElem?_getD, h]

def tupX (xs : List Value) : Value := match xs with | [x] => x | xs => .tuple xs.toArray
theorem tupOf_ok {w : World} {I : Nat → Nat → Prop} {ρ : Nat → Option Real} {vs : List V} {xs : List Value} (h : AllRv w I ρ vs xs) : Rv w I ρ (tupOf vs) (tupX xs) := by
  obtain ⟨h1, h2⟩ := h
  match vs, xs, h1 with
  | [], [], _ => exact .tup [] [] rfl h2
  | [v], [x], _ => exact h2 0 (by simp)
  | v :: v' :: vs, x :: x' :: xs, h1 => exact .tup _ _ h1 h2

theorem giveBack_ok {w w' : World} {J : Nat → Nat → Prop} {bx : List (List V)} {locs : List (Nat × Nat)} (hb : bx.length ≤ BOX) (hlen : locs.length = bx.length) {ow : Bool} {vs : List V} {r q : DRes} {a : Act} {ρ : Nat → Option Real} {I : Nat → Nat → Prop}
    (h : giveBack S ow bx.length vs some = some q) (hr : Rel m ⟨w, locReal locs bx, locReal_small hb, fun _ => none, fun _ => none, fun _ _ => False⟩ J (LocHas locs bx) ρ I S a w') {xs : List Value} (hx : AllRv w' I ρ vs xs) : ∃ J', RetOk w w' J locs bx q (tupX xs) J' := by
  have lo : ∀ d br b o, Live S d → ρ d = some br → br.has b o → b < w'.heap.size := fun d br b o hl hd hh => by
    obtain ⟨⟨x, hx⟩, _⟩ := hr.alive d br b o hl hd hh
    exact lt_of_cell hx
  unfold giveBack at h
  obtain ⟨bs, B, h, hbl, hbs⟩ := lentCells_ok (m := m) (List.range bx.length) h
  rw [List.length_range] at hbl
  -- all but the value
  have core : ∀ (B' : List Nat) (v : V) (nb : List Box), q = { v := v, bx := bs, nb := nb } →
      let J' : Nat → Nat → Prop := fun b o => I b o ∨ HasOf S ρ (B ++ B') b o
      ((nb = [] ∧ Rv w' J' noRho v (tupX xs)) ∨ ∃ box br, nb = [box] ∧ box ≠ .dead ∧ BoxR w' J' noRho box br ∧
        (∀ b o, br.has b o → w.heap.size ≤ b ∧ (∃ y, w'.cell? ⟨b, o, none⟩ = some y) ∧ w'.frozen? ⟨b, o, none⟩ = false ∧ ¬ J' b o) ∧ Rv w' J' (oneRho br) v (tupX xs)) →
      ∃ J', RetOk w w' J locs bx q (tupX xs) J' := by
    rintro B' v nb rfl J' hval
    refine ⟨J', hr.keeps, fun b o hj => .inl (hr.imono b o hj), ?_, ?_, hbl, ?_, hval⟩
    · rintro b o (hi | ⟨d, _, br, sh, rows, g, e1, e2, e3⟩)
      · exact hr.ilt b o hi
      · exact lo d br b o ⟨_, e1, by simp⟩ e2 e3
    · rintro b o (hi | ⟨d, _, br, sh, rows, g, e1, e2, e3⟩) hlt
      · exact (hr.iold b o hi hlt).resolve_right id
      · have := (hr.slorg d sh rows g br b o e1 e2 e3).resolve_right id
        simp only at this; omega
    · intro j cs cs' p hj hj' hp
      have hjl := (List.getElem?_eq_some_iff.1 hj).1
      obtain ⟨cells, e1, e2, e3⟩ := hbs j j cs' (by simp [hjl]) hj'
      have hloc : locReal locs bx j = some { base := some p, sz := cs.length, n := 1, cap := 1, gen := 0 } := by unfold locReal; rw [hp, hj]
      obtain ⟨hρ, _⟩ := hr.lent j _ hloc
      obtain ⟨br, hd, hbx⟩ := hr.tab j _ e1
      rw [hρ] at hd; cases hd
      obtain ⟨b, p', val, f1, f2, f3⟩ := var_cells hbx
      cases f1
      have hsz : cs.length = cells.length := hbx.1
      refine ⟨by omega, fun k hk => ⟨val k, f2 k (by omega), ?_⟩⟩
      have := (e3 _ _ _ ρ I a w' hr J' (fun _ _ h => .inl h) (fun b o hh => .inr hh.left) _ f3).2 k hk
      rw [range_val val _ _ (by omega)] at this
      exact .dat this
  split at h
  · rename_i d g _
    obtain ⟨hd, h⟩ := cond_none h
    split at h
    · rename_i cells ht
      obtain ⟨cells', B', h1, h2, _, h3⟩ := borL_ok (m := m) cells h
      refine core B' _ _ (Option.some.inj h1).symm (.inr ?_)
      obtain ⟨br, hρ, hbx⟩ := hr.tab d _ ht
      obtain ⟨b, p, val, f1, f2, f3⟩ := var_cells hbx
      obtain ⟨x, rfl, hx1⟩ := hx.one
      obtain ⟨e1, e2, e3, e4, _⟩ := hbx
      refine ⟨_, br, rfl, by simp, ⟨by omega, e2, e3, e4, b, p, f1, fun j hj => ⟨val j, f2 j (by omega), ?_⟩⟩, fun b o hh => ⟨?_, (hr.alive d br b o ⟨_, ht, by simp⟩ hρ hh).1, (hr.alive d br b o ⟨_, ht, by simp⟩ hρ hh).2, ?_⟩, ?_⟩
      · have := (h3 _ _ _ ρ I a w' hr (fun b o => I b o ∨ HasOf S ρ (B ++ B') b o) (fun _ _ h => .inl h) (fun b o hh => .inr hh.right) _ f3).2 j hj
        rw [range_val val _ _ (by omega)] at this
        exact .dat this
      · rcases hr.org d br b o ⟨_, ht, by simp⟩ hρ hh with g1 | ⟨j, p', cs, g1, g2, g3, g4, g5⟩
        · exact g1
        · exfalso
          have hloc : locReal locs bx j = some { base := some p', sz := cs.length, n := 1, cap := 1, gen := 0 } := by unfold locReal; rw [g1, g2]
          obtain ⟨k1, cells₂, k2⟩ := hr.lent j _ hloc
          have e := hr.apart d j br _ b o ⟨_, ht, by simp⟩ ⟨_, k2, by simp⟩ hρ k1 hh ⟨p'.2, by rw [g3], g4, by simpa using g5⟩
          have := locReal_small hb j _ hloc
          have := Nat.le_of_ble_eq_true hd
          omega
      · rintro (hi | ⟨d', _, br', sh, rows, g', k1, k2, k3⟩)
        · exact hr.notI d br b o ⟨_, ht, by simp⟩ hρ hh hi
        · have e := hr.apart d d' br br' b o ⟨_, ht, by simp⟩ ⟨_, k1, by simp⟩ hρ k2 hh k3
          subst e
          rw [ht] at k1; cases k1
      · cases hx1 with
        | dat hx1 => cases hx1
        | ptr _ _ _ _ br' _ hd' hg hh hp =>
          rw [hρ] at hd'; cases hd'
          have hg0 : g = 0 := by omega
          subst hg0
          exact .ptr NEW 0 0 0 br x (by simp [oneRho]) (by omega) (fun _ => hh (by omega)) hp
    · cases h
  · rename_i d g _
    cases ow with
    | false =>
      obtain ⟨sh, rows, ht, h⟩ := withOwn_spec h
      obtain ⟨x, rfl, hx1⟩ := hx.one
      obtain ⟨br, hd, _, hdat⟩ := own_data ht hr hx1
      exact core [d] _ _ (Option.some.inj h).symm (.inl ⟨rfl, .dat (hdat _ (fun b o h => .inl h) fun b o hh => .inr ⟨d, by simp, br, sh, rows, g, ht, hd, hh⟩)⟩)
    | true =>
      rw [cond_true] at h
      obtain ⟨sh, rows, ht, h⟩ := withOwn_spec h
      obtain ⟨hB, h⟩ := none_cond h
      refine core [] _ _ (Option.some.inj h).symm (.inr ?_)
      obtain ⟨br, hρ, hbx⟩ := hr.tab d _ ht
      obtain ⟨x, rfl, hx1⟩ := hx.one
      obtain ⟨e1, e2, e3, e4, e5, e6, e7, e8⟩ := hbx
      refine ⟨_, { br with gen := 0 }, rfl, by simp, ⟨e1, e2, rfl, e4, e5, e6, fun b o hb i j hi hj => ?_, e8⟩, fun b o hh => ?_, ?_⟩
      · obtain ⟨y, k1, k2⟩ := e7 b o hb i j hi hj
        exact ⟨y, k1, k2.keep (fun _ _ _ => rfl) (fun _ _ h => .inl h)⟩
      · have hh' : br.has b o := hh
        refine ⟨(hr.slorg d sh rows g br b o ht hρ hh').resolve_right id, (hr.alive d br b o ⟨_, ht, by simp⟩ hρ hh').1, (hr.alive d br b o ⟨_, ht, by simp⟩ hρ hh').2, ?_⟩
        rintro (hi | ⟨d', hdB, br', sh', rows', g', k1, k2, k3⟩)
        · exact hr.notI d br b o ⟨_, ht, by simp⟩ hρ hh' hi
        · have e := hr.apart d d' br br' b o ⟨_, ht, by simp⟩ ⟨_, k1, by simp⟩ hρ k2 hh' k3
          subst e
          have : B.any (Nat.beq d) = true := List.any_eq_true.2 ⟨d, by simpa using hdB, by simp⟩
          rw [this] at hB; cases hB
      · cases hx1 with
        | dat hx1 => cases hx1
        | own _ _ br' _ hd' hg hh hp =>
          rw [hρ] at hd'; cases hd'
          exact .own NEW 0 { br with gen := 0 } x (by simp [oneRho]) (Nat.le_refl _) (fun _ => hh e3.symm) hp
  · rename_i sh _
    obtain ⟨x, rfl, hx1⟩ := hx.one
    have hx0 : x = .slice none 0 0 := by cases hx1 with | dat h => cases h; rfl
    cases ow with
    | false => exact core [] _ _ (Option.some.inj h).symm (.inl ⟨rfl, by
        have := hx1.nrm1
        subst hx0
        exact .dat (.slc sh [] _ 0 (fun _ _ => Go.undef) (Nat.le_refl _) rfl (fun h => absurd rfl h) (fun i j hi => by cases hi))⟩)
    | true =>
      refine core [] _ _ (Option.some.inj h).symm (.inr ⟨_, { base := none, sz := sh.length, n := 0, cap := 0, gen := 0 }, rfl, by simp, ⟨rfl, rfl, rfl, Nat.le_refl _, rfl, fun _ => rfl, (fun b o hb => by cases hb), (fun b o hb => by cases hb)⟩, fun b o hh => ?_, ?_⟩)
      · obtain ⟨o₀, h1, _⟩ := hh; cases h1
      · exact .own NEW 0 { base := none, sz := sh.length, n := 0, cap := 0, gen := 0 } x (by simp [oneRho]) (Nat.le_refl _) (fun _ => by rw [hx0]; rfl) ⟨none, 0, 0, hx0⟩
  · obtain ⟨vs', B', h1, h2, h3⟩ := borVs_ok (m := m) vs h
    refine core B' _ _ (Option.some.inj h1).symm (.inl ⟨rfl, ?_⟩)
    exact tupOf_ok (h3 _ _ _ ρ I a w' hr (fun b o => I b o ∨ HasOf S ρ (B ++ B') b o) (fun _ _ h => .inl h) (fun b o hh => .inr hh.right) xs hx noRho).nrm
end

/-- A function is what the evaluator makes of its body. -/
theorem evFn_ok {E : Env} (hG : ∀ f D, E.G f = some D → FnOk E.P f D) {f : FuncId} {fn : Func} {c : Code} (hf : E.P.funcs[f]? = some fn) (hb : fn.body = some c)
    (hcan : ∀ keep S (K : St → Option R) q, canon keep S K = some q → ∃ S', K S' = some q ∧ CanonOk fn.ntmps S S')
    (hl : ∀ p ∈ loopsOf c, LoopOk E fn.ntmps p.1 p.2) (hnm : (fn.name == "runtime.NumGoroutine") = false) {D : Den} (h : ∀ args bx, D.pre args bx = true → evFn E f args bx some = some (D.res args bx)) : FnOk E.P f D := by
  intro args bx hpre w J locs xs hlen hJ hx hc hdis hgl
  have h := h args bx hpre
  unfold evFn at h
  rw [hf] at h
  simp only [hb] at h
  obtain ⟨h1, h⟩ := cond_none h
  obtain ⟨n1, h1⟩ := cond_and h1
  obtain ⟨n2, hd⟩ := cond_and h1
  have n1 := Nat.le_of_ble_eq_true n1
  have n2 := Nat.le_of_ble_eq_true n2
  have hno : ∀ b o, J b o → ¬ LocHas locs bx b o := fun b o hj ⟨j, p, cs, e1, e2, e3, e4, e5⟩ => by
    have := (hc j p cs e1 e2 (o - p.2) (by omega)).2.2
    rw [show p.2 + (o - p.2) = o by omega, ← e3] at this
    exact this hj
  refine .inl ⟨?_, calls_of_wp hf hb ?_⟩
  · have hnm' : ¬ fn.name = "runtime.NumGoroutine" := fun e => by rw [e] at hnm; cases hnm
    simp [callFunc, hf, hnm', hb]
  · refine evCode_ok hG hcan c hl hd _ _ _ h _ ⟨rfl, rfl⟩ _ _ _ _ _ _ (Rel.enter n2 hlen hJ hx hc hdis n1) (fun b o x hx => ⟨⟨(hgl b o x hx).1, hno b o (hgl b o x hx).1⟩, (hgl b o x hx).2⟩) _ fun e S' a' w' ρ' I' hr' hk => ?_
    have fin : retVals E S' fn.results.toList (fun vs => giveBack S' (E.ow f) bx.length vs some) = some (D.res args bx) → a'.defers = [] ∧ ∃ v, (results fn a'.tmps).run E.P w' = .ok v w' ∧ ∃ v', Ending.returned v = .returned v' ∧ ∃ J', RetOk w w' J locs bx (D.res args bx) v' J' := fun hk => by
      obtain ⟨vs, k1, k2, k3⟩ := retVals_ok (m := fn.ntmps) _ hk
      obtain ⟨ys, g1, g2⟩ := k3 _ _ _ ρ' I' a' w' hr'
      refine ⟨hr'.dfr, tupX ys, ?_, _, rfl, giveBack_ok n2 hlen (r := D.res args bx) k1 hr' g2⟩
      have := run_mapM_array (P := E.P) (retOne a'.tmps) fn.results ys w' g1
      have e : results fn a'.tmps = (fn.results.mapM (retOne a'.tmps) >>= fun vs => pure (if h : vs.size = 1 then vs[0] else .tuple vs)) := by
        unfold results retOne; congr 1
      rw [e, Sem.run_bind, this, Result.andThen_ok]
      match ys with
      | [] => rfl
      | [y] => rfl
      | y :: y' :: ys => simp [tupX]
    cases e with
    | normal => exact fin hk
    | exit j => cases hk
    | ret => exact fin hk
end Go.Ev
