/- A loop's head keeps the relation: the theorem. -/
import Derived.Test.YtajdamefabfoaaaDoorSo16
namespace Go.Ev
open Go Go.RowKit

section
variable {m : Nat} {S : St}

theorem canLent_ok : ∀ (L : List (Nat × Box)) (c : Can) {K : Can → Option R} {q : R}, canLent S L c K = some q → ∃ c', K c' = some q ∧ MapExt c c' ∧
    ∀ w₀ I₀ O₀ ρ I a w, Rel m w₀ I₀ O₀ ρ I S a w → ∀ G Pn, CInv S ρ w I c G Pn → (∀ d, d < BOX → (∃ cells, lk? S.tab d = some (.var cells)) → lk? c.m d = some d) →
      (∀ d, d ∈ Pn → d < BOX ∧ (∃ cells, lk? S.tab d = some (.var cells)) ∧ ∃ p, p ∈ L ∧ p.1 = d) → ∃ G', Ext G G' ∧ CInv S ρ w I c' G' []
  | [], c, K, q, h => ⟨c, h, fun _ _ h => h, fun w₀ I₀ O₀ ρ I a w hr G Pn hc _ hp => by
      have : Pn = [] := List.eq_nil_iff_forall_not_mem.2 fun d hd => by obtain ⟨_, _, p, hp, _⟩ := hp d hd; cases hp
      subst this
      exact ⟨G, Ext.refl G, hc⟩⟩
  | (d, b₀) :: r, c, K, q, h => by
    have skip : (∀ e : Nat, (e < BOX ∧ (∃ cells, lk? S.tab e = some (.var cells)) ∧ lk? c.tab e = none) → e ≠ d) → canLent S r c K = some q → ∃ c', K c' = some q ∧ MapExt c c' ∧
        ∀ w₀ I₀ O₀ ρ I a w, Rel m w₀ I₀ O₀ ρ I S a w → ∀ G Pn, CInv S ρ w I c G Pn → (∀ d, d < BOX → (∃ cells, lk? S.tab d = some (.var cells)) → lk? c.m d = some d) →
          (∀ e, e ∈ Pn → e < BOX ∧ (∃ cells, lk? S.tab e = some (.var cells)) ∧ ∃ p, p ∈ (d, b₀) :: r ∧ p.1 = e) → ∃ G', Ext G G' ∧ CInv S ρ w I c' G' [] := fun hne h => by
      obtain ⟨c', h1, h2, h3⟩ := canLent_ok r c h
      refine ⟨c', h1, h2, fun w₀ I₀ O₀ ρ I a w hr G Pn hc hm hp => h3 w₀ I₀ O₀ ρ I a w hr G Pn hc hm fun e he => ?_⟩
      obtain ⟨p1, p2, p, p3, p4⟩ := hp e he
      refine ⟨p1, p2, p, (List.mem_cons.1 p3).resolve_left fun e2 => ?_, p4⟩
      subst e2
      exact hne e ⟨p1, p2, (hc.pend e he).1⟩ p4.symm
    simp only [canLent] at h
    rcases cond_some h with ⟨hb, h⟩ | ⟨hb, h⟩
    · have hb : d < BOX := Nat.le_of_ble_eq_true hb
      split at h
      · rename_i bx ht
        exact skip (fun e he e2 => by rw [e2, ht] at he; exact absurd he.2.2 (by simp)) h
      · rename_i ht
        split at h
        · rename_i cells hs
          obtain ⟨cells', c₁, h1, h2, h3, h4⟩ := (can_ok (m := m) (S := S) 100).2 cells _ _ q h
          obtain ⟨c₂, k1, k2, k3⟩ := canLent_ok r _ h1
          refine ⟨c₂, k1, fun e d' he => k2 e d' (h2 e d' he), fun w₀ I₀ O₀ ρ I a w hr G Pn hc hm hp => ?_⟩
          obtain ⟨G₁, e1, e2, e3⟩ := h4 w₀ I₀ O₀ ρ I a w hr G Pn hc
          have hmd := hm d hb ⟨cells, hs⟩
          obtain ⟨br, f1, _, f3⟩ := hc.mapd d d hmd
          obtain ⟨br', g1, g2⟩ := hr.tab d _ hs
          rw [f1] at g1; cases g1
          obtain ⟨b, p, val, v1, v2, v3⟩ := var_cells g2
          have hdP : d ∈ Pn := (hc.done d _ f3).resolve_right fun ⟨bx, hbx⟩ => by rw [ht] at hbx; cases hbx
          have hpop := e2.pop (id := d) hdP (Pn' := Pn.filter (· != d)) (fun e he => by by_cases e' : e = d <;> simp [e', he]) (fun e he => by simpa using he) (box := .var cells') (br := br.new) (e1 _ _ f3)
            (fun G'' hG => by
              obtain ⟨a1, a2, a3, a4, _⟩ := g2
              refine ⟨by rw [h3]; exact a1, a2, a3, rfl, b, p, v1, fun j hj => ⟨val j, v2 j (by omega), ?_⟩⟩
              have := (e3 _ v3 G'' hG).2 j hj
              rwa [range_val val _ _ (by omega)] at this)
            (fun e he => by
              have := e2.inj e d _ he (h2 _ _ hmd)
              subst this
              exact .inr ⟨⟨_, hs⟩, _, rfl⟩)
          obtain ⟨G₂, x1, x2⟩ := k3 w₀ I₀ O₀ ρ I a w hr G₁ _ hpop (fun e he hv => h2 _ _ (hm e he hv)) fun e he => by
            simp only [List.mem_filter, bne_iff_ne] at he
            obtain ⟨p1, p2, p, p3, p4⟩ := hp e he.1
            exact ⟨p1, p2, p, (List.mem_cons.1 p3).resolve_left fun e2 => by subst e2; exact he.2 p4.symm, p4⟩
          exact ⟨G₂, e1.trans x1, x2⟩
        · rename_i hs
          exact skip (fun e he e2 => by subst e2; obtain ⟨_, ⟨cells, hc⟩, _⟩ := he; exact hs cells hc) h
    · have hb : ¬ d < BOX := fun h => by rw [Nat.blt, Nat.ble_eq_true_of_le h] at hb; cases hb
      exact skip (fun e he e2 => by rw [e2] at he; exact hb he.1) h

theorem canFr_ok : ∀ (ts : List Nat) (c : Can) {K : List (Nat × V) → Can → Option R} {q : R}, canFr S ts c K = some q → ∃ l c', K l c' = some q ∧ MapExt c c' ∧
    ∀ w₀ I₀ O₀ ρ I a w, Rel m w₀ I₀ O₀ ρ I S a w → ∀ G Pn, CInv S ρ w I c G Pn → ∃ G', Ext G G' ∧ CInv S ρ w I c' G' Pn ∧
      ∀ t v, lk? l t = some v → ∀ G'', Ext G' G'' → Rv w I G'' v (a.tmps.getD t Go.undef)
  | [], c, K, q, h => ⟨[], c, h, fun _ _ h => h, fun w₀ I₀ O₀ ρ I a w hr G Pn hc => ⟨G, Ext.refl G, hc, fun t v h => by cases h⟩⟩
  | t :: ts, c, K, q, h => by
    simp only [canFr] at h
    obtain ⟨v, c', h1, h2, h3⟩ := (can_ok (m := m) (S := S) 100).1 _ _ _ q h
    obtain ⟨l, c'', k1, k2, k3⟩ := canFr_ok ts _ h1
    refine ⟨_, _, k1, fun e d' he => k2 e d' (h2 e d' he), fun w₀ I₀ O₀ ρ I a w hr G Pn hc => ?_⟩
    obtain ⟨G', e1, e2, e3⟩ := h3 w₀ I₀ O₀ ρ I a w hr G Pn hc
    obtain ⟨G₂, f1, f2, f3⟩ := k3 w₀ I₀ O₀ ρ I a w hr G' Pn e2
    refine ⟨G₂, e1.trans f1, f2, fun t' v' hv G'' hG => ?_⟩
    rw [lk_cons] at hv
    split at hv
    · rename_i e; subst e; cases hv
      have hx : Rv w I ρ (S.get t') (a.tmps.getD t' Go.undef) := by
        unfold St.get
        rw [lk_getD]
        cases e : lk? S.fr t' with
        | none => exact .undef _
        | some u => exact hr.fr t' u e
      exact e3 _ hx G'' (f1.trans hG)
    · exact f3 t' v' hv G'' hG

theorem lentMap_spec : ∀ (L : List (Nat × Box)) (d d' : Nat), lk? (lentMap S L) d = some d' → d' = d ∧ d < BOX ∧ (∃ cells, lk? S.tab d = some (.var cells)) ∧ ∃ p, p ∈ L ∧ p.1 = d
  | [], _, _, h => by cases h
  | (e, b) :: L, d, d', h => by
    have rest : lk? (lentMap S L) d = some d' → d' = d ∧ d < BOX ∧ (∃ cells, lk? S.tab d = some (.var cells)) ∧ ∃ p, p ∈ (e, b) :: L ∧ p.1 = d := fun h => by
      obtain ⟨h1, h2, h3, p, h4, h5⟩ := lentMap_spec L d d' h
      exact ⟨h1, h2, h3, p, List.mem_cons_of_mem _ h4, h5⟩
    simp only [lentMap] at h
    cases hb : Nat.blt e BOX with
    | false => rw [hb] at h; exact rest h
    | true =>
      rw [hb, cond_true] at h
      split at h
      · rename_i cells hs
        rw [lk_cons] at h
        split at h
        · rename_i e2; subst e2; cases h
          exact ⟨rfl, Nat.le_of_ble_eq_true hb, ⟨cells, hs⟩, _, List.mem_cons_self, rfl⟩
        · exact rest h
      · exact rest h
theorem lk_mem {α : Type} : ∀ (L : List (Nat × α)) (d : Nat) (b : α), lk? L d = some b → ∃ p, p ∈ L ∧ p.1 = d
  | [], _, _, h => by cases h
  | (e, x) :: L, d, b, h => by
    rw [lk_cons] at h
    split at h
    · rename_i e2; exact ⟨_, List.mem_cons_self, e2.symm⟩
    · obtain ⟨p, h1, h2⟩ := lk_mem L d b h; exact ⟨p, List.mem_cons_of_mem _ h1, h2⟩
theorem lentMap_mem : ∀ (L : List (Nat × Box)) (d : Nat), d < BOX → (∃ cells, lk? S.tab d = some (.var cells)) → (∃ p, p ∈ L ∧ p.1 = d) → lk? (lentMap S L) d = some d
  | [], _, _, _, ⟨p, h, _⟩ => by cases h
  | (e, b) :: L, d, hd, hv, ⟨p, hp, he⟩ => by
    have rest : e ≠ d → lk? (lentMap S L) d = some d := fun hne => lentMap_mem L d hd hv ⟨p, (List.mem_cons.1 hp).resolve_left fun e2 => by subst e2; exact hne he, he⟩
    simp only [lentMap]
    by_cases e2 : e = d
    · subst e2
      obtain ⟨cells, hs⟩ := hv
      have hb : Nat.blt e BOX = true := Nat.ble_eq_true_of_le hd
      rw [hb, cond_true, hs]
      simp only [lk_cons, if_true]
    · cases hb : Nat.blt e BOX with
      | false => exact rest e2
      | true =>
        rw [cond_true]
        split
        · rw [lk_cons, if_neg (fun h => e2 h.symm)]; exact rest e2
        · exact rest e2

theorem lentMap_in : ∀ (L : List (Nat × Box)) (p : Nat × Nat), p ∈ lentMap S L → p.1 < BOX ∧ (∃ cells, lk? S.tab p.1 = some (.var cells)) ∧ ∃ p', p' ∈ L ∧ p'.1 = p.1
  | [], _, h => by cases h
  | (e, b) :: L, p, h => by
    have rest : p ∈ lentMap S L → p.1 < BOX ∧ (∃ cells, lk? S.tab p.1 = some (.var cells)) ∧ ∃ p', p' ∈ (e, b) :: L ∧ p'.1 = p.1 := fun h => by
      obtain ⟨h1, h2, p', h3, h4⟩ := lentMap_in L p h
      exact ⟨h1, h2, p', List.mem_cons_of_mem _ h3, h4⟩
    simp only [lentMap] at h
    cases hb : Nat.blt e BOX with
    | false => rw [hb] at h; exact rest h
    | true =>
      rw [hb, cond_true] at h
      split at h
      · rename_i cells hs
        rcases List.mem_cons.1 h with rfl | h
        · exact ⟨Nat.le_of_ble_eq_true hb, ⟨cells, hs⟩, _, List.mem_cons_self, rfl⟩
        · exact rest h
      · exact rest h

theorem canon_ok (keep : List Nat) (S : St) (K : St → Option R) (q : R) (h : canon keep S K = some q) : ∃ S', K S' = some q ∧ CanonOk m S S' := by
  unfold canon at h
  obtain ⟨c₁, h, hm1, h1⟩ := canLent_ok (m := m) S.tab _ h
  obtain ⟨fr, c₂, h, hm2, h2⟩ := canFr_ok (m := m) keep c₁ h
  refine ⟨_, h, fun w₀ hz I₀ O₀ ρ I a w hr => ?_⟩
  -- the beginning
  let G₀ : Nat → Option Real := fun d => match lk? (lentMap S S.tab) d with | some _ => (ρ d).map Real.new | none => none
  have g₀ : ∀ d br, G₀ d = some br → lk? (lentMap S S.tab) d = some d ∧ ∃ br', ρ d = some br' ∧ br = br'.new := fun d br hg => by
    simp only [G₀] at hg
    split at hg
    · rename_i d' hd
      obtain ⟨rfl, _⟩ := lentMap_spec _ _ _ hd
      cases e : ρ d' with
      | none => rw [e] at hg; cases hg
      | some b => rw [e] at hg; cases hg; exact ⟨hd, b, rfl, rfl⟩
    · cases hg
  have m₀ : ∀ d d', lk? (lentMap S S.tab) d = some d' → d' = d ∧ ∃ br cells, ρ d = some br ∧ lk? S.tab d = some (.var cells) ∧ G₀ d = some br.new := fun d d' hd => by
    obtain ⟨rfl, _, ⟨cells, hs⟩, _⟩ := lentMap_spec _ _ _ hd
    obtain ⟨br, h1, _⟩ := hr.tab d' _ hs
    exact ⟨rfl, br, cells, h1, hs, by simp only [G₀]; rw [hd, h1]; rfl⟩
  have inv₀ : CInv S ρ w I { m := lentMap S S.tab, tab := [], n := 0 } G₀ ((lentMap S S.tab).map Prod.fst) := by
    refine ⟨fun d d' hd => ?_, fun d e d' hd he => ?_, fun d br hg => ?_, fun d br hg => ?_, fun d bx hb => (by cases hb), fun d d' bx _ hb => (by cases hb), fun d br hg => ?_, fun d hd => ⟨rfl, ?_⟩⟩
    · obtain ⟨rfl, br, cells, e1, e2, e3⟩ := m₀ d d' hd
      exact ⟨br, e1, ⟨_, e2, by simp⟩, e3⟩
    · exact ((m₀ d d' hd).1.symm.trans (m₀ e d' he).1)
    · exact .inl ⟨d, (g₀ d br hg).1⟩
    · obtain ⟨_, h2, _⟩ := lentMap_spec _ _ _ (g₀ d br hg).1
      unfold BOX at h2; unfold CAN; simp only; omega
    · obtain ⟨p, e1, e2⟩ := lk_mem _ _ _ (g₀ d br hg).1
      exact .inl (List.mem_map.2 ⟨p, e1, e2⟩)
    · obtain ⟨p, hp, rfl⟩ := List.mem_map.1 hd
      have := (lentMap_in _ _ hp).1
      unfold BOX at this; unfold CAN; simp only; omega
  obtain ⟨G₁, x1, i1⟩ := h1 w₀ I₀ O₀ ρ I a w hr G₀ _ inv₀ (fun d hd hv => lentMap_mem S.tab d hd hv (by obtain ⟨cells, hs⟩ := hv; exact lk_mem _ _ _ hs)) (fun d hd => by
    obtain ⟨p, hp, rfl⟩ := List.mem_map.1 hd
    exact lentMap_in _ _ hp)
  obtain ⟨G, x2, i2, f2⟩ := h2 w₀ I₀ O₀ ρ I a w hr G₁ [] i1
  have real : ∀ d' br b o, G d' = some br → br.has b o → ∃ d br', lk? c₂.m d = some d' ∧ ρ d = some br' ∧ Live S d ∧ br'.has b o := fun d' br b o hg hh => by
    rcases i2.dom d' br hg with ⟨d, hd⟩ | hb
    · obtain ⟨br', k1, k2, k3⟩ := i2.mapd d d' hd
      rw [hg] at k3; cases k3
      exact ⟨d, br', hd, k1, k2, hh⟩
    · obtain ⟨o₀, k1, _⟩ := hh
      rw [hb] at k1; cases k1
  refine ⟨G, fun t v hv => f2 t v hv G (Ext.refl G), hr.dfr, hr.size, fun d bx hb => ?_, fun d br hg => ?_, fun d d' br br' b o _ _ hd hd' hh hh' => ?_, fun d br b o _ hd hh => ?_, fun d br b o _ hd hh => ?_,
    fun d sh rows gen br b o hb hd hh => ?_, fun d br b o _ hd hh => ?_, hr.ilt, hr.imono, hr.iold, hr.keeps, fun d br hl => ?_, (fun d br hl => by rw [hz.1] at hl; cases hl), (by rw [hz.2]; exact fun _ _ hl => nomatch hl)⟩
  · obtain ⟨br, k1, k2⟩ := i2.tabd d bx hb
    exact ⟨br, k1, k2 G (Ext.refl G)⟩
  · exact (i2.done d br hg).resolve_left (by simp)
  · obtain ⟨e, b1, k1, k2, k3, k4⟩ := real d br b o hd hh
    obtain ⟨e', b2, l1, l2, l3, l4⟩ := real d' br' b o hd' hh'
    have := hr.apart e e' b1 b2 b o k3 l3 k2 l2 k4 l4
    subst this
    rw [k1] at l1; cases l1; rfl
  · obtain ⟨e, b1, k1, k2, k3, k4⟩ := real d br b o hd hh
    exact hr.notI e b1 b o k3 k2 k4
  · obtain ⟨e, b1, k1, k2, k3, k4⟩ := real d br b o hd hh
    exact hr.org e b1 b o k3 k2 k4
  · obtain ⟨e, b1, k1, k2, k3, k4⟩ := real d br b o hd hh
    rcases i2.kind e d _ k1 hb with ⟨⟨sh', rows', g', ht⟩, _⟩ | ⟨_, _, hx⟩
    · exact hr.slorg e sh' rows' g' b1 b o ht k2 k4
    · cases hx
  · obtain ⟨e, b1, k1, k2, k3, k4⟩ := real d br b o hd hh
    exact hr.alive e b1 b o k3 k2 k4
  · obtain ⟨hρ, cells, hs⟩ := hr.lent d br hl
    have hm₀ := lentMap_mem S.tab d (w₀.small d br hl) ⟨cells, hs⟩ (lk_mem _ _ _ hs)
    have hm := hm2 d d (hm1 d d hm₀)
    obtain ⟨br', k1, _, k3⟩ := i2.mapd d d hm
    rw [hρ] at k1; cases k1
    obtain ⟨br'', t1, t2⟩ := hr.tab d _ hs
    rw [hρ] at t1; cases t1
    have hg0 : br.new = br := by
      have := t2.2.2.2.1
      cases br; simp only at this; subst this; rfl
    refine ⟨by rw [k3, hg0], ?_⟩
    obtain ⟨bx, hb⟩ := (i2.done d _ k3).resolve_left (by simp)
    rcases i2.kind d d bx hm hb with ⟨⟨_, _, _, ht⟩, _⟩ | ⟨_, cells', rfl⟩
    · rw [hs] at ht; cases ht
    · exact ⟨cells', hb⟩
end
end Go.Ev
