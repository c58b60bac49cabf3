/- Boxes set aside while an operation runs: the frame rule; no condition. -/
import Derived.Test.YtajdamefabfoaaaDoorSo12
namespace Go.Ev
open Go Go.RowKit

theorem lk_mapT (f : Nat → Box → Box) : ∀ (l : List (Nat × Box)) (d : Nat), lk? (mapT f l) d = (lk? l d).map (f d)
  | [], d => rfl
  | (e, b) :: r, d => by
    simp only [mapT, lk?]
    cases h : Nat.beq d e with
    | true => obtain rfl := Nat.eq_of_beq_eq_true h; rfl
    | false => exact lk_mapT f r d

theorem memN_mem (i : Nat) : ∀ L : List Nat, memN i L = true ↔ i ∈ L
  | [] => by simp [memN]
  | j :: r => by
    simp only [memN]
    cases h : Nat.beq j i with
    | true => simp [Nat.eq_of_beq_eq_true h]
    | false =>
      have : i ≠ j := fun e => by subst e; simp at h
      simp [this, memN_mem i r]
theorem memN_not {i : Nat} {L : List Nat} (h : ¬ i ∈ L) : memN i L = false := by
  rw [Bool.eq_false_iff]; exact fun e => h ((memN_mem i L).1 e)

section
variable {m : Nat} {w₀ : Base} {I₀ O₀ : Nat → Nat → Prop} {ρ : Nat → Option Real} {I : Nat → Nat → Prop} {S : St} {a : Act} {w : World}

theorem hide_in {S : St} {H : List Nat} {d : Nat} {box : Box} (hd : d ∈ H) (h : lk? S.tab d = some box) : lk? (S.hide H).tab d = some .dead := by
  simp only [St.hide, lk_mapT, h, Option.map_some, (memN_mem d H).2 hd, cond_true]
theorem hide_out {S : St} {H : List Nat} {d : Nat} (hd : ¬ d ∈ H) : lk? (S.hide H).tab d = lk? S.tab d := by
  simp only [St.hide, lk_mapT, memN_not hd, cond_false]
  cases lk? S.tab d <;> rfl
theorem hide_some {S : St} {H : List Nat} {d : Nat} {box : Box} (h : lk? (S.hide H).tab d = some box) (hn : box ≠ .dead) : ¬ d ∈ H ∧ lk? S.tab d = some box := by
  by_cases hd : d ∈ H
  · simp only [St.hide, lk_mapT, (memN_mem d H).2 hd, cond_true] at h
    cases e : lk? S.tab d with
    | none => rw [e] at h; cases h
    | some b => rw [e] at h; simp at h; exact absurd h.symm hn
  · exact ⟨hd, by rw [← hide_out hd]; exact h⟩
theorem unhide_in {S S' : St} {H : List Nat} {d : Nat} {box b' : Box} (hd : d ∈ H) (h : lk? S.tab d = some box) (h' : lk? S'.tab d = some b') : lk? (S.unhide H S').tab d = some box := by
  simp only [St.unhide, lk_mapT, h', Option.map_some, (memN_mem d H).2 hd, cond_true]
  rw [lk_getD, h]; rfl
theorem unhide_out {S S' : St} {H : List Nat} {d : Nat} (hd : ¬ d ∈ H) : lk? (S.unhide H S').tab d = lk? S'.tab d := by
  simp only [St.unhide, lk_mapT, memN_not hd, cond_false]
  cases lk? S'.tab d <;> rfl

/-- What may be written while some boxes are set aside. -/
def Osub (S : St) (ρ : Nat → Option Real) (H : List Nat) (b o : Nat) : Prop := ∃ d br, ¬ d ∈ H ∧ Live S d ∧ ρ d = some br ∧ br.has b o
/-- The memory as it is now, some boxes set aside. -/
def Base.sub (w₀ : Base) (S : St) (ρ : Nat → Option Real) (H : List Nat) (w : World) : Base where
  toWorld := w
  lent d := bif memN d H then none else w₀.lent d
  small d br h := by
    cases e : memN d H with
    | true => rw [e] at h; cases h
    | false => rw [e] at h; exact w₀.small d br h
  hid d := bif memN d H then ρ d else w₀.hid d
  ev := ρ
  sl b o := ∃ d sh rows g br, ¬ d ∈ H ∧ lk? S.tab d = some (.sl sh rows g) ∧ ρ d = some br ∧ br.has b o

theorem Rel.sub (h : Rel m w₀ I₀ O₀ ρ I S a w) (H : List Nat) : Rel m (w₀.sub S ρ H w) I (Osub S ρ H) ρ I (S.hide H) a w := by
  have live : ∀ d, Live (S.hide H) d → ¬ d ∈ H ∧ Live S d := fun d ⟨box, hb, hn⟩ => by
    obtain ⟨h1, h2⟩ := hide_some hb hn
    exact ⟨h1, box, h2, hn⟩
  refine ⟨h.fr, h.dfr, h.size, fun d box hb => ?_, fun d br hd => ?_, fun d d' br br' b o hl hl' => h.apart d d' br br' b o (live d hl).2 (live d' hl').2, fun d br b o hl => h.notI d br b o (live d hl).2,
    fun d br b o hl hd hh => .inr ⟨d, br, (live d hl).1, (live d hl).2, hd, hh⟩, fun d sh rows gen br b o hb hd hh => ?_, fun d br b o hl => h.alive d br b o (live d hl).2, h.ilt, fun _ _ h => h, fun _ _ h _ => .inl h, Keeps.refl _ _, fun d br hl => ?_, fun d br hl => ?_, Evo.refl _⟩
  · by_cases hn : box = .dead
    · subst hn
      by_cases hd : d ∈ H
      · cases e : lk? S.tab d with
        | none => simp only [St.hide, lk_mapT, e] at hb; cases hb
        | some b0 => obtain ⟨br, h1, _⟩ := h.tab d b0 e; exact ⟨br, h1, trivial⟩
      · rw [hide_out hd] at hb; exact h.tab d _ hb
    · exact h.tab d box (hide_some hb hn).2
  · obtain ⟨box, hb⟩ := h.dom d br hd
    simp only [St.hide, lk_mapT, hb]; exact ⟨_, rfl⟩
  · obtain ⟨h1, h2⟩ := hide_some hb (by simp)
    exact .inr ⟨d, sh, rows, gen, br, h1, h2, hd, hh⟩
  · simp only [Base.sub] at hl
    by_cases hd : d ∈ H
    · rw [(memN_mem d H).2 hd] at hl; cases hl
    · rw [memN_not hd] at hl
      obtain ⟨h1, cells, h2⟩ := h.lent d br hl
      exact ⟨h1, cells, by rw [hide_out hd]; exact h2⟩
  · simp only [Base.sub] at hl
    by_cases hd : d ∈ H
    · rw [(memN_mem d H).2 hd] at hl
      obtain ⟨box, hb⟩ := h.dom d br hl
      exact ⟨hl, hide_in hd hb⟩
    · rw [memN_not hd] at hl
      obtain ⟨h1, h2⟩ := h.hid d br hl
      exact ⟨h1, by rw [hide_out hd]; exact h2⟩

theorem Rel.goodSub {P : Program} (h : Rel m w₀ I₀ O₀ ρ I S a w) (hg : Good P w₀.toWorld I₀ O₀) (H : List Nat) : Good P (w₀.sub S ρ H w).toWorld I (Osub S ρ H) := fun b o x hx => by
  obtain ⟨h1, h2⟩ := h.held hg b o x hx
  exact ⟨⟨h1, fun ⟨d, br, _, k2, k3, k4⟩ => h.notI d br b o k2 k3 k4 h1⟩, h2⟩
theorem presB_spec {S : St} : ∀ {H : List Nat}, presB S H = true → ∀ d, d ∈ H → ∃ box, lk? S.tab d = some box
  | [], _, d, hd => by cases hd
  | e :: r, h, d, hd => by
    unfold presB at h
    cases hs : lk? S.tab e with
    | none => rw [hs] at h; cases h
    | some b =>
      rw [hs] at h
      rcases List.mem_cons.1 hd with rfl | hd
      · exact ⟨b, hs⟩
      · exact presB_spec h d hd

theorem Rel.unsub (h : Rel m w₀ I₀ O₀ ρ I S a w) {H : List Nat} (hH : ∀ d, d ∈ H → ∃ box, lk? S.tab d = some box) {ρ' : Nat → Option Real} {I' : Nat → Nat → Prop} {S' : St} {a' : Act} {w' : World}
    (h' : Rel m (w₀.sub S ρ H w) I (Osub S ρ H) ρ' I' S' a' w') : Rel m w₀ I₀ O₀ ρ' I' (S.unhide H S') a' w' ∧ (∀ d, d ∈ H → ρ' d = ρ d ∧ (Live S d ↔ Live (S.unhide H S') d)) := by
  have hk : Keeps (Osub S ρ H) w w' := h'.keeps
  have hs : w.heap.size ≤ w'.heap.size := hk.size
  -- a box that was set aside
  have aside : ∀ d, d ∈ H → ∃ box br b', lk? S.tab d = some box ∧ ρ d = some br ∧ BoxR w I ρ box br ∧ ρ' d = some br ∧ lk? S'.tab d = some b' := fun d hd => by
    obtain ⟨box, hb⟩ := hH d hd
    obtain ⟨br, h1, h2⟩ := h.tab d box hb
    obtain ⟨h3, h4⟩ := h'.hid d br (by simp only [Base.sub, (memN_mem d H).2 hd, cond_true]; exact h1)
    exact ⟨box, br, .dead, hb, h1, h2, h3, h4⟩
  have inb : ∀ d, d ∈ H → Live (S.unhide H S') d → Live S d ∧ ρ' d = ρ d := fun d hd ⟨bx, hb, hn⟩ => by
    obtain ⟨box, br, b', k1, k2, _, k4, k5⟩ := aside d hd
    rw [unhide_in hd k1 k5] at hb; cases hb
    exact ⟨⟨_, k1, hn⟩, k4.trans k2.symm⟩
  have outb : ∀ d, ¬ d ∈ H → Live (S.unhide H S') d → Live S' d := fun d hd ⟨bx, hb, hn⟩ => ⟨bx, by rw [← unhide_out (S := S) hd]; exact hb, hn⟩
  have lo : ∀ d br b o, Live S d → ρ d = some br → br.has b o → b < w.heap.size := fun d br b o hl hd hh => by
    obtain ⟨⟨x, hx⟩, _⟩ := h.alive d br b o hl hd hh
    exact lt_of_cell hx
  have notO : ∀ d br b o, d ∈ H → Live S d → ρ d = some br → br.has b o → ¬ Osub S ρ H b o := fun d br b o hd hl hr hh ⟨d2, br2, k1, k2, k3, k4⟩ => by
    obtain rfl := h.apart d d2 br br2 b o hl k2 hr k3 hh k4
    exact k1 hd
  have iold : ∀ b o, I' b o → b < w.heap.size → I b o ∨ ∃ d sh rows g br, ¬ d ∈ H ∧ lk? S.tab d = some (.sl sh rows g) ∧ ρ d = some br ∧ br.has b o := h'.iold
  have org : ∀ d br b o, Live S' d → ρ' d = some br → br.has b o → w.heap.size ≤ b ∨ Osub S ρ H b o := h'.org
  have hIw : ∀ b o, I b o → w'.cell? ⟨b, o, none⟩ = w.cell? ⟨b, o, none⟩ := fun b o hi => hk.cell (fun ⟨d, br, _, k2, k3, k4⟩ => h.notI d br b o k2 k3 k4 hi) (h.ilt b o hi)
  have evo : Evo ρ ρ' := h'.evo
  refine ⟨⟨h'.fr, h'.dfr, h'.size, fun d bx hb => ?_, fun d br hd => ?_, fun d d' br br' b o hl hl' hd hd' hh hh' => ?_, fun d br b o hl hd hh hi => ?_, fun d br b o hl hd hh => ?_, fun d sh rows gen br b o hb hd hh => ?_,
    fun d br b o hl hd hh => ?_, h'.ilt, fun b o hi => h'.imono b o (h.imono b o hi), fun b o hi hlt => ?_, ?_, fun d br hl => ?_, fun d br hl => ?_, h.evo.trans evo⟩, fun d hd => ?_⟩
  · by_cases hd : d ∈ H
    · obtain ⟨box, br, b', k1, k2, k3, k4, k5⟩ := aside d hd
      rw [unhide_in hd k1 k5] at hb; cases hb
      refine ⟨br, k4, ?_⟩
      by_cases hn : bx = .dead
      · subst hn; trivial
      · exact k3.keep hIw h'.imono evo (fun b o hh => hk.cell (notO d br b o hd ⟨_, k1, hn⟩ k2 hh) (lo d br b o ⟨_, k1, hn⟩ k2 hh)) hk.shape
    · rw [unhide_out hd] at hb; exact h'.tab d bx hb
  · obtain ⟨bx, hb⟩ := h'.dom d br hd
    simp only [St.unhide, lk_mapT, hb]; exact ⟨_, rfl⟩
  · have cross : ∀ d d' br br', d ∈ H → ¬ d' ∈ H → Live (S.unhide H S') d → Live (S.unhide H S') d' → ρ' d = some br → ρ' d' = some br' → br.has b o → br'.has b o → False := fun d d' br br' m1 m2 l1 l2 r1 r2 g1 g2 => by
      obtain ⟨e1, e2⟩ := inb d m1 l1
      rw [e2] at r1
      rcases org d' br' b o (outb d' m2 l2) r2 g2 with k | k
      · have := lo d br b o e1 r1 g1; omega
      · exact notO d br b o m1 e1 r1 g1 k
    by_cases m1 : d ∈ H
    · by_cases m2 : d' ∈ H
      · obtain ⟨e1, e2⟩ := inb d m1 hl
        obtain ⟨f1, f2⟩ := inb d' m2 hl'
        rw [e2] at hd; rw [f2] at hd'
        exact h.apart d d' br br' b o e1 f1 hd hd' hh hh'
      · exact (cross d d' br br' m1 m2 hl hl' hd hd' hh hh').elim
    · by_cases m2 : d' ∈ H
      · exact (cross d' d br' br m2 m1 hl' hl hd' hd hh' hh).elim
      · exact h'.apart d d' br br' b o (outb d m1 hl) (outb d' m2 hl') hd hd' hh hh'
  · by_cases hm : d ∈ H
    · obtain ⟨e1, e2⟩ := inb d hm hl
      rw [e2] at hd
      rcases iold b o hi (lo d br b o e1 hd hh) with k | ⟨d2, sh, rows, g, br2, k1, k2, k3, k4⟩
      · exact h.notI d br b o e1 hd hh k
      · exact notO d br b o hm e1 hd hh ⟨d2, br2, k1, ⟨_, k2, by simp⟩, k3, k4⟩
    · exact h'.notI d br b o (outb d hm hl) hd hh hi
  · by_cases hm : d ∈ H
    · obtain ⟨e1, e2⟩ := inb d hm hl
      rw [e2] at hd
      exact h.org d br b o e1 hd hh
    · rcases org d br b o (outb d hm hl) hd hh with k | ⟨d2, br2, _, k2, k3, k4⟩
      · exact .inl (Nat.le_trans h.keeps.size k)
      · exact h.org d2 br2 b o k2 k3 k4
  · by_cases hm : d ∈ H
    · obtain ⟨box, br0, b', k1, k2, k3, k4, k5⟩ := aside d hm
      rw [unhide_in hm k1 k5] at hb; cases hb
      rw [k4] at hd; cases hd
      exact h.slorg d sh rows gen br b o k1 k2 hh
    · rw [unhide_out hm] at hb
      rcases h'.slorg d sh rows gen br b o hb hd hh with k | ⟨d2, sh2, rows2, g2, br2, _, k2, k3, k4⟩
      · exact .inl (Nat.le_trans h.keeps.size k)
      · exact h.slorg d2 sh2 rows2 g2 br2 b o k2 k3 k4
  · by_cases hm : d ∈ H
    · obtain ⟨e1, e2⟩ := inb d hm hl
      rw [e2] at hd
      obtain ⟨⟨x, hx⟩, hf⟩ := h.alive d br b o e1 hd hh
      exact ⟨hk.alive hx, (hk.frozen (lt_of_cell hx)).trans hf⟩
    · exact h'.alive d br b o (outb d hm hl) hd hh
  · rcases iold b o hi (Nat.lt_of_lt_of_le hlt h.keeps.size) with k | ⟨d2, sh, rows, g, br2, _, k2, k3, k4⟩
    · exact h.iold b o k hlt
    · rcases h.slorg d2 sh rows g br2 b o k2 k3 k4 with k | k
      · omega
      · exact .inr k
  · refine h.keeps.trans hk fun b o hb ⟨d, br, _, k2, k3, k4⟩ => ?_
    rcases h.org d br b o k2 k3 k4 with k | k
    · omega
    · exact k
  · obtain ⟨e1, cells, e2⟩ := h.lent d br hl
    by_cases hm : d ∈ H
    · obtain ⟨box, br0, b', k1, k2, k3, k4, k5⟩ := aside d hm
      rw [e1] at k2; cases k2
      exact ⟨k4, cells, by rw [unhide_in hm k1 k5, ← k1, e2]⟩
    · obtain ⟨f1, cells', f2⟩ := h'.lent d br (by simp only [Base.sub, memN_not hm, cond_false]; exact hl)
      exact ⟨f1, cells', by rw [unhide_out hm]; exact f2⟩
  · obtain ⟨e1, e2⟩ := h.hid d br hl
    have hw : (w₀.sub S ρ H w).hid d = some br := by
      simp only [Base.sub]
      cases memN d H with
      | true => exact e1
      | false => exact hl
    obtain ⟨f1, f2⟩ := h'.hid d br hw
    refine ⟨f1, ?_⟩
    by_cases hm : d ∈ H
    · rw [unhide_in hm e2 f2]
    · rw [unhide_out hm]; exact f2
  · obtain ⟨box, br0, b', k1, k2, k3, k4, k5⟩ := aside d hd
    exact ⟨k4.trans k2.symm, fun ⟨bx, hb, hn⟩ => ⟨bx, by rw [unhide_in hd k1 k5, ← k1, hb], hn⟩, fun hl => (inb d hd hl).1⟩
end
end Go.Ev
