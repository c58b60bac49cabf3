/- A call's step from the caller's side: lemmas, no condition. -/
import Derived.Test.YtajdamefabfoaaaDoorSo8
namespace Go.Ev
open Go Go.RowKit

section
variable {m : Nat} {w₀ : Base} {I₀ O₀ : Nat → Nat → Prop} {ρ : Nat → Option Real} {I : Nat → Nat → Prop} {S : St} {a : Act} {w : World}

/-- A box that is there already, under a name from now on. -/
theorem Rel.addBox (h : Rel m w₀ I₀ O₀ ρ I S a w) {id : Nat} (hn : lk? S.tab id = none) {box : Box} {br : Real} (hb : BoxR w I (upd ρ id br) box br)
    (hnew : ∀ b o, br.has b o → w₀.heap.size ≤ b ∧ ¬ I b o ∧ (∃ x, w.cell? ⟨b, o, none⟩ = some x) ∧ w.frozen? ⟨b, o, none⟩ = false ∧ ∀ d br', Live S d → ρ d = some br' → ¬ br'.has b o) :
    Rel m w₀ I₀ O₀ (upd ρ id br) I { S with tab := S.tab ++ [(id, box)] } a w ∧ Evo ρ (upd ρ id br) := by
  have hρ : ρ id = none := by
    cases e : ρ id with
    | none => rfl
    | some b => obtain ⟨x, hx⟩ := h.dom id b e; rw [hn] at hx; cases hx
  have he : Evo ρ (upd ρ id br) := fun d b hd => by
    have hne : d ≠ id := fun e => by subst e; rw [hρ] at hd; cases hd
    exact ⟨b, by unfold upd; rw [if_neg hne]; exact hd, .inl rfl⟩
  have tabs : ∀ d bx, lk? (S.tab ++ [(id, box)]) d = some bx → (d = id ∧ bx = box) ∨ (d ≠ id ∧ lk? S.tab d = some bx) := fun d bx hbx => by
    rw [lk_append] at hbx
    by_cases e : d = id
    · subst e; rw [hn] at hbx; simp at hbx; exact .inl ⟨rfl, hbx.symm⟩
    · refine .inr ⟨e, ?_⟩
      split at hbx
      · rename_i x hx; rw [hx]; exact hbx
      · rw [if_neg e] at hbx; cases hbx
  have live : ∀ d b', Live { S with tab := S.tab ++ [(id, box)] } d → upd ρ id br d = some b' → (d = id ∧ b' = br) ∨ (d ≠ id ∧ Live S d ∧ ρ d = some b') := fun d b' ⟨bx, hbx, hne⟩ hd => by
    rcases tabs d bx hbx with ⟨e, _⟩ | ⟨e, ht⟩
    · subst e; simp [upd] at hd; exact .inl ⟨rfl, hd.symm⟩
    · unfold upd at hd; rw [if_neg e] at hd; exact .inr ⟨e, ⟨bx, ht, hne⟩, hd⟩
  refine ⟨⟨?_, h.dfr, h.size, ?_, ?_, ?_, ?_, ?_, ?_, ?_, h.ilt, h.imono, h.iold, h.keeps, fun d b hl => by
    obtain ⟨h1, cells, h2⟩ := h.lent d b hl
    have hne : d ≠ id := fun e => by subst e; rw [hn] at h2; cases h2
    exact ⟨by unfold upd; rw [if_neg hne]; exact h1, cells, by simp only [lk_append, h2]⟩, fun d b hl => by
    obtain ⟨h1, h2⟩ := h.hid d b hl
    have hne : d ≠ id := fun e => by subst e; rw [hn] at h2; cases h2
    exact ⟨by unfold upd; rw [if_neg hne]; exact h1, by simp only [lk_append, h2]⟩, h.evo.trans he⟩, he⟩
  · exact fun t v hv => (h.fr t v hv).keep (fun _ _ _ => rfl) (fun _ _ h => h) he
  · intro d bx hbx
    rcases tabs d bx hbx with ⟨rfl, rfl⟩ | ⟨e, ht⟩
    · exact ⟨br, by simp [upd], hb⟩
    · obtain ⟨b', h1, h2⟩ := h.tab d bx ht
      exact ⟨b', by unfold upd; rw [if_neg e]; exact h1, h2.keep (fun _ _ _ => rfl) (fun _ _ h => h) he (fun _ _ _ => rfl) fun b cur e f hh => ⟨cur, hh, rfl⟩⟩
  · intro d b' hd
    simp only [lk_append]
    by_cases e : d = id
    · subst e; rw [hn]; exact ⟨box, by simp⟩
    · unfold upd at hd; rw [if_neg e] at hd
      obtain ⟨x, hx⟩ := h.dom d b' hd
      rw [hx]; exact ⟨x, rfl⟩
  · intro d d' b1 b2 b o hl hl' hd hd' hh hh'
    rcases live d b1 hl hd with ⟨rfl, rfl⟩ | ⟨_, l1, r1⟩
    · rcases live d' b2 hl' hd' with ⟨rfl, rfl⟩ | ⟨_, l2, r2⟩
      · rfl
      · exact absurd hh' ((hnew b o hh).2.2.2.2 d' b2 l2 r2)
    · rcases live d' b2 hl' hd' with ⟨rfl, rfl⟩ | ⟨_, l2, r2⟩
      · exact absurd hh ((hnew b o hh').2.2.2.2 d b1 l1 r1)
      · exact h.apart d d' b1 b2 b o l1 l2 r1 r2 hh hh'
  · intro d b1 b o hl hd hh
    rcases live d b1 hl hd with ⟨rfl, rfl⟩ | ⟨_, l1, r1⟩
    · exact (hnew b o hh).2.1
    · exact h.notI d b1 b o l1 r1 hh
  · intro d b1 b o hl hd hh
    rcases live d b1 hl hd with ⟨rfl, rfl⟩ | ⟨_, l1, r1⟩
    · exact .inl (hnew b o hh).1
    · exact h.org d b1 b o l1 r1 hh
  · intro d sh rows gen b1 b o hbx hd hh
    rcases tabs d _ hbx with ⟨rfl, _⟩ | ⟨e, ht⟩
    · simp [upd] at hd; subst hd; exact .inl (hnew b o hh).1
    · unfold upd at hd; rw [if_neg e] at hd
      exact h.slorg d sh rows gen b1 b o ht hd hh
  · intro d b1 b o hl hd hh
    rcases live d b1 hl hd with ⟨rfl, rfl⟩ | ⟨_, l1, r1⟩
    · exact ⟨(hnew b o hh).2.2.1, (hnew b o hh).2.2.2.1⟩
    · exact h.alive d b1 b o l1 r1 hh

theorem apartL_spec : ∀ (ls : List Loan), apartL ls = true → ∀ (i j : Nat) (l l' : Loan), ls[i]? = some l → ls[j]? = some l' → l.d = l'.d → i = j
  | [], _, i, j, l, l', hi, _, _ => by cases hi
  | x :: ls, h, i, j, l, l', hi, hj, e => by
    simp only [apartL] at h
    cases hall : ls.all fun m => !Nat.beq x.d m.d with
    | false => rw [hall] at h; cases h
    | true =>
      rw [hall] at h
      have hx : ∀ (k : Nat) (y : Loan), ls[k]? = some y → x.d ≠ y.d := fun k y hy e => by
        have := List.all_eq_true.1 hall y (List.mem_of_getElem? hy)
        rw [e] at this; simp at this
      cases i with
      | zero =>
        cases hi
        cases j with
        | zero => rfl
        | succ j => exact absurd e (hx j l' (by simpa using hj))
      | succ i =>
        cases j with
        | zero => cases hj; exact absurd e.symm (hx i l (by simpa using hi))
        | succ j => rw [apartL_spec ls h i j l l' (by simpa using hi) (by simpa using hj) e]
theorem apartB_spec (ls : List Loan) : ∀ (B : List Nat), apartB ls B = true → ∀ d, d ∈ B → ∀ (i : Nat) (l : Loan), ls[i]? = some l → l.d ≠ d
  | [], _, d, hd, _, _, _ => by cases hd
  | b :: B, h, d, hd, i, l, hl => by
    simp only [apartB] at h
    cases hall : ls.all fun l => !Nat.beq b l.d with
    | false => rw [hall] at h; cases h
    | true =>
      rw [hall] at h
      rcases List.mem_cons.1 hd with rfl | hd
      · intro e
        have := List.all_eq_true.1 hall l (List.mem_of_getElem? hl)
        rw [e] at this; simp at this
      · exact apartB_spec ls B h d hd i l hl

def IsSl (S : St) (d : Nat) : Prop := ∃ sh rows g, lk? S.tab d = some (.sl sh rows g)
theorem killAll_spec : ∀ (B : List Nat) (S : St), (killAll B S).fr = S.fr ∧ (∀ d, d ∈ B → IsSl S d → lk? (killAll B S).tab d = some .dead) ∧
    (∀ d, ¬ (d ∈ B ∧ IsSl S d) → lk? (killAll B S).tab d = lk? S.tab d)
  | [], S => ⟨rfl, (fun d hd => nomatch hd), fun _ _ => rfl⟩
  | b :: B, S => by
    by_cases hb : IsSl S b
    · obtain ⟨sh, rows, g, ht⟩ := hb
      have hm : killAll (b :: B) S = killAll B { S with tab := up S.tab b .dead } := by simp only [killAll]; rw [ht]
      rw [hm]
      obtain ⟨h1, h2, h3⟩ := killAll_spec B { S with tab := up S.tab b .dead }
      have hbd : lk? (up S.tab b .dead) b = some .dead := by rw [lk_up, if_pos rfl, ht]; rfl
      have hnb : ¬ IsSl { S with tab := up S.tab b .dead } b := fun ⟨_, _, _, e⟩ => by rw [hbd] at e; cases e
      have same : ∀ d, d ≠ b → lk? (up S.tab b .dead) d = lk? S.tab d := fun d e => by rw [lk_up, if_neg e]
      refine ⟨h1, fun d hd hs => ?_, fun d hd => ?_⟩
      · by_cases e : d = b
        · subst e; rw [h3 d (fun hh => hnb hh.2)]; exact hbd
        · refine h2 d ((List.mem_cons.1 hd).resolve_left e) ?_
          obtain ⟨a, b', c, e'⟩ := hs
          exact ⟨a, b', c, (same d e).trans e'⟩
      · have e : d ≠ b := fun e => hd ⟨by rw [e]; exact List.mem_cons_self, by rw [e]; exact ⟨sh, rows, g, ht⟩⟩
        rw [h3 d (fun hh => hd ⟨List.mem_cons_of_mem _ hh.1, by obtain ⟨a, b', c, e'⟩ := hh.2; exact ⟨a, b', c, (same d e).symm.trans e'⟩⟩)]
        exact same d e
    · have hm : killAll (b :: B) S = killAll B S := by
        simp only [killAll]
        split
        · rename_i ht; exact absurd ⟨_, _, _, ht⟩ hb
        · rfl
      rw [hm]
      obtain ⟨h1, h2, h3⟩ := killAll_spec B S
      refine ⟨h1, fun d hd hs => ?_, fun d hd => ?_⟩
      · rcases List.mem_cons.1 hd with rfl | hd
        · exact absurd hs hb
        · exact h2 d hd hs
      · exact h3 d fun hh => hd ⟨List.mem_cons_of_mem _ hh.1, hh.2⟩

theorem backAll_spec : ∀ (ls : List Loan) (cs : List (List V)) (S : St) {K : St → Option R} {q : R}, backAll ls cs S K = some q → apartL ls = true →
    ∃ S', K S' = some q ∧ S'.fr = S.fr ∧ cs.length = ls.length ∧ (∀ d, (∀ (i : Nat) (l : Loan), ls[i]? = some l → l.d ≠ d) → lk? S'.tab d = lk? S.tab d) ∧
      ∀ (i : Nat) (l : Loan) (c : List V), ls[i]? = some l → cs[i]? = some c → c.length = l.sz ∧ scalL c = true ∧
        ∃ box box', lk? S.tab l.d = some box ∧ writeBox box l.r l.o l.g c = some box' ∧ lk? S'.tab l.d = some box'
  | [], [], S, K, q, h, _ => ⟨S, h, rfl, rfl, fun _ _ => rfl, fun i l c hi => by cases hi⟩
  | [], _ :: _, S, K, q, h, _ => by cases h
  | _ :: _, [], S, K, q, h, _ => by cases h
  | x :: ls, c :: cs, S, K, q, h, ha => by
    simp only [backAll] at h
    obtain ⟨g1, h⟩ := cond_none h
    obtain ⟨g2, h⟩ := cond_none h
    unfold writeAt at h
    split at h
    · rename_i box ht
      split at h
      · rename_i box' hwb
        have ha' : apartL ls = true := by
          simp only [apartL] at ha
          cases hall : ls.all fun m => !Nat.beq x.d m.d with
          | false => rw [hall] at ha; cases ha
          | true => rw [hall] at ha; exact ha
        obtain ⟨S', h1, h2, h3, h4, h5⟩ := backAll_spec ls cs _ h ha'
        have hx : ∀ (k : Nat) (y : Loan), ls[k]? = some y → y.d ≠ x.d := fun k y hy e => by
          have := apartL_spec _ ha (k + 1) 0 y x (by simpa using hy) rfl e; omega
        refine ⟨S', h1, h2, by simp [h3], fun d hd => ?_, fun i l c' hi hc => ?_⟩
        · rw [h4 d fun i l hl => hd (i + 1) l (by simpa using hl), lk_up, if_neg fun e => hd 0 x rfl e.symm]
        · cases i with
          | zero =>
            cases hi; cases hc
            refine ⟨Nat.eq_of_beq_eq_true g1, g2, box, box', ht, hwb, ?_⟩
            rw [h4 _ fun i l hl => hx i l hl, lk_up, if_pos rfl, ht]; rfl
          | succ i =>
            obtain ⟨k1, k2, bx, bx', k3, k4, k5⟩ := h5 i l c' (by simpa using hi) (by simpa using hc)
            rw [lk_up, if_neg (hx i l (by simpa using hi))] at k3
            exact ⟨k1, k2, bx, bx', k3, k4, k5⟩
      · cases h
    · cases h

theorem writeBox_sl {box : Box} {r o g : Nat} {new : List V} {sh : List Sh} {rows : List (List V)} {gen : Nat} (h : writeBox box r o g new = some (.sl sh rows gen)) : ∃ sh' rows' gen', box = .sl sh' rows' gen' := by
  cases box with
  | dead => cases h
  | var cells => simp only [writeBox] at h; cases hb : Nat.ble (o + new.length) cells.length <;> rw [hb] at h <;> cases h
  | sl sh' rows' gen' => exact ⟨_, _, _, rfl⟩

/-- The memory behind a call: what was lent is written anew, some boxes are shared for good. -/
theorem Rel.back (h : Rel m w₀ I₀ O₀ ρ I S a w) {ls : List Loan} {cs : List (List V)} {ptrs : List Value} {locs : List (Nat × Nat)} {S₁ : St} {w' : World} {I' : Nat → Nat → Prop} {X : Nat → Nat → Prop} (D : Nat → Prop)
    (hp : PtrsOk w I ρ ls ptrs) (hloc : ∀ (i : Nat) (x : Value), ptrs[i]? = some x → ∃ b p, locs[i]? = some (b, p) ∧ x = .pointer (some ⟨b, p, none⟩)) (hap : apartL ls = true)
    (k : Keeps X w w') (hX : ∀ b o, X b o → ∃ (i : Nat) (l : Loan) (p : Nat × Nat), ls[i]? = some l ∧ locs[i]? = some p ∧ b = p.1 ∧ p.2 ≤ o ∧ o < p.2 + l.sz)
    (hfr : S₁.fr = S.fr) (hlen : cs.length = ls.length)
    (hD : ∀ d, D d → IsSl S d ∧ lk? S₁.tab d = some .dead ∧ ∀ (i : Nat) (l : Loan), ls[i]? = some l → l.d ≠ d)
    (hrest : ∀ d, ¬ D d → (∀ (i : Nat) (l : Loan), ls[i]? = some l → l.d ≠ d) → lk? S₁.tab d = lk? S.tab d)
    (hls : ∀ (i : Nat) (l : Loan) (c : List V), ls[i]? = some l → cs[i]? = some c → c.length = l.sz ∧ ∃ box box', lk? S.tab l.d = some box ∧ writeBox box l.r l.o l.g c = some box' ∧ lk? S₁.tab l.d = some box')
    (hI : ∀ b o, I b o → I' b o)
    (hI' : ∀ b o, I' b o → I b o ∨ (w.heap.size ≤ b ∧ b < w'.heap.size) ∨ ∃ d br, D d ∧ ρ d = some br ∧ br.has b o)
    (hc : ∀ (i : Nat) (p : Nat × Nat) (c : List V), cs[i]? = some c → locs[i]? = some p → ∀ j, j < c.length → ∃ y, w'.cell? ⟨p.1, p.2 + j, none⟩ = some y ∧ Rv w' I' ρ (c.getD j .undef) y) :
    Rel m w₀ I₀ O₀ ρ I' S₁ a w' ∧ ∀ d, Live S₁ d → Live S d := by
  have lo : ∀ d br b o, Live S d → ρ d = some br → br.has b o → b < w.heap.size := fun d br b o hl hd hh => by
    obtain ⟨⟨x, hx⟩, _⟩ := h.alive d br b o hl hd hh
    exact lt_of_cell hx
  -- a loan, in full
  have loan : ∀ (i : Nat) (l : Loan), ls[i]? = some l → ∃ c box box' br b p q x, cs[i]? = some c ∧ ptrs[i]? = some x ∧ locs[i]? = some (b, p + (l.r * br.sz + l.o)) ∧ c.length = l.sz ∧ lk? S.tab l.d = some box ∧ box ≠ .dead ∧
      writeBox box l.r l.o l.g c = some box' ∧ lk? S₁.tab l.d = some box' ∧ ρ l.d = some br ∧ BoxR w I ρ box br ∧ br.base = some (b, p) ∧ l.r < br.n ∧ q = p + (l.r * br.sz + l.o) ∧ ∀ j, j < l.sz → br.has b (q + j) := by
    intro i l hl
    have hi := (List.getElem?_eq_some_iff.1 hl).1
    have hcs : cs[i]? = some (cs[i]'(by omega)) := List.getElem?_eq_getElem _
    have hpt : ptrs[i]? = some (ptrs[i]'(by rw [hp.1]; exact hi)) := List.getElem?_eq_getElem _
    obtain ⟨e1, box, box', e2, e3, e4⟩ := hls i l _ hl hcs
    obtain ⟨br₀, hd₀, hbx₀⟩ := h.tab _ _ e2
    obtain ⟨f1, f2, f3⟩ := writeBox_size e3 hbx₀
    obtain ⟨br, b, p, g1, g2, g3, g4, _, g5, g6⟩ := ptr_real h (hp.2 i l _ hl hpt) e2 f2 f3
    obtain ⟨b', p', g7, g8⟩ := hloc i _ hpt
    rw [g5] at g8
    cases g8
    rw [hd₀] at g1; cases g1
    exact ⟨_, box, box', br₀, b, p, _, _, hcs, hpt, g7, e1, e2, f2, e3, e4, hd₀, g2, g3, g4, rfl, fun j hj => g6 l.o l.sz (by omega) j hj⟩
  have back : ∀ d, Live S₁ d → Live S d := fun d ⟨bx, hbx, hne⟩ => by
    by_cases hd : D d
    · rw [(hD d hd).2.1] at hbx; cases hbx; exact absurd rfl hne
    · by_cases hl : ∃ (i : Nat) (l : Loan), ls[i]? = some l ∧ l.d = d
      · obtain ⟨i, l, hl, rfl⟩ := hl
        obtain ⟨c, box, box', br, b, p, q', x, _, _, _, _, e2, f2, _⟩ := loan i l hl
        exact ⟨box, e2, f2⟩
      · rw [hrest d hd fun i l hl' e => hl ⟨i, l, hl', e⟩] at hbx
        exact ⟨bx, hbx, hne⟩
  have inX : ∀ b o, X b o → ∃ (i : Nat) (l : Loan) (br : Real), ls[i]? = some l ∧ Live S l.d ∧ ρ l.d = some br ∧ br.has b o ∧ ∀ p, locs[i]? = some p → p.2 ≤ o ∧ o < p.2 + l.sz := by
    intro b o hx
    obtain ⟨i, l, p, h1, h2, h3, h4, h5⟩ := hX b o hx
    obtain ⟨c, box, box', br, b', p', q', x, _, _, e5, e6, e2, f2, e3, e4, hd, hbx, hba, hr, rfl, has⟩ := loan i l h1
    rw [h2] at e5; cases e5
    subst h3
    refine ⟨i, l, br, h1, ⟨box, e2, f2⟩, hd, ?_, fun p hp' => by rw [h2] at hp'; cases hp'; exact ⟨h4, h5⟩⟩
    have := has (o - (p' + (l.r * br.sz + l.o))) (by simp only at h5 h4; omega)
    simp only at h4
    rwa [show p' + (l.r * br.sz + l.o) + (o - (p' + (l.r * br.sz + l.o))) = o by omega] at this
  have hIw : ∀ b o, I b o → w'.cell? ⟨b, o, none⟩ = w.cell? ⟨b, o, none⟩ := fun b o hi => k.cell (fun hx => by
    obtain ⟨i, l, br, _, h2, h3, h4, _⟩ := inX b o hx
    exact h.notI _ br b o h2 h3 h4 hi) (h.ilt b o hi)
  refine ⟨h.step (fun d => D d ∨ ∃ (i : Nat) (l : Loan), ls[i]? = some l ∧ l.d = d) k ?_ hI ?_ (Evo.refl _) hfr ?_ ?_ ?_ ?_ ?_ ?_ ?_ (fun d cells hv => ⟨?_, rfl⟩) ?_, back⟩
  · intro b o _ hx
    obtain ⟨i, l, br, h1, h2, h3, h4, _⟩ := inX b o hx
    exact ⟨l.d, br, .inr ⟨i, l, h1, rfl⟩, h2, h3, h4⟩
  · intro b o hi
    rcases hI' b o hi with h1 | ⟨h1, h2⟩ | ⟨d, br, h1, h2, h3⟩
    · exact .inl h1
    · refine .inr (.inl ⟨h1, h2, fun d br hl hd hh => ?_⟩)
      have := lo d br b o (back d hl) hd hh; omega
    · obtain ⟨⟨sh, rows, g, e1⟩, e2, _⟩ := hD d h1
      exact .inr (.inr ⟨d, br, sh, rows, g, e1, fun ⟨bx, e3, e4⟩ => by rw [e2] at e3; cases e3; exact e4 rfl, h2, h3⟩)
  · intro d hd
    refine ⟨rfl, fun bx hbx => ?_⟩
    rw [← hrest d (fun hh => hd (.inl hh)) fun i l hl e => hd (.inr ⟨i, l, hl, e⟩)]; exact hbx
  · intro d br hd
    by_cases hdd : D d
    · exact ⟨_, (hD d hdd).2.1⟩
    · by_cases hl : ∃ (i : Nat) (l : Loan), ls[i]? = some l ∧ l.d = d
      · obtain ⟨i, l, hl, rfl⟩ := hl
        obtain ⟨c, box, box', br, b, p, q', x, _, _, _, _, _, _, _, e4, _⟩ := loan i l hl
        exact ⟨box', e4⟩
      · rw [hrest d hdd fun i l hl' e => hl ⟨i, l, hl', e⟩]
        exact h.dom d br hd
  · intro d bx hd hbx
    by_cases hdd : D d
    · obtain ⟨⟨sh, rows, g, e1⟩, e2, _⟩ := hD d hdd
      rw [e2] at hbx; cases hbx
      obtain ⟨br, h1, _⟩ := h.tab d _ e1
      exact ⟨br, h1, trivial⟩
    · obtain ⟨i, l, hl, rfl⟩ := hd.resolve_left hdd
      obtain ⟨c, box, box', br, b, p, q', x, g1, g2, g3, g4, e2, f2, e3, e4, hd', hbx', hba, hr, rfl, has⟩ := loan i l hl
      rw [e4] at hbx; cases hbx
      refine ⟨br, hd', ?_⟩
      refine (BoxR.write e3 hbx' hba hr (fun o' hh hn => ?_) k.shape hIw hI (Evo.refl ρ) fun j hj => hc i _ c g1 g3 j hj).1
      refine k.cell (fun hx => ?_) (lo l.d br b o' ⟨box, e2, f2⟩ hd' hh)
      obtain ⟨i', l', br', k1, k2, k3, k4, k5⟩ := inX b o' hx
      have e := h.apart l.d l'.d br br' b o' ⟨box, e2, f2⟩ k2 hd' k3 hh k4
      obtain rfl := apartL_spec ls hap i i' l l' hl k1 e
      rw [hl] at k1; cases k1
      have := k5 _ g3
      exact hn ⟨this.1, by have := this.2; simp only at this; omega⟩
  · intro d br b o _ hl hd hh
    exact .inl ⟨br, back d hl, hd, hh⟩
  · intro d sh rows gen br b o hd hbx hdd hh
    by_cases hD' : D d
    · rw [(hD d hD').2.1] at hbx; cases hbx
    · obtain ⟨i, l, hl, rfl⟩ := hd.resolve_left hD'
      obtain ⟨c, box, box', br', b', p, q', x, g1, g2, g3, g4, e2, f2, e3, e4, _⟩ := loan i l hl
      rw [e4] at hbx; cases hbx
      obtain ⟨sh', rows', gen', rfl⟩ := writeBox_sl e3
      exact .inl ⟨sh', rows', gen', br, e2, hdd, hh⟩
  · intro d br b o _ hl hd hh hge
    have := lo d br b o (back d hl) hd hh; omega
  · intro d d' br br' b o _ _ hl _ hd _ hh _ hge
    have := lo d br b o (back d hl) hd hh; omega
  · by_cases hd : D d
    · obtain ⟨⟨sh, rows, g, e1⟩, _⟩ := hD d hd
      rw [hv] at e1; cases e1
    · by_cases hl : ∃ (i : Nat) (l : Loan), ls[i]? = some l ∧ l.d = d
      · obtain ⟨i, l, hl, rfl⟩ := hl
        obtain ⟨c, box, box', br, b, p, q', x, _, _, _, _, e2, _, e3, e4, _⟩ := loan i l hl
        rw [hv] at e2; cases e2
        simp only [writeBox] at e3
        exact ⟨_, e4.trans (cond_none' e3).2.symm⟩
      · rw [hrest d hd fun i l hl' e => hl ⟨i, l, hl', e⟩]
        exact ⟨cells, hv⟩
  · rintro d (hd | ⟨i, l, hl, rfl⟩) e
    · obtain ⟨⟨sh, rows, g, e1⟩, _⟩ := hD d hd
      rw [e] at e1; cases e1
    · obtain ⟨c, box, box', br, b, p, q', x, _, _, _, _, e2, f2, _⟩ := loan i l hl
      rw [e] at e2; cases e2; exact f2 rfl
end
end Go.Ev
