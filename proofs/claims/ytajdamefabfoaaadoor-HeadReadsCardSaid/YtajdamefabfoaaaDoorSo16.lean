/- A loop's head: the renaming keeps the relation: lemmas. -/
import Derived.Test.YtajdamefabfoaaaDoorSo15
namespace Go.Ev
open Go Go.RowKit

def Ext (G G' : Nat → Option Real) : Prop := ∀ d br, G d = some br → G' d = some br
theorem Ext.refl (G : Nat → Option Real) : Ext G G := fun _ _ h => h
theorem Ext.trans {A B C : Nat → Option Real} (h : Ext A B) (k : Ext B C) : Ext A C := fun d br hd => k d br (h d br hd)
theorem Ext.evo {A B : Nat → Option Real} (h : Ext A B) : Evo A B := fun d br hd => ⟨br, h d br hd, .inl rfl⟩
theorem ext_upd {G : Nat → Option Real} {id : Nat} (hn : G id = none) (br : Real) : Ext G (upd G id br) := fun d b hd => by
  unfold upd; rw [if_neg (fun e => by subst e; rw [hn] at hd; cases hd)]; exact hd

/-- The real of a box under its new name. -/
def Real.new (br : Real) : Real := { br with gen := 0 }
theorem Real.new_has {br : Real} {b o : Nat} : br.new.has b o ↔ br.has b o := Iff.rfl

def Kind (S : St) (d : Nat) (box : Box) : Prop := (IsSl S d ∧ ∃ sh rows g, box = .sl sh rows g) ∨ ((∃ cells, lk? S.tab d = some (.var cells)) ∧ ∃ cells', box = .var cells')

structure CInv (S : St) (ρ : Nat → Option Real) (w : World) (I : Nat → Nat → Prop) (c : Can) (G : Nat → Option Real) (Pn : List Nat) : Prop where
  mapd : ∀ d d', lk? c.m d = some d' → ∃ br, ρ d = some br ∧ Live S d ∧ G d' = some br.new
  inj : ∀ d e d', lk? c.m d = some d' → lk? c.m e = some d' → d = e
  dom : ∀ d' br, G d' = some br → (∃ d, lk? c.m d = some d') ∨ (br.base = none)
  fresh : ∀ d' br, G d' = some br → d' < CAN + c.n
  tabd : ∀ d' box, lk? c.tab d' = some box → ∃ br, G d' = some br ∧ ∀ G', Ext G G' → BoxR w I G' box br
  kind : ∀ d d' box, lk? c.m d = some d' → lk? c.tab d' = some box → Kind S d box
  done : ∀ d' br, G d' = some br → d' ∈ Pn ∨ ∃ box, lk? c.tab d' = some box
  pend : ∀ d', d' ∈ Pn → lk? c.tab d' = none ∧ d' < CAN + c.n

section
variable {m : Nat} {S : St}

theorem lk_cons {α : Type} (d : Nat) (v : α) (l : List (Nat × α)) (t : Nat) : lk? ((d, v) :: l) t = if t = d then some v else lk? l t := by
  simp only [lk?]
  by_cases e : t = d
  · subst e; simp
  · have e' : Nat.beq t d = false := by rw [Bool.eq_false_iff]; exact fun hh => e (Nat.eq_of_beq_eq_true hh)
    rw [e', if_neg e]; rfl

theorem CInv.none_new {ρ : Nat → Option Real} {w : World} {I : Nat → Nat → Prop} {c : Can} {G : Nat → Option Real} {Pn : List Nat} (h : CInv S ρ w I c G Pn) : G (CAN + c.n) = none ∧ lk? c.tab (CAN + c.n) = none := by
  have h1 : G (CAN + c.n) = none := by
    cases e : G (CAN + c.n) with
    | none => rfl
    | some br => have := h.fresh _ _ e; omega
  refine ⟨h1, ?_⟩
  cases e : lk? c.tab (CAN + c.n) with
  | none => rfl
  | some box => obtain ⟨br, h2, _⟩ := h.tabd _ _ e; rw [h1] at h2; cases h2

/-- A new name, its box not there yet. -/
theorem CInv.push {ρ : Nat → Option Real} {w : World} {I : Nat → Nat → Prop} {c : Can} {G : Nat → Option Real} {Pn : List Nat} (h : CInv S ρ w I c G Pn) {d : Nat} (hd : lk? c.m d = none) {br : Real} (hρ : ρ d = some br) (hl : Live S d) :
    CInv S ρ w I { c with m := (d, CAN + c.n) :: c.m, n := c.n + 1 } (upd G (CAN + c.n) br.new) ((CAN + c.n) :: Pn) := by
  obtain ⟨n1, n2⟩ := h.none_new
  have hx := ext_upd n1 br.new
  have old : ∀ e d', lk? ((d, CAN + c.n) :: c.m) e = some d' → (e = d ∧ d' = CAN + c.n) ∨ (e ≠ d ∧ lk? c.m e = some d' ∧ d' ≠ CAN + c.n) := fun e d' he => by
    rw [lk_cons] at he
    by_cases e' : e = d
    · rw [if_pos e'] at he; exact .inl ⟨e', (Option.some.inj he).symm⟩
    · rw [if_neg e'] at he
      refine .inr ⟨e', he, fun e2 => ?_⟩
      obtain ⟨br, _, _, hg⟩ := h.mapd e d' he
      rw [e2, n1] at hg; cases hg
  refine ⟨fun e d' he => ?_, fun e e' d' he he' => ?_, fun d' b hg => ?_, fun d' b hg => ?_, fun d' box hb => ?_, fun e d' box he hb => ?_, fun d' b hg => ?_, fun d' hp => ?_⟩
  · rcases old e d' he with ⟨rfl, rfl⟩ | ⟨_, he, hne⟩
    · exact ⟨br, hρ, hl, by simp [upd]⟩
    · obtain ⟨b, h1, h2, h3⟩ := h.mapd e d' he
      exact ⟨b, h1, h2, hx _ _ h3⟩
  · rcases old e d' he with ⟨rfl, rfl⟩ | ⟨_, h1, hne⟩
    · rcases old e' _ he' with ⟨rfl, _⟩ | ⟨_, _, hne⟩
      · rfl
      · exact absurd rfl hne
    · rcases old e' d' he' with ⟨_, e2⟩ | ⟨_, h2, _⟩
      · exact absurd e2 hne
      · exact h.inj e e' d' h1 h2
  · unfold upd at hg
    by_cases e : d' = CAN + c.n
    · exact .inl ⟨d, by simp only [lk_cons, if_true, e]⟩
    · rw [if_neg e] at hg
      rcases h.dom d' b hg with ⟨f, hf⟩ | hb
      · refine .inl ⟨f, ?_⟩
        simp only [lk_cons]
        rw [if_neg (fun e2 => by subst e2; rw [hd] at hf; cases hf)]; exact hf
      · exact .inr hb
  · unfold upd at hg
    by_cases e : d' = CAN + c.n
    · simp only; omega
    · rw [if_neg e] at hg
      have := h.fresh d' b hg
      simp only; omega
  · obtain ⟨b, h1, h2⟩ := h.tabd d' box hb
    exact ⟨b, hx _ _ h1, fun G' hG' => h2 G' (hx.trans hG')⟩
  · rcases old e d' he with ⟨rfl, rfl⟩ | ⟨_, he, _⟩
    · rw [n2] at hb; cases hb
    · exact h.kind e d' box he hb
  · unfold upd at hg
    by_cases e : d' = CAN + c.n
    · exact .inl (by simp [e])
    · rw [if_neg e] at hg
      rcases h.done d' b hg with h1 | h1
      · exact .inl (List.mem_cons_of_mem _ h1)
      · exact .inr h1
  · rcases List.mem_cons.1 hp with rfl | hp
    · exact ⟨n2, by simp only; omega⟩
    · exact ⟨(h.pend d' hp).1, by have := (h.pend d' hp).2; simp only; omega⟩

/-- A name's box is put down. -/
theorem CInv.pop {ρ : Nat → Option Real} {w : World} {I : Nat → Nat → Prop} {c : Can} {G : Nat → Option Real} {Pn : List Nat} (h : CInv S ρ w I c G Pn) {id : Nat} (hp : id ∈ Pn) {Pn' : List Nat} (hPn : ∀ d, d ∈ Pn → d = id ∨ d ∈ Pn') (hPn' : ∀ d, d ∈ Pn' → d ∈ Pn ∧ d ≠ id)
    {box : Box} {br : Real} (hg : G id = some br) (hb : ∀ G', Ext G G' → BoxR w I G' box br) (hk : ∀ d, lk? c.m d = some id → Kind S d box) : CInv S ρ w I { c with tab := c.tab ++ [(id, box)] } G Pn' := by
  have hn := (h.pend id hp).1
  have tabs : ∀ d' bx, lk? (c.tab ++ [(id, box)]) d' = some bx → (d' = id ∧ bx = box) ∨ lk? c.tab d' = some bx := fun d' bx hbx => by
    rw [lk_append] at hbx
    split at hbx
    · rename_i x hx; rw [hx]; exact .inr hbx
    · by_cases e : d' = id
      · rw [if_pos e] at hbx; exact .inl ⟨e, (Option.some.inj hbx).symm⟩
      · rw [if_neg e] at hbx; cases hbx
  refine ⟨h.mapd, h.inj, h.dom, h.fresh, fun d' bx hbx => ?_, fun e d' bx he hbx => ?_, fun d' b hg' => ?_, fun d' hp' => ?_⟩
  · rcases tabs d' bx hbx with ⟨rfl, rfl⟩ | hbx
    · exact ⟨br, hg, hb⟩
    · exact h.tabd d' bx hbx
  · rcases tabs d' bx hbx with ⟨rfl, rfl⟩ | hbx
    · exact hk e he
    · exact h.kind e d' bx he hbx
  · simp only [lk_append]
    rcases h.done d' b hg' with h1 | ⟨bx, h1⟩
    · rcases hPn d' h1 with rfl | h2
      · exact .inr ⟨box, by rw [hn]; simp⟩
      · exact .inl h2
    · exact .inr ⟨bx, by rw [h1]⟩
  · obtain ⟨h1, h2⟩ := hPn' d' hp'
    refine ⟨?_, (h.pend d' h1).2⟩
    simp only [lk_append]
    rw [(h.pend d' h1).1]; simp [h2]
/-- A nil slice gets a box of its own. -/
theorem CInv.nil {ρ : Nat → Option Real} {w : World} {I : Nat → Nat → Prop} {c : Can} {G : Nat → Option Real} {Pn : List Nat} (h : CInv S ρ w I c G Pn) (sh : List Sh) :
    CInv S ρ w I { c with tab := c.tab ++ [(CAN + c.n, .sl sh [] 0)], n := c.n + 1 } (upd G (CAN + c.n) { base := none, sz := sh.length, n := 0, cap := 0, gen := 0 }) Pn := by
  obtain ⟨n1, n2⟩ := h.none_new
  have hx := ext_upd n1 { base := none, sz := sh.length, n := 0, cap := 0, gen := 0 }
  have tabs : ∀ d' bx, lk? (c.tab ++ [(CAN + c.n, .sl sh [] 0)]) d' = some bx → (d' = CAN + c.n ∧ bx = .sl sh [] 0) ∨ lk? c.tab d' = some bx := fun d' bx hbx => by
    rw [lk_append] at hbx
    split at hbx
    · rename_i x hx; rw [hx]; exact .inr hbx
    · by_cases e : d' = CAN + c.n
      · rw [if_pos e] at hbx; exact .inl ⟨e, (Option.some.inj hbx).symm⟩
      · rw [if_neg e] at hbx; cases hbx
  refine ⟨fun e d' he => ?_, h.inj, fun d' b hg => ?_, fun d' b hg => ?_, fun d' bx hbx => ?_, fun e d' bx he hbx => ?_, fun d' b hg => ?_, fun d' hp => ?_⟩
  · obtain ⟨b, h1, h2, h3⟩ := h.mapd e d' he
    exact ⟨b, h1, h2, hx _ _ h3⟩
  · unfold upd at hg
    by_cases e : d' = CAN + c.n
    · rw [if_pos e] at hg; cases hg; exact .inr rfl
    · rw [if_neg e] at hg; exact h.dom d' b hg
  · unfold upd at hg
    by_cases e : d' = CAN + c.n
    · simp only; omega
    · rw [if_neg e] at hg
      have := h.fresh d' b hg
      simp only; omega
  · rcases tabs d' bx hbx with ⟨rfl, rfl⟩ | hbx
    · exact ⟨{ base := none, sz := sh.length, n := 0, cap := 0, gen := 0 }, by simp [upd], fun G' _ => ⟨rfl, rfl, rfl, Nat.le_refl _, rfl, fun _ => rfl, (fun b o hb => by cases hb), fun b o hb => by cases hb⟩⟩
    · obtain ⟨b, h1, h2⟩ := h.tabd d' bx hbx
      exact ⟨b, hx _ _ h1, fun G' hG' => h2 G' (hx.trans hG')⟩
  · rcases tabs d' bx hbx with ⟨rfl, rfl⟩ | hbx
    · obtain ⟨b, _, _, h3⟩ := h.mapd e _ he
      rw [n1] at h3; cases h3
    · exact h.kind e d' bx he hbx
  · simp only [lk_append]
    unfold upd at hg
    by_cases e : d' = CAN + c.n
    · subst e; rw [n2]; exact .inr ⟨.sl sh [] 0, by simp⟩
    · rw [if_neg e] at hg
      rcases h.done d' b hg with h1 | ⟨bx, h1⟩
      · exact .inl h1
      · exact .inr ⟨bx, by rw [h1]⟩
  · obtain ⟨p1, p2⟩ := h.pend d' hp
    refine ⟨?_, by simp only; omega⟩
    simp only [lk_append]
    rw [p1]; simp; omega

def MapExt (c c' : Can) : Prop := ∀ d d', lk? c.m d = some d' → lk? c'.m d = some d'
def VOk (m : Nat) (S : St) (f : Nat) : Prop := ∀ (v : V) (c : Can) (K : V → Can → Option R) (q : R), canV S f v c K = some q → ∃ v' c', K v' c' = some q ∧ MapExt c c' ∧
  ∀ w₀ I₀ O₀ ρ I a w, Rel m w₀ I₀ O₀ ρ I S a w → ∀ G Pn, CInv S ρ w I c G Pn → ∃ G', Ext G G' ∧ CInv S ρ w I c' G' Pn ∧ ∀ x, Rv w I ρ v x → ∀ G'', Ext G' G'' → Rv w I G'' v' x
def LOk (m : Nat) (S : St) (f : Nat) : Prop := ∀ (vs : List V) (c : Can) (K : List V → Can → Option R) (q : R), canL S f vs c K = some q → ∃ vs' c', K vs' c' = some q ∧ MapExt c c' ∧ vs'.length = vs.length ∧
  ∀ w₀ I₀ O₀ ρ I a w, Rel m w₀ I₀ O₀ ρ I S a w → ∀ G Pn, CInv S ρ w I c G Pn → ∃ G', Ext G G' ∧ CInv S ρ w I c' G' Pn ∧ ∀ xs, AllRv w I ρ vs xs → ∀ G'', Ext G' G'' → AllRv w I G'' vs' xs

theorem mapExt_push {c : Can} {d n' : Nat} {t : List (Nat × Box)} {k : Nat} (hd : lk? c.m d = none) : MapExt c { m := (d, n') :: c.m, tab := t, n := k } := fun e d' he => by
  simp only [lk_cons]
  rw [if_neg (fun e2 => by subst e2; rw [hd] at he; cases he)]; exact he

/-- A slice's box: the name that it has, or a new one. -/
theorem CInv.slice {ρ : Nat → Option Real} {w : World} {I : Nat → Nat → Prop} {c : Can} {G : Nat → Option Real} {Pn : List Nat} (h : CInv S ρ w I c G Pn) {d : Nat} (hd : lk? c.m d = none) {br : Real} (hρ : ρ d = some br) {sh : List Sh} {rows : List (List V)} {gen : Nat}
    (ht : lk? S.tab d = some (.sl sh rows gen)) (hb : BoxR w I ρ (.sl sh rows gen) br) :
    CInv S ρ w I { m := (d, CAN + c.n) :: c.m, tab := c.tab ++ [(CAN + c.n, .sl sh rows 0)], n := c.n + 1 } (upd G (CAN + c.n) br.new) Pn := by
  have h1 := h.push hd hρ ⟨_, ht, by simp⟩
  refine h1.pop (id := CAN + c.n) (br := br.new) (box := .sl sh rows 0) List.mem_cons_self (fun e he => (List.mem_cons.1 he).imp id id) (fun e he => ⟨List.mem_cons_of_mem _ he, fun e2 => ?_⟩) (by simp [upd]) (fun G' _ => ?_) fun e he => ?_
  · subst e2; have := (h.pend _ he).2; omega
  · obtain ⟨e1, e2, e3, e4, e5, e6, e7, e8⟩ := hb
    exact ⟨e1, e2, rfl, e4, e5, e6, e7, e8⟩
  · have : e = d := h1.inj e d _ he (by simp only [lk_cons, if_true])
    subst this
    exact .inl ⟨⟨_, _, _, ht⟩, _, _, _, rfl⟩
theorem own_new {w : World} {I : Nat → Nat → Prop} {ρ G : Nat → Option Real} {d g d' : Nat} {x : Value} {br : Real} (h : Rv w I ρ (.own d g) x) (hρ : ρ d = some br) (hg : g = br.gen) (hG : G d' = some br.new) : Rv w I G (.own d' 0) x := by
  cases h with
  | dat h => cases h
  | own _ _ br' _ hd' _ hh hp =>
    rw [hρ] at hd'; cases hd'
    exact .own d' 0 br.new x hG (Nat.le_refl _) (fun _ => hh hg) hp
theorem ptr_new {w : World} {I : Nat → Nat → Prop} {ρ G : Nat → Option Real} {d r o g d' : Nat} {x : Value} {br : Real} (h : Rv w I ρ (.ptr d r o g) x) (hρ : ρ d = some br) (hg : g = br.gen) (hG : G d' = some br.new) : Rv w I G (.ptr d' r o 0) x := by
  cases h with
  | dat h => cases h
  | ptr _ _ _ _ br' _ hd' _ hh hp =>
    rw [hρ] at hd'; cases hd'
    exact .ptr d' r o 0 br.new x hG (Nat.le_refl _) (fun _ => hh hg) hp
def NoBox : V → Prop
  | .ptr .. => False | .own .. => False | .agg _ => False | .fn .. => False | .tup _ => False | _ => True
/-- A value without boxes. -/
theorem plain_new {w : World} {I : Nat → Nat → Prop} {ρ : Nat → Option Real} {v : V} {x : Value} (h : Rv w I ρ v x) (hv : NoBox v) (G : Nat → Option Real) : Rv w I G v x := by
  cases h with
  | dat h => exact .dat h
  | undef x => exact .undef x
  | emp sh q => exact .emp sh q
  | nilp => exact .nilp
  | cref cells b o val hc hd => exact .cref cells b o val hc hd
  | nilf => exact .nilf
  | nili => exact .nili
  | _ => exact hv.elim

theorem vok_plain {c : Can} {K : V → Can → Option R} {q : R} {v : V} (h : K v c = some q) (hv : NoBox v) :
    ∃ v' c', K v' c' = some q ∧ MapExt c c' ∧ ∀ w₀ I₀ O₀ ρ I a w, Rel m w₀ I₀ O₀ ρ I S a w → ∀ G Pn, CInv S ρ w I c G Pn → ∃ G', Ext G G' ∧ CInv S ρ w I c' G' Pn ∧ ∀ x, Rv w I ρ v x → ∀ G'', Ext G' G'' → Rv w I G'' v' x :=
  ⟨v, c, h, fun _ _ h => h, fun w₀ I₀ O₀ ρ I a w hr G Pn hc => ⟨G, Ext.refl G, hc, fun x hx G'' _ => plain_new hx hv G''⟩⟩
theorem vok_undef {c : Can} {K : V → Can → Option R} {q : R} {v : V} (h : K .undef c = some q) :
    ∃ v' c', K v' c' = some q ∧ MapExt c c' ∧ ∀ w₀ I₀ O₀ ρ I a w, Rel m w₀ I₀ O₀ ρ I S a w → ∀ G Pn, CInv S ρ w I c G Pn → ∃ G', Ext G G' ∧ CInv S ρ w I c' G' Pn ∧ ∀ x, Rv w I ρ v x → ∀ G'', Ext G' G'' → Rv w I G'' v' x :=
  ⟨.undef, c, h, fun _ _ h => h, fun w₀ I₀ O₀ ρ I a w hr G Pn hc => ⟨G, Ext.refl G, hc, fun x hx G'' _ => .undef x⟩⟩

theorem can_ok : ∀ f, VOk m S f ∧ LOk m S f
  | 0 => by
    refine ⟨fun v c K q h => ?_, fun vs c K q h => ?_⟩
    · simp only [canV] at h; cases h
    · simp only [canL] at h; cases h
  | f + 1 => by
    obtain ⟨ihV, ihL⟩ := can_ok f
    refine ⟨fun v c K q h => ?_, fun vs c K q h => ?_⟩
    · cases v with
      | nils sh =>
        simp only [canV] at h
        refine ⟨_, _, h, fun _ _ h => h, fun w₀ I₀ O₀ ρ I a w hr G Pn hc => ⟨_, ext_upd hc.none_new.1 _, hc.nil sh, fun x hx G'' hG => ?_⟩⟩
        cases hx with
        | dat hx =>
          cases hx
          exact .own _ 0 { base := none, sz := sh.length, n := 0, cap := 0, gen := 0 } _ (hG _ _ (by simp [upd])) (Nat.le_refl _) (fun _ => rfl) ⟨_, _, _, rfl⟩
      | own d g =>
        simp only [canV] at h
        split at h
        · rename_i sh rows gen ht
          rcases cond_some h with ⟨hg, h⟩ | ⟨_, h⟩
          · have hg := Nat.eq_of_beq_eq_true hg
            split at h
            · rename_i d' hd
              refine ⟨_, _, h, fun _ _ h => h, fun w₀ I₀ O₀ ρ I a w hr G Pn hc => ⟨G, Ext.refl G, hc, fun x hx G'' hG => ?_⟩⟩
              obtain ⟨br, h1, _, h3⟩ := hc.mapd d d' hd
              obtain ⟨br', h4, h5⟩ := hr.tab d _ ht
              rw [h1] at h4; cases h4
              exact own_new hx h1 (hg.trans h5.2.2.1.symm) (hG _ _ h3)
            · rename_i hd
              refine ⟨_, _, h, mapExt_push hd, fun w₀ I₀ O₀ ρ I a w hr G Pn hc => ?_⟩
              obtain ⟨br, h4, h5⟩ := hr.tab d _ ht
              exact ⟨_, ext_upd hc.none_new.1 _, hc.slice hd h4 ht h5, fun x hx G'' hG => own_new hx h4 (hg.trans h5.2.2.1.symm) (hG _ _ (by simp [upd]))⟩
          · exact vok_undef h
        · exact vok_undef h
      | ptr d r o g =>
        simp only [canV] at h
        split at h
        · rename_i cells ht
          have g0 : ∀ w₀ I₀ O₀ ρ I a w, Rel m w₀ I₀ O₀ ρ I S a w → ∀ x, Rv w I ρ (.ptr d r o g) x → ∃ br, ρ d = some br ∧ g = br.gen := fun w₀ I₀ O₀ ρ I a w hr x hx => by
            obtain ⟨br, h4, h5⟩ := hr.tab d _ ht
            cases hx with
            | dat hx => cases hx
            | ptr _ _ _ _ br' _ hd' hgl _ _ =>
              rw [h4] at hd'; cases hd'
              exact ⟨br, h4, by have := h5.2.2.2.1; omega⟩
          split at h
          · rename_i d' hd
            refine ⟨_, _, h, fun _ _ h => h, fun w₀ I₀ O₀ ρ I a w hr G Pn hc => ⟨G, Ext.refl G, hc, fun x hx G'' hG => ?_⟩⟩
            obtain ⟨br, h1, _, h3⟩ := hc.mapd d d' hd
            obtain ⟨br', h4, h5⟩ := g0 w₀ I₀ O₀ ρ I a w hr x hx
            rw [h1] at h4; cases h4
            exact ptr_new hx h1 h5 (hG _ _ h3)
          · rename_i hd
            obtain ⟨cells', c', h1, h2, h3, h4⟩ := ihL cells _ _ q h
            refine ⟨_, _, h1, fun e d' he => h2 e d' (mapExt_push (t := c.tab) (k := c.n + 1) hd e d' he), fun w₀ I₀ O₀ ρ I a w hr G Pn hc => ?_⟩
            obtain ⟨br, k1, k2⟩ := hr.tab d _ ht
            have hp := hc.push hd k1 ⟨_, ht, by simp⟩
            obtain ⟨G', e1, e2, e3⟩ := h4 w₀ I₀ O₀ ρ I a w hr _ _ hp
            obtain ⟨b, p, val, f1, f2, f3⟩ := var_cells k2
            have hG' : G' (CAN + c.n) = some br.new := e1 _ _ (by simp [upd])
            have hmd : lk? c'.m d = some (CAN + c.n) := h2 d _ (by simp only [lk_cons, if_true])
            refine ⟨G', (ext_upd hc.none_new.1 _).trans e1, e2.pop (id := CAN + c.n) (br := br.new) List.mem_cons_self (fun e he => (List.mem_cons.1 he).imp id id)
              (fun e he => ⟨List.mem_cons_of_mem _ he, fun e2 => by subst e2; have := (hc.pend _ he).2; omega⟩) hG' (fun G'' hG => ?_) (fun e he => ?_), fun x hx G'' hG => ?_⟩
            · obtain ⟨a1, a2, a3, a4, _⟩ := k2
              refine ⟨by rw [h3]; exact a1, a2, a3, rfl, b, p, f1, fun j hj => ⟨val j, f2 j (by omega), ?_⟩⟩
              have := (e3 _ f3 G'' hG).2 j hj
              rwa [range_val val _ _ (by omega)] at this
            · have := e2.inj e d _ he hmd
              subst this
              exact .inr ⟨⟨_, ht⟩, _, rfl⟩
            · obtain ⟨br', b1, b2⟩ := g0 w₀ I₀ O₀ ρ I a w hr x hx
              rw [k1] at b1; cases b1
              exact ptr_new hx k1 b2 (hG _ _ hG')
        · rename_i sh rows gen ht
          rcases cond_some h with ⟨hg, h⟩ | ⟨_, h⟩
          · have hg := Nat.eq_of_beq_eq_true hg
            split at h
            · rename_i d' hd
              refine ⟨_, _, h, fun _ _ h => h, fun w₀ I₀ O₀ ρ I a w hr G Pn hc => ⟨G, Ext.refl G, hc, fun x hx G'' hG => ?_⟩⟩
              obtain ⟨br, h1, _, h3⟩ := hc.mapd d d' hd
              obtain ⟨br', h4, h5⟩ := hr.tab d _ ht
              rw [h1] at h4; cases h4
              exact ptr_new hx h1 (hg.trans h5.2.2.1.symm) (hG _ _ h3)
            · rename_i hd
              refine ⟨_, _, h, mapExt_push hd, fun w₀ I₀ O₀ ρ I a w hr G Pn hc => ?_⟩
              obtain ⟨br, h4, h5⟩ := hr.tab d _ ht
              exact ⟨_, ext_upd hc.none_new.1 _, hc.slice hd h4 ht h5, fun x hx G'' hG => ptr_new hx h4 (hg.trans h5.2.2.1.symm) (hG _ _ (by simp [upd]))⟩
          · exact vok_undef h
        · exact vok_undef h
      | agg cs =>
        simp only [canV] at h
        obtain ⟨cs', c', h1, h2, h3, h4⟩ := ihL cs _ _ q h
        refine ⟨_, _, h1, h2, fun w₀ I₀ O₀ ρ I a w hr G Pn hc => ?_⟩
        obtain ⟨G', e1, e2, e3⟩ := h4 w₀ I₀ O₀ ρ I a w hr G Pn hc
        refine ⟨G', e1, e2, fun x hx G'' hG => ?_⟩
        obtain ⟨xs, rfl, l, hh⟩ := hx.agg_inv
        have := e3 xs ⟨l, hh⟩ G'' hG
        exact .agg cs' xs this.1 this.2
      | fn g a b =>
        simp only [canV] at h
        obtain ⟨a', c', h1, h2, h3, h4⟩ := ihL a _ _ q h
        obtain ⟨b', c'', k1, k2, k3, k4⟩ := ihL b _ _ q h1
        refine ⟨_, _, k1, fun e d' he => k2 e d' (h2 e d' he), fun w₀ I₀ O₀ ρ I a₀ w hr G Pn hc => ?_⟩
        obtain ⟨G', e1, e2, e3⟩ := h4 w₀ I₀ O₀ ρ I a₀ w hr G Pn hc
        obtain ⟨G₂, f1, f2, f3⟩ := k4 w₀ I₀ O₀ ρ I a₀ w hr G' Pn e2
        refine ⟨G₂, e1.trans f1, f2, fun x hx G'' hG => ?_⟩
        cases hx with
        | dat hx => cases hx
        | fn _ _ _ xs ys l1 r1 l2 r2 =>
          have g1 := e3 xs ⟨l1, r1⟩ G'' (f1.trans hG)
          have g2 := f3 ys ⟨l2, r2⟩ G'' hG
          exact .fn g a' b' xs ys g1.1 g1.2 g2.1 g2.2
      | tup vs => simp only [canV] at h; exact vok_undef h
      | _ => simp only [canV] at h; exact vok_plain h trivial
    · cases vs with
      | nil =>
        simp only [canL] at h
        exact ⟨_, _, h, fun _ _ h => h, rfl, fun w₀ I₀ O₀ ρ I a w hr G Pn hc => ⟨G, Ext.refl G, hc, fun xs hx G'' _ => ⟨hx.1, fun i hi => by cases hi⟩⟩⟩
      | cons v r =>
        simp only [canL] at h
        obtain ⟨v', c', h1, h2, h3⟩ := ihV v _ _ q h
        obtain ⟨r', c'', k1, k2, k3, k4⟩ := ihL r _ _ q h1
        refine ⟨_, _, k1, fun e d' he => k2 e d' (h2 e d' he), by simp [k3], fun w₀ I₀ O₀ ρ I a w hr G Pn hc => ?_⟩
        obtain ⟨G', e1, e2, e3⟩ := h3 w₀ I₀ O₀ ρ I a w hr G Pn hc
        obtain ⟨G₂, f1, f2, f3⟩ := k4 w₀ I₀ O₀ ρ I a w hr G' Pn e2
        refine ⟨G₂, e1.trans f1, f2, fun xs hx G'' hG => ?_⟩
        obtain ⟨x, xs', rfl, hx1, hx2⟩ := hx.uncons
        have g1 := e3 x hx1 G'' (f1.trans hG)
        have g2 := f3 xs' hx2 G'' hG
        refine ⟨by simp [g2.1], fun i hi => ?_⟩
        cases i with
        | zero => exact g1
        | succ i => exact g2.2 i (by simpa using hi)
end
end Go.Ev
