/- Data, conversions, literals: lemmas, no condition. -/
import Derived.Test.YtajdamefabfoaaaDoorSo4
namespace Go.Ev
open Go Go.RowKit

section
variable {P : Program} {m : Nat} {S : St} {dst : Option Tmp} {ty : TypeId} {pos : String} {after : Array Edge} {guard : Option (Nat × Bool)}

/-- Where no memory moves: a state, and what is shared, from one to another. -/
def Shares (m : Nat) (S S' : St) : Prop := S'.fr = S.fr ∧ ∀ w₀ I₀ O₀ ρ I a w, Rel m w₀ I₀ O₀ ρ I S a w → ∃ I', (∀ b o, I b o → I' b o) ∧ Rel m w₀ I₀ O₀ ρ I' S' a w

theorem dataOf_ok {v : V} {K : V → St → Option R} {q : R} (h : dataOf false S v K = some q) :
    ∃ v' S', K v' S' = some q ∧ datV v' = true ∧ S'.fr = S.fr ∧ ∀ w₀ I₀ O₀ ρ I a w, Rel m w₀ I₀ O₀ ρ I S a w → ∃ I', (∀ b o, I b o → I' b o) ∧ Rel m w₀ I₀ O₀ ρ I' S' a w ∧
      ∀ x, Rv w I ρ v x → Dat w I' v' x := by
  have plain : (∀ d g, v ≠ .own d g) → cond (datV v) (K v S) none = some q → _ := fun _ h => by
    obtain ⟨h1, h2⟩ := cond_none h
    exact (⟨v, S, h2, h1, rfl, fun w₀ I₀ O₀ ρ I a w hr => ⟨I, fun _ _ h => h, hr, fun x hx => datV_ok hx h1⟩⟩ :
      ∃ v' S', K v' S' = some q ∧ datV v' = true ∧ S'.fr = S.fr ∧ ∀ w₀ I₀ O₀ ρ I a w, Rel m w₀ I₀ O₀ ρ I S a w → ∃ I', (∀ b o, I b o → I' b o) ∧ Rel m w₀ I₀ O₀ ρ I' S' a w ∧
      ∀ x, Rv w I ρ v x → Dat w I' v' x)
  cases v with
  | own d g =>
    obtain ⟨sh, rows, ht, h⟩ := withOwn_spec h
    refine ⟨_, _, h, rfl, rfl, fun w₀ I₀ O₀ ρ I a w hr => ?_⟩
    obtain ⟨br, hd, hb⟩ := hr.tab d _ ht
    refine ⟨fun b o => I b o ∨ br.has b o, fun _ _ h => .inl h, hr.kill ht hd, fun x hx => ?_⟩
    obtain ⟨br', hd', _, hdat⟩ := own_data ht hr hx
    rw [hd] at hd'; cases hd'
    exact hdat _ (fun _ _ h => .inl h) (fun _ _ h => .inr h)
  | _ => exact plain (by intros; simp) h

/-- Data, cell by cell. -/
def AllDat (w : World) (I : Nat → Nat → Prop) (vs : List V) (xs : List Value) : Prop := vs.length = xs.length ∧ ∀ i, i < vs.length → Dat w I (vs.getD i .undef) (xs.getD i Go.undef)
theorem AllDat.keepI {w : World} {I I' : Nat → Nat → Prop} {vs : List V} {xs : List Value} (h : AllDat w I vs xs) (hi : ∀ b o, I b o → I' b o) : AllDat w I' vs xs :=
  ⟨h.1, fun i hl => (h.2 i hl).keep (fun _ _ _ => rfl) hi⟩
theorem AllRv.keepI {w : World} {I I' : Nat → Nat → Prop} {ρ : Nat → Option Real} {vs : List V} {xs : List Value} (h : AllRv w I ρ vs xs) (hi : ∀ b o, I b o → I' b o) : AllRv w I' ρ vs xs :=
  ⟨h.1, fun i hl => (h.2 i hl).keep (fun _ _ _ => rfl) hi (Evo.refl _)⟩
theorem AllDat.rv {w : World} {I : Nat → Nat → Prop} {ρ : Nat → Option Real} {vs : List V} {xs : List Value} (h : AllDat w I vs xs) : AllRv w I ρ vs xs := ⟨h.1, fun i hl => .dat (h.2 i hl)⟩
theorem AllDat.cons {w : World} {I : Nat → Nat → Prop} {v : V} {x : Value} {vs : List V} {xs : List Value} (h : Dat w I v x) (t : AllDat w I vs xs) : AllDat w I (v :: vs) (x :: xs) :=
  ⟨by simp [t.1], fun i hi => by
    cases i with
    | zero => exact h
    | succ i => exact t.2 i (by simpa using hi)⟩
theorem AllRv.uncons {w : World} {I : Nat → Nat → Prop} {ρ : Nat → Option Real} {v : V} {vs : List V} {xs : List Value} (h : AllRv w I ρ (v :: vs) xs) : ∃ x xs', xs = x :: xs' ∧ Rv w I ρ v x ∧ AllRv w I ρ vs xs' := by
  obtain ⟨h1, h2⟩ := h
  cases xs with
  | nil => cases h1
  | cons x xs' => exact ⟨x, xs', rfl, h2 0 (by simp), by simpa using h1, fun i hi => by simpa using h2 (i + 1) (by simpa using hi)⟩

theorem dataAll_ok : ∀ (vs : List V) (S : St) {K : List V → St → Option R} {q : R}, dataAll false vs S K = some q →
    ∃ vs' S', K vs' S' = some q ∧ datL vs' = true ∧ vs'.length = vs.length ∧ S'.fr = S.fr ∧ ∀ w₀ I₀ O₀ ρ I a w, Rel m w₀ I₀ O₀ ρ I S a w → ∃ I', (∀ b o, I b o → I' b o) ∧ Rel m w₀ I₀ O₀ ρ I' S' a w ∧
      ∀ xs, AllRv w I ρ vs xs → AllDat w I' vs' xs
  | [], S, K, q, h => ⟨[], S, h, rfl, rfl, rfl, fun w₀ I₀ O₀ ρ I a w hr => ⟨I, fun _ _ h => h, hr, fun xs hx => ⟨hx.1, fun i hi => by cases hi⟩⟩⟩
  | v :: vs, S, K, q, h => by
    obtain ⟨v', S₁, h1, h2, h3, h4⟩ := dataOf_ok (m := m) h
    obtain ⟨vs', S₂, g1, g2, g3, g4, g5⟩ := dataAll_ok vs S₁ h1
    refine ⟨_, S₂, g1, by simp [datL, h2, g2], by simp [g3], g4.trans h3, fun w₀ I₀ O₀ ρ I a w hr => ?_⟩
    obtain ⟨I₁, i1, r1, d1⟩ := h4 w₀ I₀ O₀ ρ I a w hr
    obtain ⟨I₂, i2, r2, d2⟩ := g5 w₀ I₀ O₀ ρ I₁ a w r1
    refine ⟨I₂, fun b o h => i2 b o (i1 b o h), r2, fun xs hx => ?_⟩
    obtain ⟨x, xs', rfl, hx1, hx2⟩ := hx.uncons
    exact .cons ((d1 x hx1).keep (fun _ _ _ => rfl) i2) (d2 xs' (hx2.keepI i1))

/-- A struct or one cell, of data alone. -/
def DatV (w : World) (I : Nat → Nat → Prop) (v : V) (x : Value) : Prop := AllDat w I v.cells x.cells.toList ∧ (∀ ρ, Rv w I ρ v x)
theorem dataV_ok {v : V} {K : V → St → Option R} {q : R} (h : dataV false v S K = some q) :
    ∃ v' S', K v' S' = some q ∧ datL v'.cells = true ∧ v'.cells.length = v.cells.length ∧ S'.fr = S.fr ∧ ∀ w₀ I₀ O₀ ρ I a w, Rel m w₀ I₀ O₀ ρ I S a w → ∃ I', (∀ b o, I b o → I' b o) ∧ Rel m w₀ I₀ O₀ ρ I' S' a w ∧
      ∀ x, Rv w I ρ v x → DatV w I' v' x := by
  have plain : (∀ cs, v ≠ .agg cs) → dataOf false S v K = some q → (∃ v' S', K v' S' = some q ∧ datL v'.cells = true ∧ v'.cells.length = v.cells.length ∧ S'.fr = S.fr ∧ ∀ w₀ I₀ O₀ ρ I a w, Rel m w₀ I₀ O₀ ρ I S a w → ∃ I', (∀ b o, I b o → I' b o) ∧ Rel m w₀ I₀ O₀ ρ I' S' a w ∧
      ∀ x, Rv w I ρ v x → DatV w I' v' x) := fun hn h => by
    have hv1 : v.cells.length = 1 := by
      cases v <;> first | rfl | exact absurd rfl (hn _) | (exfalso; simp [dataOf, datV] at h)
    obtain ⟨v', S', h1, h2, h3, h4⟩ := dataOf_ok (m := m) h
    have hc : v'.cells = [v'] := by cases v' <;> first | rfl | cases h2
    refine ⟨v', S', h1, by simp [hc, datL, h2], by simp [hc, hv1], h3, fun w₀ I₀ O₀ ρ I a w hr => ?_⟩
    obtain ⟨I', i1, r1, d1⟩ := h4 w₀ I₀ O₀ ρ I a w hr
    refine ⟨I', i1, r1, fun x hx => ⟨?_, fun ρ => .dat (d1 x hx)⟩⟩
    have := Rv.cells_ok (ρ := ρ) (.dat (d1 x hx)) (by simp [hc])
    rw [hc] at this ⊢
    obtain ⟨y, e, hy⟩ := this.one
    rw [e]
    exact ⟨rfl, fun i hi => by simp at hi; subst hi; exact datV_ok hy h2⟩
  cases v with
  | agg cs =>
    obtain ⟨cs', S', h1, h2, h3, h4, h5⟩ := dataAll_ok (m := m) cs S h
    refine ⟨_, S', h1, h2, h3, h4, fun w₀ I₀ O₀ ρ I a w hr => ?_⟩
    obtain ⟨I', i1, r1, d1⟩ := h5 w₀ I₀ O₀ ρ I a w hr
    refine ⟨I', i1, r1, fun x hx => ?_⟩
    obtain ⟨xs, rfl, l, hh⟩ := hx.agg_inv
    have := d1 xs ⟨l, hh⟩
    exact ⟨by simpa [V.cells, Value.cells] using this, fun ρ' => .agg cs' xs this.1 fun i hi => .dat (this.2 i hi)⟩
  | _ => exact plain (by intros; simp) h
theorem DatV.keepI {w : World} {I I' : Nat → Nat → Prop} {v : V} {x : Value} (h : DatV w I v x) (hi : ∀ b o, I b o → I' b o) : DatV w I' v x :=
  ⟨h.1.keepI hi, fun ρ => (h.2 ρ).keep (fun _ _ _ => rfl) hi (Evo.refl _)⟩
def AllDatV (w : World) (I : Nat → Nat → Prop) (vs : List V) (xs : List Value) : Prop := vs.length = xs.length ∧ ∀ i, i < vs.length → DatV w I (vs.getD i .undef) (xs.getD i Go.undef)
theorem AllDatV.cons {w : World} {I : Nat → Nat → Prop} {v : V} {x : Value} {vs : List V} {xs : List Value} (h : DatV w I v x) (t : AllDatV w I vs xs) : AllDatV w I (v :: vs) (x :: xs) :=
  ⟨by simp [t.1], fun i hi => by
    cases i with
    | zero => exact h
    | succ i => exact t.2 i (by simpa using hi)⟩
theorem dataVs_ok : ∀ (vs : List V) (S : St) {K : List V → St → Option R} {q : R}, dataVs vs S K = some q →
    ∃ vs' S', K vs' S' = some q ∧ vs'.length = vs.length ∧ S'.fr = S.fr ∧ (∀ i, i < vs'.length → datL (vs'.getD i .undef).cells = true) ∧ ∀ w₀ I₀ O₀ ρ I a w, Rel m w₀ I₀ O₀ ρ I S a w → ∃ I', (∀ b o, I b o → I' b o) ∧ Rel m w₀ I₀ O₀ ρ I' S' a w ∧
      ∀ xs, AllRv w I ρ vs xs → AllDatV w I' vs' xs
  | [], S, K, q, h => ⟨[], S, h, rfl, rfl, fun i hi => by (cases hi), fun w₀ I₀ O₀ ρ I a w hr => ⟨I, fun _ _ h => h, hr, fun xs hx => ⟨hx.1, fun i hi => by cases hi⟩⟩⟩
  | v :: vs, S, K, q, h => by
    obtain ⟨v', S₁, h1, h2, _, h3, h4⟩ := dataV_ok (m := m) h
    obtain ⟨vs', S₂, g1, g3, g4, gd, g5⟩ := dataVs_ok vs S₁ h1
    refine ⟨_, S₂, g1, by simp [g3], g4.trans h3, fun i hi => ?_, fun w₀ I₀ O₀ ρ I a w hr => ?_⟩
    · cases i with
      | zero => exact h2
      | succ i => exact gd i (by simpa using hi)
    obtain ⟨I₁, i1, r1, d1⟩ := h4 w₀ I₀ O₀ ρ I a w hr
    obtain ⟨I₂, i2, r2, d2⟩ := g5 w₀ I₀ O₀ ρ I₁ a w r1
    refine ⟨I₂, fun b o h => i2 b o (i1 b o h), r2, fun xs hx => ?_⟩
    obtain ⟨x, xs', rfl, hx1, hx2⟩ := hx.uncons
    exact .cons ((d1 x hx1).keepI i2) (d2 xs' (hx2.keepI i1))

/-! ### min, max -/
theorem run_builtin2 {b : Builtin} {c : Call} {x y : Operand} (hc : c.callee = .builtin b) (ha : c.args.toList = [x, y]) (a : Act) (w : World) :
    (execOp a.eval ⟨dst, .call c, ty, pos, after, guard⟩).run P w = (builtin b c.argTypes ty (c.args.map fun | .const _ => true | _ => false) #[a.eval x, a.eval y]).run P w := by
  obtain ⟨callee, args, argTypes⟩ := c
  simp only at hc ha
  subst hc
  have h1 : args = #[x, y] := by apply Array.ext'; simpa using ha
  subst h1
  simp [execOp, resolve, invoke]
  rfl
theorem ok_min {c : Call} {x y : Operand} {k k' : IntKind} {p q : Int} (hc : c.callee = .builtin .min) (ha : c.args.toList = [x, y]) (hx : S.eval P ty x = .int k p) (hy : S.eval P ty y = .int k' q) :
    OpPure P m S ⟨dst, .call c, ty, pos, after, guard⟩ (.int k (cond (ilt q p) q p)) :=
  fun _ _ _ _ _ a w hr => by
    have h1 := eval_ok hr P ty x
    have h2 := eval_ok hr P ty y
    rw [hx] at h1; rw [hy] at h2
    refine ⟨_, fun w' => ?_, .dat (.int _ _)⟩
    rw [run_builtin2 hc ha, h1.int_inv, h2.int_inv]
    by_cases hlt : q < p <;> simp [builtin, Builtin.min_, Builtin.min2, hlt, ilt_eq]
theorem ok_max {c : Call} {x y : Operand} {k k' : IntKind} {p q : Int} (hc : c.callee = .builtin .max) (ha : c.args.toList = [x, y]) (hx : S.eval P ty x = .int k p) (hy : S.eval P ty y = .int k' q) :
    OpPure P m S ⟨dst, .call c, ty, pos, after, guard⟩ (.int k (cond (ilt p q) q p)) :=
  fun _ _ _ _ _ a w hr => by
    have h1 := eval_ok hr P ty x
    have h2 := eval_ok hr P ty y
    rw [hx] at h1; rw [hy] at h2
    refine ⟨_, fun w' => ?_, .dat (.int _ _)⟩
    rw [run_builtin2 hc ha, h1.int_inv, h2.int_inv]
    by_cases hlt : p < q <;> simp [builtin, Builtin.max_, Builtin.max2, hlt, ilt_eq]

/-! ### Conversions -/
theorem rowsOf_spec {x : V} {K : List Sh → List (List V) → Option R} {q : R} (h : rowsOf S x K = some q) :
    ∃ sh rows, K sh rows = some q ∧ ∀ w₀ I₀ O₀ ρ I a w, Rel m w₀ I₀ O₀ ρ I S a w → ∀ x', Rv w I ρ x x' → ∃ al cap J, x' = .slice al rows.length cap ∧ (∀ b o, I b o → J b o) ∧ Dat w J (.slc sh rows) x' ∧
      ∀ b o, J b o → I b o ∨ ∃ d g br, x = .own d g ∧ Live S d ∧ ρ d = some br ∧ br.has b o := by
  cases x with
  | slc sh rows =>
    refine ⟨sh, rows, h, fun w₀ I₀ O₀ ρ I a w hr x' hx => ?_⟩
    obtain ⟨al, cap, he⟩ := dat_slc_len hx
    exact ⟨al, cap, I, he, fun _ _ h => h, datV_ok hx rfl, fun _ _ h => .inl h⟩
  | nils sh =>
    refine ⟨sh, [], h, fun w₀ I₀ O₀ ρ I a w hr x' hx => ?_⟩
    cases hx with
    | dat hx => cases hx; exact ⟨_, 0, I, rfl, fun _ _ h => h, .slc sh [] _ 0 (fun _ _ => Go.undef) (Nat.le_refl _) rfl (fun h => absurd rfl h) (fun i j hi => by cases hi), fun _ _ h => .inl h⟩
  | own d g =>
    obtain ⟨sh, rows, ht, h⟩ := withOwn_spec h
    refine ⟨sh, rows, h, fun w₀ I₀ O₀ ρ I a w hr x' hx => ?_⟩
    obtain ⟨br, hd, he, hdat⟩ := own_data ht hr hx
    exact ⟨_, _, fun b o => I b o ∨ br.has b o, he, fun _ _ h => .inl h, hdat _ (fun _ _ h => .inl h) (fun _ _ h => .inr h), fun b o hh => hh.imp id fun h => ⟨d, g, br, rfl, ⟨_, ht, by simp⟩, hd, h⟩⟩
  | _ => cases h

theorem bytesOfStr_row (s : List UInt8) (i j : Nat) (hi : i < s.length) (hj : j < 1) : rowAt (bytesOfStr s) i j = .int .u8 (s.getD i 0).toNat := by
  have : j = 0 := by omega
  subst this
  simp [rowAt, bytesOfStr, List.getD_eq_getElem?_getD, hi]

theorem ok_convert {E : Env} {s d : TypeId} {x : Operand} {K : V → Option R} {q : R} (h : convOp E s d (S.eval E.P ty x) S K = some q) :
    ∃ v, K v = some q ∧ OpOk E.P m S ⟨dst, .convert s d x, ty, pos, after, guard⟩ v S ∧ (cvRd E.P d = true → OpRead E.P m S ⟨dst, .convert s d x, ty, pos, after, guard⟩ v) := by
  have mk : ∀ {v}, K v = some q → OpRead E.P m S ⟨dst, .convert s d x, ty, pos, after, guard⟩ v → ∃ v, K v = some q ∧ OpOk E.P m S ⟨dst, .convert s d x, ty, pos, after, guard⟩ v S ∧ (cvRd E.P d = true → OpRead E.P m S ⟨dst, .convert s d x, ty, pos, after, guard⟩ v) :=
    fun h hp => ⟨_, h, hp.ok, fun _ => hp⟩
  unfold convOp at h
  obtain ⟨hs, h⟩ := cond_none h
  obtain ⟨sd, hs⟩ := Option.isSome_iff_exists.1 hs
  split at h
  · rename_i i k n hu hx
    refine mk h fun w₀ I₀ O₀ ρ I a w hr => ?_
    have hv := eval_ok hr E.P ty x
    rw [hx] at hv
    refine ⟨_, fun w' _ => ?_, .dat (.int _ _)⟩
    simp [execOp, convert, run_underlying' hs, run_underlying' hu, hv.int_inv, Conv.intToInt]
  · rename_i l hu hx
    refine mk h fun w₀ I₀ O₀ ρ I a w hr => ?_
    have hv := eval_ok hr E.P ty x
    rw [hx] at hv
    refine ⟨_, fun w' _ => ?_, .dat (.str l)⟩
    simp [execOp, convert, run_underlying' hs, run_underlying' hu, hv.str_inv]
  · rename_i e l hu hx
    split at h
    · rename_i he hs2
      refine ⟨_, h, .grow fun w₀ I₀ O₀ ρ I a w hr => ?_, fun e => by simp [cvRd, hu] at e⟩
      have hv := eval_ok hr E.P ty x
      rw [hx] at hv
      have hrun := run_bytes_of_string (P := E.P) w s d e ⟨l.toArray⟩ hs2 hu he
      have hk : Keeps (fun _ _ => False) w w.drew := Keeps.drawn _ w _
      refine ⟨_, _, fun b o => I b o ∨ (b = w.heap.size ∧ o < l.length), by simp only [execOp, Sem.run_bind, hv.str_inv, hrun]; rfl, hk.trans' (Keeps.alloc _ _ _), fun _ _ h => .inl h, fun b o hi => ?_, .dat ?_⟩
      · rcases hi with hi | ⟨rfl, _⟩
        · exact .inl hi
        · exact .inr ⟨Nat.le_refl _, by simp⟩
      · have hlen : (bytesOfStr l).length = l.length := by simp [bytesOfStr]
        have hsz : (⟨l.toArray⟩ : ByteArray).size = l.length := bytes_size l
        rw [hsz]
        have hrow : ∀ i, i < l.length → (bytesRow ⟨l.toArray⟩ (grownCap w l.length 0 e))[i]? = some (.int .u8 (l.getD i 0).toNat) := fun i hi => by
          rw [bytesRow_at _ _ i (by simpa using hi)]
          simp [List.getD_eq_getElem?_getD, hi]
        have := Dat.slc (w := w.drew.alloc (.cells (bytesRow ⟨l.toArray⟩ (grownCap w l.length 0 e)) e ((bytesRow ⟨l.toArray⟩ (grownCap w l.length 0 e)).size, (bytesRow ⟨l.toArray⟩ (grownCap w l.length 0 e)).size + 1)))
          (I := fun b o => I b o ∨ (b = w.heap.size ∧ o < l.length)) [.int .u8] (bytesOfStr l) (some ⟨w.heap.size, 0, none⟩) (grownCap w l.length 0 e) (fun i _ => .int .u8 (l.getD i 0).toNat)
          (by rw [hlen]; exact grownCap_ge _ _ _ _) (fitsRows_of _ _ fun i hi => by
            rw [hlen] at hi
            simp [bytesOfStr, List.getD_eq_getElem?_getD, hi, fitsL, fits]) (fun _ => ⟨w.heap.size, 0, rfl, fun i j hi hj => by
              rw [hlen] at hi
              have hj0 : j = 0 := by simp at hj; omega
              subst hj0
              refine ⟨?_, .inr ⟨rfl, by simp; omega⟩⟩
              have := World.cell?_alloc_mark w.drew (bytesRow ⟨l.toArray⟩ (grownCap w l.length 0 e)) e ((bytesRow ⟨l.toArray⟩ (grownCap w l.length 0 e)).size, (bytesRow ⟨l.toArray⟩ (grownCap w l.length 0 e)).size + 1) i
              rw [hrow i hi] at this
              simpa using this⟩) (fun i j hi hj => by
                rw [hlen] at hi
                rw [bytesOfStr_row l i j hi (by simpa using hj)]
                exact .int _ _)
        rw [hlen] at this
        exact this
    · cases h
  · rename_i _ _ hu _
    split at h
    · rename_i e he
      split at h
      · rename_i he8
        obtain ⟨sh, rows, h1, h2⟩ := rowsOf_spec (m := m) h
        obtain ⟨hsh, h3⟩ := cond_none h1
        have hsh := Sh.beqL_eq _ _ hsh
        subst hsh
        refine mk h3 fun w₀ I₀ O₀ ρ I a w hr => ?_
        obtain ⟨al, cap, J, e1, _, e2, e3⟩ := h2 w₀ I₀ O₀ ρ I a w hr _ (eval_ok hr E.P ty x)
        refine ⟨.string ⟨(strOfBytes rows).toArray⟩, fun w' hk => ?_, .dat (.str _)⟩
        have e2 : Dat w' J (.slc [.int .u8] rows) (a.eval x) := e2.keep (fun b o hj => by
          rcases e3 b o hj with hi | ⟨d, g, br, k1, k2, k3, k4⟩
          · exact hk.cell (fun hh => hh (.inl hi)) (hr.ilt b o hi)
          · obtain ⟨⟨y, hy⟩, _⟩ := hr.alive d br b o k2 k3 k4
            exact hk.cell (fun hh => hh (.inr ⟨d, br, by simp [rdBx, k1], k2, k3, k4⟩)) (lt_of_cell hy)) (fun _ _ h => h)
        have hcv : (convert s d (a.eval x)).run E.P w' = (Conv.bytesToString (a.eval x)).run E.P w' := by rw [e1]; exact run_convert_bytes_string w' s d e al _ _ he he8 hu
        have hfin : (Conv.bytesToString (a.eval x)).run E.P w' = .ok (.string ⟨(strOfBytes rows).toArray⟩) w' := by
          rw [e1] at e2 ⊢
          generalize hn : rows.length = n at e2 ⊢
          cases e2 with
          | slc _ _ _ _ val hcap hfit ha hd =>
            let ns := rows.map fun r => (r.getD 0 .undef).toInt
            have hval : ∀ i, i < rows.length → val i 0 = .int .u8 ((rowAt rows i 0).toInt) := fun i hi => by
              have h4 := (fitsL_spec _ _ (fitsRows_spec _ rows hfit i hi)).2 0 (by simp)
              have h5 := hd i 0 hi (by simp)
              unfold rowAt at h5 ⊢
              generalize val i 0 = y at h5 ⊢
              generalize (rows.getD i []).getD 0 V.undef = v at h4 h5 ⊢
              cases v <;> first | (cases h4; done) | skip
              rename_i k n
              simp only [fits, List.getD_cons_zero, decide_eq_true_eq] at h4
              subst h4
              cases h5; rfl
            have hstr : (⟨(strOfBytes rows).toArray⟩ : ByteArray) = ns.foldl (fun r n => r.push (UInt8.ofNat n.toNat)) ByteArray.empty := by
              rw [foldl_push_bytes]
              show (⟨(strOfBytes rows).toArray⟩ : ByteArray) = ⟨#[] ++ (ns.map fun n => UInt8.ofNat n.toNat).toArray⟩
              simp only [strOfBytes, ns, List.map_map, Array.empty_append]
              rfl
            rw [hstr]
            cases al with
            | none =>
              have : rows = [] := by
                rcases List.eq_nil_or_concat rows with h | ⟨_, _, h⟩
                · exact h
                · obtain ⟨b, o, h5, _⟩ := ha (by rw [h]; simp)
                  cases h5
              subst this
              simp [Conv.bytesToString, ns]
            | some q =>
              refine run_bytesToString w' q rows.length cap ns ?_
              have : ∀ j, j < rows.length → w'.cell? (q.add j) = some ((fun j => val j 0) j) := fun j hj => by
                obtain ⟨b, o, h5, h6⟩ := ha (fun e => by subst e; cases hj)
                cases h5
                have := (h6 j 0 hj (by simp)).1
                rw [add_off]; simpa using this
              rw [run_loadCells w' q rows.length (fun j => val j 0) this]
              congr 2
              apply List.ext_getElem
              · simp [ns]
              · intro j h1 h2
                have hj : j < rows.length := by simpa using h1
                simp only [List.getElem_map, List.getElem_range, ns]
                rw [hval j hj]
                simp [rowAt, List.getD_eq_getElem?_getD, hj]
        simp only [execOp, Sem.run_bind, hcv, hfin]; rfl
      · cases h
    · cases h
  · cases h
end
end Go.Ev
