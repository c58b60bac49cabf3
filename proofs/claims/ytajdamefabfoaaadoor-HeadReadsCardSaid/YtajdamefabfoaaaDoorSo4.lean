/- Conversions, slices, literals, growing slices: lemmas, no condition. -/
import Derived.Test.YtajdamefabfoaaaDoorSo3
namespace Go.Ev
open Go Go.RowKit

section
variable {P : Program} {m : Nat} {S : St} {dst : Option Tmp} {ty : TypeId} {pos : String} {after : Array Edge} {guard : Option (Nat × Bool)}

theorem blt_beq {a b : Nat} (h : cond (Nat.blt 0 a) (Nat.beq a b) false = true) : 0 < a ∧ a = b := by
  cases hb : Nat.blt 0 a with
  | true => rw [hb] at h; exact ⟨blt_spec hb, Nat.eq_of_beq_eq_true h⟩
  | false => rw [hb] at h; cases h

/-! ### Slices of strings and slices -/
theorem bounds_ok {len : Nat} {lo hi : Option Operand} {K : Nat → Nat → Option R} {q : R} (h : bounds len (lo.map (S.eval P ty)) (hi.map (S.eval P ty)) K = some q) :
    ∃ l r, l ≤ r ∧ r ≤ len ∧ K l r = some q ∧ ∀ w₀ I₀ O₀ ρ I a w, Rel m w₀ I₀ O₀ ρ I S a w → ∀ w' b cap, len ≤ cap →
      (Instr.sliceBounds b len cap (lo.map a.eval) (hi.map a.eval) none).run P w' = .ok (l, r, cap) w' := by
  unfold bounds at h
  have key : ∀ r, r ≤ len → (match lo.map (S.eval P ty) with
      | none => K 0 r
      | some v => ints v fun l => cond (decide (0 ≤ l ∧ l ≤ (r : Int))) (K l.toNat r) none) = some q →
      ∃ l, l ≤ r ∧ K l r = some q ∧ ∀ w₀ I₀ O₀ ρ I a w, Rel m w₀ I₀ O₀ ρ I S a w → ∀ w' : World,
        (match lo.map a.eval with
          | some v => Instr.sliceBound v r .sliceB
          | none => Pure.pure 0 : Sem Nat).run P w' = .ok l w' := by
    intro r hr h
    cases lo with
    | none => exact ⟨0, Nat.zero_le _, h, fun _ _ _ _ _ _ _ _ _ => rfl⟩
    | some x =>
      simp only [Option.map_some] at h
      obtain ⟨k, n, hx, h⟩ := ints_spec h
      obtain ⟨hb, h⟩ := cond_none h
      have hb : 0 ≤ n ∧ n ≤ (r : Int) := by simpa using hb
      refine ⟨n.toNat, by omega, h, fun w₀ I₀ O₀ ρ I a w hrel w' => ?_⟩
      have hv := eval_ok hrel P ty x
      rw [hx] at hv
      simp only [Option.map_some, hv.int_inv, Instr.sliceBound, asIntOf, pure_bind]
      rw [if_pos hb]; rfl
  cases hi with
  | none =>
    simp only [Option.map_none] at h
    obtain ⟨l, h1, h2, h3⟩ := key len (Nat.le_refl _) h
    refine ⟨l, len, h1, Nat.le_refl _, h2, fun w₀ I₀ O₀ ρ I a w hrel w' b cap _ => ?_⟩
    have := h3 w₀ I₀ O₀ ρ I a w hrel w'
    cases lo with
    | none => simp [Instr.sliceBounds] at this ⊢; omega
    | some x => simp only [Option.map_some] at this; simp [Instr.sliceBounds, this]
  | some y =>
    simp only [Option.map_some] at h
    obtain ⟨k, n, hy, h⟩ := ints_spec h
    obtain ⟨hb, h⟩ := cond_none h
    have hb : 0 ≤ n ∧ n ≤ (len : Int) := by simpa using hb
    obtain ⟨l, h1, h2, h3⟩ := key n.toNat (by omega) h
    refine ⟨l, n.toNat, h1, by omega, h2, fun w₀ I₀ O₀ ρ I a w hrel w' b cap hcap => ?_⟩
    have hv := eval_ok hrel P ty y
    rw [hy] at hv
    have hsb : ∀ c, (Instr.sliceBound (a.eval y) cap c).run P w' = .ok n.toNat w' := fun c => by
      simp only [hv.int_inv, Instr.sliceBound, asIntOf, pure_bind]
      rw [if_pos (by omega)]; rfl
    have := h3 w₀ I₀ O₀ ρ I a w hrel w'
    cases lo with
    | none => simp [Instr.sliceBounds, hsb] at this ⊢; omega
    | some x => simp only [Option.map_some] at this; simp [Instr.sliceBounds, this, hsb]

theorem bytes_extract (s : List UInt8) (l h : Nat) : (⟨s.toArray⟩ : ByteArray).extract l h = ⟨((s.take h).drop l).toArray⟩ := by
  apply ByteArray.ext
  simp [List.drop_take]

theorem slc_slice {w : World} {I : Nat → Nat → Prop} {ρ : Nat → Option Real} {sh : List Sh} {rows : List (List V)} {q : Option Addr} {cap : Nat} (h : Rv w I ρ (.slc sh rows) (.slice q rows.length cap))
    {l r : Nat} (hl : l ≤ r) (hr : r ≤ rows.length) :
    rows.length ≤ cap ∧ Rv w I ρ (.slc sh ((rows.take r).drop l)) (.slice (if cap = l then q else q.map (·.add (l * sh.length))) (r - l) (cap - l)) := by
  cases h with
  | dat h =>
    cases h with
    | slc _ _ _ _ val hcap hfit ha hd =>
      refine ⟨hcap, .dat ?_⟩
      have hlen : ((rows.take r).drop l).length = r - l := by simp; omega
      have hrow : ∀ i j, i < r - l → rowAt ((rows.take r).drop l) i j = rowAt rows (l + i) j := fun i j hi => by
        unfold rowAt
        simp only [List.getD_eq_getElem?_getD, List.getElem?_drop, List.getElem?_take]
        rw [if_pos (by omega)]
      have : Dat w I (.slc sh ((rows.take r).drop l)) (.slice (if cap = l then q else q.map (·.add (l * sh.length))) ((rows.take r).drop l).length (cap - l)) := by
        refine .slc sh _ _ _ (fun i j => val (l + i) j) (by rw [hlen]; omega) (fitsRows_of _ _ fun i hi => ?_) (fun hne => ?_) (fun i j hi hj => ?_)
        · rw [hlen] at hi
          have := fitsRows_spec sh rows hfit (l + i) (by omega)
          simp only [List.getD_eq_getElem?_getD, List.getElem?_drop, List.getElem?_take] at this ⊢
          rw [if_pos (by omega)]; exact this
        · have hlt : l < r := by
            rcases Nat.lt_or_ge l r with h | h
            · exact h
            · exact absurd (List.eq_nil_of_length_eq_zero (by rw [hlen]; omega)) hne
          obtain ⟨b, o, hq, hc⟩ := ha (fun e => by subst e; simp at hr; omega)
          rw [if_neg (by omega)]
          refine ⟨b, o + l * sh.length, by rw [hq]; simp [add_off], fun i j hi hj => ?_⟩
          rw [hlen] at hi
          have := hc (l + i) j (by omega) hj
          rw [show o + l * sh.length + (i * sh.length + j) = o + ((l + i) * sh.length + j) by rw [Nat.add_mul]; omega]
          exact this
        · rw [hlen] at hi
          rw [hrow i j hi]; exact hd (l + i) j (by omega) hj
      rwa [hlen] at this

theorem own_data {d g : Nat} {sh : List Sh} {rows : List (List V)} (ht : lk? S.tab d = some (.sl sh rows g)) {w₀ : Base} {I₀ O₀ : Nat → Nat → Prop} {ρ : Nat → Option Real} {I : Nat → Nat → Prop} {a : Act} {w : World}
    (hr : Rel m w₀ I₀ O₀ ρ I S a w) {x : Value} (hx : Rv w I ρ (.own d g) x) : ∃ br, ρ d = some br ∧ x = .slice (br.base.map fun p => ⟨p.1, p.2, none⟩) rows.length br.cap ∧
      ∀ J : Nat → Nat → Prop, (∀ b o, I b o → J b o) → (∀ b o, br.has b o → J b o) → Dat w J (.slc sh rows) x := by
  obtain ⟨br, hd, hb, he⟩ := own_real ht hr hx
  have he' : x = .slice (br.base.map fun p => ⟨p.1, p.2, none⟩) rows.length br.cap := by rw [he]; simp [Real.slice, hb.2.1]
  refine ⟨br, hd, he', fun J h1 h2 => ?_⟩
  obtain ⟨e1, e2, e3, e4, e5, e6, e7, e8⟩ := hb
  have hget : ∀ i j, ∃ y, i < rows.length → j < sh.length → ∀ b o, br.base = some (b, o) → w.cell? ⟨b, o + (i * sh.length + j), none⟩ = some y ∧ Dat w I (rowAt rows i j) y := by
    intro i j
    by_cases hi : i < rows.length ∧ j < sh.length
    · cases hbs : br.base with
      | none => exact ⟨Go.undef, fun _ _ b o hb => by cases hb⟩
      | some p =>
        obtain ⟨y, hy1, hy2⟩ := e7 p.1 p.2 hbs i j hi.1 hi.2
        exact ⟨y, fun _ _ b o hb => by cases hb; exact ⟨hy1, hy2⟩⟩
    · exact ⟨Go.undef, fun h3 h4 => absurd ⟨h3, h4⟩ hi⟩
  have hval := fun i j => Classical.choose_spec (hget i j)
  rw [he']
  refine .slc sh rows _ _ (fun i j => Classical.choose (hget i j)) e4 e5 (fun hne => ?_) (fun i j hi hj => ?_)
  · have hpos : 0 < rows.length := List.length_pos_iff.2 hne
    obtain hbs | ⟨p, hbs⟩ : br.base = none ∨ ∃ p, br.base = some p := by cases br.base <;> simp
    · have := e6 hbs; omega
    · refine ⟨p.1, p.2, by rw [hbs]; rfl, fun i j hi hj => ⟨(hval i j hi hj p.1 p.2 hbs).1, h2 _ _ ⟨p.2, hbs, by omega, ?_⟩⟩⟩
      have : (i + 1) * sh.length ≤ br.cap * sh.length := Nat.mul_le_mul_right _ (by omega)
      rw [Nat.add_mul] at this; rw [e1]; omega
  · obtain hbs | ⟨p, hbs⟩ : br.base = none ∨ ∃ p, br.base = some p := by cases br.base <;> simp
    · have := e6 hbs; omega
    · exact (hval i j hi hj p.1 p.2 hbs).2.keep (fun _ _ _ => rfl) h1

theorem ok_slice {E : Env} {t : TypeId} {x : Operand} {lo hi mx : Option Operand} {K : V → St → Option R} {q : R}
    (h : sliceOp E t (S.eval E.P ty x) (lo.map (S.eval E.P ty)) (hi.map (S.eval E.P ty)) (mx.map (S.eval E.P ty)) S K = some q) :
    ∃ v S', K v S' = some q ∧ OpOk E.P m S ⟨dst, .slice t x lo hi mx, ty, pos, after, guard⟩ v S' ∧
      ((∀ d g, S.eval E.P ty x ≠ .own d g) → S' = S ∧ OpRead E.P m S ⟨dst, .slice t x lo hi mx, ty, pos, after, guard⟩ v) := by
  have mk : ∀ {v}, K v S = some q → OpRead E.P m S ⟨dst, .slice t x lo hi mx, ty, pos, after, guard⟩ v → ∃ v S', K v S' = some q ∧ OpOk E.P m S ⟨dst, .slice t x lo hi mx, ty, pos, after, guard⟩ v S' ∧
      ((∀ d g, S.eval E.P ty x ≠ .own d g) → S' = S ∧ OpRead E.P m S ⟨dst, .slice t x lo hi mx, ty, pos, after, guard⟩ v) := fun h hp => ⟨_, _, h, hp.ok, fun _ => ⟨rfl, hp⟩⟩
  have hmx : ∀ {a b : Option R}, (match mx.map (S.eval E.P ty) with | none => a | some _ => b) = some q → b = none → mx = none ∧ a = some q := by
    intro a b h hb
    cases mx with
    | none => exact ⟨rfl, h⟩
    | some y => simp only [Option.map_some] at h; rw [hb] at h; cases h
  have hat : ∀ (t : TypeId) (d : TypeDesc), E.P.underlying t = some d → (∀ n e, d ≠ .array n e) → ∀ (z : Value) (lo hi mx : Option Value) (w : World),
      (Instr.sliceAt t z lo hi mx).run E.P w = (Instr.slice t z lo hi mx).run E.P w := by
    intro t d hu hd z lo hi mx w
    cases d <;> first
      | exact absurd rfl (hd _ _)
      | (simp only [Instr.sliceAt, Sem.run_bind, run_underlying' hu, Result.andThen_ok]; done)
      | (simp only [Instr.sliceAt, Sem.run_bind, run_underlying' hu, Result.andThen_ok]; rfl)
  unfold sliceOp at h
  split at h
  · rename_i s hu hx
    obtain ⟨rfl, h⟩ := hmx h rfl
    obtain ⟨l, r, h1, h2, h3, h4⟩ := bounds_ok (m := m) h
    refine mk h3 fun w₀ I₀ O₀ ρ I a w hr => ?_
    have hv := eval_ok hr E.P ty x
    rw [hx] at hv
    have hb := fun w' => h4 w₀ I₀ O₀ ρ I a w hr w' false s.length (Nat.le_refl _)
    refine ⟨.string ⟨((s.take r).drop l).toArray⟩, fun w' _ => ?_, .dat (.str _)⟩
    simp only [execOp, Sem.run_bind, hat t _ hu (by simp), hv.str_inv, Instr.slice, run_underlying' hu, Result.andThen_ok, bytes_size]
    simp [hb, bytes_extract]
  · rename_i e sh rows hu hx
    obtain ⟨hc, h⟩ := cond_none h
    have hc := blt_beq hc
    cases mx with
    | none =>
      simp only [Option.map_none] at h
      obtain ⟨l, r, h1, h2, h3, h4⟩ := bounds_ok (m := m) h
      refine mk h3 fun w₀ I₀ O₀ ρ I a w hr => ?_
      have hv := eval_ok hr E.P ty x
      rw [hx] at hv
      obtain ⟨al, cap, he⟩ := dat_slc_len hv
      rw [he] at hv
      obtain ⟨hcap, hv'⟩ := slc_slice hv h1 h2
      have hb := fun w' => h4 w₀ I₀ O₀ ρ I a w hr w' true cap hcap
      refine ⟨_, fun w' _ => ?_, hv'⟩
      simp only [execOp, Sem.run_bind, hat t _ hu (by simp), he, Instr.slice, run_underlying' hu, Result.andThen_ok, Option.map_none, hb]
      rw [run_sizeOf' (by omega), hc.2]
      rfl
    | some y =>
      simp only [Option.map_some] at h
      split at h
      · rename_i e' hy'; cases hy'
      · rename_i e' k' hy'
        split at h
        · rename_i k'' hhi hlo
          refine mk h fun w₀ I₀ O₀ ρ I a w hr => ?_
          have hv := eval_ok hr E.P ty x
          rw [hx] at hv
          obtain ⟨al, cap, he⟩ := dat_slc_len hv
          have hv2 := eval_ok hr E.P ty y
          cases hi with
          | none => cases hhi
          | some z =>
            simp only [Option.map_some, Option.some.injEq] at hhi hy'
            have hv3 := eval_ok hr E.P ty z
            rw [hhi] at hv3
            rw [hy'] at hv2
            cases lo with
            | some _ => cases hlo
            | none =>
              refine ⟨.slice al 0 0, fun w' _ => ?_, .emp sh al⟩
              simp only [execOp, Sem.run_bind, hat t _ hu (by simp), he, Instr.slice, run_underlying' hu, Result.andThen_ok]
              simp [Instr.sliceBounds, Instr.sliceBound, hv2.int_inv, hv3.int_inv, asIntOf, run_sizeOf' (P := E.P) (t := e) (by omega)]
        · cases h
      · cases h
  · rename_i e d g hu hx
    obtain ⟨rfl, h⟩ := hmx h rfl
    obtain ⟨sh, rows, ht, h⟩ := withOwn_spec h
    obtain ⟨hc, h⟩ := cond_none h
    have hc := blt_beq hc
    obtain ⟨l, r, h1, h2, h3, h4⟩ := bounds_ok (m := m) h
    refine ⟨_, _, h3, ⟨rfl, fun w₀ I₀ O₀ ρ I a w hr hgd next Q hn => ?_⟩, fun hno => absurd hx (hno _ _)⟩
    have hv := eval_ok hr E.P ty x
    rw [hx] at hv
    obtain ⟨br, hd, he, hdat⟩ := own_data ht hr hv
    have hk := hr.kill ht hd
    have hv1 : Rv w (fun b o => I b o ∨ br.has b o) ρ (.slc sh rows) (a.eval x) := .dat (hdat _ (fun _ _ h => .inl h) (fun _ _ h => .inr h))
    rw [he] at hv1
    obtain ⟨hcap, hv'⟩ := slc_slice hv1 h1 h2
    have hb := h4 w₀ I₀ O₀ ρ I a w hr w true br.cap hcap
    refine wp_value ?_ (hn _ w ρ _ hk hv')
    simp only [execOp, Sem.run_bind, hat t _ hu (by simp), he, Instr.slice, run_underlying' hu, Result.andThen_ok, Option.map_none, hb]
    rw [run_sizeOf' (by omega), hc.2]
    rfl
  · cases h
end
end Go.Ev
