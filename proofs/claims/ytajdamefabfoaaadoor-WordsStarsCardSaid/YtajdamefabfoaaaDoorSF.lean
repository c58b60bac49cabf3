/- The library's joining and repeating of texts, by the kit's contracts: lemmas, no condition. -/
import Derived.Test.YtajdamefabfoaaaDoorQS
import Derived.Test.YtajdamefabfoaaaDoorShelf
import Derived.KernelRfl
namespace Go.Ev
open Go Go.Proofs Go.RowKit

theorem enter_ok {P : Program} {f : FuncId} {fn : Func} (hf : P.funcs[f]? = some fn) (hb : fn.body.isSome = true) (hn : (fn.name == "runtime.NumGoroutine") = false) (xs : Array Value) (w : World) : (callFunc f xs).run P w = .ok (.enter f xs) w := by
  have hnm : ¬ fn.name = "runtime.NumGoroutine" := by
    intro e
    rw [e] at hn; cases hn
  obtain ⟨c, hc⟩ := Option.isSome_iff_exists.1 hb
  simp [callFunc, hf, hnm, hc]
theorem keeps_below' {w w' : World} (X : Nat → Nat → Prop) (h : Below w.heap.size w w') : Keeps X w w' :=
  ⟨h.os, h.tape, h.output, h.size, fun b hb => ObjOk.same (h.block b hb)⟩
theorem ret_plain {w w' : World} {J : Nat → Nat → Prop} {v : V} {x : Value} (hJ : ∀ b o, J b o → b < w.heap.size) (hb : Below w.heap.size w w') (hv : Rv w' J noRho v x) : RetOk w w' J [] [] ⟨v, [], []⟩ x J :=
  ⟨keeps_below' _ hb, fun _ _ h => h, fun b o h => Nat.lt_of_lt_of_le (hJ b o h) hb.size, fun _ _ h _ => h, rfl, (fun j cs cs' p hj => by simp at hj), .inl ⟨rfl, hv⟩⟩
theorem dat_str {w : World} {J : Nat → Nat → Prop} {s : Bytes} {x : Value} (h : Dat w J (.str s) x) : x = .string ⟨s.toArray⟩ := by cases h; rfl
theorem joinTail_lib (sep : Bytes) : ∀ l : List Bytes, Lib.joinTail sep l = N.joinTail sep l
  | [] => rfl
  | w :: r => by
    have := joinTail_lib sep r
    unfold Lib.joinTail at this ⊢
    rw [List.map_cons, List.flatten_cons, this]
    simp only [N.joinTail, List.append_assoc]
theorem join_lib (sep : Bytes) (l : List Bytes) : Lib.join l sep = N.joinS sep l := by
  cases l with
  | nil => rfl
  | cons w r => rw [Lib.join_cons, joinTail_lib]; rfl
theorem rep_lib (l : Bytes) : ∀ n, Lib.repeatL l n = N.rep l n
  | 0 => rfl
  | n + 1 => by unfold Lib.repeatL N.rep; rw [rep_lib l n]
def dJoin : Den := den (aCons (vSl rStr) (aOne vStr)) bNil (oV vStr) (fun a _ => cond (small a.1) (Nat.ble (N.joinS a.2 a.1).length LIM) false) fun a _ => (N.joinS a.2 a.1, ())
def dRepeat : Den := den (aCons vStr (aOne (vInt .i64))) bNil (oV vStr) (fun a _ => cond (ile 0 a.2) (cond (ile a.2 1000000) (Nat.ble a.1.length LIM) false) false) fun a _ => (N.rep a.1 a.2.toNat, ())
theorem ok_join : FnOk Tryd.prog 27 dJoin := by
  refine den_of fun a u h => ?_
  obtain ⟨l, sep⟩ := a
  obtain ⟨h1, h2⟩ := bcond h
  have h1 : l.length ≤ 1000000 := ble_of h1
  have h2 : (N.joinS sep l).length ≤ 1000000 := ble_of h2
  intro x y hxy w J locs xs hlen hJ hx _ _
  have hxy : x = (aCons (vSl rStr) (aOne vStr)).enc (l, sep) ∧ y = bNil.enc u := by simpa using hxy
  obtain ⟨rfl, rfl⟩ := hxy
  have hlen : locs = [] := List.eq_nil_of_length_eq_zero hlen
  subst hlen
  obtain ⟨x0, xs1, rfl, hx0, hx⟩ := hx.uncons
  obtain ⟨x1, rfl, hx1⟩ := hx.one
  have hx1 := Rv.str_inv (show Rv w J _ (.str sep) x1 from hx1)
  subst hx1
  have hx0 : Rv w J _ (.slc [.str] (l.map rStr.enc)) x0 := hx0
  refine .inl ⟨enter_ok Tryd.func27 (by kernel_rfl) (by kernel_rfl) _ _, ?_⟩
  cases hx0 with
  | dat hx0 =>
  cases hx0 with
  | slc _ _ a cap val hcap hfit ha hd =>
  rw [List.length_map] at hcap
  by_cases hl : l = []
  · subst hl
    refine (Tryd.strings_Join_none a cap ⟨sep.toArray⟩ w).mono fun e w' ⟨he, hw⟩ => ⟨_, he, J, ?_⟩
    subst hw
    exact ret_plain hJ (Below.refl _ _) (.dat (.str _))
  · obtain ⟨b, o, rfl, hc⟩ := ha (by intro e; exact hl (List.map_eq_nil_iff.1 e))
    have hcell : ∀ (j : Nat) (v : ByteArray), (l.map fun s => (⟨s.toArray⟩ : ByteArray))[j]? = some v → w.cell? ⟨b, o + j, none⟩ = some (.string v) := fun j v hj => by
      rw [List.getElem?_map] at hj
      cases hs : l[j]? with
      | none => rw [hs] at hj; cases hj
      | some s =>
        rw [hs] at hj
        cases hj
        have hlt := (List.getElem?_eq_some_iff.1 hs).1
        have h3 := (hc j 0 (by rw [List.length_map]; exact hlt) (by simp)).1
        have h4 := hd j 0 (by rw [List.length_map]; exact hlt) (by simp)
        have e : rowAt (l.map rStr.enc) j 0 = .str s := by
          unfold rowAt
          simp only [List.getD_eq_getElem?_getD, List.getElem?_map, hs]; rfl
        rw [e] at h4
        have h5 : val j 0 = .string ⟨s.toArray⟩ := dat_str h4
        rw [h5] at h3
        rw [← h3]; congr 2; simp
    have hN : (l.map fun s => (⟨s.toArray⟩ : ByteArray)).length = l.length := List.length_map ..
    have hmm : (l.map fun s => (⟨s.toArray⟩ : ByteArray)).map (·.data.toList) = l := by rw [List.map_map]; exact List.map_id' l
    have hpos : 0 < l.length := List.length_pos_iff.2 hl
    have hbk : b < w.heap.size := lt_of_cell (hc 0 0 (by rw [List.length_map]; exact hpos) (by simp)).1
    have main := Tryd.strings_Join b o cap (l.map fun s => (⟨s.toArray⟩ : ByteArray)) ⟨sep.toArray⟩ w hcell hbk (by rw [hN]; omega) (by rw [hN]; exact hcap) (by rw [hmm]; show (Lib.join l sep).length ≤ _; rw [join_lib]; omega)
    rw [hN, hmm] at main
    rw [List.length_map]
    refine main.mono fun e w' ⟨he, hb⟩ => ⟨_, he, J, ?_⟩
    have : Lib.join l (ByteArray.mk sep.toArray).data.toList = N.joinS sep l := join_lib sep l
    rw [this]
    exact ret_plain hJ hb (.dat (.str _))
theorem ok_repeat : FnOk Tryd.prog 28 dRepeat := by
  refine den_of fun a u h => ?_
  obtain ⟨s, n⟩ := a
  obtain ⟨p1, h⟩ := bcond h
  obtain ⟨p2, p3⟩ := bcond h
  have h1 : 0 ≤ n := ile_of p1
  have h2 : n ≤ 1000000 := ile_of p2
  have h3 : s.length ≤ 1000000 := ble_of p3
  clear p1 p2 p3 h
  obtain ⟨m, rfl⟩ := Int.eq_ofNat_of_zero_le h1
  intro x y hxy w J locs xs hlen hJ hx _ _
  have hxy : x = (aCons vStr (aOne (vInt .i64))).enc (s, (m : Int)) ∧ y = bNil.enc u := by simpa using hxy
  obtain ⟨rfl, rfl⟩ := hxy
  have hlen : locs = [] := List.eq_nil_of_length_eq_zero hlen
  subst hlen
  obtain ⟨x0, xs1, rfl, hx0, hx⟩ := hx.uncons
  obtain ⟨x1, rfl, hx1⟩ := hx.one
  have hx0 := Rv.str_inv (show Rv w J _ (.str s) x0 from hx0)
  have hx1 := Rv.int_inv (show Rv w J _ (.int .i64 m) x1 from hx1)
  subst hx0 hx1
  refine .inl ⟨enter_ok Tryd.func28 (by kernel_rfl) (by kernel_rfl) _ _, ?_⟩
  have hmul : s.length * m ≤ 1000000 * 1000000 := Nat.mul_le_mul h3 (by omega)
  refine (Tryd.strings_Repeat ⟨s.toArray⟩ m w (by omega) (by rw [bytes_size]; omega)).mono fun e w' ⟨he, hb⟩ => ⟨_, he, J, ?_⟩
  have : Lib.repeatL (ByteArray.mk s.toArray).data.toList m = N.rep s m := rep_lib s m
  rw [this]
  exact ret_plain hJ hb (.dat (.str _))
end Go.Ev
