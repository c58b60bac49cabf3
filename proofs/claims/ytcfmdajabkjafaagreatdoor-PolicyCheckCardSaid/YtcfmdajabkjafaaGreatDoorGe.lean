/- The library writes an unsigned number: lemmas,no condition. -/
import Derived.Test.YtcfmdajabkjafaaGreatDoorShelfB
import Derived.Shelf.Strconv.Itoa3
import Derived.Lib.AppendIntMem
import Derived.KernelRfl
import Derived.RegionTactic
import Derived.Deep.RegionWith
import Derived.Test.YtcfmdajabkjafaaGreatDoorProg
import Derived.Test.YtcfmdajabkjafaaGreatDoorGc
import Derived.Lib.ItoaNum
import Derived.RangeFuncNested
import Derived.RangeFuncBound
import Derived.RangeFuncCalls
import Derived.RangeFuncLeaves
import Derived.Shelf.Abstract
import Derived.Shelf.RegionOpen
import Derived.WalkKit
import Derived.OwnWalkIn
import Derived.TacticsInMore
import Derived.LoopNIn
import Derived.LoopIn
import Derived.RangeFuncFrom
namespace Go.Proofs
open Go.RowKit Go.Shelf Go.Sort
set_option maxHeartbeats 2000000 in
set_option maxRecDepth 100000 in
theorem fmtU_in (u : Nat) (hu64 : u < 18446744073709551616) (w : World) (htab : Lib.TabIs Tryz.prog w "internal/strconv.uint64pow10" .u64 Lib.pow10Tab) :
    Calls Tryz.prog 85 #[.int .u64 (u : Int), .int .i64 10] w fun e w' => e = .returned (.string ⟨(Lib.decDigits u).toArray⟩) ∧ ∃ k os, w' = grow (w.drewN k) os := by
  by_cases hs : u < 100
  · go_enter Tryz.func85, Tryz.ntmps85
    go_wp2_with (go_at_call 103; refine (Tryz.internal_strconv_small u hs _).mono ?_; rintro e w' ⟨rfl, rfl⟩)
    go_ret
    exact ⟨rfl, 0, #[], by simp [World.drewN_zero]⟩
  · have hu1 : 1 ≤ u := by omega
    have hnd20 : Lib.nDigits u ≤ 20 := by have := Lib.numDigits_eq u hu1 hu64; split at this <;> omega
    have hal : Tryz.prog.arrayLen 145 = 24 := by simp [Program.arrayLen, Tryz.underlying145]
    have hsl1 : ∀ W, (Instr.sliceAt 145 (.pointer (some ⟨w.heap.size, 0, none⟩)) none (some (.int .i64 (Lib.nDigits u : Int))) none).run Tryz.prog W = .ok (.slice (some ⟨w.heap.size, 0, none⟩) (Lib.nDigits u) 24) W := fun W => by
      rw [run_sliceAt_array_h W 145 ⟨w.heap.size, 0, none⟩ (by simp [Program.arrayLen, Program.elem, Tryz.underlying145]) .i64 (Lib.nDigits u : Int) (by omega) (by rw [hal]; omega)]
      go_simp
    have hH0 := Lib.holds_zero0 w 145 (Lib.nDigits u) (by omega)
    have hfmt := Tryz.internal_strconv_formatBase10 w.heap.size 0 24 u (Array.replicate (Lib.nDigits u) 0) (w.alloc (.cells Lib.zeros24 145)) hH0 (by rw [Array.size_replicate]; exact Lib.lt_pow_nDigits u) hu64 (by rw [Array.size_replicate]; omega)
    rw [Array.size_replicate] at hfmt
    have HH0 := Lib.hid hH0
    clear hH0 hal
    go_enter Tryz.func85, Tryz.ntmps85
    go_wp2_with (first
      | (go_at_call 104; refine (Tryz.internal_strconv_numDigits u hu1 hu64 _ (Lib.tabIs_alloc htab _)).mono ?_; rintro e w' ⟨rfl, rfl⟩))
    go_at_call 105
    refine hfmt.mono ?_
    rintro e w' ⟨rfl, k, v', dk, rfl, hF⟩
    have hcv : (convert 89 9 (.slice (some ⟨w.heap.size, 0, none⟩) (Lib.nDigits u) 24)).run Tryz.prog ((putRow (fun (b : UInt8) => Value.int .u8 (b.toNat : Int)) (w.alloc (.cells Lib.zeros24 145)) w.heap.size 0 dk).drewN k) = .ok (.string ⟨(Lib.decDigits u).toArray⟩) ((putRow (fun (b : UInt8) => Value.int .u8 (b.toNat : Int)) (w.alloc (.cells Lib.zeros24 145)) w.heap.size 0 dk).drewN k) := by
      have h := run_convert_bytes_back (P := Tryz.prog) ((putRow (fun (b : UInt8) => Value.int .u8 (b.toNat : Int)) (w.alloc (.cells Lib.zeros24 145)) w.heap.size 0 dk).drewN k) 89 9 5 ⟨w.heap.size, 0, none⟩ 24 (Lib.decDigits u) Tryz.underlying89 Tryz.underlying5 Tryz.underlying9 (fun j hj => by
        rw [Lib.row_is_numeral hF j hj, Lib.add_plain, World.cell?_drewN]
        exact cell?_putRow (fun (b : UInt8) => Value.int .u8 (b.toNat : Int)) _ w.heap.size 0 _ dk HH0.out (by rw [hF.size, Array.size_replicate]) j (by rw [hF.size]; rw [Lib.decDigits_length] at hj; exact hj))
      rw [Lib.decDigits_length] at h
      exact h
    go_wp2
    go_ret
    obtain ⟨os, eo⟩ := Lib.fin_at w (.cells Lib.zeros24 145) dk k 0
    exact ⟨rfl, k, os, eo⟩
end Go.Proofs

/- The library's text builder takes a text; the closure that puts a line: lemmas,no condition but the text's length. -/
namespace Go.Ev
open Go Go.Proofs Go.RowKit Go.Shelf
def KeepK (b:Nat) (w w' : World):Prop:=∀ (k:Nat) cs T fr,k ≠ b→T ≠ 5→w.heap[k]? = some (.cells cs T fr)→w'.heap[k]? = some (.cells cs T fr)
theorem KeepK.refl (b:Nat) (w:World):KeepK b w w:=fun _ _ _ _ _ _ h=>h
theorem KeepK.trans {b:Nat} {w w1 w2:World} (h:KeepK b w w1) (h' : KeepK b w1 w2):KeepK b w w2:=fun k cs T fr h1 h2 h3=>h' k cs T fr h1 h2 (h k cs T fr h1 h2 h3)
theorem KeepK.setCell (b i:Nat) (w:World) (v:Value):KeepK b w (w.setCell ⟨b,i,none⟩ v):=fun k cs T fr h1 _ h3=>by
 rw [RowKit.Below.heap_setCell _ _ _ k (by first | exact fun e=>h1 e | exact fun e=>h1 e.symm)]; exact h3
theorem KeepK.grown {b:Nat} {w w' : World} {row:Option Nat} (hg:w.grownBy w' row) (hr:∀ (k:Nat) cs T fr,T ≠ 5→w.heap[k]? = some (.cells cs T fr)→some k ≠ row):KeepK b w w':=fun k cs T fr _ h2 h3=>by
 rw [hg.block k (Array.getElem?_eq_some_iff.1 h3).1 (hr k cs T fr h2 h3)]; exact h3
theorem cc2 (B b:Nat) (bs:List Value) (w:World) (h:Lib.IsBuilder 91 5 B b bs w) :
  Calls Tryz.prog 82 #[.pointer (some ⟨b,0,none⟩)] w fun e w'=>e = .returned (.tuple #[])∧(Lib.BuilderAt 91 5 B b (.pointer (some ⟨b,0,none⟩)) bs w'∧Below B w w'∧KeepK b w w'):=by
 rcases h with h | h
 ·refine (cc_fresh b w h.cell0 h.shape h.frozen0).mono ?_
  rintro e w' ⟨rfl,rfl⟩
  exact ⟨rfl,h.used _,(Below.refl B w).setCell (p:=⟨b,0,none⟩) h.1 _,KeepK.setCell b 0 w _⟩
 ·refine (cc_used b w h.cell0).mono ?_
  rintro e w' ⟨rfl,rfl⟩
  exact ⟨rfl,h,Below.refl B _,KeepK.refl b _⟩
set_option maxHeartbeats 2000000 in
set_option maxRecDepth 100000 in
theorem writeStr (B b : Nat) (bs : List Value) (s : ByteArray) (w : World) (h : Lib.IsBuilder 91 5 B b bs w) (hlen : bs.length + s.size ≤ 140737488355328) (hBw : B ≤ w.heap.size) :
    Calls Tryz.prog 52 #[.pointer (some ⟨b, 0, none⟩), .string s] w fun e w' => e = .returned (.tuple #[.int .i64 s.size, .nilIface]) ∧ (Lib.BuilderAt 91 5 B b (.pointer (some ⟨b, 0, none⟩)) (bs ++ Lib.strCells s) w' ∧ Below B w w' ∧ KeepK b w w') := by
  obtain ⟨i0, hi, hz0, hz1, hz2⟩ := info_parts bByte
  go_enter Tryz.func52, Tryz.ntmps52
  go_wp2_with (go_at_call 82; refine (cc2 B b bs _ h).mono ?_)
  rintro e w1 ⟨rfl, h1, hb1, hk1⟩
  obtain ⟨hB, v, hbk, hown, hne⟩ := h1
  have c0 : w1.cell? ⟨b, 0, none⟩ = some (.pointer (some ⟨b, 0, none⟩)) := by rw [Lib.cell_of_heap hbk]; rfl
  have c1 : w1.cell? ⟨b, 1, none⟩ = some v := by rw [Lib.cell_of_heap hbk]; rfl
  go_wp2_with (at_builtin; refine Lib.wpList_append_own_string _ rfl _ _ 89 9 rfl B 5 i0 Tryz.underlying89 Tryz.underlying9 hi hz0 hz1 hz2 _ _ _ rfl hown s rfl ?c3 ?c4 ?c5 ?_)
  case c3 => unfold maxLen; omega
  case c4 => omega
  case c5 => have := hb1.size; omega
  intro v' w2 hown' hgrow _
  have hlt : b < w1.heap.size := by
    rcases Nat.lt_or_ge b w1.heap.size with h' | h'
    · exact h'
    · simp [Array.getElem?_eq_none h'] at hbk
  have hb2 : w2.heap[b]? = some (.cells #[.pointer (some ⟨b, 0, none⟩), v] 91 (0, 0)) := by
    rw [hgrow.block b hlt (fun e => hne e.symm)]
    exact hbk
  have d0 : w2.cell? ⟨b, 0, none⟩ = some (.pointer (some ⟨b, 0, none⟩)) := by rw [Lib.cell_of_heap hb2]; rfl
  have d1 : w2.cell? ⟨b, 1, none⟩ = some v := by rw [Lib.cell_of_heap hb2]; rfl
  have f1 : w2.frozen? ⟨b, 1, none⟩ = false := Lib.frozen_of_heap hb2 1
  obtain ⟨ao, n', cap, rfl⟩ : ∃ ao n' cap, v' = .slice ao n' cap := by
    rcases hown'.2 with ⟨hv, _⟩ | ⟨g, cap, cur, hv, _⟩
    · exact ⟨_, _, _, hv⟩
    · exact ⟨_, _, _, hv⟩
  go_wp2
  go_ret2
  refine ⟨rfl, ?_, ?_, hk1.trans ((KeepK.grown hgrow fun k cs T fr hT hk e => Lib.ownBlock_ne hown hk hT e.symm).trans (KeepK.setCell b 1 w2 _))⟩
  · exact Lib.BuilderAt.put (T := 91) (e := 5) hB hb2 (bs' := bs ++ Lib.strCells s) (by simpa [Lib.strCells_length] using hown') (by decide)
  · exact (hb1.grown hgrow (by have := hb1.size; omega) (fun k hk => (hown.lt k hk).1)).setCell (p := ⟨b, 1, none⟩) hB _
end Go.Ev

/- The closure that puts a line: lemmas,no condition but the text's length. -/
namespace Go.Ev
open Go Go.Proofs Go.RowKit Go.Shelf
theorem below_grown {W W' : World} (h:Below W.heap.size W W'):W.grownBy W' none:=⟨h.os,h.tape,h.output,h.size,fun k hk _=>h.block k hk⟩
theorem isB_grown {B b:Nat} {bs:List Value} {W W' : World} (h:Lib.IsBuilder 91 5 B b bs W) (hg:W.grownBy W' none):Lib.IsBuilder 91 5 B b bs W':=by
 have one:∀ p,Lib.BuilderAt 91 5 B b p bs W→Lib.BuilderAt 91 5 B b p bs W':=fun p h=>by
  have hlt:=h.lt
  obtain ⟨hB,v,hb,hown,hne⟩:=h
  refine ⟨hB,v,?_,hown.kept hg ?_,hne⟩
  ·rw [hg.block b hlt (by simp)]; exact hb
  ·cases h:v.ownBlock with
   | none=>exact .inl rfl
   | some k=>exact .inr (by simp)
 rcases h with h | h
 ·exact .inl (one _ h)
 ·exact .inr (one _ h)
theorem isB_of {T e:TypeId} {B b:Nat} {bs bs' : List Value} {w:World} (h:Lib.BuilderAt T e B b (.pointer (some ⟨b,0,none⟩)) bs w) (he:bs=bs'):Lib.IsBuilder T e B b bs' w:=by
 subst he; exact .inr h
theorem writeStr2 (B b:Nat) (bs:List Value) (l:List UInt8) (w:World) (h:Lib.IsBuilder 91 5 B b bs w) (hlen:bs.length+l.length≤140737488355328) (hBw:B≤w.heap.size) :
  Calls Tryz.prog 52 #[.pointer (some ⟨b,0,none⟩),.string ⟨l.toArray⟩] w fun e w'=>e = .returned (.tuple #[.int .i64 (l.length:Nat),.nilIface])∧Lib.IsBuilder 91 5 B b (bs++Lib.byteCells l) w'∧Below B w w'∧KeepK b w w':=by
 have hs:(⟨l.toArray⟩:ByteArray).size=l.length:=by simp [ByteArray.size]
 have:=writeStr B b bs ⟨l.toArray⟩ w h (by rw [hs]; exact hlen) hBw
 rw [hs] at this
 refine this.mono ?_
 rintro e w' ⟨he,h1,h2,h3⟩
 exact ⟨he,isB_of h1 rfl,h2,h3⟩
set_option maxHeartbeats 2000000 in
set_option maxRecDepth 100000 in
theorem put_in (bk c B b : Nat) (xs : List ByteArray) (l : List UInt8) (bs : List Value) (w : World) (hcells : ∀ (j : Nat) x, xs[j]? = some x → w.cell? ⟨bk, 0 + j, none⟩ = some (.string x)) (hbk : bk < w.heap.size) (hN : xs.length ≤ 140737488355328) (hcap : xs.length ≤ c)
    (hl : Lib.join (xs.map fun x : ByteArray => x.data.toList) [32] = l) (hlen : bs.length + (l.length + 1) ≤ 140737488355328) (h : Lib.IsBuilder 91 5 B b bs w) (hBw : B ≤ w.heap.size) :
    Calls Tryz.prog 51 #[.slice (some ⟨bk, 0, none⟩) xs.length c, .pointer (some ⟨b, 0, none⟩)] w fun e w' => e = .returned (.tuple #[]) ∧
      Lib.IsBuilder 91 5 B b (bs ++ Lib.byteCells (l ++ [10])) w' ∧ Below B w w' ∧ KeepK b w w' := by
  have hj : Calls Tryz.prog 53 #[.slice (some ⟨bk, 0, none⟩) xs.length c, .string ⟨#[32]⟩] w fun e w1 => e = .returned (.string ⟨l.toArray⟩) ∧ Below w.heap.size w w1 := by
    have := Tryz.strings_Join bk 0 c xs ⟨#[32]⟩ w hcells hbk hN hcap (by
      show (Lib.join (xs.map fun x : ByteArray => x.data.toList) [32]).length ≤ _
      rw [hl]; omega)
    subst hl
    exact this
  have hsz : (ByteArray.mk (l ++ [10]).toArray).size = l.length + 1 := by simp [ByteArray.size]
  have hj2 : Calls Tryz.prog 53 #[.slice (some ⟨bk, 0, none⟩) xs.length c, .string ⟨#[32]⟩] w fun e w1 => e = .returned (.string ⟨l.toArray⟩) ∧ (Below B w w1 ∧ KeepK b w w1) ∧ Calls Tryz.prog 52 #[.pointer (some ⟨b, 0, none⟩), .string ⟨(l ++ [10]).toArray⟩] w1 fun e w2 => e = .returned (.tuple #[.int .i64 ((l ++ [10]).length : Nat), .nilIface]) ∧ Lib.IsBuilder 91 5 B b (bs ++ Lib.byteCells (l ++ [10])) w2 ∧ Below B w1 w2 ∧ KeepK b w1 w2 := by
    refine hj.mono ?_
    rintro e w1 ⟨he, hb1⟩
    exact ⟨he, ⟨hb1.mono hBw, KeepK.grown (below_grown hb1) fun _ _ _ _ _ _ e => by cases e⟩, writeStr2 B b bs (l ++ [10]) w1 (isB_grown h (below_grown hb1)) (by simpa using hlen) (Nat.le_trans hBw hb1.size)⟩
  clear hj hcells h
  go_enter Tryz.func51, Tryz.ntmps51
  go_wp2_with (go_at_call 53; refine hj2.mono ?_; rintro e w1 ⟨rfl, ⟨hb1, hk1⟩, hw⟩)
  have hcat : (⟨l.toArray⟩ : ByteArray) ++ ⟨#[10]⟩ = ⟨(l ++ [10]).toArray⟩ := ByteArray.ext (by simp)
  go_wp2_with (go_at_call 52; rw [hcat]; refine hw.mono ?_; rintro e w2 ⟨rfl, hb2, h2, hk2⟩)
  go_end0
  exact ⟨rfl, hb2, hb1.trans h2, hk1.trans hk2⟩
end Go.Ev

/- Labels: the plain functions and their codecs: definitions,no condition. -/
namespace Go.Ev
open Go
structure Label where
 level:Int
 set:Int
def cLabel:RCod Label:=((rInt .u8).and (rInt .u32)).iso (fun p=>⟨p.1,p.2⟩) (fun o=>(o.level,o.set)) (fun _=>rfl) fun _=>rfl
namespace N
def under (a b:Label):Bool:=bif ile a.level b.level then ibits .andNot .u32 a.set b.set==0 else false
def right (a:Label):Bool:=ile a.level 15
def join (a b:Label):Label:=⟨bif ilt a.level b.level then b.level else a.level,ibits .or .u32 a.set b.set⟩
def isDigit (c:UInt8):Bool:=bif ilt c.toNat 48 then false else !(ilt 57 c.toNat)
def numLoop (most:Int):Bytes→Int→Int→Int × Int
 | [],k,n=>(k,n)
 | c::r,k,n=>cond (isDigit c) (numLoop most r (k+1) (cond (ile n most) (10*n+(c.toNat-48)) n)) (k,n)
def number (s:Bytes) (most:Int):Int × Bytes × Int :=
 cond ((numLoop most s 0 0).1==0) (0,[],cond ((s.length:Int)==0) 3 4)
  (cond (cond (ilt 1 (numLoop most s 0 0).1) ((s.getD 0 0).toNat==(48:Int)) false) (0,[],4)
   (cond (ilt most (numLoop most s 0 0).2) (0,[],7) ((numLoop most s 0 0).2,s.drop (numLoop most s 0 0).1.toNat,0)))
def parseLoop:Nat→Bytes→Label→Int→Label × Int
 | 0,_,a,_=>(a,0)
 | _+1,[],a,_=>(a,0)
 | f+1,c::r,a,last=>cond ((c.toNat:Int) != 58) (⟨0,0⟩,4) (cond ((number r 31).2.2 != 0) (⟨0,0⟩,(number r 31).2.2)
   (cond (ile (number r 31).1 last) (⟨0,0⟩,4) (parseLoop f (number r 31).2.1 ⟨a.level,ibits .or .u32 a.set (shl .u32 1 (number r 31).1)⟩ (number r 31).1)))
def parse (s:Bytes):Label × Int :=
 cond ((number s 15).2.2 != 0) (⟨0,0⟩,(number s 15).2.2) (parseLoop (number s 15).2.1.length (number s 15).2.1 ⟨(number s 15).1,0⟩ (-1))
def refHas (a:Label) (i:Int):Bool:=Int.tmod (shr .u32 a.set i) 2==1
def refLoop (a b:Label):Nat→Int→Bool
 | 0,_=>true
 | f+1,i=>cond (refHas a i) (cond (!refHas b i) false (refLoop a b f (i+1))) (refLoop a b f (i+1))
def refUnder (a b:Label):Bool:=cond (ilt b.level a.level) false (refLoop a b 32 0)
end N
theorem N.numLoop_bounds (most:Int):∀ (l:Bytes) (k n:Int),k≤(N.numLoop most l k n).1∧(N.numLoop most l k n).1≤k+l.length
 | [],k,n=>⟨Int.le_refl _,by simp [N.numLoop]⟩
 | c::r,k,n=>by
  unfold N.numLoop
  have h:=fun n=>N.numLoop_bounds most r (k+1) n
  cases N.isDigit c with
  | true=>simp only [cond_true,List.length_cons]; have:=h (cond (ile n most) (10*n+(c.toNat-48)) n); omega
  | false=>simp only [cond_false,List.length_cons]; omega
theorem N.isDigit_iff (c:UInt8):N.isDigit c=true↔(48:Int)≤c.toNat∧(c.toNat:Int)≤57:=by
 unfold N.isDigit
 rw [ilt_eq,ilt_eq]
 by_cases h1:(c.toNat:Int)<48
 ·simp [h1]<;>omega
 ·by_cases h2:(57:Int)<c.toNat
  ·simp [h1,h2]<;>omega
  ·simp [h1,h2]<;>omega
theorem N.numLoop_nonneg (most:Int):∀ (l:Bytes) (k n:Int),0≤n→0≤(N.numLoop most l k n).2
 | [],k,n,h=>h
 | c::r,k,n,h=>by
  unfold N.numLoop
  cases hd:N.isDigit c with
  | true =>
   simp only [cond_true]
   have:=(N.isDigit_iff c).1 hd
   refine N.numLoop_nonneg most r (k+1) _ ?_
   cases ile n most<;>simp only [cond_true,cond_false]<;>omega
  | false=>exact h
theorem N.number_spec (s:Bytes) (most:Int):0≤(N.number s most).1∧((N.number s most).2.2=0→(N.number s most).1≤most∧(N.number s most).2.1.length<s.length):=by
 have hb:=N.numLoop_bounds most s 0 0
 have hn:=N.numLoop_nonneg most s 0 0 (by decide)
 unfold N.number
 cases h1:(N.numLoop most s 0 0).1==0 with
 | true=>refine ⟨by simp,fun h=>?_⟩; exfalso; cases h2:(s.length:Int)==0<;>rw [h2] at h<;>simp at h
 | false =>
  simp only [cond_false]
  cases (bif ilt 1 (N.numLoop most s 0 0).1 then ((s.getD 0 0).toNat==(48:Int)) else false) with
  | true=>exact ⟨by simp,fun h=>by simp at h⟩
  | false =>
   simp only [cond_false]
   cases h3:ilt most (N.numLoop most s 0 0).2 with
   | true=>exact ⟨by simp,fun h=>by simp at h⟩
   | false =>
    rw [ilt_eq] at h3
    have h3:=of_decide_eq_false h3
    simp only [cond_false]
    refine ⟨hn,fun _=>⟨by omega,?_⟩⟩
    have h1:(N.numLoop most s 0 0).1 ≠ 0:=by simpa using h1
    simp only [List.length_drop]; omega
def dNumber:Den:=den (aCons vStr (aOne (vInt .i64))) bNil (oTup (aCons (vInt .i64) (aCons vStr (aOne (vInt .i64))))) (fun a _=>cond (ile 0 a.2) (cond (ile a.2 1000000) (Nat.ble a.1.length 9223372036854775806) false) false) fun a _=>(N.number a.1 a.2,())
def dParse:Den:=den (aOne vStr) bNil (oTup (aCons (vAgg cLabel) (aOne (vInt .i64)))) (fun s _=>Nat.ble s.length 9223372036854775806) fun s _=>(N.parse s,())
def dUnder:Den:=den (aCons (vAgg cLabel) (aOne (vAgg cLabel))) bNil (oV vBool) (fun _ _=>true) fun a _=>(N.under a.1 a.2,())
def dRight:Den:=den (aOne (vAgg cLabel)) bNil (oV vBool) (fun _ _=>true) fun a _=>(N.right a,())
end Go.Ev

/- Labels are an order,by their bits: plain lemmas,no condition. -/
namespace Go.Ev
open Go
def fits8 (n:Int):Prop:=0≤n∧n<256
def fits32 (n:Int):Prop:=0≤n∧n<4294967296
theorem wrap_u32 {n:Int} (h1:0≤n) (h2:n<4294967296):IntKind.wrap .u32 n=n:=by
 simp only [IntKind.wrap,IntKind.signed,IntKind.bits]
 simp
 omega
abbrev bv (n:Int):BitVec 32:=BitVec.ofInt 32 n
theorem bv_toNat {n:Int} (h:fits32 n):((bv n).toNat:Int)=n:=by
 obtain ⟨m,rfl⟩:=Int.eq_ofNat_of_zero_le h.1
 have:m<4294967296:=by have:=h.2; omega
 show (((BitVec.ofInt 32 (m:Int)).toNat:Nat):Int)=m
 rw [BitVec.ofInt_natCast,BitVec.toNat_ofNat]
 have:m % 2 ^ 32=m:=Nat.mod_eq_of_lt (by omega)
 rw [this]
theorem wrap_bv (b:BitVec 32):IntKind.wrap .u32 (b.toNat:Int)=b.toNat:=wrap_u32 (by omega) (by have:=b.isLt; omega)
theorem andNot_bv (x y:Int):ibits .andNot .u32 x y=((bv x &&& ~~~ bv y).toNat:Int):=wrap_bv _
def sub (x y:Int):Prop:=∀ i:Nat,i<32→(bv x).getLsbD i=true→(bv y).getLsbD i=true
theorem andNot_zero (x y:Int):(ibits .andNot .u32 x y==0)=true↔sub x y:=by
 rw [andNot_bv,beq_iff_eq]
 constructor
 ·intro h i hi hx
  have h0:bv x &&& ~~~ bv y=0#32:=BitVec.eq_of_toNat_eq (by
   have:(bv x &&& ~~~ bv y).toNat=0:=by omega
   rw [this]; rfl)
  have:=congrArg (fun b=>BitVec.getLsbD b i) h0
  simp only [BitVec.getLsbD_and,BitVec.getLsbD_not,hx,hi,decide_true,Bool.true_and,BitVec.getLsbD_zero] at this
  simpa using this
 ·intro h
  have h0:bv x &&& ~~~ bv y=0#32:=by
   apply BitVec.eq_of_getLsbD_eq
   intro i hi
   simp only [BitVec.getLsbD_and,BitVec.getLsbD_not,hi,decide_true,Bool.true_and,BitVec.getLsbD_zero]
   cases hx:(bv x).getLsbD i with
   | false=>rfl
   | true=>rw [h i hi hx]; rfl
  rw [h0]; rfl
theorem under_iff (a b:Label):N.under a b=true↔a.level≤b.level∧sub a.set b.set:=by
 unfold N.under
 rw [ile_eq]
 by_cases h:a.level≤b.level
 ·simp only [h,decide_true,cond_true,true_and]; exact andNot_zero _ _
 ·simp [h]
def Label.ok (a:Label):Prop:=fits8 a.level∧fits32 a.set
namespace N
end N
theorem refHas_bv {a:Label} (ha:a.ok) {i:Int} (h0:0≤i) (h1:i<32):N.refHas a i=(bv a.set).getLsbD i.toNat:=by
 have ht:=bv_toNat ha.2
 obtain ⟨k,rfl⟩:=Int.eq_ofNat_of_zero_le h0
 generalize bv a.set=b at *
 have hset:a.set=(b.toNat:Int):=ht.symm
 unfold N.refHas shr
 rw [hset]
 have hk:min ((k:Int).toNat) (IntKind.bits .u32)=k:=by simp [IntKind.bits]; omega
 rw [hk]
 have e1:((b.toNat:Int).fdiv (2 ^ k))=((b.toNat / 2 ^ k:Nat):Int):=by
  rw [Int.fdiv_eq_ediv_of_nonneg _ (Int.le_of_lt (Int.pow_pos (by decide)))]
  rw [Int.natCast_ediv]
  congr 1
 rw [e1]
 have e2:Int.tmod ((b.toNat / 2 ^ k:Nat):Int) 2=((b.toNat / 2 ^ k % 2:Nat):Int):=by
  rw [Int.tmod_eq_emod_of_nonneg (Int.natCast_nonneg _)]; omega
 rw [e2]
 show (((b.toNat / 2 ^ k % 2:Nat):Int)==1)=b.getLsbD k
 rw [BitVec.getLsbD,Nat.testBit_eq_decide_div_mod_eq]
 by_cases h:b.toNat / 2 ^ k % 2=1
 ·rw [h]; rfl
 ·rw [decide_eq_false h,beq_eq_false_iff_ne]; omega
theorem refLoop_iff {a b:Label} (ha:a.ok) (hb:b.ok):∀ (d:Nat) (i:Int),0≤i→i+d=32→(N.refLoop a b d i=true↔∀ j:Nat,i.toNat≤j→j<32→(bv a.set).getLsbD j=true→(bv b.set).getLsbD j=true)
 | 0,i,h0,h1=>⟨fun _ j h2 h3=>by omega,fun _=>rfl⟩
 | d+1,i,h0,h1=>by
  have ih:=refLoop_iff ha hb d (i+1) (by omega) (by omega)
  have e:(i+1).toNat=i.toNat+1:=by omega
  have split:(∀ j:Nat,i.toNat≤j→j<32→(bv a.set).getLsbD j=true→(bv b.set).getLsbD j=true)↔((bv a.set).getLsbD i.toNat=true→(bv b.set).getLsbD i.toNat=true)∧∀ j:Nat,(i+1).toNat≤j→j<32→(bv a.set).getLsbD j=true→(bv b.set).getLsbD j=true:=by
   constructor
   ·exact fun h=>⟨h _ (Nat.le_refl _) (by omega),fun j h2 h3=>h j (by omega) h3⟩
   ·rintro ⟨h,k⟩ j h2 h3
    by_cases hj:j=i.toNat
    ·rw [hj]; exact h
    ·exact k j (by omega) h3
  rw [split]
  unfold N.refLoop
  rw [refHas_bv ha h0 (by omega),refHas_bv hb h0 (by omega)]
  cases (bv a.set).getLsbD i.toNat<;>cases (bv b.set).getLsbD i.toNat<;>simp [ih]
theorem refUnder_eq {a b:Label} (ha:a.ok) (hb:b.ok):N.refUnder a b=N.under a b:=by
 have h1:=under_iff a b
 have h2:=refLoop_iff ha hb 32 0 (by decide) (by decide)
 unfold N.refUnder
 rw [ilt_eq]
 by_cases h:b.level<a.level
 ·rw [decide_eq_true h,cond_true]
  symm; rw [Bool.eq_false_iff]
  intro e
  have:=(h1.1 e).1
  omega
 ·rw [decide_eq_false h,cond_false,Bool.eq_iff_iff,h1,h2]
  constructor
  ·exact fun k=>⟨by omega,fun i hi hx=>k i (Nat.zero_le _) hi hx⟩
  ·exact fun k j _ hj hx=>k.2 j hj hx
end Go.Ev

/- Labels' texts: the plain functions; what is written is read,what is read is written: definitions and lemmas,no condition. -/
namespace Go.Ev
open Go
set_option maxRecDepth 100000
namespace N
def digN (n:Nat):Bytes:=cond (Nat.blt n 10) [UInt8.ofNat (48+n)] (cond (Nat.blt n 100) [UInt8.ofNat (48+n / 10),UInt8.ofNat (48+n % 10)] [UInt8.ofNat (48+n / 100),UInt8.ofNat (48+n / 10 % 10),UInt8.ofNat (48+n % 10)])
def textLoop (set:Int):Nat→Int→Bytes
 | 0,_=>[]
 | f+1,i=>cond (refHas ⟨0,set⟩ i) (58::(digN i.toNat++textLoop set f (i+1))) (textLoop set f (i+1))
def text (a:Label):Bytes:=digN a.level.toNat++textLoop a.set 32 0
def plainB:Bytes→Bool
 | []=>true
 | c::_=>!isDigit c
end N
theorem refHas_bit (l:Int) (S k:Nat) (hk:k<32):N.refHas ⟨l,(S:Int)⟩ (k:Int)=S.testBit k:=by
 unfold N.refHas shr
 simp only [Int.toNat_natCast,show min k IntKind.u32.bits=k from by show min k 32=k; omega]
 have e1:Int.fdiv (S:Int) (2 ^ k)=((S / 2 ^ k:Nat):Int):=by
  rw [show (2:Int) ^ k=((2 ^ k:Nat):Int) from by norm_cast,Int.fdiv_eq_ediv_of_nonneg _ (Int.natCast_nonneg _)]
  norm_cast
 rw [e1,show Int.tmod ((S / 2 ^ k:Nat):Int) 2=((S / 2 ^ k % 2:Nat):Int) from by rw [Int.tmod_eq_emod_of_nonneg (Int.natCast_nonneg _)]; norm_cast]
 rw [Nat.testBit_eq_decide_div_mod_eq]
 have:S / 2 ^ k % 2=0∨S / 2 ^ k % 2=1:=by omega
 rcases this with h | h<;>rw [h]<;>rfl
theorem or_add {S n:Nat} (h:S<2 ^ n) (hn:n≤31):ibits .or .u32 (S:Int) (shl .u32 1 (n:Int))=((S+2 ^ n:Nat):Int)∧IntKind.wrap .u32 ((S:Int)+shl .u32 1 (n:Int))=((S+2 ^ n:Nat):Int):=by
 have h2:2 ^ n≤2 ^ 31:=Nat.pow_le_pow_right (by decide) hn
 have e31:(2:Nat) ^ 31=2147483648:=by decide
 have es:shl .u32 1 (n:Int)=((2 ^ n:Nat):Int):=by
  unfold shl
  simp only [Int.toNat_natCast,show min n IntKind.u32.bits=n from by show min n 32=n; omega,Int.one_mul]
  rw [show (2:Int) ^ n=((2 ^ n:Nat):Int) from by norm_cast]
  exact wrap_u32 (Int.natCast_nonneg _) (by omega)
 rw [es]
 refine ⟨?_,?_⟩
 ·unfold ibits
  have e1:(BitVec.ofInt IntKind.u32.bits (S:Int)).toNat=S:=by
   rw [show IntKind.u32.bits=32 from rfl,BitVec.toNat_ofInt]
   omega
  have e2:(BitVec.ofInt IntKind.u32.bits ((2 ^ n:Nat):Int)).toNat=2 ^ n:=by
   rw [show IntKind.u32.bits=32 from rfl,BitVec.toNat_ofInt]
   omega
  show IntKind.wrap .u32 (((BitVec.ofInt IntKind.u32.bits (S:Int)) ||| (BitVec.ofInt IntKind.u32.bits ((2 ^ n:Nat):Int))).toNat:Int)=_
  rw [BitVec.toNat_or,e1,e2,Nat.or_comm]
  have:=Nat.two_pow_add_eq_or_of_lt h 1
  rw [Nat.mul_one] at this
  rw [← this,wrap_u32 (Int.natCast_nonneg _) (by omega),Nat.add_comm]
 ·rw [show (S:Int)+((2 ^ n:Nat):Int)=((S+2 ^ n:Nat):Int) from by norm_cast]
  exact wrap_u32 (Int.natCast_nonneg _) (by omega)
theorem numLoop_app (most:Int):∀ (D rest:Bytes) (k n:Int),D.all N.isDigit=true→N.plainB rest=true→N.numLoop most (D++rest) k n=(k+D.length,(N.numLoop most D k n).2)
 | [],rest,k,n,_,h=>by
  cases rest with
  | nil=>show (k,n)=_; simp [N.numLoop]
  | cons c r =>
   have hc:N.isDigit c=false:=by simpa [N.plainB] using h
   show cond (N.isDigit c) _ (k,n)=_
   rw [hc]; simp [N.numLoop]
 | c::D,rest,k,n,hd,h=>by
  rw [List.all_cons,Bool.and_eq_true] at hd
  have ih:=fun n=>numLoop_app most D rest (k+1) n hd.2 h
  show cond (N.isDigit c) (N.numLoop most (D++rest) (k+1) _) _=_
  rw [hd.1,cond_true,ih]
  have e:N.numLoop most (c::D) k n=N.numLoop most D (k+1) (cond (ile n most) (10*n+(c.toNat-48)) n):=by
   show cond (N.isDigit c) _ _=_
   rw [hd.1]; rfl
  rw [e,List.length_cons]
  congr 1
  omega
theorem dig_all (n:Nat) (h:n<256):(N.digN n).all N.isDigit=true∧1≤(N.digN n).length∧((N.digN n).length=1∨(N.digN n).getD 0 0 ≠ 48) ∧
  ilt 15 (N.numLoop 15 (N.digN n) 0 0).2=ilt 15 n∧(n≤15→(N.numLoop 15 (N.digN n) 0 0).2=n)∧ilt 31 (N.numLoop 31 (N.digN n) 0 0).2=ilt 31 n∧(n≤31→(N.numLoop 31 (N.digN n) 0 0).2=n):=by
 have:∀ n:Fin 256,(N.digN n).all N.isDigit=true∧1≤(N.digN n).length∧((N.digN n).length=1∨(N.digN n).getD 0 0 ≠ 48) ∧
  ilt 15 (N.numLoop 15 (N.digN n) 0 0).2=ilt 15 n∧(n.val≤15→(N.numLoop 15 (N.digN n) 0 0).2=n)∧ilt 31 (N.numLoop 31 (N.digN n) 0 0).2=ilt 31 n∧(n.val≤31→(N.numLoop 31 (N.digN n) 0 0).2=n):=by decide +kernel
 exact this ⟨n,h⟩
theorem number_dig {n:Nat} (h:n<256) {most:Int} (hm:most=15∨most=31) {rest:Bytes} (hr:N.plainB rest=true):N.number (N.digN n++rest) most=cond (ilt most n) (0,[],7) ((n:Int),rest,0):=by
 obtain ⟨d1,d2,d3,d4,d5,d6,d7⟩:=dig_all n h
 have e:=numLoop_app most (N.digN n) rest 0 0 d1 hr
 unfold N.number
 rw [e,Int.zero_add]
 have h0:(((N.digN n).length:Int)==0)=false:=ieq_f (by omega)
 have hz:cond (ilt 1 ((N.digN n).length:Int)) (((N.digN n++rest).getD 0 0).toNat==(48:Int)) false=false:=by
  rcases d3 with d3 | d3
  ·rw [d3]; rfl
  ·have:(N.digN n++rest).getD 0 0=(N.digN n).getD 0 0:=by
    cases hq:N.digN n with
    | nil=>rw [hq] at d2; exact absurd d2 (by decide)
    | cons c r=>rfl
   rw [this]
   cases ilt 1 ((N.digN n).length:Int) with
   | false=>rfl
   | true =>
    refine ieq_f fun hh=>d3 ?_
    have hh:((N.digN n).getD 0 0).toNat=48:=by exact_mod_cast hh
    exact UInt8.toNat_inj.1 hh
 rw [h0,hz]
 simp only [cond_false]
 have hdrop:(N.digN n++rest).drop ((N.digN n).length:Int).toNat=rest:=by rw [Int.toNat_natCast,List.drop_left]
 rw [hdrop]
 rcases hm with rfl | rfl
 ·rw [d4]
  cases hc:ilt 15 (n:Int) with
  | true=>rfl
  | false=>rw [d5 (by have:=ilt_nof hc; omega)]
 ·rw [d6]
  cases hc:ilt 31 (n:Int) with
  | true=>rfl
  | false=>rw [d7 (by have:=ilt_nof hc; omega)]
theorem text_plain (S:Nat):∀ (f:Nat) (i:Int),N.plainB (N.textLoop S f i)=true
 | 0,_=>rfl
 | f+1,i=>by
  unfold N.textLoop
  cases N.refHas ⟨0,S⟩ i with
  | true=>rfl
  | false=>exact text_plain S f (i+1)
theorem dig_pos (n:Nat):1≤(N.digN n).length:=by
 unfold N.digN
 cases Nat.blt n 10<;>cases Nat.blt n 100<;>simp
theorem loop_back (lv:Int) {S:Nat} (hS:S<2 ^ 32):∀ (f i F:Nat) (last:Int),i+f=32→last<i→(N.textLoop S f i).length≤F→N.parseLoop F (N.textLoop S f i) ⟨lv,((S % 2 ^ i:Nat):Int)⟩ last=(⟨lv,S⟩,0)
 | 0,i,F,last,hi,_,_=>by
  obtain rfl:i=32:=by omega
  rw [Nat.mod_eq_of_lt hS]
  cases F<;>rfl
 | f+1,i,F,last,hi,hl,hF=>by
  have hb:=refHas_bit 0 S i (by omega)
  have hm:S % 2 ^ (i+1)=S % 2 ^ i+2 ^ i*(S.testBit i).toNat:=by
   rw [Nat.mod_pow_succ,Nat.testBit_eq_decide_div_mod_eq]
   have:S / 2 ^ i % 2=0∨S / 2 ^ i % 2=1:=by omega
   rcases this with h | h<;>rw [h]<;>simp
  have ei:(i:Int)+1=((i+1:Nat):Int):=by norm_cast
  unfold N.textLoop at hF ⊢
  rw [hb,ei] at hF ⊢
  cases ht:S.testBit i with
  | false =>
   rw [ht] at hF hm
   simp only [cond_false] at hF ⊢
   have e:S % 2 ^ i=S % 2 ^ (i+1):=by rw [hm]; simp
   rw [e]
   exact loop_back lv hS f (i+1) F last (by omega) (by omega) hF
  | true =>
   rw [ht] at hF hm
   simp only [cond_true,Int.toNat_natCast] at hF ⊢
   cases F with
   | zero=>simp at hF
   | succ F =>
    have hn:=number_dig (n:=i) (by omega) (.inr rfl) (text_plain S f ((i+1:Nat):Int))
    rw [ilt_f (show (i:Int)≤31 by omega),cond_false] at hn
    have ho:=or_add (S:=S % 2 ^ i) (n:=i) (Nat.mod_lt _ (Nat.two_pow_pos i)) (by omega)
    show cond (((58:UInt8).toNat:Int) != 58) _ (cond ((N.number (N.digN i++N.textLoop S f ((i+1:Nat):Int)) 31).2.2 != 0) _ (cond (ile (N.number (N.digN i++N.textLoop S f ((i+1:Nat):Int)) 31).1 last) _ (N.parseLoop F (N.number (N.digN i++N.textLoop S f ((i+1:Nat):Int)) 31).2.1 ⟨lv,ibits .or .u32 ((S % 2 ^ i:Nat):Int) (shl .u32 1 (N.number (N.digN i++N.textLoop S f ((i+1:Nat):Int)) 31).1)⟩ (N.number (N.digN i++N.textLoop S f ((i+1:Nat):Int)) 31).1)))=_
    rw [hn]
    simp only
    rw [ile_f hl,ho.1]
    have e:S % 2 ^ i+2 ^ i=S % 2 ^ (i+1):=by rw [hm]; simp
    rw [e]
    refine loop_back lv hS f (i+1) F i (by omega) (by omega) ?_
    simp only [List.length_cons,List.length_append] at hF
    have:=dig_pos i
    omega
theorem text_back {l S:Nat} (hl:l<256) (hS:S<2 ^ 32):N.parse (N.text ⟨l,S⟩)=cond (ilt 15 l) (⟨0,0⟩,7) (⟨l,S⟩,0):=by
 have hn:=number_dig (n:=l) hl (.inl rfl) (text_plain S 32 0)
 unfold N.parse N.text
 rw [Int.toNat_natCast,hn]
 cases hc:ilt 15 (l:Int) with
 | true=>rfl
 | false =>
  simp only [cond_false]
  have:=loop_back l hS 32 0 (N.textLoop S 32 0).length (-1) rfl (by decide) (Nat.le_refl _)
  rw [Nat.pow_zero,Nat.mod_one] at this
  exact this
end Go.Ev

/- The program's functions on bytes answer what the plain ones do: lemmas; that of the function that writes numbers is a premise. -/
namespace Go.Ev
open Go Go.Proofs
set_option maxRecDepth 100000
noncomputable def eFail:Env:=env Tryz.prog [] [] []
theorem q_fail (i:InS) (n:Int):evFn eFail 152 ((aCons (vPtr 0) (aOne (vInt .i64))).enc ((),n)) ((bOne cIn).enc i) some =
 cond (InS.err i==(0:Int)) (cond (n != (0:Int)) (some {v:=V.tup [],bx:=[[V.str [],V.int .i64 n]]}) (some {v:=V.tup [],bx:=[[V.str (InS.s i),V.int .i64 (InS.err i)]]})) (some {v:=V.tup [],bx:=[[V.str (InS.s i),V.int .i64 (InS.err i)]]}):=by kernel_rfl
theorem ok_fail:FnOk Tryz.prog 152 dFail:=by
 refine den_okF (env_ok (TOk.nil _)) (E:=eFail) Tryz.func152 [] (by kernel_rfl) none0 fun a i _=>?_
 refine (q_fail i a.2).trans ?_
 show _=some (⟨.tup [],[[.str (N.inFail i a.2).s,.int .i64 (N.inFail i a.2).err]],[]⟩:DRes)
 unfold N.inFail
 cases i.err==0<;>cases a.2 != 0<;>rfl
noncomputable def eRaw:Env:=env Tryz.prog [(152,dFail)] [] []
theorem q_raw (i:InS) (n:Int):evFn eRaw 143 ((aCons (vPtr 0) (aOne (vInt .i64))).enc ((),n)) ((bOne cIn).enc i) some =
 cond (InS.err i != (0:Int)) (cond (InS.err i != (0:Int)) (some {v:=V.str [],bx:=[[V.str (InS.s i),V.int .i64 (InS.err i)]]}) (cond (ilt (↑(List.length (InS.s i)):Int) n) (some {v:=V.str [],bx:=[[V.str (InS.s (N.inFail i (3:Int))),V.int .i64 (InS.err (N.inFail i (3:Int)))]]}) (cond (decide ((0:Int)≤n∧n≤(↑(List.length (InS.s i)):Int))) (cond (decide ((0:Int)≤n∧n≤(↑(List.length (InS.s i)):Int))) (some {v:=V.str (List.drop 0 (List.take (Int.toNat n) (InS.s i))),bx:=[[V.str (List.drop (Int.toNat n) (List.take (List.length (InS.s i)) (InS.s i))),V.int .i64 (InS.err i)]]}) (none)) (none)))) (cond (ile n (0:Int)) (some {v:=V.str [],bx:=[[V.str (InS.s i),V.int .i64 (InS.err i)]]}) (cond (ilt (↑(List.length (InS.s i)):Int) n) (some {v:=V.str [],bx:=[[V.str (InS.s (N.inFail i (3:Int))),V.int .i64 (InS.err (N.inFail i (3:Int)))]]}) (cond (decide ((0:Int)≤n∧n≤(↑(List.length (InS.s i)):Int))) (cond (decide ((0:Int)≤n∧n≤(↑(List.length (InS.s i)):Int))) (some {v:=V.str (List.drop 0 (List.take (Int.toNat n) (InS.s i))),bx:=[[V.str (List.drop (Int.toNat n) (List.take (List.length (InS.s i)) (InS.s i))),V.int .i64 (InS.err i)]]}) (none)) (none)))):=by kernel_rfl
theorem inBounds {n:Int} {l:Nat} (h1:ile n 0=false) (h2:ilt (l:Int) n=false):decide ((0:Int)≤n∧n≤(l:Int))=true:=by
 rw [ile_eq] at h1; rw [ilt_eq] at h2
 have h1:=of_decide_eq_false h1
 have h2:=of_decide_eq_false h2
 rw [decide_eq_true_iff]; omega
theorem ok_raw:FnOk Tryz.prog 143 dRaw:=by
 refine den_okF (env_ok ((TOk.nil _).cons ok_fail)) (E:=eRaw) Tryz.func143 [] (by kernel_rfl) none0 fun a i _=>?_
 refine (q_raw i a.2).trans ?_
 show _=some (⟨.str (N.inRaw i a.2).1,[[.str (N.inRaw i a.2).2.s,.int .i64 (N.inRaw i a.2).2.err]],[]⟩:DRes)
 unfold N.inRaw
 cases h1:(i.err != 0) with
 | true=>rfl
 | false =>
  cases h2:ile a.2 0 with
  | true=>rfl
  | false =>
   cases h3:ilt (i.s.length:Int) a.2 with
   | true=>rfl
   | false =>
    simp only [cond_true,cond_false,inBounds h2 h3,List.drop_zero,List.take_length]
def schNum:SSch:={ fr:=[(5,.int .u64),(12,.slc [.int .u8]),(13,.int .i64),(14,.int .i64)],tab:=[(0,.var [.str,.int .i64])] }
def gNum:List Leaf→(Ex→St→Option R)→Option R
 | [.i n,.r rows,.i len,.i k,.s s,.i e],K=>cond (decide (len=(rows.length:Int))) (cond (ile 0 k) (cond (Nat.ble rows.length 9223372036854775806)
   (K (.exit 0) { fr:=[(5,.int .u64 (N.beR (rows.drop k.toNat) n))],tab:=[(0,.var [.str s,.int .i64 e])] }) none) none) none
 | _,_=>none
noncomputable def eNum:Env:=env Tryz.prog [(143,dRaw)] [(3,loopF schNum gNum)] [(3,[(0,[5,12,13,14]),(1,[5]),(1000,[4])])]
theorem q_num (i:InS) (n:Int):evFn eNum 131 ((aCons (vPtr 0) (aOne (vInt .i64))).enc ((),n)) ((bOne cIn).enc i) some =
 cond (decide ((↑(List.length (bytesOfStr (Prod.fst (N.inRaw i (bif ilt (8:Int) n then (8:Int) else n))))):Int)=(↑(List.length (bytesOfStr (Prod.fst (N.inRaw i (bif ilt (8:Int) n then (8:Int) else n))))):Int))) (cond (Nat.ble (List.length (bytesOfStr (Prod.fst (N.inRaw i (bif ilt (8:Int) n then (8:Int) else n))))) 9223372036854775806) (some {v:=V.int .u64 (N.beR (List.drop 0 (bytesOfStr (Prod.fst (N.inRaw i (bif ilt (8:Int) n then (8:Int) else n))))) (0:Int)),bx:=[[V.str (InS.s (Prod.snd (N.inRaw i (bif ilt (8:Int) n then (8:Int) else n)))),V.int .i64 (InS.err (Prod.snd (N.inRaw i (bif ilt (8:Int) n then (8:Int) else n))))]]}) (none)) (none):=by kernel_rfl
theorem q_numR (rows:List (List V)) (n len k e:Int) (s:Bytes) (K:Ex→St→Option R):evRound eNum 131 3 { fr:=[(5,.int .u64 n),(12,.slc [.int .u8] rows),(13,.int .i64 len),(14,.int .i64 k)],tab:=[(0,.var [.str s,.int .i64 e])] } K =
 cond (ilt k len) (cond (decide ((0:Int)≤k∧k<(↑(List.length rows):Int))) (K Ex.normal {fr:=[(5,V.int .u64 (ibits BinOp.or .u64 (shl .u64 n (8:Int)) (IntKind.wrap .u64 (V.toInt (List.getD (List.getD rows (Int.toNat k) []) 0 V.undef))))),(12,V.slc [.int .u8] rows),(13,V.int .i64 len),(14,V.int .i64 (IntKind.wrap .i64 (k+(1:Int))))],tab:=[(0,Box.var [V.str s,V.int .i64 e])]}) (none)) (K (Ex.exit 0) {fr:=[(5,V.int .u64 n)],tab:=[(0,Box.var [V.str s,V.int .i64 e])]}):=by kernel_rfl
theorem wrap_i64 {n:Int} (h1 : -9223372036854775808≤n) (h2:n≤9223372036854775807):IntKind.wrap .i64 n=n:=by
 simp only [IntKind.wrap,IntKind.signed,IntKind.bits]
 simp
 omega
theorem wrap_u64 {n:Int} (h1:0≤n) (h2:n<18446744073709551616):IntKind.wrap .u64 n=n:=by
 simp only [IntKind.wrap,IntKind.signed,IntKind.bits]
 simp
 omega
theorem numR_ok (rows:List (List V)) (len e:Int) (s:Bytes) (hlen:len=rows.length) (hb:rows.length≤9223372036854775806) (K:Ex→St→Option R) (q:R):∀ (d:Nat) (k n:Int),d=rows.length-k.toNat→0≤k →
  K (.exit 0) { fr:=[(5,.int .u64 (N.beR (rows.drop k.toNat) n))],tab:=[(0,.var [.str s,.int .i64 e])] }=some q →
  ∃ m,iterR eNum 131 3 m { fr:=[(5,.int .u64 n),(12,.slc [.int .u8] rows),(13,.int .i64 len),(14,.int .i64 k)],tab:=[(0,.var [.str s,.int .i64 e])] } K=some q
 | 0,k,n,hd,hk,h=>by
  refine ⟨1,?_⟩
  show evRound eNum _ 3 _ _=some q
  rw [q_numR]
  have h1:ilt k len=false:=by rw [ilt_eq,decide_eq_false_iff_not]; omega
  rw [h1,cond_false]
  rw [List.drop_eq_nil_of_le (by omega)] at h
  exact h
 | d+1,k,n,hd,hk,h=>by
  have hlt:k.toNat<rows.length:=by omega
  have hdrop:rows.drop k.toNat=rows.getD k.toNat []::rows.drop (k+1).toNat:=by
   rw [List.drop_eq_getElem_cons hlt,show (k+1).toNat=k.toNat+1 by omega,List.getD_eq_getElem?_getD,List.getElem?_eq_getElem hlt]; rfl
  rw [hdrop] at h
  obtain ⟨m,hm⟩:=numR_ok rows len e s hlen hb K q d (k+1) _ (by omega) (by omega) h
  refine ⟨m+1,?_⟩
  show evRound eNum _ 3 _ _=some q
  rw [q_numR]
  have h1:ilt k len=true:=by rw [ilt_eq,decide_eq_true_iff]; omega
  have h2:decide ((0:Int)≤k∧k<(rows.length:Int))=true:=by rw [decide_eq_true_iff]; omega
  rw [h1,h2,cond_true,cond_true,wrap_i64 (by omega) (by omega)]
  exact hm
theorem ok_num:FnOk Tryz.prog 131 dNum:=by
 refine den_okF (env_ok ((TOk.nil _).cons ok_raw)) (E:=eNum) Tryz.func131 [3] (by kernel_rfl) (one1 (rounds_of rfl fun l K q h=>?_)) fun a i _=>?_
 ·unfold gNum at h
  split at h
  ·rename_i n rows len k s e
   obtain ⟨h1,h⟩:=cond_none h
   obtain ⟨h2,h⟩:=cond_none h
   obtain ⟨h3,h⟩:=cond_none h
   rw [ile_eq] at h2
   exact numR_ok rows len e s (of_decide_eq_true h1) (Nat.le_of_ble_eq_true h3) K q _ k n rfl (of_decide_eq_true h2) h
  ·cases h
 ·refine (q_num i a.2).trans ?_
  have h8:(N.inRaw i (bif ilt 8 a.2 then 8 else a.2)).1.length≤8:=N.inRaw_len i _ 8 (by
   rw [ilt_eq]
   by_cases h:8<a.2
   ·rw [decide_eq_true h]; exact Int.le_refl _
   ·rw [decide_eq_false h]; simp only [cond_false]; omega)
  rw [decide_eq_true (rfl:(_:Int)=_),show Nat.ble (List.length (bytesOfStr (N.inRaw i (bif ilt 8 a.2 then 8 else a.2)).1)) 9223372036854775806=true from
   Nat.ble_eq_true_of_le (by rw [show (bytesOfStr (N.inRaw i (bif ilt 8 a.2 then 8 else a.2)).1).length=(N.inRaw i (bif ilt 8 a.2 then 8 else a.2)).1.length by simp [bytesOfStr]]; omega),cond_true,cond_true]
  rw [List.drop_zero,beR_bytes _ 0 8 (by decide) h8 (by decide) (by decide)]
  try rfl
noncomputable def eNew:Env:=env Tryz.prog [] [] []
theorem q_new (s:Bytes):evFn eNew 130 ((aOne vStr).enc s) (bNil.enc ()) some =
 some {v:=V.ptr 1000 0 0 0,bx:=[],nb:=[Box.var [V.str s,V.int .i64 (0:Int)]]}:=by kernel_rfl
theorem ok_new:FnOk Tryz.prog 130 dNew:=den_okF (env_ok (TOk.nil _)) (E:=eNew) Tryz.func130 [] (by kernel_rfl) none0 fun s _ _=>q_new s
theorem q_outRaw (o:OutS) (s:Bytes):evFn eNew 142 ((aCons (vAgg cOut) (aOne vStr)).enc (o,s)) (bNil.enc ()) some =
 cond (Nat.ble (List.length (OutS.s o)+List.length s) 9223372036854775807) (some {v:=V.agg [V.str (OutS.s o++s),V.int .i64 (OutS.err o)],bx:=[]}) (none):=by kernel_rfl
theorem ok_outRaw:FnOk Tryz.prog 142 dOutRaw:=by
 refine den_okF (env_ok (TOk.nil _)) (E:=eNew) Tryz.func142 [] (by kernel_rfl) none0 fun a _ h=>?_
 refine (q_outRaw a.1 a.2).trans ?_
 rw [show Nat.ble (a.1.s.length+a.2.length) 9223372036854775807=true from h]
 try rfl
theorem q_outString (o:OutS):evFn eNew 128 ((aOne (vAgg cOut)).enc o) (bNil.enc ()) some =
 some {v:=V.str (OutS.s o),bx:=[]}:=by kernel_rfl
theorem ok_outString:FnOk Tryz.prog 128 dOutString:=den_okF (env_ok (TOk.nil _)) (E:=eNew) Tryz.func128 [] (by kernel_rfl) none0 fun s _ _=>q_outString s
noncomputable def eText:Env:=env Tryz.prog [(142,dOutRaw),(127,dOutNum)] [] []
theorem q_outText (o:OutS) (s:Bytes):evFn eText 129 ((aCons (vAgg cOut) (aOne vStr)).enc (o,s)) (bNil.enc ()) some =
 cond (ilt (65535:Int) (↑(List.length s):Int)) (cond (OutS.err o==(0:Int)) (some {v:=V.agg [V.str (OutS.s o),V.int .i64 (5:Int)],bx:=[]}) (some {v:=V.agg [V.str (OutS.s o),V.int .i64 (OutS.err o)],bx:=[]})) (cond (bif ilt (IntKind.wrap .u64 (↑(List.length s):Int)) (18446744073709551616:Int) then Nat.ble (List.length (OutS.s o)) 9223372036854775799 else false) (cond (Nat.ble (List.length (OutS.s (N.outNum o (IntKind.wrap .u64 (↑(List.length s):Int)) (2:Int)))+List.length s) 9223372036854775807) (some {v:=V.agg [V.str (OutS.s (N.outRaw (N.outNum o (IntKind.wrap .u64 (↑(List.length s):Int)) (2:Int)) s)),V.int .i64 (OutS.err (N.outRaw (N.outNum o (IntKind.wrap .u64 (↑(List.length s):Int)) (2:Int)) s))],bx:=[]}) (none)) (none)):=by kernel_rfl
theorem ok_outText (hN:FnOk Tryz.prog 127 dOutNum):FnOk Tryz.prog 129 dOutText:=by
 refine den_okF (env_ok (((TOk.nil _).cons hN).cons ok_outRaw)) (E:=eText) Tryz.func129 [] (by kernel_rfl) none0 fun a _ h=>?_
 refine (q_outText a.1 a.2).trans ?_
 have h:a.1.s.length+a.2.length≤9223372036854775790:=Nat.le_of_ble_eq_true h
 show _=some (⟨.agg [.str (N.outText a.1 a.2).s,.int .i64 (N.outText a.1 a.2).err],[],[]⟩:DRes)
 unfold N.outText
 cases h1:ilt 65535 (a.2.length:Int) with
 | true=>cases a.1.err==0<;>rfl
 | false =>
  rw [ilt_eq] at h1
  have h1:=of_decide_eq_false h1
  have hw:IntKind.wrap .u64 (a.2.length:Int)=a.2.length:=wrap_u64 (by omega) (by omega)
  rw [hw]
  have e1:ilt (a.2.length:Int) 18446744073709551616=true:=by rw [ilt_eq,decide_eq_true_iff]; omega
  have e2:Nat.ble a.1.s.length 9223372036854775799=true:=Nat.ble_eq_true_of_le (by omega)
  have e3:Nat.ble ((N.outNum a.1 (a.2.length:Int) 2).s.length+a.2.length) 9223372036854775807=true:=Nat.ble_eq_true_of_le (by
   have:(N.outNum a.1 (a.2.length:Int) 2).s.length=a.1.s.length+2:=by
    show (a.1.s++N.numB _ (N.clamp 2)).length=_
    rw [List.length_append,N.numB_length]; rfl
   omega)
  simp only [e1,e2,e3,cond_true,cond_false]
end Go.Ev

/- The program's functions on labels answer what the plain ones do: lemmas,no condition. -/
namespace Go.Ev
open Go Go.Proofs
set_option maxRecDepth 100000
noncomputable def eL0:Env:=env Tryz.prog [] [] []
theorem q_under (a b:Label):evFn eL0 44 ((aCons (vAgg cLabel) (aOne (vAgg cLabel))).enc (a,b)) (bNil.enc ()) some =
 cond (ile (Label.level a) (Label.level b)) (some {v:=V.bool (ibits BinOp.andNot .u32 (Label.set a) (Label.set b)==(0:Int)),bx:=[]}) (some {v:=V.bool false,bx:=[]}):=by kernel_rfl
theorem ok_under:FnOk Tryz.prog 44 dUnder:=by
 refine den_okF (env_ok (TOk.nil _)) (E:=eL0) Tryz.func44 [] (by kernel_rfl) none0 fun a _ h=>?_
 refine (q_under a.1 a.2).trans ?_
 show _=some (⟨.bool (N.under a.1 a.2),[],[]⟩:DRes)
 unfold N.under
 cases ile a.1.level a.2.level<;>rfl
theorem q_right (a:Label):evFn eL0 108 ((aOne (vAgg cLabel)).enc a) (bNil.enc ()) some =
 some {v:=V.bool (ile (Label.level a) (15:Int)),bx:=[]}:=by kernel_rfl
theorem ok_right:FnOk Tryz.prog 108 dRight:=den_okF (env_ok (TOk.nil _)) (E:=eL0) Tryz.func108 [] (by kernel_rfl) none0 fun a _ _=>q_right a
def schNumber:SSch:={ fr:=[(0,.str),(1,.int .i64),(7,.int .i64),(8,.int .i64)],tab:=[] }
def gNumber:List Leaf→(Ex→St→Option R)→Option R
 | [.s s,.i most,.i k,.i n],K=>cond (ile 0 k) (cond (ile 0 n) (cond (ile 0 most) (cond (ile most 1000000) (cond (Nat.ble s.length 9223372036854775806)
   (K (.exit 0) { fr:=[(0,.str s),(1,.int .i64 most),(7,.int .i64 (N.numLoop most (s.drop k.toNat) k n).1),(8,.int .i64 (N.numLoop most (s.drop k.toNat) k n).2)],tab:=[] }) none) none) none) none) none
 | _,_=>none
noncomputable def eNumber:Env:=env Tryz.prog [] [(2,loopF schNumber gNumber)] [(2,[(0,[0,1,7,8]),(1,[0,1,7,8]),(1000,[4,5,6])])]
theorem q_number_ (s:Bytes) (most:Int):evFn eNumber 112 ((aCons vStr (aOne (vInt .i64))).enc (s,most)) (bNil.enc ()) some =(
 let z2:=(N.numLoop most (List.drop 0 s) (0:Int) (0:Int));let z0:=(cond (ilt most (Prod.snd z2)) (some {v:=V.tup [V.int .i64 (0:Int),V.str [],V.int .i64 (7:Int)],bx:=[]}) (cond (decide ((0:Int)≤Prod.fst z2∧Prod.fst z2≤(↑(List.length s):Int))) (some {v:=V.tup [V.int .i64 (Prod.snd z2),V.str (List.drop (Int.toNat (Prod.fst z2)) (List.take (List.length s) s)),V.int .i64 (0:Int)],bx:=[]}) (none)));let z3:=(some {v:=V.tup [V.int .i64 (0:Int),V.str [],V.int .i64 (4:Int)],bx:=[]});let z1:=(cond (Prod.fst z2==(0:Int)) (cond (Prod.fst z2==(0:Int)) z3 z0) (cond (ilt (1:Int) (Prod.fst z2)) (cond (decide ((0:Int)≤(0:Int)∧(0:Int)<(↑(List.length s):Int))) (cond ((↑(UInt8.toNat (List.getD s 0 (0:UInt8))):Int)==(48:Int)) z3 z0) (none)) z0));cond (ile (0:Int) most) (cond (ile most (1000000:Int)) (cond (Nat.ble (List.length s) 9223372036854775806) (cond (Prod.fst z2==(0:Int)) (cond ((↑(List.length s):Int)==(0:Int)) (some {v:=V.tup [V.int .i64 (0:Int),V.str [],V.int .i64 (3:Int)],bx:=[]}) z1) z1) (none)) (none)) (none)):=by kernel_rfl
theorem q_number (s:Bytes) (most:Int):type_of% (by have h:=q_number_ s most; dsimp only at h; exact h):=by
 have h:=q_number_ s most
 dsimp only at h
 exact h
theorem q_numberR (s:Bytes) (most k n:Int) (K:Ex→St→Option R):evRound eNumber 112 2 { fr:=[(0,.str s),(1,.int .i64 most),(7,.int .i64 k),(8,.int .i64 n)],tab:=[] } K =
 cond (ilt k (↑(List.length s):Int)) (cond (decide ((0:Int)≤k∧k<(↑(List.length s):Int))) (cond (ilt (↑(UInt8.toNat (List.getD s (Int.toNat k) (0:UInt8))):Int) (48:Int)) (K (Ex.exit 0) {fr:=[(0,V.str s),(1,V.int .i64 most),(7,V.int .i64 k),(8,V.int .i64 n)],tab:=[]}) (cond (ilt (57:Int) (↑(UInt8.toNat (List.getD s (Int.toNat k) (0:UInt8))):Int)) (K (Ex.exit 0) {fr:=[(0,V.str s),(1,V.int .i64 most),(7,V.int .i64 k),(8,V.int .i64 n)],tab:=[]}) (cond (ile n most) (K Ex.normal {fr:=[(0,V.str s),(1,V.int .i64 most),(7,V.int .i64 (IntKind.wrap .i64 (k+(1:Int)))),(8,V.int .i64 (IntKind.wrap .i64 (IntKind.wrap .i64 ((10:Int)*n)+IntKind.wrap .i64 (IntKind.wrap .u8 ((↑(UInt8.toNat (List.getD s (Int.toNat k) (0:UInt8))):Int)-(48:Int))))))],tab:=[]}) (K Ex.normal {fr:=[(0,V.str s),(1,V.int .i64 most),(7,V.int .i64 (IntKind.wrap .i64 (k+(1:Int)))),(8,V.int .i64 n)],tab:=[]})))) (none)) (K (Ex.exit 0) {fr:=[(0,V.str s),(1,V.int .i64 most),(7,V.int .i64 k),(8,V.int .i64 n)],tab:=[]}):=by kernel_rfl
theorem drop_getD {s:Bytes} {k:Nat} (h:k<s.length):s.drop k=s.getD k 0::s.drop (k+1):=by
 rw [List.drop_eq_getElem_cons h,List.getD_eq_getElem?_getD,List.getElem?_eq_getElem h]; rfl
theorem wrap_u8 {n:Int} (h1:0≤n) (h2:n<256):IntKind.wrap .u8 n=n:=by
 simp only [IntKind.wrap,IntKind.signed,IntKind.bits]
 simp
 omega
theorem numberR_ok (s:Bytes) (most:Int) (hm:0≤most) (hm2:most≤1000000) (hb:s.length≤9223372036854775806) (K:Ex→St→Option R) (q:R):∀ (d:Nat) (k n:Int),d=s.length-k.toNat→0≤k→0≤n →
  K (.exit 0) { fr:=[(0,.str s),(1,.int .i64 most),(7,.int .i64 (N.numLoop most (s.drop k.toNat) k n).1),(8,.int .i64 (N.numLoop most (s.drop k.toNat) k n).2)],tab:=[] }=some q →
  ∃ m,iterR eNumber 112 2 m { fr:=[(0,.str s),(1,.int .i64 most),(7,.int .i64 k),(8,.int .i64 n)],tab:=[] } K=some q
 | 0,k,n,hd,hk,hn,h=>by
  refine ⟨1,?_⟩
  show evRound eNumber _ 2 _ _=some q
  rw [q_numberR]
  have h1:ilt k (s.length:Int)=false:=by rw [ilt_eq,decide_eq_false_iff_not]; omega
  rw [h1,cond_false]
  rw [List.drop_eq_nil_of_le (by omega)] at h
  exact h
 | d+1,k,n,hd,hk,hn,h=>by
  have hlt:k.toNat<s.length:=by omega
  rw [drop_getD hlt] at h
  have h1:ilt k (s.length:Int)=true:=by rw [ilt_eq,decide_eq_true_iff]; omega
  have h2:decide ((0:Int)≤k∧k<(s.length:Int))=true:=by rw [decide_eq_true_iff]; omega
  have hk1:(k+1).toNat=k.toNat+1:=by omega
  cases hdg:N.isDigit (s.getD k.toNat 0) with
  | true =>
   obtain ⟨g1,g2⟩:=(N.isDigit_iff _).1 hdg
   simp only [N.numLoop,hdg,cond_true,← hk1] at h
   obtain ⟨m,hm'⟩:=numberR_ok s most hm hm2 hb K q d (k+1) (cond (ile n most) (10*n+((s.getD k.toNat 0).toNat-48)) n) (by omega) (by omega) (by
    cases ile n most<;>simp only [cond_true,cond_false]<;>omega) h
   refine ⟨m+1,?_⟩
   show evRound eNumber _ 2 _ _=some q
   rw [q_numberR]
   have e1:ilt ((s.getD k.toNat 0).toNat:Int) 48=false:=by rw [ilt_eq,decide_eq_false_iff_not]; omega
   have e2:ilt 57 ((s.getD k.toNat 0).toNat:Int)=false:=by rw [ilt_eq,decide_eq_false_iff_not]; omega
   rw [h1,h2,e1,e2,cond_true,cond_true,cond_false,cond_false,wrap_i64 (n:=k+1) (by omega) (by omega)]
   cases hc:ile n most with
   | true =>
    rw [ile_eq] at hc
    have hc':=of_decide_eq_true hc
    rw [cond_true,wrap_u8 (by omega) (by omega),wrap_i64 (n:=((s.getD k.toNat 0).toNat:Int)-48) (by omega) (by omega),wrap_i64 (n:=10*n) (by omega) (by omega),wrap_i64 (by omega) (by omega)]
    rw [show ile n most=true by rw [ile_eq]; exact hc] at hm'
    exact hm'
   | false =>
    rw [hc] at hm'
    exact hm'
  | false =>
   simp only [N.numLoop,hdg,cond_false] at h
   refine ⟨1,?_⟩
   show evRound eNumber _ 2 _ _=some q
   rw [q_numberR,h1,h2,cond_true,cond_true]
   unfold N.isDigit at hdg
   cases e1:ilt ((s.getD k.toNat 0).toNat:Int) 48 with
   | true=>exact h
   | false =>
    rw [e1] at hdg
    cases e2:ilt 57 ((s.getD k.toNat 0).toNat:Int) with
    | true=>exact h
    | false=>rw [e2] at hdg; cases hdg
theorem ok_number:FnOk Tryz.prog 112 dNumber:=by
 refine den_okF (env_ok (TOk.nil _)) (E:=eNumber) Tryz.func112 [2] (by kernel_rfl) (one1 (rounds_of rfl fun l K q h=>?_)) fun a _ h=>?_
 ·unfold gNumber at h
  split at h
  ·rename_i s most k n
   obtain ⟨h1,h⟩:=cond_none h
   obtain ⟨h2,h⟩:=cond_none h
   obtain ⟨h3,h⟩:=cond_none h
   obtain ⟨h4,h⟩:=cond_none h
   obtain ⟨h5,h⟩:=cond_none h
   rw [ile_eq] at h1 h2 h3 h4
   exact numberR_ok s most (of_decide_eq_true h3) (of_decide_eq_true h4) (Nat.le_of_ble_eq_true h5) K q _ k n rfl (of_decide_eq_true h1) (of_decide_eq_true h2) h
  ·cases h
 ·obtain ⟨s,most⟩:=a
  obtain ⟨p1,h⟩:=bcond h
  obtain ⟨p2,p3⟩:=bcond h
  refine (q_number s most).trans ?_
  show _=some (⟨.tup [.int .i64 (N.number s most).1,.str (N.number s most).2.1,.int .i64 (N.number s most).2.2],[],[]⟩:DRes)
  have hb:=N.numLoop_bounds most s 0 0
  have b1:decide ((0:Int)≤(N.numLoop most s 0 0).1∧(N.numLoop most s 0 0).1≤(s.length:Int))=true:=by rw [decide_eq_true_iff]; omega
  unfold N.number
  simp only at p1 p2 p3
  rw [p1,p2,p3]
  simp only [cond_true,List.drop_zero,List.take_length,b1]
  cases h1:(N.numLoop most s 0 0).1==0 with
  | true=>cases (s.length:Int)==0<;>rfl
  | false =>
   have h1' : (N.numLoop most s 0 0).1 ≠ 0:=by simpa using h1
   have b2:decide ((0:Int)≤0∧(0:Int)<(s.length:Int))=true:=by rw [decide_eq_true_iff]; omega
   simp only [cond_false,b2,cond_true]
   cases ilt 1 (N.numLoop most s 0 0).1<;>cases ((s.getD 0 0).toNat:Int)==48<;>cases ilt most (N.numLoop most s 0 0).2<;>rfl
def schParse:SSch:={ fr:=[(0,.str),(2,.ptr 10000 0 0),(6,.ptr 10001 0 0),(7,.int .i64)],tab:=[(10000,.var [.int .u8,.int .u32]),(10001,.var [.int .u8,.int .u32])] }
def gParse:List Leaf→(Ex→St→Option R)→Option R
 | [.s s,.i last,.i r1,.i r2,.i a1,.i a2],K=>cond (Nat.ble s.length 9223372036854775806)
   (cond ((N.parseLoop s.length s ⟨a1,a2⟩ last).2 != 0)
    (K .ret { fr:=[(2,.ptr 10000 0 0 0),(3,.int .i64 (N.parseLoop s.length s ⟨a1,a2⟩ last).2)],tab:=[(10000,.var [.int .u8 0,.int .u32 0])] })
    (K (.exit 0) { fr:=[(2,.ptr 10000 0 0 0),(6,.ptr 10001 0 0 0)],tab:=[(10000,.var [.int .u8 r1,.int .u32 r2]),(10001,.var (cLabel.enc (N.parseLoop s.length s ⟨a1,a2⟩ last).1))] })) none
 | _,_=>none
noncomputable def eParse:Env:=env Tryz.prog [(112,dNumber)] [(6,loopF schParse gParse)] [(6,[(0,[0,2,6,7]),(1,[2,6]),(1000,[2,3])])]
theorem q_parse (s:Bytes):evFn eParse 91 ((aOne vStr).enc s) (bNil.enc ()) some =
 cond (Nat.ble (List.length s) 9223372036854775806) (cond (Prod.snd (Prod.snd (N.number s (15:Int))) != (0:Int)) (some {v:=V.tup [V.agg [V.int .u8 (0:Int),V.int .u32 (0:Int)],V.int .i64 (Prod.snd (Prod.snd (N.number s (15:Int))))],bx:=[]}) (cond (Nat.ble (List.length (Prod.fst (Prod.snd (N.number s (15:Int))))) 9223372036854775806) (cond (Prod.snd (N.parseLoop (List.length (Prod.fst (Prod.snd (N.number s (15:Int))))) (Prod.fst (Prod.snd (N.number s (15:Int)))) {level:=IntKind.wrap .u8 (Prod.fst (N.number s (15:Int))),set:=(0:Int)} (-1:Int)) != (0:Int)) (some {v:=V.tup [V.agg [V.int .u8 (0:Int),V.int .u32 (0:Int)],V.int .i64 (Prod.snd (N.parseLoop (List.length (Prod.fst (Prod.snd (N.number s (15:Int))))) (Prod.fst (Prod.snd (N.number s (15:Int)))) {level:=IntKind.wrap .u8 (Prod.fst (N.number s (15:Int))),set:=(0:Int)} (-1:Int)))],bx:=[]}) (some {v:=V.tup [V.agg [V.int .u8 (Label.level (Prod.fst (N.parseLoop (List.length (Prod.fst (Prod.snd (N.number s (15:Int))))) (Prod.fst (Prod.snd (N.number s (15:Int)))) {level:=IntKind.wrap .u8 (Prod.fst (N.number s (15:Int))),set:=(0:Int)} (-1:Int)))),V.int .u32 (Label.set (Prod.fst (N.parseLoop (List.length (Prod.fst (Prod.snd (N.number s (15:Int))))) (Prod.fst (Prod.snd (N.number s (15:Int)))) {level:=IntKind.wrap .u8 (Prod.fst (N.number s (15:Int))),set:=(0:Int)} (-1:Int))))],V.int .i64 (0:Int)],bx:=[]})) (none))) (none):=by kernel_rfl
theorem q_parseR_ (s:Bytes) (r a:Label) (last:Int) (K:Ex→St→Option R):evRound eParse 91 6 { fr:=[(0,.str s),(2,.ptr 10000 0 0 0),(6,.ptr 10001 0 0 0),(7,.int .i64 last)],tab:=[(10000,.var (cLabel.enc r)),(10001,.var (cLabel.enc a))] } K =(
 let z0:=(N.number (List.drop 1 (List.take (List.length s) s)) (31:Int));let z1:=(K Ex.ret {fr:=[(2,V.ptr 10000 0 0 0),(3,V.int .i64 (4:Int))],tab:=[(10000,Box.var [V.int .u8 (0:Int),V.int .u32 (0:Int)])]});cond (ilt (0:Int) (↑(List.length s):Int)) (cond (decide ((0:Int)≤(0:Int)∧(0:Int)<(↑(List.length s):Int))) (cond ((↑(UInt8.toNat (List.getD s 0 (0:UInt8))):Int) != (58:Int)) z1 (cond (decide ((0:Int)≤(1:Int)∧(1:Int)≤(↑(List.length s):Int))) (cond (Nat.ble (List.length (List.drop 1 (List.take (List.length s) s))) 9223372036854775806) (cond (Prod.snd (Prod.snd z0) != (0:Int)) (K Ex.ret {fr:=[(2,V.ptr 10000 0 0 0),(3,V.int .i64 (Prod.snd (Prod.snd z0)))],tab:=[(10000,Box.var [V.int .u8 (0:Int),V.int .u32 (0:Int)])]}) (cond (ile (Prod.fst z0) last) z1 (cond (decide (Prod.fst z0<(0:Int))) (none) (K Ex.normal {fr:=[(0,V.str (Prod.fst (Prod.snd z0))),(2,V.ptr 10000 0 0 0),(6,V.ptr 10001 0 0 0),(7,V.int .i64 (Prod.fst z0))],tab:=[(10000,Box.var [V.int .u8 (Label.level r),V.int .u32 (Label.set r)]),(10001,Box.var [V.int .u8 (Label.level a),V.int .u32 (ibits BinOp.or .u32 (Label.set a) (shl .u32 (1:Int) (Prod.fst z0)))])]})))) (none)) (none))) (none)) (K (Ex.exit 0) {fr:=[(2,V.ptr 10000 0 0 0),(6,V.ptr 10001 0 0 0)],tab:=[(10000,Box.var [V.int .u8 (Label.level r),V.int .u32 (Label.set r)]),(10001,Box.var [V.int .u8 (Label.level a),V.int .u32 (Label.set a)])]})):=by kernel_rfl
theorem q_parseR (s:Bytes) (r a:Label) (last:Int) (K:Ex→St→Option R):type_of% (by have h:=q_parseR_ s r a last K; dsimp only at h; exact h):=by
 have h:=q_parseR_ s r a last K
 dsimp only at h
 exact h
theorem parseR_ok (r:Label) (K:Ex→St→Option R) (q:R):∀ (d:Nat) (s:Bytes) (a:Label) (last:Int),s.length≤d→s.length≤9223372036854775806 →
  cond ((N.parseLoop d s a last).2 != 0)
    (K .ret { fr:=[(2,.ptr 10000 0 0 0),(3,.int .i64 (N.parseLoop d s a last).2)],tab:=[(10000,.var [.int .u8 0,.int .u32 0])] })
    (K (.exit 0) { fr:=[(2,.ptr 10000 0 0 0),(6,.ptr 10001 0 0 0)],tab:=[(10000,.var (cLabel.enc r)),(10001,.var (cLabel.enc (N.parseLoop d s a last).1))] })=some q →
  ∃ m,iterR eParse 91 6 m { fr:=[(0,.str s),(2,.ptr 10000 0 0 0),(6,.ptr 10001 0 0 0),(7,.int .i64 last)],tab:=[(10000,.var (cLabel.enc r)),(10001,.var (cLabel.enc a))] } K=some q
 | d,[],a,last,hd,hb,h=>by
  have e:N.parseLoop d [] a last=(a,0):=by cases d<;>rfl
  rw [e] at h
  refine ⟨1,?_⟩
  show evRound eParse _ 6 _ _=some q
  rw [q_parseR]
  exact h
 | 0,c::s,a,last,hd,hb,h=>by simp at hd
 | d+1,c::s,a,last,hd,hb,h=>by
  have hl:(c::s).length=s.length+1:=rfl
  have b1:ilt 0 ((c::s).length:Int)=true:=by rw [ilt_eq,decide_eq_true_iff]; omega
  have b2:decide ((0:Int)≤0∧(0:Int)<((c::s).length:Int))=true:=by rw [decide_eq_true_iff]; omega
  have b3:decide ((0:Int)≤1∧(1:Int)≤((c::s).length:Int))=true:=by rw [decide_eq_true_iff]; omega
  have b4:Nat.ble s.length 9223372036854775806=true:=Nat.ble_eq_true_of_le (by omega)
  have b5:List.drop 1 (List.take (c::s).length (c::s))=s:=by rw [List.take_length]; rfl
  have spec:=N.number_spec s 31
  have main:∀ m,evRound eParse 91 6 { fr:=[(0,.str (c::s)),(2,.ptr 10000 0 0 0),(6,.ptr 10001 0 0 0),(7,.int .i64 last)],tab:=[(10000,.var (cLabel.enc r)),(10001,.var (cLabel.enc a))] } (fun e S=>match e with
    | .normal=>iterR eParse 91 6 m S K
    | e=>K e S)=some q→∃ m,iterR eParse 91 6 m { fr:=[(0,.str (c::s)),(2,.ptr 10000 0 0 0),(6,.ptr 10001 0 0 0),(7,.int .i64 last)],tab:=[(10000,.var (cLabel.enc r)),(10001,.var (cLabel.enc a))] } K=some q :=
   fun m h=>⟨m+1,h⟩
  simp only [N.parseLoop] at h
  have hget:(c::s).getD 0 0=c:=rfl
  cases h1:((c.toNat:Int) != 58) with
  | true =>
   rw [h1] at h
   refine main 0 ?_
   rw [q_parseR,b1,b2,hget,h1]
   exact h
  | false =>
   rw [h1] at h
   cases h2:((N.number s 31).2.2 != 0) with
   | true =>
    rw [h2] at h
    refine main 0 ?_
    rw [q_parseR,b1,b2,hget,h1,b3,b5,b4,h2]
    simp only [cond_true,cond_false,h2] at h ⊢
    exact h
   | false =>
    rw [h2] at h
    cases h3:ile (N.number s 31).1 last with
    | true =>
     rw [h3] at h
     refine main 0 ?_
     rw [q_parseR,b1,b2,hget,h1,b3,b5,b4,h2,h3]
     exact h
    | false =>
     rw [h3] at h
     have h2' : (N.number s 31).2.2=0:=by simpa using h2
     obtain ⟨g1,g2⟩:=spec.2 h2'
     obtain ⟨m,hm⟩:=parseR_ok r K q d (N.number s 31).2.1 ⟨a.level,ibits .or .u32 a.set (shl .u32 1 (N.number s 31).1)⟩ (N.number s 31).1 (by omega) (by omega) h
     refine main m ?_
     have b6:decide ((N.number s 31).1<0)=false:=by rw [decide_eq_false_iff_not]; omega
     rw [q_parseR,b1,b2,hget,h1,b3,b5,b4,h2,h3,b6]
     exact hm
theorem parseLoop_err:∀ (d:Nat) (s:Bytes) (a:Label) (last:Int),((N.parseLoop d s a last).2 != 0)=true→(N.parseLoop d s a last).1=⟨0,0⟩
 | 0,s,a,last,h=>by cases h
 | d+1,[],a,last,h=>by cases h
 | d+1,c::s,a,last,h=>by
  simp only [N.parseLoop] at h ⊢
  cases h1:((c.toNat:Int) != 58) with
  | true=>rfl
  | false =>
   rw [h1] at h
   cases h2:((N.number s 31).2.2 != 0) with
   | true=>rfl
   | false =>
    rw [h2] at h
    cases h3:ile (N.number s 31).1 last with
    | true=>rfl
    | false=>rw [h3] at h; exact parseLoop_err d _ _ _ h
theorem ok_parse:FnOk Tryz.prog 91 dParse:=by
 refine den_okF (env_ok ((TOk.nil _).cons ok_number)) (E:=eParse) Tryz.func91 [6] (by kernel_rfl) (one1 (rounds_of rfl fun l K q h=>?_)) fun s _ h=>?_
 ·unfold gParse at h
  split at h
  ·rename_i s last r1 r2 a1 a2
   obtain ⟨h1,h⟩:=cond_none h
   exact parseR_ok ⟨r1,r2⟩ K q s.length s ⟨a1,a2⟩ last (Nat.le_refl _) (Nat.le_of_ble_eq_true h1) h
  ·cases h
 ·refine (q_parse s).trans ?_
  show _=some (⟨.tup [.agg [.int .u8 (N.parse s).1.level,.int .u32 (N.parse s).1.set],.int .i64 (N.parse s).2],[],[]⟩:DRes)
  have hb:s.length≤9223372036854775806:=Nat.le_of_ble_eq_true h
  rw [show Nat.ble s.length 9223372036854775806=true from h,cond_true]
  unfold N.parse
  cases h1:((N.number s 15).2.2 != 0) with
  | true=>rfl
  | false =>
   have h1' : (N.number s 15).2.2=0:=by simpa using h1
   obtain ⟨g0,g⟩:=N.number_spec s 15
   obtain ⟨g1,g2⟩:=g h1'
   simp only [cond_false]
   rw [Nat.ble_eq_true_of_le (show (N.number s 15).2.1.length≤9223372036854775806 by omega),cond_true,wrap_u8 g0 (by omega)]
   cases h2:((N.parseLoop (N.number s 15).2.1.length (N.number s 15).2.1 ⟨(N.number s 15).1,0⟩ (-1)).2 != 0) with
   | true=>rw [parseLoop_err _ _ _ _ h2]; rfl
   | false =>
    have h2' : (N.parseLoop (N.number s 15).2.1.length (N.number s 15).2.1 ⟨(N.number s 15).1,0⟩ (-1)).2=0:=by simpa using h2
    rw [h2']; rfl
noncomputable def eAw1:Env:=env Tryz.prog [(127,dOutNum),(129,dOutText),(128,dOutString),(130,dNew),(131,dNum)] [] []
theorem q_aw1  : evFn eAw1 113 [] [] some =
 some {v:=V.bool true,bx:=[]}:=by kernel_rfl
def dTrue:Den:=den aNil bNil (oV vBool) (fun _ _=>true) fun _ _=>(true,())
theorem ok_aw1 (hN:FnOk Tryz.prog 127 dOutNum):FnOk Tryz.prog 113 dTrue :=
 den_okF (env_ok ((((((TOk.nil _).cons ok_num).cons ok_new).cons ok_outString).cons (ok_outText hN)).cons hN)) (E:=eAw1) Tryz.func113 [] (by kernel_rfl) none0 fun _ _ _=>q_aw1
noncomputable def eAw1' : Env:=env Tryz.prog [(113,dTrue)] [] []
theorem q_aw1'  : evFn eAw1' 92 [] [] some =
 some {v:=V.bool true,bx:=[]}:=by kernel_rfl
theorem ok_aw1' (hN:FnOk Tryz.prog 127 dOutNum):FnOk Tryz.prog 92 dTrue :=
 den_okF (env_ok ((TOk.nil _).cons (ok_aw1 hN))) (E:=eAw1') Tryz.func92 [] (by kernel_rfl) none0 fun _ _ _=>q_aw1'
noncomputable def eAw3:Env:=env Tryz.prog [(91,dParse),(92,dTrue),(44,dUnder)] [] []
theorem q_aw3  : evFn eAw3 68 [] [] some =
 some {v:=V.bool true,bx:=[]}:=by kernel_rfl
theorem ok_aw3 (hN:FnOk Tryz.prog 127 dOutNum):FnOk Tryz.prog 68 dTrue :=
 den_okF (env_ok ((((TOk.nil _).cons ok_under).cons (ok_aw1' hN)).cons ok_parse)) (E:=eAw3) Tryz.func68 [] (by kernel_rfl) none0 fun _ _ _=>q_aw3
end Go.Ev

/- What the statements on labels reckon: lemmas; the function that writes numbers is a premise. -/
namespace Go.Ev
open Go Go.Proofs
set_option maxRecDepth 100000
def dHas:Den:=den (aCons (vAgg cLabel) (aOne (vInt .i64))) bNil (oV vBool) (fun a _=>ile 0 a.2) fun a _=>(N.refHas a.1 a.2,())
noncomputable def eHas:Env:=env Tryz.prog [] [] []
theorem q_has (a:Label) (i:Int):evFn eHas 80 ((aCons (vAgg cLabel) (aOne (vInt .i64))).enc (a,i)) (bNil.enc ()) some =
 cond (decide (i<(0:Int))) (none) (some {v:=V.bool (Int.tmod (shr .u32 (Label.set a) i) (2:Int)==(1:Int)),bx:=[]}):=by kernel_rfl
theorem ok_has:FnOk Tryz.prog 80 dHas:=by
 refine den_okF (env_ok (TOk.nil _)) (E:=eHas) Tryz.func80 [] (by kernel_rfl) none0 fun a _ h=>?_
 refine (q_has a.1 a.2).trans ?_
 have h:ile 0 a.2=true:=h
 rw [ile_eq] at h
 have h:=of_decide_eq_true h
 rw [decide_eq_false (by omega)]
 try rfl
def schRefUnder:SSch:={ fr:=[(2,.ptr 10000 0 0),(3,.ptr 10001 0 0),(5,.int .i64)],tab:=[(10000,.var [.int .u8,.int .u32]),(10001,.var [.int .u8,.int .u32])] }
def gRefUnder:List Leaf→(Ex→St→Option R)→Option R
 | [.i i,.i a1,.i a2,.i b1,.i b2],K=>cond (ile 0 i) (cond (ile i 32)
   (cond (N.refLoop ⟨a1,a2⟩ ⟨b1,b2⟩ (32-i).toNat i) (K (.exit 0) { fr:=[],tab:=[] }) (K .ret { fr:=[(4,.bool false)],tab:=[] })) none) none
 | _,_=>none
noncomputable def eRefUnder:Env:=env Tryz.prog [(80,dHas)] [(4,loopF schRefUnder gRefUnder)] [(4,[(0,[2,3,5]),(1,[]),(1000,[4])])]
theorem q_refUnder (a b:Label):evFn eRefUnder 45 ((aCons (vAgg cLabel) (aOne (vAgg cLabel))).enc (a,b)) (bNil.enc ()) some =
 cond (ilt (Label.level b) (Label.level a)) (some {v:=V.bool false,bx:=[]}) (cond (N.refLoop a b 32 (0:Int)) (some {v:=V.bool true,bx:=[]}) (some {v:=V.bool false,bx:=[]})):=by kernel_rfl
theorem q_refUnderR (a b:Label) (i:Int) (K:Ex→St→Option R):evRound eRefUnder 45 4 { fr:=[(2,.ptr 10000 0 0 0),(3,.ptr 10001 0 0 0),(5,.int .i64 i)],tab:=[(10000,.var (cLabel.enc a)),(10001,.var (cLabel.enc b))] } K =
 cond (ilt i (32:Int)) (cond (ile (0:Int) i) (cond (N.refHas a i) (cond (ile (0:Int) i) (cond (!N.refHas b i) (K Ex.ret {fr:=[(4,V.bool false)],tab:=[]}) (K Ex.normal {fr:=[(2,V.ptr 10000 0 0 0),(3,V.ptr 10001 0 0 0),(5,V.int .i64 (IntKind.wrap .i64 (i+(1:Int))))],tab:=[(10000,Box.var [V.int .u8 (Label.level a),V.int .u32 (Label.set a)]),(10001,Box.var [V.int .u8 (Label.level b),V.int .u32 (Label.set b)])]})) (none)) (K Ex.normal {fr:=[(2,V.ptr 10000 0 0 0),(3,V.ptr 10001 0 0 0),(5,V.int .i64 (IntKind.wrap .i64 (i+(1:Int))))],tab:=[(10000,Box.var [V.int .u8 (Label.level a),V.int .u32 (Label.set a)]),(10001,Box.var [V.int .u8 (Label.level b),V.int .u32 (Label.set b)])]})) (none)) (K (Ex.exit 0) {fr:=[],tab:=[]}):=by kernel_rfl
theorem refUnderR_ok (a b:Label) (K:Ex→St→Option R) (q:R):∀ (d:Nat) (i:Int),d=(32-i).toNat→0≤i→i≤32 →
  cond (N.refLoop a b d i) (K (.exit 0) { fr:=[],tab:=[] }) (K .ret { fr:=[(4,.bool false)],tab:=[] })=some q →
  ∃ m,iterR eRefUnder 45 4 m { fr:=[(2,.ptr 10000 0 0 0),(3,.ptr 10001 0 0 0),(5,.int .i64 i)],tab:=[(10000,.var (cLabel.enc a)),(10001,.var (cLabel.enc b))] } K=some q
 | 0,i,hd,h0,h1,h=>by
  refine ⟨1,?_⟩
  show evRound eRefUnder _ 4 _ _=some q
  rw [q_refUnderR,show ilt i 32=false by rw [ilt_eq,decide_eq_false_iff_not]; omega]
  exact h
 | d+1,i,hd,h0,h1,h=>by
  have b1:ilt i 32=true:=by rw [ilt_eq,decide_eq_true_iff]; omega
  have b2:ile 0 i=true:=by rw [ile_eq,decide_eq_true_iff]; omega
  have main:∀ m,evRound eRefUnder 45 4 { fr:=[(2,.ptr 10000 0 0 0),(3,.ptr 10001 0 0 0),(5,.int .i64 i)],tab:=[(10000,.var (cLabel.enc a)),(10001,.var (cLabel.enc b))] } (fun e S=>match e with
    | .normal=>iterR eRefUnder 45 4 m S K
    | e=>K e S)=some q→∃ m,iterR eRefUnder 45 4 m { fr:=[(2,.ptr 10000 0 0 0),(3,.ptr 10001 0 0 0),(5,.int .i64 i)],tab:=[(10000,.var (cLabel.enc a)),(10001,.var (cLabel.enc b))] } K=some q:=fun m h=>⟨m+1,h⟩
  have next:cond (N.refLoop a b d (i+1)) (K (.exit 0) { fr:=[],tab:=[] }) (K .ret { fr:=[(4,.bool false)],tab:=[] })=some q→(N.refHas a i=false∨N.refHas b i=true)→∃ m,iterR eRefUnder 45 4 m { fr:=[(2,.ptr 10000 0 0 0),(3,.ptr 10001 0 0 0),(5,.int .i64 i)],tab:=[(10000,.var (cLabel.enc a)),(10001,.var (cLabel.enc b))] } K=some q:=fun h hc=>by
   obtain ⟨m,hm⟩:=refUnderR_ok a b K q d (i+1) (by omega) (by omega) (by omega) h
   refine main m ?_
   rw [q_refUnderR,b1,b2,wrap_i64 (by omega) (by omega)]
   cases ha:N.refHas a i with
   | false=>exact hm
   | true =>
    have hb:N.refHas b i=true:=hc.resolve_left (by rw [ha]; simp)
    rw [hb]; exact hm
  simp only [N.refLoop] at h
  cases ha:N.refHas a i with
  | false=>rw [ha] at h; exact next h (.inl ha)
  | true =>
   rw [ha] at h
   cases hb:N.refHas b i with
   | true=>rw [hb] at h; exact next h (.inr hb)
   | false =>
    rw [hb] at h
    refine main 0 ?_
    rw [q_refUnderR,b1,b2,ha,hb]
    exact h
def dRefUnder:Den:=den (aCons (vAgg cLabel) (aOne (vAgg cLabel))) bNil (oV vBool) (fun _ _=>true) fun a _=>(N.refUnder a.1 a.2,())
theorem ok_refUnder:FnOk Tryz.prog 45 dRefUnder:=by
 refine den_okF (env_ok ((TOk.nil _).cons ok_has)) (E:=eRefUnder) Tryz.func45 [4] (by kernel_rfl) (one1 (rounds_of rfl fun l K q h=>?_)) fun a _ _=>?_
 ·unfold gRefUnder at h
  split at h
  ·rename_i i a1 a2 b1 b2
   obtain ⟨h1,h⟩:=cond_none h
   obtain ⟨h2,h⟩:=cond_none h
   rw [ile_eq] at h1 h2
   exact refUnderR_ok ⟨a1,a2⟩ ⟨b1,b2⟩ K q _ i rfl (of_decide_eq_true h1) (of_decide_eq_true h2) h
  ·cases h
 ·refine (q_refUnder a.1 a.2).trans ?_
  obtain ⟨a,b⟩:=a
  show _=some (⟨.bool (N.refUnder a b),[],[]⟩:DRes)
  unfold N.refUnder
  cases ilt b.level a.level with
  | true=>rfl
  | false =>
   show cond (N.refLoop a b 32 0) _ _=_
   simp only [cond_false]
   cases N.refLoop a b 32 0<;>rfl
end Go.Ev

/- Numbers' texts by the library's contract,and by the document: lemmas,no condition. -/
namespace Go.Ev
open Go Go.Proofs Go.RowKit Go.Sort
set_option maxRecDepth 100000
theorem enter_ok {P : Program} {f : FuncId} {fn : Func} (hf : P.funcs[f]? = some fn) (hb : fn.body.isSome = true) (hn : (fn.name == "runtime.NumGoroutine") = false) (xs : Array Value) (w : World) : (callFunc f xs).run P w = .ok (.enter f xs) w := by
 have hnm : ¬ fn.name = "runtime.NumGoroutine" := by
  intro e
  rw [e] at hn; cases hn
 obtain ⟨c,hc⟩:=Option.isSome_iff_exists.1 hb
 simp [callFunc,hf,hnm,hc]
theorem keeps_below' {w w' : World} (X:Nat→Nat→Prop) (h:Below w.heap.size w w'):Keeps X w w' :=
 ⟨h.os,h.tape,h.output,h.size,fun b hb=>ObjOk.same (h.block b hb)⟩
theorem ret_plain {w w' : World} {J:Nat→Nat→Prop} {v:V} {x:Value} (hJ:∀ b o,J b o→b<w.heap.size) (hb:Below w.heap.size w w') (hv:Rv w' J noRho v x):RetOk w w' J [] [] ⟨v,[],[]⟩ x J :=
 ⟨keeps_below' _ hb,fun _ _ h=>h,fun b o h=>Nat.lt_of_lt_of_le (hJ b o h) hb.size,fun _ _ h _=>h,rfl,(fun j cs cs' p hj=>by simp at hj),.inl ⟨rfl,hv⟩⟩
theorem grow_below (w:World) (k:Nat) (os:Array Obj):Below w.heap.size w (grow (w.drewN k) os):=by
 refine ⟨rfl,rfl,rfl,?_,fun b hb=>?_⟩
 ·show w.heap.size≤(w.heap++os).size
  rw [Array.size_append]; omega
 ·show (w.heap++os)[b]? = w.heap[b]?
  exact Array.getElem?_append_left hb
theorem tabIs_of {P:Program} {n:String} {T:List GQ} {k:IntKind} {zs:List Int} (h12:((P.globalNamed n).bind fun g=>(P.globals[g]?).map (·.name))=some n) (h3:tabNamed n=T) (h4:T=zs.map fun z=>GQ.val (.int k z)) (h5:0<zs.length)
  {J:Nat→Nat→Prop} {w:World} (hH:Held P J w):Lib.TabIs P w n k zs:=by
 obtain ⟨g,h1,h2⟩:=Option.bind_eq_some_iff.1 h12
 obtain ⟨gl,e1,e2⟩:=Option.map_eq_some_iff.1 h2
 have hv:∀ o,GLv P g o=(zs[o]?).map fun z=>GQ.val (.int k z):=fun o=>by
  unfold GLv
  rw [e1]
  show (tabNamed gl.name)[o]? = _
  rw [e2,h3,h4,List.getElem?_map]
 have hn:GLn P g=zs.length:=by
  unfold GLn
  rw [e1]
  show (tabNamed gl.name).length=_
  rw [e2,h3,h4,List.length_map]
 have hc:∀ o z,zs[o]? = some z→w.cell? ⟨g,o,none⟩=some (.int k z):=fun o z hz=>by
  obtain ⟨_,⟨y,hy,hcell⟩,_⟩:=hH g o (.val (.int k z)) (by rw [hv,hz]; rfl)
  rw [hcell]
  exact congrArg some hy
 have h0:zs[0]? = some (zs[0]'h5):=List.getElem?_eq_getElem h5
 obtain ⟨_,_,hend⟩:=hH g 0 (.val (.int k (zs[0]'h5))) (by rw [hv,h0]; rfl)
 rw [hn] at hend
 have hc0:=hc 0 _ h0
 unfold Lib.TabIs World.var?
 rw [h1]
 show (match w.heap[g]? with | some (.cells cs _ _)=>some cs | _=>none)=_
 rw [cell_eq] at hc0 hend
 cases hb:w.heap[g]? with
 | none=>rw [hb] at hc0; cases hc0
 | some ob =>
  cases ob with
  | cells c e f =>
   rw [hb] at hend
   have hend:c[zs.length]? = none:=hend
   show some c=some _
   congr 1
   apply Array.ext_getElem?
   intro o
   rw [show ((zs.map fun z=>Value.int k z).toArray)[o]? = (zs[o]?).map fun z=>Value.int k z by simp]
   cases hz:zs[o]? with
   | some z =>
    have:=hc o z hz
    rw [cell_eq,hb] at this
    exact this
   | none =>
    have hle:=List.getElem?_eq_none_iff.1 hz
    have hle2:=Array.getElem?_eq_none_iff.1 hend
    exact Array.getElem?_eq_none (by omega)
  | _=>rw [hb] at hc0; cases hc0
theorem dec_dig {n:Nat} (h:n<256):Lib.decDigits n=N.digN n:=by
 unfold N.digN
 by_cases h1:n<10
 ·rw [Lib.decDigits_one h1,show Nat.blt n 10=true from Nat.blt_eq ▸ h1]; rfl
 ·rw [show Nat.blt n 10=false from by rw [Bool.eq_false_iff]; intro hh; have:=Nat.blt_eq ▸ hh; omega]
  by_cases h2:n<100
  ·rw [Lib.decDigits_two h1 h2,show Nat.blt n 100=true from Nat.blt_eq ▸ h2]; rfl
  ·rw [show Nat.blt n 100=false from by rw [Bool.eq_false_iff]; intro hh; have:=Nat.blt_eq ▸ hh; omega]
   rw [Lib.decDigits,dif_neg h1,Lib.decDigits_two (by omega) (by omega),Nat.div_div_eq_div_mul]
   try rfl
def dItoa:Den:=den (aOne (vInt .i64)) bNil (oV vStr) (fun n _=>cond (ile 0 n) (ile n 255) false) fun n _=>(N.digN n.toNat,())
theorem ok_itoa:FnOk Tryz.prog 54 dItoa:=by
 refine den_of fun n u h=>?_
 obtain ⟨h1,h2⟩:=bcond h
 have h1:=ile_of h1
 have h2:=ile_of h2
 obtain ⟨m,rfl⟩:=Int.eq_ofNat_of_zero_le h1
 intro x y hxy w J locs xs hlen hJ hx _ _ hH
 have hxy:x=(aOne (vInt .i64)).enc (m:Int)∧y=bNil.enc u:=by simpa using hxy
 obtain ⟨rfl,rfl⟩:=hxy
 have hlen:locs=[]:=List.eq_nil_of_length_eq_zero hlen
 subst hlen
 obtain ⟨x0,rfl,hx0⟩:=hx.one
 have hx0:=Rv.int_inv (show Rv w J _ (.int .i64 m) x0 from hx0)
 subst hx0
 refine .inl ⟨enter_ok Tryz.func54 (by kernel_rfl) (by kernel_rfl) _ _,?_⟩
 refine (Tryz.strconv_Itoa m (by omega) (by omega) w (tabIs_of (by kernel_rfl) rfl (by kernel_rfl) (by rw [Lib.pow10Tab_length]; omega) hH)).mono fun e w' ⟨he,k,os,hw⟩=>⟨_,he,J,?_⟩
 subst hw
 have:Lib.itoa (m:Int)=N.digN m:=by
  unfold Lib.itoa
  rw [if_neg (by omega),Int.toNat_natCast,dec_dig (by omega)]
 rw [this]
 exact ret_plain hJ (grow_below w k os) (.dat (.str _))
end Go.Ev

/- Labels' texts are written,by the document: lemmas,no condition. -/
namespace Go.Ev
open Go Go.Proofs
set_option maxRecDepth 100000
-- FOLD
theorem dig_len (n:Nat):(N.digN n).length≤3:=by
 unfold N.digN
 cases Nat.blt n 10<;>cases Nat.blt n 100<;>simp
theorem dig_app {m:Nat} (h0:10≤m) (h:m<256):N.digN (m / 10)++N.digN (m % 10)=N.digN m:=by
 have:∀ m:Fin 256,10≤m.val→N.digN (m.val / 10)++N.digN (m.val % 10)=N.digN m.val:=by decide +kernel
 exact this ⟨m,h⟩ h0
theorem has_and {S k:Nat} (hS:S<4294967296) (hk:k<32) (l:Int):(ibits .and .u32 (shr .u32 (S:Int) (k:Int)) 1==(1:Int))=N.refHas ⟨l,(S:Int)⟩ (k:Int):=by
 have e1:shr .u32 (S:Int) (k:Int)=((S / 2 ^ k:Nat):Int):=by
  unfold shr
  simp only [Int.toNat_natCast,show min k IntKind.u32.bits=k from by show min k 32=k; omega]
  rw [show (2:Int) ^ k=((2 ^ k:Nat):Int) from by norm_cast,Int.fdiv_eq_ediv_of_nonneg _ (Int.natCast_nonneg _)]
  norm_cast
 unfold N.refHas
 rw [e1]
 have hd:S / 2 ^ k≤S:=Nat.div_le_self ..
 generalize S / 2 ^ k=x at *
 have e2:ibits .and .u32 (x:Int) 1=((x % 2:Nat):Int):=by
  unfold ibits
  have e1:(BitVec.ofInt IntKind.u32.bits (x:Int)).toNat=x:=by
   rw [show IntKind.u32.bits=32 from rfl,BitVec.toNat_ofInt]
   omega
  have e3:(BitVec.ofInt IntKind.u32.bits (1:Int)).toNat=1:=by decide
  show IntKind.wrap .u32 (((BitVec.ofInt IntKind.u32.bits (x:Int)) &&& (BitVec.ofInt IntKind.u32.bits (1:Int))).toNat:Int)=_
  rw [BitVec.toNat_and,e1,e3,Nat.and_one_is_mod]
  exact wrap_u32 (Int.natCast_nonneg _) (by omega)
 rw [e2,show Int.tmod (x:Int) 2=((x % 2:Nat):Int) from by rw [Int.tmod_eq_emod_of_nonneg (Int.natCast_nonneg _)]; norm_cast]
def dDig1:Den:=den (aOne (vInt .i64)) bNil (oV vStr) (fun n _=>cond (ile 0 n) (ilt n 10) false) fun n _=>(N.digN n.toNat,())
def dDig2:Den:=den (aOne (vInt .i64)) bNil (oV vStr) (fun n _=>cond (ile 0 n) (ilt n 100) false) fun n _=>(N.digN n.toNat,())
def dDig3:Den:=den (aOne (vInt .i64)) bNil (oV vStr) (fun n _=>cond (ile 0 n) (ilt n 256) false) fun n _=>(N.digN n.toNat,())
noncomputable def eDigA:Env:=env Tryz.prog [] [] []
theorem q_digA (n:Int):evFn eDigA 90 ((aOne (vInt .i64)).enc n) ([]) some =
 cond (ilt n (10:Int)) (cond (decide ((0:Int)≤IntKind.wrap .i64 (n+(1:Int))∧IntKind.wrap .i64 (n+(1:Int))≤(↑(10:Nat):Int))) (cond (decide ((0:Int)≤n∧n≤(↑(Int.toNat (IntKind.wrap .i64 (n+(1:Int)))):Int))) (some {v:=V.str (List.drop (Int.toNat n) (List.take (Int.toNat (IntKind.wrap .i64 (n+(1:Int)))) [(48:UInt8),(49:UInt8),(50:UInt8),(51:UInt8),(52:UInt8),(53:UInt8),(54:UInt8),(55:UInt8),(56:UInt8),(57:UInt8)])),bx:=[]:DRes}) (none)) (none)) (none):=by kernel_rfl
theorem ok_digA:FnOk Tryz.prog 90 dDig1:=by
 refine den_okF (env_ok (TOk.nil _)) (E:=eDigA) Tryz.func90 [] (by kernel_rfl) (none0) fun a b hp=>?_
 refine (q_digA a).trans ?_
 obtain ⟨h1,h2⟩:=bcond (show cond (ile 0 a) (ilt a 10) false=true from hp)
 have h1:=ile_of h1
 have h2:=ilt_of h2
 obtain ⟨m,rfl⟩:=Int.eq_ofNat_of_zero_le h1
 have hm:m<10:=by omega
 have:m=0∨m=1∨m=2∨m=3∨m=4∨m=5∨m=6∨m=7∨m=8∨m=9:=by omega
 rcases this with rfl | rfl | rfl | rfl | rfl | rfl | rfl | rfl | rfl | rfl<;>rfl
noncomputable def eDigB:Env:=env Tryz.prog [(90,dDig1)] [] []
theorem q_digB (n:Int):evFn eDigB 90 ((aOne (vInt .i64)).enc n) ([]) some =
 cond (ilt n (10:Int)) (cond (decide ((0:Int)≤IntKind.wrap .i64 (n+(1:Int))∧IntKind.wrap .i64 (n+(1:Int))≤(↑(10:Nat):Int))) (cond (decide ((0:Int)≤n∧n≤(↑(Int.toNat (IntKind.wrap .i64 (n+(1:Int)))):Int))) (some {v:=V.str (List.drop (Int.toNat n) (List.take (Int.toNat (IntKind.wrap .i64 (n+(1:Int)))) [(48:UInt8),(49:UInt8),(50:UInt8),(51:UInt8),(52:UInt8),(53:UInt8),(54:UInt8),(55:UInt8),(56:UInt8),(57:UInt8)])),bx:=[]:DRes}) (none)) (none)) (cond (bif ile (0:Int) (IntKind.wrap .i64 (Int.tdiv n (10:Int))) then ilt (IntKind.wrap .i64 (Int.tdiv n (10:Int))) (10:Int) else false) (cond (bif ile (0:Int) (Int.tmod n (10:Int)) then ilt (Int.tmod n (10:Int)) (10:Int) else false) (cond (Nat.ble (List.length (N.digN (Int.toNat (IntKind.wrap .i64 (Int.tdiv n (10:Int)))))+List.length (N.digN (Int.toNat (Int.tmod n (10:Int))))) 9223372036854775807) (some {v:=V.str (N.digN (Int.toNat (IntKind.wrap .i64 (Int.tdiv n (10:Int))))++N.digN (Int.toNat (Int.tmod n (10:Int)))),bx:=[]:DRes}) (none)) (none)) (none)):=by kernel_rfl
theorem ok_digB:FnOk Tryz.prog 90 dDig2:=by
 refine den_okF (env_ok ((TOk.nil _).cons ok_digA)) (E:=eDigB) Tryz.func90 [] (by kernel_rfl) (none0) fun a b hp=>?_
 refine (q_digB a).trans ?_
 obtain ⟨h1,h2⟩:=bcond (show cond (ile 0 a) (ilt a 100) false=true from hp)
 have h1:=ile_of h1
 have h2:=ilt_of h2
 obtain ⟨m,rfl⟩:=Int.eq_ofNat_of_zero_le h1
 by_cases hm:m<10
 ·have:m=0∨m=1∨m=2∨m=3∨m=4∨m=5∨m=6∨m=7∨m=8∨m=9:=by omega
  rcases this with rfl | rfl | rfl | rfl | rfl | rfl | rfl | rfl | rfl | rfl<;>rfl
 ·have e1:Int.tdiv (m:Int) 10=((m / 10:Nat):Int):=by
   rw [Int.tdiv_eq_ediv_of_nonneg (Int.natCast_nonneg _)]; norm_cast
  have e2:Int.tmod (m:Int) 10=((m % 10:Nat):Int):=by
   rw [Int.tmod_eq_emod_of_nonneg (Int.natCast_nonneg _)]; norm_cast
  have w:IntKind.wrap .i64 ((m / 10:Nat):Int)=((m / 10:Nat):Int):=wr_i64 (by omega) (by omega)
  have l1:=dig_len (m / 10)
  have l2:=dig_len (m % 10)
  have l3:=ble_t (show (N.digN (m / 10)).length+(N.digN (m % 10)).length≤9223372036854775807 by omega)
  rw [ilt_f (show (10:Int)≤(m:Int) by omega),e1,e2,w]
  simp only [Int.toNat_natCast,ile_t (Int.natCast_nonneg _),ilt_t (show ((m / 10:Nat):Int)<10 by omega),ilt_t (show ((m % 10:Nat):Int)<10 by omega),l3,cond_true,cond_false]
  rw [dig_app (by omega) (by omega)]
  try rfl
noncomputable def eDigC:Env:=env Tryz.prog [(90,dDig2)] [] []
theorem q_digC (n:Int):evFn eDigC 90 ((aOne (vInt .i64)).enc n) ([]) some =
 cond (ilt n (10:Int)) (cond (decide ((0:Int)≤IntKind.wrap .i64 (n+(1:Int))∧IntKind.wrap .i64 (n+(1:Int))≤(↑(10:Nat):Int))) (cond (decide ((0:Int)≤n∧n≤(↑(Int.toNat (IntKind.wrap .i64 (n+(1:Int)))):Int))) (some {v:=V.str (List.drop (Int.toNat n) (List.take (Int.toNat (IntKind.wrap .i64 (n+(1:Int)))) [(48:UInt8),(49:UInt8),(50:UInt8),(51:UInt8),(52:UInt8),(53:UInt8),(54:UInt8),(55:UInt8),(56:UInt8),(57:UInt8)])),bx:=[]:DRes}) (none)) (none)) (cond (bif ile (0:Int) (IntKind.wrap .i64 (Int.tdiv n (10:Int))) then ilt (IntKind.wrap .i64 (Int.tdiv n (10:Int))) (100:Int) else false) (cond (bif ile (0:Int) (Int.tmod n (10:Int)) then ilt (Int.tmod n (10:Int)) (100:Int) else false) (cond (Nat.ble (List.length (N.digN (Int.toNat (IntKind.wrap .i64 (Int.tdiv n (10:Int)))))+List.length (N.digN (Int.toNat (Int.tmod n (10:Int))))) 9223372036854775807) (some {v:=V.str (N.digN (Int.toNat (IntKind.wrap .i64 (Int.tdiv n (10:Int))))++N.digN (Int.toNat (Int.tmod n (10:Int)))),bx:=[]:DRes}) (none)) (none)) (none)):=by kernel_rfl
theorem ok_digC:FnOk Tryz.prog 90 dDig3:=by
 refine den_okF (env_ok ((TOk.nil _).cons ok_digB)) (E:=eDigC) Tryz.func90 [] (by kernel_rfl) (none0) fun a b hp=>?_
 refine (q_digC a).trans ?_
 obtain ⟨h1,h2⟩:=bcond (show cond (ile 0 a) (ilt a 256) false=true from hp)
 have h1:=ile_of h1
 have h2:=ilt_of h2
 obtain ⟨m,rfl⟩:=Int.eq_ofNat_of_zero_le h1
 by_cases hm:m<10
 ·have:m=0∨m=1∨m=2∨m=3∨m=4∨m=5∨m=6∨m=7∨m=8∨m=9:=by omega
  rcases this with rfl | rfl | rfl | rfl | rfl | rfl | rfl | rfl | rfl | rfl<;>rfl
 ·have e1:Int.tdiv (m:Int) 10=((m / 10:Nat):Int):=by
   rw [Int.tdiv_eq_ediv_of_nonneg (Int.natCast_nonneg _)]; norm_cast
  have e2:Int.tmod (m:Int) 10=((m % 10:Nat):Int):=by
   rw [Int.tmod_eq_emod_of_nonneg (Int.natCast_nonneg _)]; norm_cast
  have w:IntKind.wrap .i64 ((m / 10:Nat):Int)=((m / 10:Nat):Int):=wr_i64 (by omega) (by omega)
  have l1:=dig_len (m / 10)
  have l2:=dig_len (m % 10)
  have l3:=ble_t (show (N.digN (m / 10)).length+(N.digN (m % 10)).length≤9223372036854775807 by omega)
  rw [ilt_f (show (10:Int)≤(m:Int) by omega),e1,e2,w]
  simp only [Int.toNat_natCast,ile_t (Int.natCast_nonneg _),ilt_t (show ((m / 10:Nat):Int)<100 by omega),ilt_t (show ((m % 10:Nat):Int)<100 by omega),l3,cond_true,cond_false]
  rw [dig_app (by omega) (by omega)]
  try rfl
def okL (a:Label):Bool:=cond (cond (ile 0 a.level) (ile a.level 255) false) (cond (ile 0 a.set) (ilt a.set 4294967296) false) false
def dLText:Den:=den (aOne (vAgg cLabel)) bNil (oV vStr) (fun a _=>okL a) fun a _=>(N.text a,())
def schRText3:SSch:={ fr:=[(1,.ptr 10000 0 0),(3,.str),(4,.int .i64)],tab:=[(10000,.var [.int .u8,.int .u32])] }
def gRText3:List Leaf→(Ex→St→Option R)→Option R
 | [.s s3,.i i4,.i _,.i ix0_1],K=>cond (ile 0 i4) (cond (ile i4 32) (cond (ile 0 ix0_1) (cond (ilt ix0_1 4294967296) (cond (Nat.ble s3.length 1000) (K (.exit 0) { fr:=[(3,.str (s3++N.textLoop ix0_1 (32-i4).toNat i4))],tab:=[] }) none) none) none) none) none
 | _,_=>none
noncomputable def eRText3:Env:=env Tryz.prog [(80,dHas),(90,dDig3)] [(3,loopF schRText3 gRText3)] [(3,[(0,[1,3,4]),(1,[3]),(1000,[2])])]
theorem q_rText3 (a:Label):evFn eRText3 67 ((aOne (vAgg cLabel)).enc a) ([]) some =
 cond (bif ile (0:Int) (IntKind.wrap .i64 (Label.level a)) then ilt (IntKind.wrap .i64 (Label.level a)) (256:Int) else false) (cond (ile (0:Int) (Label.set a)) (cond (ilt (Label.set a) (4294967296:Int)) (cond (Nat.ble (List.length (N.digN (Int.toNat (IntKind.wrap .i64 (Label.level a))))) 1000) (some {v:=V.str (N.digN (Int.toNat (IntKind.wrap .i64 (Label.level a)))++N.textLoop (Label.set a) 32 (0:Int)),bx:=[]:DRes}) (none)) (none)) (none)) (none):=by kernel_rfl
theorem q_rText3R (s3:Bytes) (i4:Int) (ix0:Int) (ix0_1:Int) (K:Ex→St→Option R):evRound eRText3 67 3 { fr:=[(1,.ptr 10000 0 0 0),(3,.str s3),(4,.int .i64 i4)],tab:=[(10000,.var [.int .u8 ix0,.int .u32 ix0_1])] } K =
 cond (ilt i4 (32:Int)) (cond (ile (0:Int) i4) (cond (N.refHas {level:=ix0,set:=ix0_1:Label} i4) (cond (Nat.ble (List.length s3+1) 9223372036854775807) (cond (bif ile (0:Int) i4 then ilt i4 (256:Int) else false) (cond (Nat.ble (List.length (s3++[(58:UInt8)])+List.length (N.digN (Int.toNat i4))) 9223372036854775807) (K Ex.normal {fr:=[(1,V.ptr 10000 0 0 0),(3,V.str (s3++[(58:UInt8)]++N.digN (Int.toNat i4))),(4,V.int .i64 (IntKind.wrap .i64 (i4+(1:Int))))],tab:=[(10000,Box.var [V.int .u8 ix0,V.int .u32 ix0_1])]:St}) (none)) (none)) (none)) (K Ex.normal {fr:=[(1,V.ptr 10000 0 0 0),(3,V.str s3),(4,V.int .i64 (IntKind.wrap .i64 (i4+(1:Int))))],tab:=[(10000,Box.var [V.int .u8 ix0,V.int .u32 ix0_1])]:St})) (none)) (K (Ex.exit 0) {fr:=[(3,V.str s3)],tab:=[]:St}):=by kernel_rfl
theorem ok_rText3_3:RoundsOk eRText3 67 3:=by
 refine rounds_of rfl fun l K q h=>?_
 unfold gRText3 at h
 split at h
 ·rename_i s3 i4 ix0 ix0_1
  have h1:=(cond_none h).1; replace h:=(cond_none h).2; have h2:=(cond_none h).1; replace h:=(cond_none h).2; have h3:=(cond_none h).1; replace h:=(cond_none h).2; have h4:=(cond_none h).1; replace h:=(cond_none h).2; have h5:=(cond_none h).1; replace h:=(cond_none h).2
  have h1:=ile_of h1
  have h2:=ile_of h2
  have h3:=ile_of h3
  have h4:=ilt_of h4
  have h5:=ble_of h5
  obtain ⟨S,hS⟩:=Int.eq_ofNat_of_zero_le h3
  have main:=loop_ind (E:=eRText3) (f:=67) (id:=3) (σ:=Int × Bytes) (fun x=>{ fr:=[(1,.ptr 10000 0 0 0),(3,.str x.2),(4,.int .i64 x.1)],tab:=[(10000,.var [.int .u8 ix0,.int .u32 ix0_1])] })
   (fun x=>(0≤x.1∧x.1≤32)∧x.2.length≤1000+4*x.1.toNat) (fun x=>(32-x.1).toNat) (fun x K=>K (.exit 0) { fr:=[(3,.str (x.2++N.textLoop ix0_1 (32-x.1).toNat x.1))],tab:=[] }) (fun x hx=>?_) (i4,s3) ⟨⟨h1,h2⟩,by show s3.length≤1000+4*(i4).toNat; omega⟩ K q h
  ·exact main
  ·obtain ⟨k,acc⟩:=x
   obtain ⟨⟨hk,hx⟩,hl⟩:=hx
   have hl:acc.length≤1000+4*k.toNat:=hl
   have hk:0≤k:=hk
   have hx:k≤32:=hx
   have hn:=fun K=>q_rText3R acc k ix0 ix0_1 K
   cases hc:ilt k 32 with
   | false =>
    have hc':=ilt_nof hc
    have e0:(32-k).toNat=0:=by omega
    refine .inr ⟨.exit 0,{ fr:=[(3,.str acc)],tab:=[] },by simp,fun K=>?_,fun K=>?_⟩
    ·refine (hn K).trans ?_
     rw [hc]; rfl
    ·simp only [e0]
     show K _ { fr:=[(3,.str (acc++[]))],tab:=[] }=_
     rw [List.append_nil]
   | true =>
    have hc':=ilt_of hc
    obtain ⟨j,hj⟩:∃ j,(32-k).toNat=j+1:=⟨(32-k).toNat-1,by omega⟩
    have hj' : (32-(k+1)).toNat=j:=by omega
    have t2:IntKind.wrap .i64 (k+1)=k+1:=wr_i64 (by omega) (by omega)
    have er:N.textLoop ix0_1 (j+1) k=cond (N.refHas ⟨0,ix0_1⟩ k) (58::(N.digN k.toNat++N.textLoop ix0_1 j (k+1))) (N.textLoop ix0_1 j (k+1)):=rfl
    have dl:=dig_len k.toNat
    obtain ⟨i,rfl⟩:=Int.eq_ofNat_of_zero_le hk
    simp only [Int.toNat_natCast] at dl hl er
    have t1:decide (((i:Nat):Int)<0)=false:=decide_eq_false (by omega)
    have b1:=ile_t (show (0:Int)≤(i:Int) by omega)
    have b2:=ile_t (show (i:Int)≤255 by omega)
    have b3:=ilt_t (show (i:Int)<256 by omega)
    have b4:=ble_t (show 1+(N.digN i).length≤9223372036854775807 by omega)
    have b5:=ble_t (show acc.length+([58]++N.digN i:Bytes).length≤9223372036854775807 by rw [List.length_append,List.length_singleton]; omega)
    have b6:=ble_t (show acc.length+1≤9223372036854775807 by omega)
    have b7:=ble_t (show (acc++[58]:Bytes).length+(N.digN i).length≤9223372036854775807 by rw [List.length_append,List.length_singleton]; omega)
    have hh:N.refHas ⟨ix0,ix0_1⟩ (i:Int)=N.refHas ⟨0,ix0_1⟩ (i:Int):=rfl
    simp only [hc,t2,hh,b1,b3,b6,b7,Int.toNat_natCast,cond_true] at hn
    refine .inl ⟨((i:Int)+1,acc++cond (N.refHas ⟨0,ix0_1⟩ (i:Int)) (58::N.digN i) []),⟨⟨by show (0:Int)≤(i:Int)+1; omega,by show (i:Int)+1≤32; omega⟩,?_⟩,by simp only; omega,fun K=>?_,fun K=>?_⟩
    ·simp only [List.length_append]
     cases N.refHas ⟨0,ix0_1⟩ (i:Int)<;>simp<;>omega
    ·refine (hn K).trans ?_
     cases N.refHas ⟨0,ix0_1⟩ (i:Int) with
     | true=>simp only [cond_true,List.append_assoc]; rfl
     | false=>simp only [cond_false,List.append_nil]
    ·simp only [hj',hj,er]
     cases N.refHas ⟨0,ix0_1⟩ (i:Int) with
     | true=>simp only [cond_true,List.append_assoc,List.cons_append]
     | false=>simp only [cond_false,List.append_nil]
 ·cases h
theorem ok_rText3:FnOk Tryz.prog 67 dLText:=by
 refine den_okF (env_ok (((TOk.nil _).cons ok_digC).cons ok_has)) (E:=eRText3) Tryz.func67 [3] (by kernel_rfl) (one1 ok_rText3_3) fun a b hp=>?_
 obtain ⟨h1,h2⟩:=bcond (show cond (cond (ile 0 a.level) (ile a.level 255) false) (cond (ile 0 a.set) (ilt a.set 4294967296) false) false=true from hp)
 obtain ⟨h1,h3⟩:=bcond h1
 obtain ⟨h2,h4⟩:=bcond h2
 have h1':=ile_of h1
 have h3':=ile_of h3
 refine (q_rText3 a).trans ?_
 have w:IntKind.wrap .i64 a.level=a.level:=wr_i64 (by omega) (by omega)
 have dl:=dig_len a.level.toNat
 have b1:=ilt_t (show a.level<256 by omega)
 have b2:=ble_t (show (N.digN a.level.toNat).length≤1000 by omega)
 simp only [w,h1,h2,h4,b1,b2,cond_true]
 try rfl
end Go.Ev

/- Labels' texts are written,by the program: lemmas,no condition. -/
namespace Go.Ev
open Go Go.Proofs
set_option maxRecDepth 100000
-- FOLD
def schLText:SSch:={ fr:=[(1,.ptr 10000 0 0),(3,.str),(9,.int .i64)],tab:=[(10000,.var [.int .u8,.int .u32])] }
def gLText:List Leaf→(Ex→St→Option R)→Option R
 | [.s s3,.i i9,.i _,.i ix0_1],K=>cond (ile 0 i9) (cond (ile i9 32) (cond (ile 0 ix0_1) (cond (ilt ix0_1 4294967296) (cond (Nat.ble s3.length 1000) (K (.exit 0) { fr:=[(3,.str (s3++N.textLoop ix0_1 (32-i9).toNat i9))],tab:=[] }) none) none) none) none) none
 | _,_=>none
noncomputable def eLText:Env:=env Tryz.prog [(54,dItoa)] [(3,loopF schLText gLText)] [(3,[(0,[1,3,9]),(1,[3]),(1000,[2])])]
theorem q_lText (a:Label):evFn eLText 55 ((aOne (vAgg cLabel)).enc a) ([]) some =
 cond (bif ile (0:Int) (IntKind.wrap .i64 (Label.level a)) then ile (IntKind.wrap .i64 (Label.level a)) (255:Int) else false) (cond (ile (0:Int) (Label.set a)) (cond (ilt (Label.set a) (4294967296:Int)) (cond (Nat.ble (List.length (N.digN (Int.toNat (IntKind.wrap .i64 (Label.level a))))) 1000) (some {v:=V.str (N.digN (Int.toNat (IntKind.wrap .i64 (Label.level a)))++N.textLoop (Label.set a) 32 (0:Int)),bx:=[]:DRes}) (none)) (none)) (none)) (none):=by kernel_rfl
theorem q_lTextR (s3:Bytes) (i9:Int) (ix0:Int) (ix0_1:Int) (K:Ex→St→Option R):evRound eLText 55 3 { fr:=[(1,.ptr 10000 0 0 0),(3,.str s3),(9,.int .i64 i9)],tab:=[(10000,.var [.int .u8 ix0,.int .u32 ix0_1])] } K =
 cond (ilt i9 (32:Int)) (cond (decide (i9<(0:Int))) (none) (cond (ibits BinOp.and .u32 (shr .u32 ix0_1 i9) (1:Int)==(1:Int)) (cond (bif ile (0:Int) i9 then ile i9 (255:Int) else false) (cond (Nat.ble (1+List.length (N.digN (Int.toNat i9))) 9223372036854775807) (cond (Nat.ble (List.length s3+List.length ([(58:UInt8)]++N.digN (Int.toNat i9))) 9223372036854775807) (K Ex.normal {fr:=[(1,V.ptr 10000 0 0 0),(3,V.str (s3++([(58:UInt8)]++N.digN (Int.toNat i9)))),(9,V.int .i64 (IntKind.wrap .i64 (i9+(1:Int))))],tab:=[(10000,Box.var [V.int .u8 ix0,V.int .u32 ix0_1])]:St}) (none)) (none)) (none)) (K Ex.normal {fr:=[(1,V.ptr 10000 0 0 0),(3,V.str s3),(9,V.int .i64 (IntKind.wrap .i64 (i9+(1:Int))))],tab:=[(10000,Box.var [V.int .u8 ix0,V.int .u32 ix0_1])]:St}))) (K (Ex.exit 0) {fr:=[(3,V.str s3)],tab:=[]:St}):=by kernel_rfl
theorem ok_lText_3:RoundsOk eLText 55 3:=by
 refine rounds_of rfl fun l K q h=>?_
 unfold gLText at h
 split at h
 ·rename_i s3 i9 ix0 ix0_1
  have h1:=(cond_none h).1; replace h:=(cond_none h).2; have h2:=(cond_none h).1; replace h:=(cond_none h).2; have h3:=(cond_none h).1; replace h:=(cond_none h).2; have h4:=(cond_none h).1; replace h:=(cond_none h).2; have h5:=(cond_none h).1; replace h:=(cond_none h).2
  have h1:=ile_of h1
  have h2:=ile_of h2
  have h3:=ile_of h3
  have h4:=ilt_of h4
  have h5:=ble_of h5
  obtain ⟨S,hS⟩:=Int.eq_ofNat_of_zero_le h3
  have main:=loop_ind (E:=eLText) (f:=55) (id:=3) (σ:=Int × Bytes) (fun x=>{ fr:=[(1,.ptr 10000 0 0 0),(3,.str x.2),(9,.int .i64 x.1)],tab:=[(10000,.var [.int .u8 ix0,.int .u32 ix0_1])] })
   (fun x=>(0≤x.1∧x.1≤32)∧x.2.length≤1000+4*x.1.toNat) (fun x=>(32-x.1).toNat) (fun x K=>K (.exit 0) { fr:=[(3,.str (x.2++N.textLoop ix0_1 (32-x.1).toNat x.1))],tab:=[] }) (fun x hx=>?_) (i9,s3) ⟨⟨h1,h2⟩,by show s3.length≤1000+4*(i9).toNat; omega⟩ K q h
  ·exact main
  ·obtain ⟨k,acc⟩:=x
   obtain ⟨⟨hk,hx⟩,hl⟩:=hx
   have hl:acc.length≤1000+4*k.toNat:=hl
   have hk:0≤k:=hk
   have hx:k≤32:=hx
   have hn:=fun K=>q_lTextR acc k ix0 ix0_1 K
   cases hc:ilt k 32 with
   | false =>
    have hc':=ilt_nof hc
    have e0:(32-k).toNat=0:=by omega
    refine .inr ⟨.exit 0,{ fr:=[(3,.str acc)],tab:=[] },by simp,fun K=>?_,fun K=>?_⟩
    ·refine (hn K).trans ?_
     rw [hc]; rfl
    ·simp only [e0]
     show K _ { fr:=[(3,.str (acc++[]))],tab:=[] }=_
     rw [List.append_nil]
   | true =>
    have hc':=ilt_of hc
    obtain ⟨j,hj⟩:∃ j,(32-k).toNat=j+1:=⟨(32-k).toNat-1,by omega⟩
    have hj' : (32-(k+1)).toNat=j:=by omega
    have t2:IntKind.wrap .i64 (k+1)=k+1:=wr_i64 (by omega) (by omega)
    have hb:(ibits .and .u32 (shr .u32 ix0_1 k) 1==(1:Int))=N.refHas ⟨0,ix0_1⟩ k:=by
     obtain ⟨i,rfl⟩:=Int.eq_ofNat_of_zero_le hk
     rw [hS]
     exact has_and (by omega) (by omega) 0
    have er:N.textLoop ix0_1 (j+1) k=cond (N.refHas ⟨0,ix0_1⟩ k) (58::(N.digN k.toNat++N.textLoop ix0_1 j (k+1))) (N.textLoop ix0_1 j (k+1)):=rfl
    have dl:=dig_len k.toNat
    obtain ⟨i,rfl⟩:=Int.eq_ofNat_of_zero_le hk
    simp only [Int.toNat_natCast] at dl hl er
    have t1:decide (((i:Nat):Int)<0)=false:=decide_eq_false (by omega)
    have b1:=ile_t (show (0:Int)≤(i:Int) by omega)
    have b2:=ile_t (show (i:Int)≤255 by omega)
    have b3:=ilt_t (show (i:Int)<256 by omega)
    have b4:=ble_t (show 1+(N.digN i).length≤9223372036854775807 by omega)
    have b5:=ble_t (show acc.length+([58]++N.digN i:Bytes).length≤9223372036854775807 by rw [List.length_append,List.length_singleton]; omega)
    have b6:=ble_t (show acc.length+1≤9223372036854775807 by omega)
    have b7:=ble_t (show (acc++[58]:Bytes).length+(N.digN i).length≤9223372036854775807 by rw [List.length_append,List.length_singleton]; omega)
    have hh:N.refHas ⟨ix0,ix0_1⟩ (i:Int)=N.refHas ⟨0,ix0_1⟩ (i:Int):=rfl
    simp only [hc,t1,t2,hb,b1,b2,b4,b5,Int.toNat_natCast,cond_true,cond_false] at hn
    refine .inl ⟨((i:Int)+1,acc++cond (N.refHas ⟨0,ix0_1⟩ (i:Int)) (58::N.digN i) []),⟨⟨by show (0:Int)≤(i:Int)+1; omega,by show (i:Int)+1≤32; omega⟩,?_⟩,by simp only; omega,fun K=>?_,fun K=>?_⟩
    ·simp only [List.length_append]
     cases N.refHas ⟨0,ix0_1⟩ (i:Int)<;>simp<;>omega
    ·refine (hn K).trans ?_
     cases N.refHas ⟨0,ix0_1⟩ (i:Int) with
     | true=>simp only [cond_true]; rfl
     | false=>simp only [cond_false,List.append_nil]
    ·simp only [hj',hj,er]
     cases N.refHas ⟨0,ix0_1⟩ (i:Int) with
     | true=>simp only [cond_true,List.append_assoc,List.cons_append]
     | false=>simp only [cond_false,List.append_nil]
 ·cases h
theorem ok_lText:FnOk Tryz.prog 55 dLText:=by
 refine den_okF (env_ok ((TOk.nil _).cons ok_itoa)) (E:=eLText) Tryz.func55 [3] (by kernel_rfl) (one1 ok_lText_3) fun a b hp=>?_
 obtain ⟨h1,h2⟩:=bcond (show cond (cond (ile 0 a.level) (ile a.level 255) false) (cond (ile 0 a.set) (ilt a.set 4294967296) false) false=true from hp)
 obtain ⟨h1,h3⟩:=bcond h1
 obtain ⟨h2,h4⟩:=bcond h2
 have h1':=ile_of h1
 have h3':=ile_of h3
 refine (q_lText a).trans ?_
 have w:IntKind.wrap .i64 a.level=a.level:=wr_i64 (by omega) (by omega)
 have dl:=dig_len a.level.toNat
 have b1:=ilt_t (show a.level<256 by omega)
 have b2:=ble_t (show (N.digN a.level.toNat).length≤1000 by omega)
 simp only [w,h1,h2,h3,h4,b2,cond_true]
 try rfl
end Go.Ev

/- The turns of slots,gone through by the program's iterator: lemmas,no condition. -/
namespace Go.Proofs
open Go.RowKit Go.Shelf
attribute [local go_sem] Oper.semAt_some
abbrev slPol (wk gv:Int) (pl gr:Value) (b:Option Addr) (len cap:Nat):Array Value:=#[.int .i64 wk,.int .i64 gv,pl,.slice b len cap,gr]
end Go.Proofs

/- Labels are read,by the document: lemmas,no condition. -/
namespace Go.Ev
open Go Go.Proofs
set_option maxRecDepth 100000
-- FOLD
end Go.Ev
