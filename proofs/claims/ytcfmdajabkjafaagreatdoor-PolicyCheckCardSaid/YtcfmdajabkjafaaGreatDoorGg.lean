/- Numbers of texts: the plain functions and the library's contract: definitions and lemmas,no condition. -/
import Derived.Test.YtcfmdajabkjafaaGreatDoorGe
import Derived.Test.YtcfmdajabkjafaaGreatDoorShelf
import Derived.KernelRfl
import Derived.Lib.FieldsP
import Derived.Test.YtcfmdajabkjafaaGreatDoorGc
import Derived.Test.YtcfmdajabkjafaaGreatDoorProg
import Derived.Lib.Bytealg
namespace Go.Ev
open Go Go.Proofs Go.RowKit
set_option maxRecDepth 100000
namespace N
def valN:Nat→Bytes→Nat
 | a,[]=>a
 | a,c::r=>valN (a*10+(c.toNat-48)) r
def pForm (s:Bytes):Bool:=cond (Nat.beq s.length 0) false (cond (cond (ilt 1 s.length) ((s.getD 0 0).toNat==(48:Int)) false) false (s.all isDigit))
def pNumber (s:Bytes) (most:Int):Int × Int:=cond (pForm s) (cond (ilt most (valN 0 s)) (0,7) ((valN 0 s:Nat),0)) (0,4)
def pu (s:Bytes):Int × Bool:=cond (Nat.ble (valN 0 s) 18446744073709551615) ((valN 0 s:Nat),true) (18446744073709551615,false)
end N
theorem valN_le:∀ (s:Bytes) (a:Nat),a≤N.valN a s
 | [],a=>Nat.le_refl _
 | c::r,a=>by
  have:=valN_le r (a*10+(c.toNat-48))
  show a≤N.valN (a*10+(c.toNat-48)) r
  omega
theorem uintM_val:∀ (s:Bytes) (a:Nat),a≤18446744073709551615→s.all N.isDigit=true→Lib.parseUintM 18446744073709551615 a s=cond (Nat.ble (N.valN a s) 18446744073709551615) (.ok (N.valN a s)) .range
 | [],a,h,_=>by
  show Lib.NumEnd.ok a=cond (Nat.ble a 18446744073709551615) (.ok a) .range
  rw [ble_t h]; rfl
 | c::r,a,h,hd=>by
  rw [List.all_cons,Bool.and_eq_true] at hd
  have hc:=(N.isDigit_iff c).1 hd.1
  have hm:=valN_le r (a*10+(c.toNat-48))
  have hc1:48≤c.toNat∧c.toNat≤57:=by omega
  have e:N.valN a (c::r)=N.valN (a*10+(c.toNat-48)) r:=rfl
  unfold Lib.parseUintM
  rw [if_pos hc1,e]
  by_cases h1:1844674407370955162≤a
  ·rw [if_pos h1,show Nat.ble (N.valN (a*10+(c.toNat-48)) r) 18446744073709551615=false from by
    rw [Bool.eq_false_iff]; intro hh; have:=Nat.le_of_ble_eq_true hh; omega]; rfl
  ·rw [if_neg h1]
   by_cases h2:18446744073709551615<a*10+(c.toNat-48)
   ·rw [if_pos h2,show Nat.ble (N.valN (a*10+(c.toNat-48)) r) 18446744073709551615=false from by
     rw [Bool.eq_false_iff]; intro hh; have:=Nat.le_of_ble_eq_true hh; omega]; rfl
   ·rw [if_neg h2]
    exact uintM_val r _ (by omega) hd.2
theorem uint_val {s:Bytes} (h0:s ≠ []) (h:s.all N.isDigit=true):Lib.parseUintB 64 s=cond (Nat.ble (N.valN 0 s) 18446744073709551615) (.ok (N.valN 0 s)) .range:=by
 unfold Lib.parseUintB
 rw [if_neg h0]
 exact uintM_val s 0 (by decide) h
theorem enter_ok' {P : Program} {f : FuncId} {fn : Func} (hf : P.funcs[f]? = some fn) (hb : fn.body.isSome = true) (hn : (fn.name == "runtime.NumGoroutine") = false) (xs : Array Value) (w : World) : (callFunc f xs).run P w = .ok (.enter f xs) w := by
 have hnm : ¬ fn.name = "runtime.NumGoroutine" := by
  intro e
  rw [e] at hn; cases hn
 obtain ⟨c,hc⟩:=Option.isSome_iff_exists.1 hb
 simp [callFunc,hf,hnm,hc]
theorem keeps_belowY {w w' : World} (X:Nat→Nat→Prop) (h:Below w.heap.size w w'):Keeps X w w' :=
 ⟨h.os,h.tape,h.output,h.size,fun b hb=>ObjOk.same (h.block b hb)⟩
theorem ret_plain' {w w' : World} {J:Nat→Nat→Prop} {v:V} {x:Value} (hJ:∀ b o,J b o→b<w.heap.size) (hb:Below w.heap.size w w') (hv:Rv w' J noRho v x):RetOk w w' J [] [] ⟨v,[],[]⟩ x J :=
 ⟨keeps_belowY _ hb,fun _ _ h=>h,fun b o h=>Nat.lt_of_lt_of_le (hJ b o h) hb.size,fun _ _ h _=>h,rfl,(fun j cs cs' p hj=>by simp at hj),.inl ⟨rfl,hv⟩⟩
def oPU (r:Int × Bool):Out:={ v:=.tup [.int .u64 r.1,.ifc r.2] }
def dParseUint:Den:=den (aCons vStr (aCons (vInt .i64) (aOne (vInt .i64)))) bNil oPU (fun a _=>cond (Nat.beq a.1.length 0) false (cond (a.1.all N.isDigit) (cond (Nat.ble a.1.length 1000000) (cond (a.2.1==10) (a.2.2==64) false) false) false)) fun a _=>(N.pu a.1,())
theorem ok_parseUint:FnOk Tryz.prog 120 dParseUint:=by
 refine den_of fun a u h=>?_
 obtain ⟨s,b,z⟩:=a
 have h:cond (Nat.beq s.length 0) false (cond (s.all N.isDigit) (cond (Nat.ble s.length 1000000) (cond (b==10) (z==64) false) false) false)=true:=h
 cases h0:Nat.beq s.length 0 with
 | true=>rw [h0] at h; cases h
 | false =>
 rw [h0] at h
 obtain ⟨h1,h⟩:=bcond (show cond (s.all N.isDigit) (cond (Nat.ble s.length 1000000) (cond (b==10) (z==64) false) false) false=true from h)
 obtain ⟨h2,h⟩:=bcond h
 obtain ⟨h3,h4⟩:=bcond h
 have h2:s.length≤1000000:=ble_of h2
 obtain rfl:=ieq_of h3
 obtain rfl:=ieq_of h4
 have hne:s ≠ []:=fun e=>by rw [e] at h0; cases h0
 have hu:=uint_val hne h1
 intro x y hxy w J locs xs hlen hJ hx _ _ hH
 have hxy:x=(aCons vStr (aCons (vInt .i64) (aOne (vInt .i64)))).enc (s,10,64)∧y=bNil.enc u:=by simpa using hxy
 obtain ⟨rfl,rfl⟩:=hxy
 have hlen:locs=[]:=List.eq_nil_of_length_eq_zero hlen
 subst hlen
 obtain ⟨x0,xs1,rfl,hx0,hx⟩:=hx.uncons
 obtain ⟨x1,xs2,rfl,hx1,hx⟩:=hx.uncons
 obtain ⟨x2,rfl,hx2⟩:=hx.one
 have hx0:=Rv.str_inv (show Rv w J _ (.str s) x0 from hx0)
 have hx1:=Rv.int_inv (show Rv w J _ (.int .i64 10) x1 from hx1)
 have hx2:=Rv.int_inv (show Rv w J _ (.int .i64 64) x2 from hx2)
 subst hx0 hx1 hx2
 refine .inl ⟨enter_ok' Tryz.func120 (by kernel_rfl) (by kernel_rfl) _ _,?_⟩
 have hsz:(ByteArray.mk s.toArray).size=s.length:=by simp [ByteArray.size]
 have hres:∀ (q:Int × Bool) (w' : World) (x:Value),N.pu s=q→Below w.heap.size w w'→Rv w' J noRho (.ifc q.2) x→RetOk w w' J [] [] ⟨.tup [.int .u64 q.1,.ifc q.2],[],[]⟩ (.tuple #[.int .u64 q.1,x]) J:=fun q w' x _ hb hv =>
  ret_plain' hJ hb (.tup [.int .u64 q.1,.ifc q.2] [.int .u64 q.1,x] rfl fun i hi=>by
   match i,hi with
   | 0,_=>exact .dat (.int _ _)
   | 1,_=>exact hv)
 cases hc:Nat.ble (N.valN 0 s) 18446744073709551615 with
 | true =>
  rw [hc] at hu
  have e:N.pu s=(((N.valN 0 s:Nat):Int),true):=by unfold N.pu; rw [hc]; rfl
  refine (Tryz.strconv_ParseUint_10_at64_ok ⟨s.toArray⟩ (by rw [hsz]; omega) (N.valN 0 s) hu w).mono fun e' w' ⟨he,hw⟩=>⟨_,he,J,?_⟩
  have hb:Below w.heap.size w w':=by
   rcases hw with rfl | rfl
   ·exact Below.refl _ _
   ·exact Lib.bytesWorld_below _ _ _
  show RetOk w w' J [] [] ⟨.tup [.int .u64 (N.pu s).1,.ifc (N.pu s).2],[],[]⟩ _ J
  rw [e]
  exact hres _ w' .nilIface e hb (.ifc true _ (fun _=>rfl) (fun h=>by cases h))
 | false =>
  rw [hc] at hu
  have e:N.pu s=(18446744073709551615,false):=by unfold N.pu; rw [hc]; rfl
  obtain ⟨_,⟨ev,hev,hcell⟩,_⟩:=hH 7 0 .ifc (by kernel_rfl)
  refine (Tryz.strconv_ParseUint_10_at64_range ⟨s.toArray⟩ (by rw [hsz]; omega) hu ev w hcell hev).mono fun e' w' ⟨Nn,he,_,_,hb⟩=>⟨_,he,J,?_⟩
  show RetOk w w' J [] [] ⟨.tup [.int .u64 (N.pu s).1,.ifc (N.pu s).2],[],[]⟩ _ J
  rw [e]
  exact hres _ w' _ e hb (.ifc false _ (fun h=>by cases h) (fun _=>⟨_,_,rfl⟩))
end Go.Ev

/- Numbers of texts,by the program and by the document: lemmas,no condition. -/
namespace Go.Ev
open Go Go.Proofs
set_option maxRecDepth 100000
-- FOLD
namespace N
end N
theorem wrU {n:Int} (h0:0≤n) (h1:n≤18446744073709551615):IntKind.wrap .u64 n=n:=by
 show n % 18446744073709551616=n
 omega
theorem drop_getY {s:Bytes} {k:Nat} (hk:k<s.length):s.drop k=s.getD k 0::s.drop (k+1):=by
 rw [List.getD_eq_getElem?_getD,List.getElem?_eq_getElem hk,Option.getD_some]
 exact List.drop_eq_getElem_cons hk
def dPNumber:Den:=den (aCons vStr (aOne (vInt .u64))) bNil (oTup (aCons (vInt .u64) (aOne (vInt .i64)))) (fun a _=>cond (Nat.ble a.1.length 1000000) (cond (ile 0 a.2) (ile a.2 18446744073709551615) false) false) fun a _=>(N.pNumber a.1 a.2,())
def schPNumber:SSch:={ fr:=[(0,.str),(1,.int .u64),(22,.int .i64),(23,.int .i64)],tab:=[] }
def gPNumber:List Leaf→(Ex→St→Option R)→Option R
 | [.s s0,.i i1,.i i22,.i i23],K=>cond (ile 0 i23) (cond (ile i23 s0.length) (cond (i22==s0.length) (cond (Nat.ble s0.length 1000000) (cond ((s0.drop i23.toNat).all N.isDigit) (K (.exit 0) { fr:=[(0,.str s0),(1,.int .u64 i1)],tab:=[] }) (K .ret { fr:=[(4,.int .u64 0),(5,.int .i64 4)],tab:=[] })) none) none) none) none
 | _,_=>none
noncomputable def ePNumber:Env:=env Tryz.prog [(120,dParseUint)] [(4,loopF schPNumber gPNumber)] [(4,[(0,[0,1,22,23]),(1,[0,1]),(1000,[4,5])])]
theorem q_pNumber_ (s:Bytes) (most:Int):evFn ePNumber 98 ((aCons vStr (aOne (vInt .u64))).enc (s,most)) ([]) some =(
 let z3:=(↑(List.length s):Int);let z2:=(some {v:=V.tup [V.int .u64 (0:Int),V.int .i64 (7:Int)],bx:=[]:DRes});let z1:=(some {v:=V.tup [V.int .u64 (0:Int),V.int .i64 (4:Int)],bx:=[]:DRes});let z0:=(cond (z3==z3) (cond (Nat.ble (List.length s) 1000000) (cond (List.all (List.drop 0 s) N.isDigit) (cond (bif Nat.beq (List.length s) 0 then false else bif List.all s N.isDigit then bif Nat.ble (List.length s) 1000000 then true else false else false) (cond (!Prod.snd (N.pu s)) z2 (cond (ilt most (Prod.fst (N.pu s))) z2 (some {v:=V.tup [V.int .u64 (Prod.fst (N.pu s)),V.int .i64 (0:Int)],bx:=[]:DRes}))) (none)) z1) (none)) (none));cond (s==[]) z1 (cond (ilt (1:Int) z3) (cond (decide ((0:Int)≤(0:Int)∧(0:Int)<z3)) (cond ((↑(UInt8.toNat (List.getD s 0 (0:UInt8))):Int)==(48:Int)) z1 z0) (none)) z0)):=by kernel_rfl
theorem q_pNumber (s:Bytes) (most:Int):type_of% (by have h:=q_pNumber_ s most; dsimp only at h; exact h):=by
 have h:=q_pNumber_ s most
 dsimp only at h
 exact h
theorem q_pNumberR (s0:Bytes) (i1:Int) (i22:Int) (i23:Int) (K:Ex→St→Option R):evRound ePNumber 98 4 { fr:=[(0,.str s0),(1,.int .u64 i1),(22,.int .i64 i22),(23,.int .i64 i23)],tab:=[] } K =
 cond (ilt i23 i22) (cond (decide ((0:Int)≤i23∧i23<(↑(List.length s0):Int))) (cond (ilt (↑(UInt8.toNat (List.getD s0 (Int.toNat i23) (0:UInt8))):Int) (48:Int)) (K Ex.ret {fr:=[(4,V.int .u64 (0:Int)),(5,V.int .i64 (4:Int))],tab:=[]:St}) (cond (decide ((0:Int)≤i23∧i23<(↑(List.length s0):Int))) (cond (ilt (57:Int) (↑(UInt8.toNat (List.getD s0 (Int.toNat i23) (0:UInt8))):Int)) (K Ex.ret {fr:=[(4,V.int .u64 (0:Int)),(5,V.int .i64 (4:Int))],tab:=[]:St}) (K Ex.normal {fr:=[(0,V.str s0),(1,V.int .u64 i1),(22,V.int .i64 i22),(23,V.int .i64 (IntKind.wrap .i64 (i23+(1:Int))))],tab:=[]:St})) (none))) (none)) (K (Ex.exit 0) {fr:=[(0,V.str s0),(1,V.int .u64 i1)],tab:=[]:St}):=by kernel_rfl
theorem ok_pNumber_4:RoundsOk ePNumber 98 4:=by
 refine rounds_of rfl fun l K q h=>?_
 unfold gPNumber at h
 split at h
 ·rename_i s0 i1 i22 i23
  have h1:=(cond_none h).1; replace h:=(cond_none h).2; have h2:=(cond_none h).1; replace h:=(cond_none h).2; have h3:=(cond_none h).1; replace h:=(cond_none h).2; have h4:=(cond_none h).1; replace h:=(cond_none h).2
  have h1:=ile_of h1
  have h2:=ile_of h2
  obtain rfl:=ieq_of h3
  have h4:s0.length≤1000000:=ble_of h4
  have main:=loop_ind (E:=ePNumber) (f:=98) (id:=4) (σ:=Int) (fun x=>{ fr:=[(0,.str s0),(1,.int .u64 i1),(22,.int .i64 s0.length),(23,.int .i64 x)],tab:=[] })
   (fun x=>0≤x∧x≤s0.length) (fun x=>(s0.length-x).toNat)
   (fun x K=>cond ((s0.drop x.toNat).all N.isDigit) (K (.exit 0) { fr:=[(0,.str s0),(1,.int .u64 i1)],tab:=[] }) (K .ret { fr:=[(4,.int .u64 0),(5,.int .i64 4)],tab:=[] }))
   (fun x hx=>?_) i23 ⟨h1,h2⟩ K q h
  ·exact main
  ·obtain ⟨he,hel⟩:=hx
   have hn:=fun K=>q_pNumberR s0 i1 s0.length x K
   obtain ⟨k,rfl⟩:=Int.eq_ofNat_of_zero_le he
   simp only [Int.toNat_natCast] at hn ⊢
   by_cases hk:k<s0.length
   ·have hd:=drop_getY hk
    have t1:ilt (k:Int) s0.length=true:=ilt_t (by omega)
    have t2:decide ((0:Int)≤(k:Int)∧(k:Int)<s0.length)=true:=decide_eq_true (by omega)
    have t3:IntKind.wrap .i64 ((k:Int)+1)=(k:Int)+1:=wr_i64 (by omega) (by omega)
    rw [hd]
    generalize s0.getD k 0=c at *
    simp only [t1,t2,t3,cond_true] at hn
    simp only [List.all_cons]
    cases c1:ilt (c.toNat:Int) 48 with
    | true =>
     refine .inr ⟨.ret,_,by simp,fun K=>by rw [hn,c1]; rfl,fun K=>?_⟩
     rw [show N.isDigit c=false from by unfold N.isDigit; rw [c1]; rfl]; rfl
    | false =>
     cases c2:ilt 57 (c.toNat:Int) with
     | true =>
      refine .inr ⟨.ret,_,by simp,fun K=>by rw [hn,c1,c2]; rfl,fun K=>?_⟩
      rw [show N.isDigit c=false from by unfold N.isDigit; rw [c1,c2]; rfl]; rfl
     | false =>
      have hd1:N.isDigit c=true:=by unfold N.isDigit; rw [c1,c2]; rfl
      refine .inl ⟨(k:Int)+1,⟨by omega,by omega⟩,by omega,fun K=>?_,fun K=>?_⟩
      ·rw [hn,c1,c2]; rfl
      ·have ek:((k:Int)+1).toNat=k+1:=by omega
       simp only [hd1,Bool.true_and,ek]
   ·obtain rfl:k=s0.length:=by omega
    refine .inr ⟨.exit 0,{ fr:=[(0,.str s0),(1,.int .u64 i1)],tab:=[] },by simp,fun K=>?_,fun K=>?_⟩
    ·rw [hn,ilt_f (by omega)]; rfl
    ·rw [List.drop_length]; rfl
 ·cases h
theorem ok_pNumber:FnOk Tryz.prog 98 dPNumber:=by
 refine den_okF (env_ok ((TOk.nil _).cons ok_parseUint)) (E:=ePNumber) Tryz.func98 [4] (by kernel_rfl) (one1 ok_pNumber_4) fun a b hp=>?_
 obtain ⟨s,most⟩:=a
 obtain ⟨hl,hp⟩:=bcond (show cond (Nat.ble s.length 1000000) (cond (ile 0 most) (ile most 18446744073709551615) false) false=true from hp)
 obtain ⟨hm0,hm1⟩:=bcond hp
 have hm1:=ile_of hm1
 refine (q_pNumber s most).trans ?_
 show _=some (⟨.tup [.int .u64 (N.pNumber s most).1,.int .i64 (N.pNumber s most).2],[],[]⟩:DRes)
 have tail:s ≠ []→cond (s.all N.isDigit) (cond (bif Nat.beq s.length 0 then false else bif s.all N.isDigit then bif Nat.ble s.length 1000000 then true else false else false)
   (cond (!(N.pu s).2) (some (⟨.tup [.int .u64 0,.int .i64 7],[],[]⟩:DRes)) (cond (ilt most (N.pu s).1) (some ⟨.tup [.int .u64 0,.int .i64 7],[],[]⟩) (some ⟨.tup [.int .u64 (N.pu s).1,.int .i64 0],[],[]⟩))) none) (some ⟨.tup [.int .u64 0,.int .i64 4],[],[]⟩) =
   cond (s.all N.isDigit) (cond (ilt most (N.valN 0 s)) (some (⟨.tup [.int .u64 0,.int .i64 7],[],[]⟩:DRes)) (some ⟨.tup [.int .u64 (N.valN 0 s:Nat),.int .i64 0],[],[]⟩)) (some ⟨.tup [.int .u64 0,.int .i64 4],[],[]⟩):=fun hs=>by
  cases hd:s.all N.isDigit with
  | false=>rfl
  | true =>
   have hb:Nat.beq s.length 0=false:=by rw [Bool.eq_false_iff]; intro hh; exact hs (List.eq_nil_of_length_eq_zero (Nat.eq_of_beq_eq_true hh))
   rw [hb,hl]
   unfold N.pu
   cases hv:Nat.ble (N.valN 0 s) 18446744073709551615 with
   | true=>rfl
   | false =>
    have:ilt most (N.valN 0 s:Nat)=true:=ilt_t (by
     have:¬ N.valN 0 s≤18446744073709551615:=fun hh=>by rw [Nat.ble_eq_true_of_le hh] at hv; cases hv
     omega)
    rw [this]; rfl
 unfold N.pNumber N.pForm
 cases s with
 | nil=>rfl
 | cons c r =>
  have e0:((c::r:Bytes)==[])=false:=rfl
  have e1:Nat.beq (c::r:Bytes).length 0=false:=rfl
  have e2:decide ((0:Int)≤(0:Int)∧(0:Int)<(((c::r:Bytes).length:Nat):Int))=true:=decide_eq_true ⟨Int.le_refl 0,by simp only [List.length_cons]; omega⟩
  have tail:=tail (by simp)
  rw [e1] at tail
  simp only [e0,e1,e2,hl,List.drop_zero,beq_self_eq_true,cond_true,cond_false] at tail ⊢
  cases ilt 1 (((c::r:Bytes).length:Nat):Int) with
  | false =>
   refine tail.trans ?_
   cases (c::r:Bytes).all N.isDigit with
   | false=>rfl
   | true=>cases ilt most (N.valN 0 (c::r))<;>rfl
  | true =>
   simp only [cond_true]
   cases ((((c::r:Bytes).getD 0 0).toNat:Int)==48) with
   | true=>rfl
   | false =>
    simp only [cond_false]
    refine tail.trans ?_
    cases (c::r:Bytes).all N.isDigit with
    | false=>rfl
    | true=>cases ilt most (N.valN 0 (c::r))<;>rfl
end Go.Ev

/- The words of a line: the plain function,and the library's FieldsFunc at the space: definitions and lemmas,no condition. -/
namespace Go.Ev
open Go Go.Proofs Go.RowKit
namespace N
def wordsGo:Bytes→Bytes→List Bytes
 | [],w=>cond (Nat.beq w.length 0) [] [w]
 | c::r,w=>cond (c.toNat==32) (cond (Nat.beq w.length 0) (wordsGo r []) (w::wordsGo r [])) (wordsGo r (w++[c]))
def wordsOf (s:Bytes):List Bytes:=wordsGo s []
end N
theorem wordsGo_app:∀ (x r w:Bytes),(∀ c∈x,c.toNat ≠ 32)→N.wordsGo (x++r) w=N.wordsGo r (w++x)
 | [],r,w,_=>by rw [List.nil_append,List.append_nil]
 | c::x,r,w,h=>by
  show cond (c.toNat==32) _ (N.wordsGo (x++r) (w++[c]))=_
  rw [show (c.toNat==32)=false from by simpa using h c (List.mem_cons_self ..),cond_false,wordsGo_app x r (w++[c]) fun d hd=>h d (List.mem_cons_of_mem _ hd),List.append_assoc]; rfl
theorem dec_step (l:Bytes) (i:Nat) (h:i<l.length):((Utf8.decode ⟨l.toArray⟩ i).1=32→(l.getD i 0).toNat=32∧(Utf8.decode ⟨l.toArray⟩ i).2=1)∧1≤(Utf8.decode ⟨l.toArray⟩ i).2∧i+(Utf8.decode ⟨l.toArray⟩ i).2≤l.length ∧
  ((Utf8.decode ⟨l.toArray⟩ i).1 ≠ 32→∀ k,k<(Utf8.decode ⟨l.toArray⟩ i).2→(l.getD (i+k) 0).toNat ≠ 32):=by
 have hg:∀ k,((⟨l.toArray⟩:ByteArray).get! (i+k))=l.getD (i+k) 0:=fun k=>by
  show l.toArray[i+k]! = _
  rw [List.getD_eq_getElem?_getD]
  simp only [List.getElem!_toArray,List.getElem!_eq_getElem?_getD]
  try rfl
 have hg0:((⟨l.toArray⟩:ByteArray).get! i)=l.getD i 0:=hg 0
 have hs:(⟨l.toArray⟩:ByteArray).size=l.length:=by simp [ByteArray.size]
 unfold Utf8.decode
 simp only [hg,hg0,hs,Nat.add_zero,Bool.and_eq_true,decide_eq_true_eq,beq_iff_eq,ge_iff_le]
 generalize e0:(l.getD i 0).toNat=b0
 generalize e1:(l.getD (i+1) 0).toNat=b1
 generalize e2:(l.getD (i+2) 0).toNat=b2
 generalize e3:(l.getD (i+3) 0).toNat=b3
 have z0:(l.getD (i+0) 0).toNat=b0:=e0
 have run:Utf8.runeError=65533:=rfl
 have one:b0 ≠ 32→∀ k,k<1→(l.getD (i+k) 0).toNat ≠ 32:=fun hb k hk=>by
  obtain rfl:k=0:=by omega
  rw [z0]; exact hb
 split
 ·rename_i c0
  exact ⟨fun e=>⟨e,rfl⟩,Nat.le_refl _,by omega,one⟩
 ·rename_i c0
  split
  ·rename_i c1
   split
   ·rename_i c2
    refine ⟨fun e=>absurd e (by simp only; omega),by simp only; omega,by simp only; omega,fun _ k hk=>?_⟩
    have:k=0∨k=1:=by simp only at hk; omega
    rcases this with rfl | rfl
    ·rw [z0]; omega
    ·rw [e1]; omega
   ·exact ⟨fun e=>absurd e (by simp only; omega),Nat.le_refl _,by simp only; omega,fun _=>one (by omega)⟩
  ·split
   ·rename_i c1
    split
    ·rename_i c2
     refine ⟨fun e=>absurd e (by simp only; omega),by simp only; omega,by simp only; omega,fun _ k hk=>?_⟩
     have:k=0∨k=1∨k=2:=by simp only at hk; omega
     rcases this with rfl | rfl | rfl
     ·rw [z0]; omega
     ·rw [e1]; omega
     ·rw [e2]; omega
    ·exact ⟨fun e=>absurd e (by simp only; omega),Nat.le_refl _,by simp only; omega,fun _=>one (by omega)⟩
   ·split
    ·rename_i c1
     split
     ·rename_i c2
      refine ⟨fun e=>absurd e (by simp only; omega),by simp only; omega,by simp only; omega,fun _ k hk=>?_⟩
      have:k=0∨k=1∨k=2∨k=3:=by simp only at hk; omega
      rcases this with rfl | rfl | rfl | rfl
      ·rw [z0]; omega
      ·rw [e1]; omega
      ·rw [e2]; omega
      ·rw [e3]; omega
     ·exact ⟨fun e=>absurd e (by simp only; omega),Nat.le_refl _,by simp only; omega,fun _=>one (by omega)⟩
    ·exact ⟨fun e=>absurd e (by simp only; omega),Nat.le_refl _,by simp only; omega,fun _=>one (by omega)⟩
def isSp (r:Nat):Bool:=decide ((r:Int)=32)
def piece (l:Bytes) (x:Nat × Nat):Bytes:=(l.drop x.1).take (x.2-x.1)
def openP (l:Bytes):Option Nat→Nat→Bytes
 | none,_=>[]
 | some a,p=>piece l (a,p)
theorem piece_more {l:Bytes} {a p d:Nat} (h1:a≤p):piece l (a,p)++(l.drop p).take d=piece l (a,p+d):=by
 unfold piece
 simp only
 rw [show p+d-a=(p-a)+d by omega,List.take_add,List.drop_drop,show a+(p-a)=p by omega]
theorem spans_words (l:Bytes):∀ (f pos:Nat) (st:Option Nat) (acc:List (Nat × Nat)),l.length≤pos+f→pos≤l.length→(∀ a,st=some a→a<pos) →
  (Lib.closeSpans ⟨l.toArray⟩ (Lib.spansFromP isSp ⟨l.toArray⟩ f pos st acc)).map (piece l)=acc.map (piece l)++N.wordsGo (l.drop pos) (openP l st pos):=by
 have hs:(⟨l.toArray⟩:ByteArray).size=l.length:=by simp [ByteArray.size]
 have stop:∀ (pos:Nat) (st:Option Nat) (acc:List (Nat × Nat)),pos=l.length→(∀ a,st=some a→a<pos)→(Lib.closeSpans ⟨l.toArray⟩ (acc,st)).map (piece l)=acc.map (piece l)++N.wordsGo (l.drop pos) (openP l st pos):=fun pos st acc hp ha=>by
  rw [hp,List.drop_length]
  unfold Lib.closeSpans
  cases st with
  | none=>show acc.map (piece l)=_; simp [N.wordsGo,openP]
  | some a =>
   have:=ha a rfl
   have hl:Nat.beq (piece l (a,l.length)).length 0=false:=by
    rw [Bool.eq_false_iff]; intro hh
    have:=Nat.eq_of_beq_eq_true hh
    unfold piece at this
    simp only [List.length_take,List.length_drop] at this
    omega
   show (acc++[(a,(⟨l.toArray⟩:ByteArray).size)]).map (piece l)=acc.map (piece l)++cond (Nat.beq (piece l (a,l.length)).length 0) [] [piece l (a,l.length)]
   rw [hl,hs,List.map_append]; rfl
 intro f
 induction f with
 | zero=>exact fun pos st acc h1 h2 h3=>stop pos st acc (by omega) h3
 | succ f ih =>
  intro pos st acc h1 h2 h3
  unfold Lib.spansFromP
  rw [hs]
  by_cases hp:pos<l.length
  ·rw [if_pos hp]
   obtain ⟨d1,d2,d3,d4⟩:=dec_step l pos hp
   generalize Utf8.decode ⟨l.toArray⟩ pos=d at *
   have hd:l.drop pos=(l.drop pos).take d.2++l.drop (pos+d.2):=by rw [← List.drop_drop,List.take_append_drop]
   by_cases hc:d.1=32
   ·obtain ⟨g1,g2⟩:=d1 hc
    have hi:isSp d.1=true:=by unfold isSp; rw [hc]; rfl
    have hdr:=drop_getY hp
    rw [if_pos hi,g2,hdr]
    have e:∀ w,N.wordsGo (l.getD pos 0::l.drop (pos+1)) w=cond (Nat.beq w.length 0) (N.wordsGo (l.drop (pos+1)) []) (w::N.wordsGo (l.drop (pos+1)) []):=fun w=>by
     show cond ((l.getD pos 0).toNat==32) _ _=_
     rw [show ((l.getD pos 0).toNat==32)=true from by simpa using g1]; rfl
    rw [e]
    cases st with
    | none=>exact ih (pos+1) none acc (by omega) (by omega) (fun a h=>by cases h)
    | some a =>
     have ha:=h3 a rfl
     have hl:Nat.beq (piece l (a,pos)).length 0=false:=by
      rw [Bool.eq_false_iff]; intro hh
      have:=Nat.eq_of_beq_eq_true hh
      unfold piece at this
      simp only [List.length_take,List.length_drop] at this
      omega
     have:=ih (pos+1) none (acc++[(a,pos)]) (by omega) (by omega) (fun a h=>by cases h)
     refine this.trans ?_
     show _=acc.map (piece l)++cond (Nat.beq (piece l (a,pos)).length 0) _ _
     rw [hl,List.map_append,List.append_assoc]; rfl
   ·have hi:¬ isSp d.1=true:=by unfold isSp; simp only [decide_eq_true_eq]; omega
    have hno:∀ c∈(l.drop pos).take d.2,c.toNat ≠ 32:=fun c hcm=>by
     obtain ⟨k,hk,rfl⟩:=List.getElem_of_mem hcm
     simp only [List.length_take,List.length_drop] at hk
     have:=d4 hc k (by omega)
     rw [List.getD_eq_getElem?_getD,List.getElem?_eq_getElem (by omega),Option.getD_some] at this
     rw [List.getElem_take,List.getElem_drop]
     exact this
    rw [if_neg hi,hd,wordsGo_app _ _ _ hno]
    cases st with
    | none =>
     have:=ih (pos+d.2) (some pos) acc (by omega) (by omega) (fun a h=>by cases h; omega)
     refine this.trans ?_
     congr 1
     show N.wordsGo _ (piece l (pos,pos+d.2))=N.wordsGo _ ([]++(l.drop pos).take d.2)
     unfold piece
     simp only [List.nil_append]
     rw [show pos+d.2-pos=d.2 by omega]
    | some a =>
     have ha:=h3 a rfl
     have:=ih (pos+d.2) (some a) acc (by omega) (by omega) (fun a' h=>by cases h; omega)
     refine this.trans ?_
     congr 1
     show N.wordsGo _ (piece l (a,pos+d.2))=N.wordsGo _ (piece l (a,pos)++(l.drop pos).take d.2)
     rw [piece_more (by omega)]
  ·rw [if_neg hp]
   exact stop pos st acc (by omega) h3
theorem fields_words (l:Bytes):(Lib.goFieldsP isSp ⟨l.toArray⟩).map (fun b=>b.data.toList)=N.wordsOf l:=by
 have h:=spans_words l l.length 0 none [] (by omega) (by omega) (fun a h=>by cases h)
 have hs:(⟨l.toArray⟩:ByteArray).size=l.length:=by simp [ByteArray.size]
 unfold Lib.goFieldsP Lib.spansOfP
 rw [hs,List.map_map]
 have e:((fun b:ByteArray=>b.data.toList) ∘ fun x:Nat × Nat=>(⟨l.toArray⟩:ByteArray).extract x.1 x.2)=piece l:=by
  funext x
  show ((⟨l.toArray⟩:ByteArray).extract x.1 x.2).data.toList=piece l x
  rw [ByteArray.data_extract]
  simp [piece,List.extract]
 rw [e]
 simpa [N.wordsOf,openP] using h
end Go.Ev

/- The words of a line,by the library's contract: lemmas,no condition. -/
namespace Go.Ev
open Go Go.Proofs Go.RowKit Go.Shelf Go.Lib
set_option maxRecDepth 100000
def vFnN (f:FuncId):VCod Unit where
 ok:=fun | .fn g [] []=>Nat.beq f g | _=>false
 enc _:=.fn f [] []
 dec _:=()
 ed _:=⟨Nat.beq_refl f,rfl⟩
 law w I ρ v x h hx:=by
  split at h
  ·have:=Nat.eq_of_beq_eq_true h; subst this
   exact hx
  ·cases h
theorem space_pred (w : World) : PredAt Tryz.prog 72 #[] encR isSp w := fun W r _ => by
  unfold FnGives
  go_enter Tryz.func72, Tryz.ntmps72
  go_wp2
  go_ret
  exact ⟨rfl, 0, rfl⟩
def dFields:Den:=den (aCons vStr (aOne (vFnN 72))) bNil (oV (vSl rStr)) (fun a _=>Nat.ble a.1.length 1000000) fun a _=>(N.wordsOf a.1,())
theorem ret_strs {w w' : World} {J:Nat→Nat→Prop} {A n:Nat} {l:List Bytes} (hJ:∀ b o,J b o→b<w.heap.size) (hb:Below w.heap.size w w') (hA:w.heap.size≤A) (hn:n=l.length)
  (ho:w'.ownsRow w.heap.size 9 1 (.slice (some ⟨A,0,none⟩) n n) n (l.map fun b=>Value.string ⟨b.toArray⟩)):∃ J',RetOk w w' J [] [] ⟨.slc [.str] (l.map rStr.enc),[],[]⟩ (.slice (some ⟨A,0,none⟩) n n) J':=by
 obtain ⟨h1,h2⟩:=ho
 rcases h2 with ⟨h2,_⟩ | ⟨g,cap,cur,h2,h3,h4,h5,h6,h7,h8⟩
 ·cases h2
 ·obtain ⟨rfl,rfl⟩:A=g∧n=cap:=by cases h2; exact ⟨rfl,rfl⟩
  have hlt:A<w'.heap.size:=(Array.getElem?_eq_some_iff.1 h4).1
  have hcell:∀ i,i<l.length→w'.cell? ⟨A,i,none⟩=some (.string ⟨(l.getD i []).toArray⟩):=fun i hi=>by
   rw [cell_eq,h4]
   show cur[i]? = _
   have hh:=congrArg (fun x=>x[i]?) h8
   simp only [Nat.mul_one] at hh
   rw [List.getElem?_take,if_pos (by omega),List.getElem?_map,List.getElem?_eq_getElem hi] at hh
   rw [List.getD_eq_getElem?_getD,List.getElem?_eq_getElem hi]
   simpa using hh
  refine ⟨fun b o=>J b o∨b=A,keeps_belowY _ hb,fun _ _ h=>.inl h,fun b o h=>?_,fun b o h hlt'=>?_,rfl,(fun j cs cs' p hj=>by simp at hj),.inl ⟨rfl,?_⟩⟩
  ·rcases h with h | rfl
   ·exact Nat.lt_of_lt_of_le (hJ b o h) hb.size
   ·exact hlt
  ·rcases h with h | rfl
   ·exact h
   ·omega
  ·have hlen:(l.map rStr.enc).length=n:=by rw [List.length_map,hn]
   have:=Dat.slc (w:=w') (I:=fun b o=>J b o∨b=A) [.str] (l.map rStr.enc) (some ⟨A,0,none⟩) n (fun i _=>.string ⟨(l.getD i []).toArray⟩) (by omega) (fun h=>by cases h) (fitsRows_map rStr l)
    (fun _=>⟨A,0,rfl,fun i j hi hj=>by
     simp only [List.length_map] at hi
     have hj:j=0:=by simp at hj; omega
     subst hj
     refine ⟨?_,.inr rfl⟩
     rw [show 0+(i*[Sh.str].length+0)=i by simp]
     exact hcell i hi⟩)
    (fun i j hi hj=>by
     simp only [List.length_map] at hi
     have hj:j=0:=by simp at hj; omega
     subst hj
     have e:rowAt (l.map rStr.enc) i 0 = .str (l.getD i []):=by
      unfold rowAt
      simp only [List.getD_eq_getElem?_getD,List.getElem?_map,List.getElem?_eq_getElem hi]; rfl
     rw [e]
     exact .str _)
   rw [hlen] at this
   exact .dat this
theorem ok_fields:FnOk Tryz.prog 71 dFields:=by
 refine den_of fun a u h=>?_
 obtain ⟨s,⟨⟩⟩:=a
 have h1:s.length≤1000000:=ble_of h
 intro x y hxy w J locs xs hlen hJ hx _ _ _
 have hxy:x=(aCons vStr (aOne (vFnN 72))).enc (s,())∧y=bNil.enc u:=by simpa using hxy
 obtain ⟨rfl,rfl⟩:=hxy
 have hlen:locs=[]:=List.eq_nil_of_length_eq_zero hlen
 subst hlen
 obtain ⟨x0,xs1,rfl,hx0,hx⟩:=hx.uncons
 obtain ⟨x1,rfl,hx1⟩:=hx.one
 have hx0:=Rv.str_inv (show Rv w J _ (.str s) x0 from hx0)
 have hx1:x1 = .func (.func 72) #[] #[]:=by
  have hx1:Rv w J _ (.fn 72 [] []) x1:=hx1
  cases hx1 with
  | dat h=>cases h; rfl
  | fn _ _ _ ys zs l1 _ l2 _ =>
   have e1:ys=[]:=List.eq_nil_of_length_eq_zero l1.symm
   have e2:zs=[]:=List.eq_nil_of_length_eq_zero l2.symm
   subst e1 e2; rfl
 subst hx0 hx1
 refine .inl ⟨enter_ok' Tryz.func71 (by kernel_rfl) (by kernel_rfl) _ _,?_⟩
 have hsz:(ByteArray.mk s.toArray).size=s.length:=by simp [ByteArray.size]
 refine (Tryz.strings_FieldsFunc 72 #[] (enters_of Tryz.func72 (by kernel_rfl) rfl) isSp ⟨s.toArray⟩ w (by rw [hsz]; omega) (space_pred w)).mono fun e w' ⟨A,he,hA,ho,hb⟩=>⟨_,he,?_⟩
 have hf:=fields_words s
 have e1:(Lib.goFieldsP isSp ⟨s.toArray⟩).map Value.string=(N.wordsOf s).map fun b=>Value.string ⟨b.toArray⟩:=by
  rw [← hf,List.map_map]; rfl
 have e2:(Lib.goFieldsP isSp ⟨s.toArray⟩).length=(N.wordsOf s).length:=by rw [← hf,List.length_map]
 rw [e1] at ho
 exact ret_strs hJ hb hA e2 ho
end Go.Ev

/- Words and patterns: the plain functions: definitions,no condition. -/
namespace Go.Ev
open Go
namespace N
def splitDot:Bytes→List Bytes
 | []=>[[]]
 | c::r=>cond (c==46) ([]::splitDot r) (match splitDot r with | []=>[[c]] | w::ws=>(c::w)::ws)
def words (s:Bytes):List Bytes:=cond s.isEmpty [] (splitDot s)
def letterI (c:Int):Bool:=cond (cond (ile 97 c) (ile c 122) false) true (cond (cond (ile 48 c) (ile c 57) false) true (cond (c==45) true (c==95)))
def letter (c:UInt8):Bool:=letterI c.toNat
def plain (s:Bytes):Bool:=s.all letter
def goOn (p k:List Bytes):Nat→Int→Int→Int→Int→Option Int
 | 0,_,_,_,_=>none
 | f+1,i,j,b,fr=>cond (ilt j k.length)
   (cond (cond (ilt i p.length) (p.getD i.toNat []==[35]) false) (goOn p k f (i+1) j (i+1) j)
    (cond (cond (ilt i p.length) (cond (p.getD i.toNat []==[42]) true (p.getD i.toNat []==k.getD j.toNat [])) false) (goOn p k f (i+1) (j+1) b fr)
     (cond (ile 0 b) (goOn p k f b (fr+1) b (fr+1)) none)))
   (some i)
def hashes (p:List Bytes):Nat→Int→Int
 | 0,i=>i
 | f+1,i=>cond (cond (ilt i p.length) (p.getD i.toNat []==[35]) false) (hashes p f (i+1)) i
def goFuel (p k:List Bytes):Nat:=(k.length+1)*(p.length+1)+p.length+2
def matchW (p k:List Bytes):Bool:=match goOn p k (goFuel p k) 0 0 (-1) 0 with
 | some i=>hashes p (p.length+1) i==p.length
 | none=>false
def keyL (besides:List Bytes):List Bytes→Int
 | []=>0
 | w::r=>cond (besides.any (w==·)) (keyL besides r) (cond (cond (w==[]) true (!plain w)) 4 (keyL besides r))
def key (s:Bytes) (besides:List Bytes):Int:=cond (ilt 64 s.length) 5 (keyL besides (words s))
def name (s:Bytes):Int:=cond (s==[]) 15 (cond (ilt 16 s.length) 5 (cond (!plain s) 4 0))
def dot:Bytes→Int
 | []=>-1
 | c::r=>cond (c==46) 0 (cond (dot r==-1) (-1) (dot r+1))
def dots (s:Bytes):Int:=s.count 46
end N
def LIM:Nat:=1000000
def dLetter:Den:=den (aOne (vInt .u8)) bNil (oV vBool) (fun _ _=>true) fun c _=>(N.letterI c,())
def dPlain:Den:=den (aOne vStr) bNil (oV vBool) (fun s _=>Nat.ble s.length LIM) fun s _=>(N.plain s,())
def dWords:Den:=den (aOne vStr) bNil (oV (vSl rStr)) (fun s _=>Nat.ble s.length LIM) fun s _=>(N.words s,())
def dDot1:Den:=den (aCons vStr (aOne (vInt .u8))) bNil (oV (vInt .i64)) (fun a _=>a.2==46) fun a _=>(N.dot a.1,())
def dDot:Den:=den (aCons vStr (aOne vStr)) bNil (oV (vInt .i64)) (fun a _=>a.2==[46]) fun a _=>(N.dot a.1,())
def dDots1:Den:=den (aCons vStr (aOne (vInt .u8))) bNil (oV (vInt .i64)) (fun a _=>a.2==46) fun a _=>(N.dots a.1,())
def dDots:Den:=den (aCons vStr (aOne vStr)) bNil (oV (vInt .i64)) (fun a _=>a.2==[46]) fun a _=>(N.dots a.1,())
def dSplit:Den:=den (aCons vStr (aOne vStr)) bNil (oV (vSl rStr)) (fun a _=>cond (a.2==[46]) (Nat.ble a.1.length LIM) false) fun a _=>(N.splitDot a.1,())
def dGenSplit:Den:=den (aCons vStr (aCons vStr (aCons (vInt .i64) (aOne (vInt .i64))))) bNil (oV (vSl rStr)) (fun a _=>cond (a.2.1==[46]) (cond (a.2.2.1==0) (cond (a.2.2.2==-1) (Nat.ble a.1.length LIM) false) false) false) fun a _=>(N.splitDot a.1,())
def small (l:List Bytes):Bool:=Nat.ble l.length LIM
def dMatches:Den:=den (aCons vStr (aOne vStr)) bNil (oV vBool) (fun a _=>cond (Nat.ble a.1.length LIM) (Nat.ble a.2.length LIM) false) fun a _=>(N.matchW (N.words a.1) (N.words a.2),())
def dName:Den:=den (aOne vStr) bNil (oV (vInt .i64)) (fun _ _=>true) fun s _=>(N.name s,())
end Go.Ev

/- How a key matches a pattern: what the program reckons is what the document says: plain lemmas,no condition. -/
namespace Go.Ev
open Go
abbrev hash:Bytes:=[35]
abbrev star:Bytes:=[42]
inductive M:List Bytes→List Bytes→Prop
 | nil:M [] []
 | skip {p k:List Bytes}:M p k→M (hash::p) k
 | eat {p k:List Bytes} {x:Bytes}:M (hash::p) k→M (hash::p) (x::k)
 | one {w x:Bytes} {p k:List Bytes}:w ≠ hash→(w=star∨w=x)→M p k→M (w::p) (x::k)
theorem M_nil {k:List Bytes}:M [] k↔k=[]:=⟨fun h=>by cases h; rfl,fun h=>by subst h; exact .nil⟩
theorem M_one {w:Bytes} {p k:List Bytes} (hw:w ≠ hash):M (w::p) k↔∃ x k',k=x::k'∧(w=star∨w=x)∧M p k':=by
 constructor
 ·intro h
  cases h with
  | skip=>exact absurd rfl hw
  | eat=>exact absurd rfl hw
  | one _ h1 h2=>exact ⟨_,_,rfl,h1,h2⟩
 ·rintro ⟨x,k',rfl,h1,h2⟩; exact .one hw h1 h2
theorem M_hash {p k:List Bytes}:M (hash::p) k↔M p k∨∃ x k',k=x::k'∧M (hash::p) k':=by
 constructor
 ·intro h
  cases h with
  | skip h=>exact .inl h
  | eat h=>exact .inr ⟨_,_,rfl,h⟩
  | one h=>exact absurd rfl h
 ·rintro (h | ⟨x,k',rfl,h⟩)
  ·exact .skip h
  ·exact .eat h
theorem M_hash_drop {p:List Bytes}:∀ {k:List Bytes},M (hash::p) k↔∃ n,n≤k.length∧M p (k.drop n)
 | []=>by
  rw [M_hash]
  constructor
  ·rintro (h | ⟨_,_,h,_⟩)
   ·exact ⟨0,Nat.le_refl _,h⟩
   ·cases h
  ·rintro ⟨n,_,h⟩; exact .inl (by simpa using h)
 | x::k=>by
  rw [M_hash]
  constructor
  ·rintro (h | ⟨y,k',e,h⟩)
   ·exact ⟨0,Nat.zero_le _,h⟩
   ·cases e
    obtain ⟨n,h1,h2⟩:=M_hash_drop.1 h
    exact ⟨n+1,by simpa using h1,h2⟩
  ·rintro ⟨n,h1,h2⟩
   cases n with
   | zero=>exact .inl h2
   | succ n=>exact .inr ⟨x,k,rfl,M_hash_drop.2 ⟨n,by simpa using h1,h2⟩⟩
def want (w:Bytes) (k:List Bytes) (may:List Bool) (j:Nat):Prop :=
 if w=hash then ∃ i,i≤j∧may.getD i false=true else 0<j∧may.getD (j-1) false=true∧(w=star∨w=k.getD (j-1) [])
section
variable {p k:List Bytes}
def Mx (p k:List Bytes) (i j:Nat):Prop:=M (p.drop i) (k.drop j)
theorem getD_at {l:List Bytes} {i:Nat} (h:i<l.length):l.drop i=l.getD i []::l.drop (i+1):=by
 rw [List.drop_eq_getElem_cons h,List.getD_eq_getElem?_getD,List.getElem?_eq_getElem h]; rfl
theorem Mx_hash {i j:Nat} (hi:i<p.length) (hh:p.getD i []=hash) (hj:j≤k.length):Mx p k i j↔∃ t,j≤t∧t≤k.length∧Mx p k (i+1) t:=by
 unfold Mx
 rw [getD_at hi,hh,M_hash_drop]
 constructor
 ·rintro ⟨n,h1,h2⟩
  rw [List.length_drop] at h1
  rw [List.drop_drop] at h2
  exact ⟨j+n,by omega,by omega,h2⟩
 ·rintro ⟨t,h1,h2,h3⟩
  refine ⟨t-j,by rw [List.length_drop]; omega,?_⟩
  rw [List.drop_drop,show j+(t-j)=t by omega]; exact h3
theorem Mx_one {i j:Nat} (hi:i<p.length) (hh:p.getD i [] ≠ hash):Mx p k i j↔j<k.length∧(p.getD i []=star∨p.getD i []=k.getD j [])∧Mx p k (i+1) (j+1):=by
 unfold Mx
 rw [getD_at hi,M_one hh]
 constructor
 ·rintro ⟨x,k',e,h1,h2⟩
  have hj:j<k.length:=by
   have:=congrArg List.length e
   rw [List.length_drop] at this; simp at this; omega
  rw [getD_at hj] at e
  cases e
  exact ⟨hj,h1,h2⟩
 ·rintro ⟨hj,h1,h2⟩
  exact ⟨_,_,getD_at hj,h1,h2⟩
theorem Mx_end {j:Nat} (hj:j≤k.length):Mx p k p.length j↔j=k.length:=by
 unfold Mx
 rw [List.drop_length,M_nil,List.drop_eq_nil_iff]; omega
theorem Mx_mono {i j j' : Nat} (hi:i<p.length) (hh:p.getD i []=hash) (h1:j≤j') (h2:j'≤k.length) (h:Mx p k i j'):Mx p k i j:=by
 rw [Mx_hash hi hh (by omega)] at *
 obtain ⟨t,g1,g2,g3⟩:=h
 exact ⟨t,by omega,g2,g3⟩
theorem Mx_far:∀ (d b t:Nat),b+d≤p.length→(∀ x,b≤x→x<b+d→p.getD x [] ≠ hash)→t≤k.length→Mx p k b t→t+d≤k.length∧Mx p k (b+d) (t+d)
 | 0,b,t,_,_,ht,h=>⟨ht,h⟩
 | d+1,b,t,hb,hn,ht,h=>by
  obtain ⟨h1,_,h3⟩:=(Mx_one (by omega) (hn b (Nat.le_refl _) (by omega))).1 h
  obtain ⟨g1,g2⟩:=Mx_far d (b+1) (t+1) (by omega) (fun x hx hx2=>hn x (by omega) (by omega)) (by omega) h3
  exact ⟨by omega,by rw [show b+(d+1)=b+1+d by omega,show t+(d+1)=t+1+d by omega]; exact g2⟩
structure GoInv (p k:List Bytes) (i j b fr:Int):Prop where
 i0:0≤i
 i1:i≤p.length
 j0:0≤j
 j1:j≤k.length
 bk:b = -1∧fr=0∨0≤b∧b≤i∧0≤fr∧i-b=j-fr∧∀ x:Nat,b≤x→(x:Int)<i→p.getD x [] ≠ hash
def goMeas (p k:List Bytes) (i fr:Int):Nat:=(k.length+1-fr.toNat)*(p.length+1)+(p.length-i.toNat)
def Said (p k:List Bytes) (i j b fr:Int):Prop:=Mx p k i.toNat j.toNat∨(0≤b∧∃ t,fr.toNat<t∧t≤k.length∧Mx p k b.toNat t)
theorem goOn_step (_:Nat) {i j b fr:Int} (h:GoInv p k i j b fr) (hj:ilt j k.length=true) :
  (cond (ilt i p.length) (p.getD i.toNat []==[35]) false=true→GoInv p k (i+1) j (i+1) j∧goMeas p k (i+1) j<goMeas p k i fr∧(Said p k (i+1) j (i+1) j↔Said p k i j b fr)) ∧
  (cond (ilt i p.length) (p.getD i.toNat []==[35]) false=false→cond (ilt i p.length) (cond (p.getD i.toNat []==[42]) true (p.getD i.toNat []==k.getD j.toNat [])) false=true →
   GoInv p k (i+1) (j+1) b fr∧goMeas p k (i+1) fr<goMeas p k i fr∧(Said p k (i+1) (j+1) b fr↔Said p k i j b fr)) ∧
  (cond (ilt i p.length) (p.getD i.toNat []==[35]) false=false→cond (ilt i p.length) (cond (p.getD i.toNat []==[42]) true (p.getD i.toNat []==k.getD j.toNat [])) false=false →
   (ile 0 b=true→GoInv p k b (fr+1) b (fr+1)∧goMeas p k b (fr+1)<goMeas p k i fr∧(Said p k b (fr+1) b (fr+1)↔Said p k i j b fr))∧(ile 0 b=false→¬ Said p k i j b fr)):=by
 obtain ⟨i0,i1,j0,j1,bk⟩:=h
 rw [ilt_eq] at hj
 have hj:=of_decide_eq_true hj
 have hfr:0≤fr∧fr≤j:=by omega
 refine ⟨fun hc=>?_,fun hc hm=>?_,fun hc hm=>?_⟩
 ·have hi:i<p.length:=by
   rw [ilt_eq] at hc
   by_cases e:i<p.length
   ·exact e
   ·rw [decide_eq_false e] at hc; cases hc
  rw [ilt_eq,decide_eq_true hi,cond_true] at hc
  have hh:p.getD i.toNat []=hash:=by simpa using hc
  refine ⟨⟨by omega,by omega,j0,j1,.inr ⟨by omega,by omega,j0,by omega,fun x h1 h2=>by omega⟩⟩,?_,?_⟩
  ·unfold goMeas
   have:(k.length+1-j.toNat)*(p.length+1)≤(k.length+1-fr.toNat)*(p.length+1):=Nat.mul_le_mul_right _ (by omega)
   omega
  ·have e1:(i+1).toNat=i.toNat+1:=by omega
   have hi' : i.toNat<p.length:=by omega
   have hj' : j.toNat≤k.length:=by omega
   unfold Said
   rw [e1]
   constructor
   ·intro h
    refine .inl ((Mx_hash hi' hh hj').2 ?_)
    rcases h with h | ⟨_,t,h1,h2,h3⟩
    ·exact ⟨j.toNat,Nat.le_refl _,by omega,h⟩
    ·exact ⟨t,by omega,h2,h3⟩
   ·intro h
    have:Mx p k i.toNat j.toNat:=by
     rcases h with h | ⟨hb,t,h1,h2,h3⟩
     ·exact h
     ·rcases bk with ⟨e,_⟩ | ⟨c0,c1,c2,c3,c4⟩
      ·omega
      ·obtain ⟨g1,g2⟩:=Mx_far (i.toNat-b.toNat) b.toNat t (by omega) (fun x hx hx2=>c4 x (by omega) (by omega)) h2 h3
       rw [show b.toNat+(i.toNat-b.toNat)=i.toNat by omega] at g2
       exact Mx_mono (by omega) hh (by omega) g1 g2
    obtain ⟨t,g1,g2,g3⟩:=(Mx_hash hi' hh hj').1 this
    by_cases e:t=j.toNat
    ·subst e; exact .inl g3
    ·exact .inr ⟨by omega,t,by omega,g2,g3⟩
 ·have hi:i<p.length:=by
   rw [ilt_eq] at hm
   by_cases e:i<p.length
   ·exact e
   ·rw [decide_eq_false e] at hm; cases hm
  rw [ilt_eq,decide_eq_true hi,cond_true] at hc hm
  have hh:p.getD i.toNat [] ≠ hash:=by simpa using hc
  have hw:p.getD i.toNat []=star∨p.getD i.toNat []=k.getD j.toNat []:=by
   cases e:(p.getD i.toNat []==[42]) with
   | true=>exact .inl (by simpa using e)
   | false=>rw [e,cond_false] at hm; exact .inr (by simpa using hm)
  refine ⟨⟨by omega,by omega,by omega,by omega,?_⟩,?_,?_⟩
  ·rcases bk with h | ⟨c0,c1,c2,c3,c4⟩
   ·exact .inl h
   ·refine .inr ⟨c0,by omega,c2,by omega,fun x h1 h2=>?_⟩
    by_cases e:(x:Int)=i
    ·rw [show x=i.toNat by omega]; exact hh
    ·exact c4 x h1 (by omega)
  ·unfold goMeas; omega
  ·unfold Said
   rw [show (i+1).toNat=i.toNat+1 by omega,show (j+1).toNat=j.toNat+1 by omega]
   rw [Mx_one (i:=i.toNat) (j:=j.toNat) (by omega) hh]
   have:j.toNat<k.length:=by omega
   simp only [this,hw,true_and]
 ·have hno:¬ Mx p k i.toNat j.toNat:=by
   by_cases hi:i<p.length
   ·rw [ilt_eq,decide_eq_true hi,cond_true] at hc hm
    have hh:p.getD i.toNat [] ≠ hash:=by simpa using hc
    rw [Mx_one (by omega) hh]
    rintro ⟨_,h,_⟩
    rcases h with h | h
    ·rw [h] at hm; cases hm
    ·have:(p.getD i.toNat []==k.getD j.toNat [])=true:=by simpa using h
     rw [this] at hm
     cases e:(p.getD i.toNat []==[42])<;>rw [e] at hm<;>cases hm
   ·rw [show i.toNat=p.length by omega,Mx_end (by omega)]; omega
  refine ⟨fun hb=>?_,fun hb=>?_⟩
  ·rw [ile_eq] at hb
   have hb:=of_decide_eq_true hb
   rcases bk with ⟨e,_⟩ | ⟨c0,c1,c2,c3,c4⟩
   ·omega
   ·refine ⟨⟨c0,by omega,by omega,by omega,.inr ⟨c0,Int.le_refl _,by omega,by omega,fun x h1 h2=>by omega⟩⟩,?_,?_⟩
    ·unfold goMeas
     have e:k.length+1-fr.toNat=(k.length+1-(fr+1).toNat)+1:=by omega
     rw [e,Nat.add_mul]
     omega
    ·unfold Said
     rw [show (fr+1).toNat=fr.toNat+1 by omega]
     constructor
     ·rintro (h | ⟨_,t,h1,h2,h3⟩)
      ·exact .inr ⟨hb,fr.toNat+1,by omega,by omega,h⟩
      ·exact .inr ⟨hb,t,by omega,h2,h3⟩
     ·rintro (h | ⟨_,t,h1,h2,h3⟩)
      ·exact absurd h hno
      ·by_cases e:t=fr.toNat+1
       ·subst e; exact .inl h3
       ·exact .inr ⟨hb,t,by omega,h2,h3⟩
  ·rw [ile_eq] at hb
   have hb:=of_decide_eq_false hb
   rintro (h | ⟨h,_⟩)
   ·exact hno h
   ·exact hb h
theorem goOn_bd:∀ (f:Nat) {i j b fr i' : Int},GoInv p k i j b fr→N.goOn p k f i j b fr=some i'→0≤i'∧i'≤p.length
 | 0,i,j,b,fr,i',_,h=>by cases h
 | f+1,i,j,b,fr,i',h,he=>by
  unfold N.goOn at he
  cases hj:ilt j k.length with
  | false =>
   rw [hj,cond_false,Option.some.injEq] at he
   subst he; exact ⟨h.i0,h.i1⟩
  | true =>
   obtain ⟨s1,s2,s3⟩:=goOn_step f h hj
   rw [hj,cond_true] at he
   cases hc:cond (ilt i p.length) (p.getD i.toNat []==[35]) false with
   | true=>rw [hc,cond_true] at he; exact goOn_bd f (s1 hc).1 he
   | false =>
    rw [hc,cond_false] at he
    cases hm:cond (ilt i p.length) (cond (p.getD i.toNat []==[42]) true (p.getD i.toNat []==k.getD j.toNat [])) false with
    | true=>rw [hm,cond_true] at he; exact goOn_bd f (s2 hc hm).1 he
    | false =>
     rw [hm,cond_false] at he
     cases hb:ile 0 b with
     | true=>rw [hb,cond_true] at he; exact goOn_bd f ((s3 hc hm).1 hb).1 he
     | false=>rw [hb] at he; cases he
end
end Go.Ev

/- Words,over rows of cells as the program has them: definitions and laws,no condition. -/
namespace Go.Ev
open Go
def rowS (r:List V):Bytes:=(r.getD 0 .undef).toStr
def rowsS (r:List (List V)):List Bytes:=r.map rowS
theorem rowsS_getD (r:List (List V)) (i:Nat):(rowsS r).getD i []=rowS (r.getD i []):=by
 unfold rowsS; simp only [List.getD_eq_getElem?_getD,List.getElem?_map]; cases r[i]?<;>rfl
theorem rowsS_length (r:List (List V)):(rowsS r).length=r.length:=List.length_map ..
theorem rowsS_enc (l:List Bytes):rowsS (l.map rStr.enc)=l:=by
 unfold rowsS; rw [List.map_map]; exact List.map_id' l
theorem drop_byte {s:Bytes} {k:Nat} (h:k<s.length):s.drop k=s.getD k 0::s.drop (k+1):=by
 rw [List.drop_eq_getElem_cons h,List.getD_eq_getElem?_getD,List.getElem?_eq_getElem h]; rfl
namespace N
def gen:Nat→Bytes→Int→List (List V)→Bytes × Int × List (List V)
 | 0,s,i,rows=>(s,i,rows)
 | f+1,s,i,rows=>cond (ilt (dot s) 0) (s,i,rows) (gen f (s.drop (dot s+1).toNat) (i+1) (rows.set i.toNat [.str (s.take (dot s).toNat)]))
def goOnI (p k:List Bytes) (i j b fr:Int):Nat→Int:=fun f=>(goOn p k f i j b fr).getD (-1)
end N
theorem splitDot_ne:∀ s,N.splitDot s ≠ []
 | []=>by simp [N.splitDot]
 | c::r=>by
  unfold N.splitDot
  cases c==46 with
  | true=>simp
  | false =>
   simp only [cond_false]
   split<;>simp
theorem splitDot_dot:∀ s,(N.dot s = -1∧N.splitDot s=[s]∧N.dots s=0)∨(0≤N.dot s∧N.dot s<s.length∧N.splitDot s=s.take (N.dot s).toNat::N.splitDot (s.drop (N.dot s+1).toNat)∧N.dots s=N.dots (s.drop (N.dot s+1).toNat)+1)
 | []=>.inl ⟨rfl,rfl,rfl⟩
 | c::r=>by
  have hd:N.dots (c::r)=N.dots r+(if c==46 then 1 else 0):=by
   unfold N.dots; rw [List.count_cons]; split<;>simp
  have hs:N.splitDot (c::r)=cond (c==46) ([]::N.splitDot r) (match N.splitDot r with | []=>[[c]] | w::ws=>(c::w)::ws):=rfl
  have ht:N.dot (c::r)=cond (c==46) 0 (cond (N.dot r==-1) (-1) (N.dot r+1)):=rfl
  rw [hs,ht]
  cases hc:c==46 with
  | true =>
   rw [hc,if_pos rfl] at hd
   simp only [cond_true]
   refine .inr ⟨by decide,by simp only [List.length_cons]; omega,?_,?_⟩
   ·rfl
   ·rw [hd]; rfl
  | false =>
   rw [hc] at hd
   simp only [cond_false]
   rcases splitDot_dot r with ⟨h1,h2,h3⟩ | ⟨h1,h2,h3,h4⟩
   ·rw [h1,h2]
    exact .inl ⟨rfl,rfl,by rw [hd,h3]; rfl⟩
   ·have hne:(N.dot r==-1)=false:=by rw [beq_eq_false_iff_ne]; omega
    rw [hne,cond_false]
    have e1:(N.dot r+1+1).toNat=(N.dot r+1).toNat+1:=by omega
    have e2:(N.dot r+1).toNat=(N.dot r).toNat+1:=by omega
    refine .inr ⟨by omega,by simp only [List.length_cons]; omega,?_,?_⟩
    ·rw [h3,e1,List.drop_succ_cons,e2,List.take_succ_cons]
    ·rw [hd,h4,e1,List.drop_succ_cons]; simp
theorem gen_ok:∀ (f:Nat) (s:Bytes) (i:Int) (rows:List (List V)),0≤i→(f:Int)=N.dots s→(rows.length:Int)=i+f+1 →
  0≤(N.gen f s i rows).2.1∧(N.gen f s i rows).2.1<rows.length∧(N.gen f s i rows).2.2.length=rows.length ∧
  ((N.gen f s i rows).2.2.set (N.gen f s i rows).2.1.toNat [.str (N.gen f s i rows).1]).take ((N.gen f s i rows).2.1+1).toNat=rows.take i.toNat++(N.splitDot s).map rStr.enc
 | f,s,i,rows,h0,hf,hl=>by
  have stop:N.splitDot s=[s]→(rows.set i.toNat [.str s]).take (i+1).toNat=rows.take i.toNat++(N.splitDot s).map rStr.enc:=fun e=>by
   have hi:i.toNat<rows.length:=by omega
   rw [e,show (i+1).toNat=i.toNat+1 by omega,List.take_add_one,List.getElem?_set_self hi,List.take_set_of_le (Nat.le_refl _)]; rfl
  rcases splitDot_dot s with ⟨h1,h2,h3⟩ | ⟨h1,h2,h3,h4⟩
  ·have:f=0:=by omega
   subst this
   exact ⟨h0,by show i<_; omega,rfl,stop h2⟩
  ·cases f with
   | zero =>
    have:0≤N.dots (s.drop (N.dot s+1).toNat):=Int.natCast_nonneg _
    omega
   | succ f =>
    have hn:ilt (N.dot s) 0=false:=by rw [ilt_eq,decide_eq_false_iff_not]; omega
    unfold N.gen
    rw [hn,cond_false]
    obtain ⟨g1,g2,g3,g4⟩:=gen_ok f (s.drop (N.dot s+1).toNat) (i+1) (rows.set i.toNat [.str (s.take (N.dot s).toNat)]) (by omega) (by omega) (by rw [List.length_set]; omega)
    rw [List.length_set] at g2 g3
    refine ⟨g1,g2,g3,g4.trans ?_⟩
    have hi:i.toNat<rows.length:=by omega
    rw [h3,show (i+1).toNat=i.toNat+1 by omega,List.take_add_one,List.getElem?_set_self hi,List.take_set_of_le (Nat.le_refl _),List.append_assoc]; rfl
end Go.Ev

/- The program's functions on words answer what the plain ones do: lemmas,no condition. -/
namespace Go.Ev
open Go Go.Proofs
set_option maxRecDepth 100000
noncomputable def eLetter:Env:=env Tryz.prog [] [] []
theorem q_letter (c:Int):evFn eLetter 81 ((aOne (vInt .u8)).enc c) ([]) some =
 cond (ile (97:Int) c) (cond (ile c (122:Int)) (some {v:=V.bool true,bx:=[]}) (cond (ile (48:Int) c) (cond (ile c (57:Int)) (some {v:=V.bool true,bx:=[]}) (cond (c==(45:Int)) (some {v:=V.bool true,bx:=[]}) (some {v:=V.bool (c==(95:Int)),bx:=[]}))) (cond (c==(45:Int)) (some {v:=V.bool true,bx:=[]}) (some {v:=V.bool (c==(95:Int)),bx:=[]})))) (cond (ile (48:Int) c) (cond (ile c (57:Int)) (some {v:=V.bool true,bx:=[]}) (cond (c==(45:Int)) (some {v:=V.bool true,bx:=[]}) (some {v:=V.bool (c==(95:Int)),bx:=[]}))) (cond (c==(45:Int)) (some {v:=V.bool true,bx:=[]}) (some {v:=V.bool (c==(95:Int)),bx:=[]}))):=by kernel_rfl
theorem ok_letter:FnOk Tryz.prog 81 dLetter:=by
 refine den_okF (env_ok (TOk.nil _)) (E:=eLetter) Tryz.func81 [] (by kernel_rfl) none0 fun c _ _=>?_
 refine (q_letter c).trans ?_
 show _=some (⟨.bool (N.letterI c),[],[]⟩:DRes)
 unfold N.letterI
 cases ile 97 c<;>cases ile c 122<;>cases ile 48 c<;>cases ile c 57<;>cases c==45<;>rfl
theorem plain_cons (c:UInt8) (r:Bytes):N.plain (c::r)=cond (N.letterI c.toNat) (N.plain r) false:=by
 show (N.letter c && N.plain r)=_
 unfold N.letter
 cases N.letterI c.toNat<;>rfl
def schPlain:SSch:={ fr:=[(0,.str),(6,.int .i64),(7,.int .i64)],tab:=[] }
def gPlain:List Leaf→(Ex→St→Option R)→Option R
 | [.s s0,.i i6,.i i7],K=>cond (i6==s0.length) (cond (ile 0 i7) (cond (Nat.ble s0.length LIM) (cond (N.plain (s0.drop i7.toNat)) (K (.exit 0) { fr:=[],tab:=[] }) (K .ret { fr:=[(2,.bool false)],tab:=[] })) none) none) none
 | _,_=>none
noncomputable def ePlain:Env:=env Tryz.prog [] [(2,loopF schPlain gPlain)] [(2,[(0,[0,6,7]),(1,[]),(1000,[2])])]
theorem q_plain (s:Bytes):evFn ePlain 115 ((aOne vStr).enc s) ([]) some =
 cond ((↑(List.length s):Int)==(↑(List.length s):Int)) (cond (Nat.ble (List.length s) 1000000) (cond (N.plain (List.drop 0 s)) (some {v:=V.bool true,bx:=[]}) (some {v:=V.bool false,bx:=[]})) (none)) (none):=by kernel_rfl
theorem q_plainR_ (s0:Bytes) (i6:Int) (i7:Int) (K:Ex→St→Option R):evRound ePlain 115 2 { fr:=[(0,.str s0),(6,.int .i64 i6),(7,.int .i64 i7)],tab:=[] } K =(
 let z1:=(↑(UInt8.toNat (List.getD s0 (Int.toNat i7) (0:UInt8))):Int);let z3:=(K Ex.normal {fr:=[(0,V.str s0),(6,V.int .i64 i6),(7,V.int .i64 (IntKind.wrap .i64 (i7+(1:Int))))],tab:=[]});let z4:=(K Ex.ret {fr:=[(2,V.bool false)],tab:=[]});let z0:=(cond (z1==(45:Int)) (cond (z1==(45:Int)) z3 z4) (cond (z1==(95:Int)) z3 z4));let z2:=(cond (ile (48:Int) z1) (cond (ile z1 (57:Int)) (cond (ile z1 (57:Int)) z3 z4) z0) z0);cond (ilt i7 i6) (cond (decide ((0:Int)≤i7∧i7<(↑(List.length s0):Int))) (cond (ile (97:Int) z1) (cond (ile z1 (122:Int)) (cond (ile z1 (122:Int)) z3 z4) z2) z2) (none)) (K (Ex.exit 0) {fr:=[],tab:=[]})):=by kernel_rfl
theorem q_plainR (s0:Bytes) (i6:Int) (i7:Int) (K:Ex→St→Option R):type_of% (by have h:=q_plainR_ s0 i6 i7 K; dsimp only at h; exact h):=by
 have h:=q_plainR_ s0 i6 i7 K
 dsimp only at h
 exact h
theorem ok_plain:FnOk Tryz.prog 115 dPlain:=by
 refine den_okF (env_ok (TOk.nil _)) (E:=ePlain) Tryz.func115 [2] (by kernel_rfl) (one1 (rounds_of rfl fun l K q h=>?_)) fun s _ h=>?_
 ·unfold gPlain at h
  split at h
  ·rename_i s n i
   have h1:=(cond_none h).1; replace h:=(cond_none h).2; have h2:=(cond_none h).1; replace h:=(cond_none h).2; have h3:=(cond_none h).1; replace h:=(cond_none h).2
   have h1:=ieq_of h1
   subst h1
   have h3:s.length≤1000000:=ble_of h3
   refine loop_ind (E:=ePlain) (f:=115) (id:=2) (fun i:Int=>{ fr:=[(0,.str s),(6,.int .i64 s.length),(7,.int .i64 i)],tab:=[] }) (fun i=>0≤i) (fun i=>s.length-i.toNat)
    (fun i K=>cond (N.plain (s.drop i.toNat)) (K (.exit 0) { fr:=[],tab:=[] }) (K .ret { fr:=[(2,.bool false)],tab:=[] })) (fun i hi=>?_) i (ile_of h2) K q h
   by_cases hl:i<s.length
   ·rw [drop_byte (show i.toNat<s.length by omega),plain_cons]
    cases hc:N.letterI (s.getD i.toNat 0).toNat with
    | true =>
     refine .inl ⟨i+1,by omega,by omega,fun K=>?_,fun K=>?_⟩
     ·rw [q_plainR]
      simp (disch:=omega) only [evs]
      revert hc
      unfold N.letterI
      cases ile 97 (s.getD i.toNat 0).toNat<;>cases ile (s.getD i.toNat 0).toNat 122<;>cases ile 48 (s.getD i.toNat 0).toNat<;>cases ile (s.getD i.toNat 0).toNat 57<;>cases ((s.getD i.toNat 0).toNat:Int)==45<;>cases ((s.getD i.toNat 0).toNat:Int)==95<;>intro hc<;>first | rfl | cases hc
     ·rw [cond_true,show (i+1).toNat=i.toNat+1 by omega]
    | false =>
     refine .inr ⟨.ret,_,by simp,fun K=>?_,fun K=>rfl⟩
     rw [q_plainR]
     simp (disch:=omega) only [evs]
     revert hc
     unfold N.letterI
     cases ile 97 (s.getD i.toNat 0).toNat<;>cases ile (s.getD i.toNat 0).toNat 122<;>cases ile 48 (s.getD i.toNat 0).toNat<;>cases ile (s.getD i.toNat 0).toNat 57<;>cases ((s.getD i.toNat 0).toNat:Int)==45<;>cases ((s.getD i.toNat 0).toNat:Int)==95<;>intro hc<;>first | rfl | cases hc
   ·refine .inr ⟨.exit 0,{ fr:=[],tab:=[] },by simp,fun K=>?_,fun K=>?_⟩
    ·rw [q_plainR]
     simp (disch:=omega) only [evs]
    ·rw [List.drop_eq_nil_of_le (by omega)]; rfl
  ·cases h
 ·refine (q_plain s).trans ?_
  have h:s.length≤1000000:=ble_of h
  show _=some (⟨.bool (N.plain s),[],[]⟩:DRes)
  simp (disch:=omega) only [evs,List.drop_zero]
  cases N.plain s<;>rfl
noncomputable def eDot1:Env:=env Tryz.prog [(144,dDot1)] [] []
theorem q_dot1 (s:Bytes):evFn eDot1 133 ((aCons vStr (aOne (vInt .u8))).enc (s,46)) ([]) some =
 some {v:=V.int .i64 (N.dot s),bx:=[]}:=by kernel_rfl
theorem dot_eq (s:Bytes):Lib.indexByte s 46=N.dot s:=by
 induction s with
 | nil=>rfl
 | cons c r ih =>
  unfold Lib.indexByte N.dot
  rw [ih]
  cases c==46<;>cases N.dot r==-1<;>rfl
theorem entry_ok {P:Program} {f:FuncId} {vs:List V} {D:Den} (v:V) (x:Value) (hv:∀ w I ρ,Rv w I ρ v x) (xs:List Value) (hx:∀ w I ρ ys,AllRv w I ρ vs ys→ys=xs) (hD:∀ a b,D.pre a b=true→a=vs∧b=[]∧D.res a b=⟨v,[],[]⟩)
  (h:∀ w,(callFunc f xs.toArray).run P w = .ok (.value x) w):FnOk P f D:=fun a b hp w J locs ys hl hJ hr _ _ _=>by
 obtain ⟨rfl,rfl,e⟩:=hD a b hp
 obtain rfl:=hx _ _ _ _ hr
 refine .inr ⟨x,w,h w,J,?_⟩
 rw [e]
 exact ⟨Keeps.refl _ _,fun _ _ h=>h,hJ,fun _ _ h _=>h,rfl,fun j cs cs' p h1=>by simp at h1,.inl ⟨rfl,hv _ _ _⟩⟩
theorem two_args {s:Bytes} {w:World} {I:Nat→Nat→Prop} {ρ:Nat→Option Real} {ys:List Value} (h:AllRv w I ρ [.str s,.int .u8 46] ys):ys=[.string ⟨s.toArray⟩,.int .u8 46]:=by
 obtain ⟨x,xs,rfl,h1,h2⟩:=h.uncons
 obtain ⟨y,rfl,h3⟩:=h2.one
 rw [h1.str_inv,h3.int_inv]
theorem ok_dotE:FnOk Tryz.prog 144 dDot1:=by
 refine den_of fun a u h=>?_
 obtain ⟨s,c⟩:=a
 have h:c=46:=ieq_of h
 subst h
 refine entry_ok (vs:=[.str s,.int .u8 46]) (.int .i64 (N.dot s)) (.int .i64 (N.dot s)) (fun _ _ _=>.dat (.int _ _)) [.string ⟨s.toArray⟩,.int .u8 46] (fun _ _ _ _ h=>two_args h) (fun a b h=>?_) fun w=>?_
 ·have h:a=(aCons vStr (aOne (vInt .u8))).enc (s,46)∧b=bNil.enc u:=by simpa using h
  exact ⟨h.1,h.2,rfl⟩
 ·rw [run_callFunc_extern Tryz.func144 (by kernel_rfl) (by kernel_rfl) (by kernel_rfl) (e:=Extern.BytealgIndexByte.indexByte) (by kernel_rfl),Lib.run_indexByteString]
  simp only [Result.andThen]
  have:Lib.indexByte (ByteArray.mk s.toArray).data.toList (Int.toNat 46).toUInt8=N.dot s:=dot_eq s
  rw [this]
theorem ok_dotsE:FnOk Tryz.prog 118 dDots1:=by
 refine den_of fun a u h=>?_
 obtain ⟨s,c⟩:=a
 have h:c=46:=ieq_of h
 subst h
 refine entry_ok (vs:=[.str s,.int .u8 46]) (.int .i64 (N.dots s)) (.int .i64 (N.dots s)) (fun _ _ _=>.dat (.int _ _)) [.string ⟨s.toArray⟩,.int .u8 46] (fun _ _ _ _ h=>two_args h) (fun a b h=>?_) fun w=>?_
 ·have h:a=(aCons vStr (aOne (vInt .u8))).enc (s,46)∧b=bNil.enc u:=by simpa using h
  exact ⟨h.1,h.2,rfl⟩
 ·rw [run_callFunc_extern Tryz.func118 (by kernel_rfl) (by kernel_rfl) (by kernel_rfl) (e:=Extern.BytealgCount.count) (by kernel_rfl),Lib.run_countString]
  try rfl
theorem ok_dot1:FnOk Tryz.prog 133 dDot1:=by
 refine den_okF (env_ok ((TOk.nil _).cons ok_dotE)) (E:=eDot1) Tryz.func133 [] (by kernel_rfl) none0 fun a _ h=>?_
 obtain ⟨s,c⟩:=a
 have h:c=46:=ieq_of h
 subst h
 exact q_dot1 s
noncomputable def eDotL:Env:=env Tryz.prog [(133,dDot1)] [(15,fun _ _=>none)] []
theorem q_dotL (s:Bytes):evFn eDotL 119 ((aCons vStr (aOne vStr)).enc (s,[46])) ([]) some =
 cond ([(46:UInt8)]==s) (some {v:=V.int .i64 (0:Int),bx:=[]}) (some {v:=V.int .i64 (N.dot s),bx:=[]}):=by kernel_rfl
theorem ok_dotL:FnOk Tryz.prog 119 dDot:=by
 refine den_okF (env_ok ((TOk.nil _).cons ok_dot1)) (E:=eDotL) Tryz.func119 [15] (by kernel_rfl) (one1 (rounds_none rfl)) fun a _ h=>?_
 obtain ⟨s,c⟩:=a
 have h:c=[46]:=by simpa using h
 subst h
 refine (q_dotL s).trans ?_
 cases e:([46]==s) with
 | true =>
  have e:[46]=s:=by simpa using e
  subst e; rfl
 | false=>rfl
noncomputable def eDot:Env:=env Tryz.prog [(119,dDot)] [] []
theorem q_dot (s:Bytes):evFn eDot 97 ((aCons vStr (aOne vStr)).enc (s,[46])) ([]) some =
 some {v:=V.int .i64 (N.dot s),bx:=[]}:=by kernel_rfl
theorem ok_dot:FnOk Tryz.prog 97 dDot:=by
 refine den_okF (env_ok ((TOk.nil _).cons ok_dotL)) (E:=eDot) Tryz.func97 [] (by kernel_rfl) none0 fun a _ h=>?_
 obtain ⟨s,c⟩:=a
 have h:c=[46]:=by simpa using h
 subst h
 exact q_dot s
noncomputable def eDots:Env:=env Tryz.prog [(118,dDots1)] [(6,fun _ _=>none)] []
theorem q_dots (s:Bytes):evFn eDots 96 ((aCons vStr (aOne vStr)).enc (s,[46])) ([]) some =
 some {v:=V.int .i64 (N.dots s),bx:=[]}:=by kernel_rfl
theorem ok_dots:FnOk Tryz.prog 96 dDots:=by
 refine den_okF (env_ok ((TOk.nil _).cons ok_dotsE)) (E:=eDots) Tryz.func96 [6] (by kernel_rfl) (one1 (rounds_none rfl)) fun a _ h=>?_
 obtain ⟨s,c⟩:=a
 have h:c=[46]:=by simpa using h
 subst h
 exact q_dots s
def schGen:SSch:={ fr:=[(0,.str),(1,.str),(2,.int .i64),(3,.int .i64),(9,.own 10000),(10,.int .i64)],tab:=[(10000,.sl [.str])] }
def gGen:List Leaf→(Ex→St→Option R)→Option R
 | [.s s0,.s s1,.i i2,.i i3,.i i10,.r rx0],K=>cond (s1==[46]) (cond (i2==0) (cond (ile 0 i10) (cond (ile i10 i3) (cond (i3+1==rx0.length) (cond (Nat.ble s0.length LIM) (cond (Nat.ble rx0.length (LIM+1))
   (K (.exit 0) { fr:=[(0,.str (N.gen (i3-i10).toNat s0 i10 rx0).1),(9,.own 10000 0),(10,.int .i64 (N.gen (i3-i10).toNat s0 i10 rx0).2.1)],tab:=[(10000,.sl [.str] (N.gen (i3-i10).toNat s0 i10 rx0).2.2 0)] }) none) none) none) none) none) none) none
 | _,_=>none
noncomputable def eGen:Env:=env Tryz.prog [(96,dDots),(97,dDot)] [(11,loopF schGen gGen)] [(11,[(0,[0,1,2,3,9,10]),(1,[0,9,10]),(1000,[8])])]
theorem q_gen_ (s:Bytes):evFn eGen 70 ((aCons vStr (aCons vStr (aCons (vInt .i64) (aOne (vInt .i64))))).enc (s,[46],0,-1)) ([]) some =(
 let z2:=((↑(List.length s):Int)+(1:Int));let z6:=(IntKind.wrap .i64 (N.dots s+(1:Int)));let z0:=(bif ilt (IntKind.wrap .i64 z2) z6 then IntKind.wrap .i64 z2 else IntKind.wrap .i64 (N.dots s+(1:Int)));let z1:=(N.gen (Int.toNat (IntKind.wrap .i64 (z0-(1:Int))-(0:Int))) s (0:Int) (List.replicate (Int.toNat z0) [V.str []]));let z3:=(List.set (Prod.snd (Prod.snd z1)) (Int.toNat (Prod.fst (Prod.snd z1))) [V.str (Prod.fst z1)]);let z4:=(Prod.fst (Prod.snd z1)+(1:Int));let z5:=(List.length (List.replicate (Int.toNat z0) [V.str []]));cond (decide (((0:Int)≤bif ilt (IntKind.wrap .i64 z2) z6 then IntKind.wrap .i64 z2 else IntKind.wrap .i64 (N.dots s+(1:Int)))∧(z0=bif ilt (IntKind.wrap .i64 z2) z6 then IntKind.wrap .i64 z2 else IntKind.wrap .i64 (N.dots s+(1:Int)))∧z0*(↑(16:Nat):Int)≤(140737488355328:Int)∧z0≤(140737488355328:Int))) (cond (ile (0:Int) (IntKind.wrap .i64 (z0-(1:Int)))) (cond (IntKind.wrap .i64 (z0-(1:Int))+(1:Int)==(↑z5:Int)) (cond (Nat.ble (List.length s) 1000000) (cond (Nat.ble z5 1000001) (cond (decide ((0:Int)≤Prod.fst (Prod.snd z1)∧Prod.fst (Prod.snd z1)<(↑(List.length (Prod.snd (Prod.snd z1))):Int))) (cond (decide ((0:Int)≤IntKind.wrap .i64 z4∧IntKind.wrap .i64 z4≤(↑(List.length z3):Int))) (some {v:=V.slc [.str] (List.drop 0 (List.take (Int.toNat (IntKind.wrap .i64 z4)) z3)),bx:=[]}) (none)) (none)) (none)) (none)) (none)) (none)) (none)):=by kernel_rfl
theorem q_gen (s:Bytes):type_of% (by have h:=q_gen_ s; dsimp only at h; exact h):=by
 have h:=q_gen_ s
 dsimp only at h
 exact h
theorem q_genR (s0:Bytes) (i3:Int) (i10:Int) (rx0:List (List V)) (K:Ex→St→Option R):evRound eGen 70 11 { fr:=[(0,.str s0),(1,.str [46]),(2,.int .i64 0),(3,.int .i64 i3),(9,.own 10000 0),(10,.int .i64 i10)],tab:=[(10000,.sl [.str] rx0 0)] } K =
 cond (ilt i10 i3) (cond (ilt (N.dot s0) (0:Int)) (K (Ex.exit 0) {fr:=[(0,V.str s0),(9,V.own 10000 0),(10,V.int .i64 i10)],tab:=[(10000,Box.sl [.str] rx0 0)]}) (cond (decide ((0:Int)≤IntKind.wrap .i64 (N.dot s0+(0:Int))∧IntKind.wrap .i64 (N.dot s0+(0:Int))≤(↑(List.length s0):Int))) (cond (decide ((0:Int)≤i10∧i10<(↑(List.length rx0):Int))) (cond (decide ((0:Int)≤IntKind.wrap .i64 (N.dot s0+(↑(1:Nat):Int))∧IntKind.wrap .i64 (N.dot s0+(↑(1:Nat):Int))≤(↑(List.length s0):Int))) (K Ex.normal {fr:=[(0,V.str (List.drop (Int.toNat (IntKind.wrap .i64 (N.dot s0+(↑(1:Nat):Int)))) (List.take (List.length s0) s0))),(1,V.str [(46:UInt8)]),(2,V.int .i64 (0:Int)),(3,V.int .i64 i3),(9,V.own 10000 0),(10,V.int .i64 (IntKind.wrap .i64 (i10+(1:Int))))],tab:=[(10000,Box.sl [.str] (List.set rx0 (Int.toNat i10) [V.str (List.drop 0 (List.take (Int.toNat (IntKind.wrap .i64 (N.dot s0+(0:Int)))) s0))]) 0)]}) (none)) (none)) (none))) (K (Ex.exit 0) {fr:=[(0,V.str s0),(9,V.own 10000 0),(10,V.int .i64 i10)],tab:=[(10000,Box.sl [.str] rx0 0)]}):=by kernel_rfl
theorem dots_le (s:Bytes):N.dots s≤s.length:=by unfold N.dots; have:=List.count_le_length (a:=(46:UInt8)) (l:=s); omega
theorem ok_gen:FnOk Tryz.prog 70 dGenSplit:=by
 refine den_okF (env_ok (((TOk.nil _).cons ok_dot).cons ok_dots)) (E:=eGen) Tryz.func70 [11] (by kernel_rfl) (one1 (rounds_of rfl fun l K q h=>?_)) fun a _ h=>?_
 ·unfold gGen at h
  split at h
  ·rename_i s c z n i rows
   have h1:=(cond_none h).1; replace h:=(cond_none h).2; have h2:=(cond_none h).1; replace h:=(cond_none h).2; have h3:=(cond_none h).1; replace h:=(cond_none h).2; have h4:=(cond_none h).1; replace h:=(cond_none h).2; have h5:=(cond_none h).1; replace h:=(cond_none h).2; have h6:=(cond_none h).1; replace h:=(cond_none h).2; have h7:=(cond_none h).1; replace h:=(cond_none h).2
   have h7:rows.length≤1000001:=ble_of h7
   have h1:c=[46]:=by simpa using h1
   have h2:=ieq_of h2
   subst h1 h2
   have h5:=ieq_of h5
   have h6:s.length≤1000000:=ble_of h6
   have h3:=ile_of h3
   have h4:=ile_of h4
   refine loop_ind (E:=eGen) (f:=70) (id:=11) (σ:=Bytes × Int × List (List V)) (fun x=>{ fr:=[(0,.str x.1),(1,.str [46]),(2,.int .i64 0),(3,.int .i64 n),(9,.own 10000 0),(10,.int .i64 x.2.1)],tab:=[(10000,.sl [.str] x.2.2 0)] })
    (fun x=>x.1.length≤1000000∧0≤x.2.1∧x.2.1≤n∧n+1=x.2.2.length∧x.2.2.length≤1000001) (fun x=>(n-x.2.1).toNat)
    (fun x K=>K (.exit 0) { fr:=[(0,.str (N.gen (n-x.2.1).toNat x.1 x.2.1 x.2.2).1),(9,.own 10000 0),(10,.int .i64 (N.gen (n-x.2.1).toNat x.1 x.2.1 x.2.2).2.1)],tab:=[(10000,.sl [.str] (N.gen (n-x.2.1).toNat x.1 x.2.1 x.2.2).2.2 0)] }) ?_ (s,i,rows)
    ⟨h6,h3,h4,h5,h7⟩ K q h
   rintro ⟨s,i,rows⟩ ⟨h6,h3,h4,h5,h7⟩
   simp only at h6 h3 h4 h5 h7 ⊢
   by_cases hl:i<n
   ·have e:(n-i).toNat=(n-(i+1)).toNat+1:=by omega
    rw [e]
    simp only [N.gen]
    rcases splitDot_dot s with ⟨g1,_,_⟩ | ⟨g1,g2,_,_⟩
    ·have hd:ilt (N.dot s) 0=true:=by rw [g1]; rfl
     rw [hd]
     refine .inr ⟨.exit 0,_,by simp,fun K=>?_,fun K=>rfl⟩
     rw [q_genR]
     simp (disch:=omega) only [evs]
    ·have hd:ilt (N.dot s) 0=false:=ilt_f (by omega)
     rw [hd]
     refine .inl ⟨(s.drop (N.dot s+1).toNat,i+1,rows.set i.toNat [.str (s.take (N.dot s).toNat)]),⟨by simp only [List.length_drop]; omega,by simp only; omega,by simp only; omega,by simp only [List.length_set]; omega,by simp only [List.length_set]; omega⟩,by simp only; omega,fun K=>?_,fun K=>rfl⟩
     rw [q_genR]
     simp (disch:=omega) only [evs,List.take_length,Int.add_zero,List.drop_zero]
     try rfl
   ·refine .inr ⟨.exit 0,_,by simp,fun K=>?_,fun K=>rfl⟩
    rw [q_genR,show (n-i).toNat=0 by omega]
    simp (disch:=omega) only [evs,N.gen]
  ·cases h
 ·obtain ⟨s,c,z,n⟩:=a
  have h1:=(bcond h).1; replace h:=(bcond h).2; have h2:=(bcond h).1; replace h:=(bcond h).2; have h3:=(bcond h).1; replace h:=(bcond h).2
  have e1:c=[46]:=by simpa using h1
  have e2:z=0:=ieq_of h2
  have e3:n = -1:=ieq_of h3
  subst e1 e2 e3
  have h:s.length≤1000000:=ble_of h
  refine (q_gen s).trans ?_
  show _=some (⟨.slc [.str] ((N.splitDot s).map rStr.enc),[],[]⟩:DRes)
  have hd:=dots_le s
  have hd0:0≤N.dots s:=Int.natCast_nonneg _
  obtain ⟨g1,g2,g3,g4⟩:=gen_ok (N.dots s).toNat s 0 (List.replicate (N.dots s+1).toNat [V.str []]) (by omega) (by omega) (by rw [List.length_replicate]; omega)
  rw [List.length_replicate] at g2 g3
  simp (disch:=omega) only [evs,show N.dots s+1-1-0=N.dots s by omega,g3]
  rw [g4]
  try rfl
noncomputable def eSplit:Env:=env Tryz.prog [(70,dGenSplit)] [] []
theorem q_split (s:Bytes):evFn eSplit 37 ((aCons vStr (aOne vStr)).enc (s,[46])) ([]) some =
 cond (Nat.ble (List.length s) 1000000) (some {v:=V.slc [.str] (List.map (fun n=>[V.str n]) (N.splitDot s)),bx:=[]}) (none):=by kernel_rfl
theorem ok_split:FnOk Tryz.prog 37 dSplit:=by
 refine den_okF (env_ok ((TOk.nil _).cons ok_gen)) (E:=eSplit) Tryz.func37 [] (by kernel_rfl) none0 fun a _ h=>?_
 obtain ⟨s,c⟩:=a
 obtain ⟨h1,h⟩:=bcond h
 have h1:c=[46]:=by simpa using h1
 subst h1
 have h:s.length≤1000000:=ble_of h
 refine (q_split s).trans ?_
 simp (disch:=omega) only [evs]
 try rfl
noncomputable def eWords:Env:=env Tryz.prog [(37,dSplit)] [] []
theorem q_words (s:Bytes):evFn eWords 114 ((aOne vStr).enc s) ([]) some =
 cond (s==[]) (some {v:=V.slc [.str] [],bx:=[]}) (cond (Nat.ble (List.length s) 1000000) (some {v:=V.slc [.str] (List.map (fun n=>[V.str n]) (N.splitDot s)),bx:=[]}) (none)):=by kernel_rfl
theorem ok_words:FnOk Tryz.prog 114 dWords:=by
 refine den_okF (env_ok ((TOk.nil _).cons ok_split)) (E:=eWords) Tryz.func114 [] (by kernel_rfl) none0 fun s _ h=>?_
 have h:s.length≤1000000:=ble_of h
 refine (q_words s).trans ?_
 show _=some (⟨.slc [.str] ((N.words s).map rStr.enc),[],[]⟩:DRes)
 simp (disch:=omega) only [evs]
 cases s with
 | nil=>rfl
 | cons c r=>rfl
theorem splitDot_small:∀ (s:Bytes),(N.splitDot s).length≤s.length+1∧∀ w∈N.splitDot s,w.length≤s.length
 | []=>⟨Nat.le_refl _,fun w h=>by
  have h:w∈[[]]:=h
  rw [List.mem_singleton] at h; subst h; exact Nat.le_refl _⟩
 | c::r=>by
  obtain ⟨h1,h2⟩:=splitDot_small r
  unfold N.splitDot
  cases c==46 with
  | true =>
   refine ⟨by simpa using h1,fun w h=>?_⟩
   rcases List.mem_cons.1 h with rfl | h
   ·exact Nat.zero_le _
   ·have:=h2 w h; simp only [List.length_cons]; omega
  | false =>
   simp only [cond_false]
   cases hs:N.splitDot r with
   | nil=>exact absurd hs (splitDot_ne _)
   | cons w ws =>
    rw [hs] at h1 h2
    refine ⟨by simp only [List.length_cons] at h1 ⊢; omega,fun v h=>?_⟩
    rcases List.mem_cons.1 h with rfl | h
    ·have:=h2 w List.mem_cons_self; simp only [List.length_cons]; omega
    ·have:=h2 v (List.mem_cons_of_mem _ h); simp only [List.length_cons]; omega
theorem words_small (s:Bytes):(N.words s).length≤s.length+1∧∀ w∈N.words s,w.length≤s.length:=by
 unfold N.words
 cases s.isEmpty with
 | true=>exact ⟨Nat.zero_le _,fun w h=>by cases h⟩
 | false=>exact splitDot_small s
def schMatches4:SSch:={ fr:=[(5,.slc [.str]),(6,.slc [.str]),(7,.int .i64),(8,.int .i64),(9,.int .i64),(10,.int .i64)],tab:=[] }
def gMatches4:List Leaf→(Ex→St→Option R)→Option R
 | [.r r5,.r r6,.i i7,.i i8,.i i9,.i i10],K=>cond (i7==0) (cond (i8==0) (cond (i9==-1) (cond (i10==0) (cond (Nat.ble r5.length (LIM+1)) (cond (Nat.ble r6.length (LIM+1))
   (cond (ile 0 (N.goOnI (rowsS r5) (rowsS r6) 0 0 (-1) 0 (N.goFuel (rowsS r5) (rowsS r6))))
    (K (.exit 0) { fr:=[(5,.slc [.str] r5),(7,.int .i64 (N.goOnI (rowsS r5) (rowsS r6) 0 0 (-1) 0 (N.goFuel (rowsS r5) (rowsS r6))))],tab:=[] }) (K .ret { fr:=[(4,.bool false)],tab:=[] })) none) none) none) none) none) none
 | _,_=>none
def schMatches14:SSch:={ fr:=[(5,.slc [.str]),(7,.int .i64)],tab:=[] }
def gMatches14:List Leaf→(Ex→St→Option R)→Option R
 | [.r r5,.i i7],K=>cond (ile 0 i7) (cond (Nat.ble r5.length (LIM+1)) (K (.exit 3) { fr:=[(5,.slc [.str] r5),(7,.int .i64 (N.hashes (rowsS r5) (r5.length+1-i7.toNat) i7))],tab:=[] }) none) none
 | _,_=>none
noncomputable def eMatches:Env:=env Tryz.prog [(114,dWords)] [(14,loopF schMatches14 gMatches14),(4,loopF schMatches4 gMatches4)] [(4,[(0,[5,6,7,8,9,10]),(1,[5,7]),(1000,[4])]),(14,[(0,[5,7]),(4,[5,7]),(1000,[4])])]
theorem q_matches_ (p k:Bytes):evFn eMatches 93 ((aCons vStr (aOne vStr)).enc (p,k)) ([]) some =(
 let z1:=(List.map (fun n=>[V.str n]) (N.words p));let z2:=(List.map (fun r=>V.toStr (List.getD r 0 .undef)) z1);let z3:=(List.map (fun r=>V.toStr (List.getD r 0 .undef)) (List.map (fun n=>[V.str n]) (N.words k)));let z0:=(N.goOnI z2 z3 (0:Int) (0:Int) (-1:Int) (0:Int) (N.goFuel z2 z3));cond (Nat.ble (List.length p) 1000000) (cond (Nat.ble (List.length k) 1000000) (cond (Nat.ble (List.length z1) 1000001) (cond (Nat.ble (List.length (List.map (fun n=>[V.str n]) (N.words k))) 1000001) (cond (ile (0:Int) z0) (cond (ile (0:Int) z0) (cond (Nat.ble (List.length z1) 1000001) (some {v:=V.bool (N.hashes z2 (List.length z1+1-Int.toNat z0) z0==(↑(List.length z1):Int)),bx:=[]}) (none)) (none)) (some {v:=V.bool false,bx:=[]})) (none)) (none)) (none)) (none)):=by kernel_rfl
theorem q_matches (p k:Bytes):type_of% (by have h:=q_matches_ p k; dsimp only at h; exact h):=by
 have h:=q_matches_ p k
 dsimp only at h
 exact h
theorem q_matchesR4_ (r5:List (List V)) (r6:List (List V)) (i7:Int) (i8:Int) (i9:Int) (i10:Int) (K:Ex→St→Option R):evRound eMatches 93 4 { fr:=[(5,.slc [.str] r5),(6,.slc [.str] r6),(7,.int .i64 i7),(8,.int .i64 i8),(9,.int .i64 i9),(10,.int .i64 i10)],tab:=[] } K =(
 let z3:=(decide ((0:Int)≤i7∧i7<(↑(List.length r5):Int)));let z4:=(List.getD (List.getD r5 (Int.toNat i7) []) 0 V.undef);let z5:=(IntKind.wrap .i64 (i7+(1:Int)));let z2:=(K Ex.normal {fr:=[(5,V.slc [.str] r5),(6,V.slc [.str] r6),(7,V.int .i64 z5),(8,V.int .i64 (IntKind.wrap .i64 (i8+(1:Int)))),(9,V.int .i64 i9),(10,V.int .i64 i10)],tab:=[]});let z1:=(cond (ile (0:Int) i9) (K Ex.normal {fr:=[(5,V.slc [.str] r5),(6,V.slc [.str] r6),(7,V.int .i64 i9),(8,V.int .i64 (IntKind.wrap .i64 (i10+(1:Int)))),(9,V.int .i64 i9),(10,V.int .i64 (IntKind.wrap .i64 (i10+(1:Int))))],tab:=[]}) (K Ex.ret {fr:=[(4,V.bool false)],tab:=[]}));let z0:=(cond (ilt i7 (↑(List.length r5):Int)) (cond z3 (cond (V.toStr z4==[(42:UInt8)]) z2 (cond z3 (cond (decide ((0:Int)≤i8∧i8<(↑(List.length r6):Int))) (cond (V.toStr z4==V.toStr (List.getD (List.getD r6 (Int.toNat i8) []) 0 V.undef)) z2 z1) (none)) (none))) (none)) z1);cond (ilt i8 (↑(List.length r6):Int)) (cond (ilt i7 (↑(List.length r5):Int)) (cond z3 (cond (V.toStr z4==[(35:UInt8)]) (K Ex.normal {fr:=[(5,V.slc [.str] r5),(6,V.slc [.str] r6),(7,V.int .i64 z5),(8,V.int .i64 i8),(9,V.int .i64 z5),(10,V.int .i64 i8)],tab:=[]}) z0) (none)) z0) (K (Ex.exit 0) {fr:=[(5,V.slc [.str] r5),(7,V.int .i64 i7)],tab:=[]})):=by kernel_rfl
theorem q_matchesR4 (r5:List (List V)) (r6:List (List V)) (i7:Int) (i8:Int) (i9:Int) (i10:Int) (K:Ex→St→Option R):type_of% (by have h:=q_matchesR4_ r5 r6 i7 i8 i9 i10 K; dsimp only at h; exact h):=by
 have h:=q_matchesR4_ r5 r6 i7 i8 i9 i10 K
 dsimp only at h
 exact h
theorem q_matchesR14 (r5:List (List V)) (i7:Int) (K:Ex→St→Option R):evRound eMatches 93 14 { fr:=[(5,.slc [.str] r5),(7,.int .i64 i7)],tab:=[] } K =
 cond (ilt i7 (↑(List.length r5):Int)) (cond (decide ((0:Int)≤i7∧i7<(↑(List.length r5):Int))) (cond (V.toStr (List.getD (List.getD r5 (Int.toNat i7) []) 0 V.undef)==[(35:UInt8)]) (K Ex.normal {fr:=[(5,V.slc [.str] r5),(7,V.int .i64 (IntKind.wrap .i64 (i7+(1:Int))))],tab:=[]}) (K (Ex.exit 3) {fr:=[(5,V.slc [.str] r5),(7,V.int .i64 i7)],tab:=[]})) (none)) (K (Ex.exit 3) {fr:=[(5,V.slc [.str] r5),(7,V.int .i64 i7)],tab:=[]}):=by kernel_rfl
theorem matches14 (r5:List (List V)) (hr:r5.length≤1000001) (K:Ex→St→Option R) (q:R) (i:Int) (hi:0≤i) (h:K (.exit 3) { fr:=[(5,.slc [.str] r5),(7,.int .i64 (N.hashes (rowsS r5) (r5.length+1-i.toNat) i))],tab:=[] }=some q) :
  ∃ n,iterR eMatches 93 14 n { fr:=[(5,.slc [.str] r5),(7,.int .i64 i)],tab:=[] } K=some q:=by
 refine loop_ind (E:=eMatches) (f:=93) (id:=14) (σ:=Int) (fun i=>{ fr:=[(5,.slc [.str] r5),(7,.int .i64 i)],tab:=[] })
  (fun i=>0≤i) (fun i=>r5.length-i.toNat) (fun i K=>K (.exit 3) { fr:=[(5,.slc [.str] r5),(7,.int .i64 (N.hashes (rowsS r5) (r5.length+1-i.toNat) i))],tab:=[] }) ?_ i hi K q h
 intro i hi
 have fz:∀ i:Int,(r5.length:Int)≤i→∀ f,N.hashes (rowsS r5) f i=i:=fun i hi f=>by
  cases f with
  | zero=>rfl
  | succ f=>unfold N.hashes; rw [rowsS_length,ilt_f hi]; rfl
 by_cases hl:i<r5.length
 ·have e:r5.length+1-i.toNat=(r5.length+1-(i+1).toNat)+1:=by omega
  have e2:N.hashes (rowsS r5) (r5.length+1-i.toNat) i=cond (rowS (r5.getD i.toNat [])==[35]) (N.hashes (rowsS r5) (r5.length+1-(i+1).toNat) (i+1)) i:=by
   rw [e]
   show cond (cond (ilt i (rowsS r5).length) ((rowsS r5).getD i.toNat []==[35]) false) _ _=_
   rw [rowsS_length,ilt_t hl,rowsS_getD]; rfl
  rw [e2]
  cases hc:rowS (r5.getD i.toNat [])==[35] with
  | true =>
   refine .inl ⟨i+1,by omega,by omega,fun K=>?_,fun K=>rfl⟩
   rw [q_matchesR14]
   unfold rowS at hc
   simp (disch:=omega) only [evs,hc]
  | false =>
   refine .inr ⟨.exit 3,_,by simp,fun K=>?_,fun K=>rfl⟩
   rw [q_matchesR14]
   unfold rowS at hc
   simp (disch:=omega) only [evs,hc]
 ·refine .inr ⟨.exit 3,_,by simp,fun K=>?_,fun K=>rfl⟩
  rw [q_matchesR14,fz i (by omega)]
  simp (disch:=omega) only [evs]
theorem matches4 (r5 r6:List (List V)) (h5:r5.length≤1000001) (h6:r6.length≤1000001) (K:Ex→St→Option R) (q:R)
  (h:cond (ile 0 (N.goOnI (rowsS r5) (rowsS r6) 0 0 (-1) 0 (N.goFuel (rowsS r5) (rowsS r6))))
    (K (.exit 0) { fr:=[(5,.slc [.str] r5),(7,.int .i64 (N.goOnI (rowsS r5) (rowsS r6) 0 0 (-1) 0 (N.goFuel (rowsS r5) (rowsS r6))))],tab:=[] }) (K .ret { fr:=[(4,.bool false)],tab:=[] })=some q) :
  ∃ n,iterR eMatches 93 4 n { fr:=[(5,.slc [.str] r5),(6,.slc [.str] r6),(7,.int .i64 0),(8,.int .i64 0),(9,.int .i64 (-1)),(10,.int .i64 0)],tab:=[] } K=some q:=by
 have hv:GoInv (rowsS r5) (rowsS r6) 0 0 (-1) 0:=⟨by omega,by omega,by omega,by omega,.inl ⟨rfl,rfl⟩⟩
 refine loop_ind (E:=eMatches) (f:=93) (id:=4) (σ:=Nat × Int × Int × Int × Int)
  (fun x=>{ fr:=[(5,.slc [.str] r5),(6,.slc [.str] r6),(7,.int .i64 x.2.1),(8,.int .i64 x.2.2.1),(9,.int .i64 x.2.2.2.1),(10,.int .i64 x.2.2.2.2)],tab:=[] })
  (fun x=>GoInv (rowsS r5) (rowsS r6) x.2.1 x.2.2.1 x.2.2.2.1 x.2.2.2.2∧goMeas (rowsS r5) (rowsS r6) x.2.1 x.2.2.2.2<x.1) (fun x=>x.1)
  (fun x K=>cond (ile 0 (N.goOnI (rowsS r5) (rowsS r6) x.2.1 x.2.2.1 x.2.2.2.1 x.2.2.2.2 x.1))
    (K (.exit 0) { fr:=[(5,.slc [.str] r5),(7,.int .i64 (N.goOnI (rowsS r5) (rowsS r6) x.2.1 x.2.2.1 x.2.2.2.1 x.2.2.2.2 x.1))],tab:=[] }) (K .ret { fr:=[(4,.bool false)],tab:=[] }))
  ?_ (N.goFuel (rowsS r5) (rowsS r6),0,0,-1,0) ⟨hv,by unfold goMeas N.goFuel; simp only [Int.toNat_zero,Nat.sub_zero]; omega⟩ K q h
 rintro ⟨f,i,j,b,fr⟩ ⟨hi,hm⟩
 simp only at hi hm ⊢
 cases f with
 | zero=>omega
 | succ f =>
 obtain ⟨s1,s2,s3⟩:(ilt j (rowsS r6).length=true→_)∧(ilt j (rowsS r6).length=true→_)∧(ilt j (rowsS r6).length=true→_):=⟨fun hj=>(goOn_step f hi hj).1,fun hj=>(goOn_step f hi hj).2.1,fun hj=>(goOn_step f hi hj).2.2⟩
 have b0:=hi.i0
 have b1:=hi.i1
 have b2:=hi.j0
 have b3:=hi.j1
 have b4:=hi.bk
 have b5 : -1≤b∧b≤i∧0≤fr∧fr≤j:=by rcases b4 with ⟨_,_⟩ | ⟨_,_,_,_,_⟩<;>omega
 rw [rowsS_length] at b1 b3
 have eq:N.goOnI (rowsS r5) (rowsS r6) i j b fr (f+1)=cond (ilt j r6.length)
   (cond (cond (ilt i r5.length) (rowS (r5.getD i.toNat [])==[35]) false) (N.goOnI (rowsS r5) (rowsS r6) (i+1) j (i+1) j f)
    (cond (cond (ilt i r5.length) (cond (rowS (r5.getD i.toNat [])==[42]) true (rowS (r5.getD i.toNat [])==rowS (r6.getD j.toNat []))) false) (N.goOnI (rowsS r5) (rowsS r6) (i+1) (j+1) b fr f)
     (cond (ile 0 b) (N.goOnI (rowsS r5) (rowsS r6) b (fr+1) b (fr+1) f) (-1)))) i:=by
  unfold N.goOnI
  rw [N.goOn,rowsS_length,rowsS_length,rowsS_getD,rowsS_getD]
  cases ilt j r6.length
  ·rfl
  ·cases cond (ilt i r5.length) (rowS (r5.getD i.toNat [])==[35]) false
   ·cases cond (ilt i r5.length) (cond (rowS (r5.getD i.toNat [])==[42]) true (rowS (r5.getD i.toNat [])==rowS (r6.getD j.toNat []))) false
    ·cases ile 0 b<;>rfl
    ·rfl
   ·rfl
 rw [eq]
 simp only [rowsS_length,rowsS_getD] at s1 s2 s3
 cases hj:ilt j r6.length with
 | false =>
  rw [cond_false,ile_t b0]
  refine .inr ⟨.exit 0,_,by simp,fun K=>?_,fun K=>rfl⟩
  rw [q_matchesR4,hj]; rfl
 | true =>
  have s1:=s1 hj
  have s2:=s2 hj
  have s3:=s3 hj
  have hj':=ilt_of hj
  simp only [cond_true]
  cases hc:cond (ilt i r5.length) (rowS (r5.getD i.toNat [])==[35]) false with
  | true =>
   obtain ⟨g1,g2,_⟩:=s1 hc
   have hi' : i<r5.length:=by
    cases e:ilt i r5.length with
    | true=>exact ilt_of e
    | false=>rw [e] at hc; cases hc
   refine .inl ⟨(f,i+1,j,i+1,j),⟨g1,by simp only; omega⟩,by simp only; omega,fun K=>?_,fun K=>rfl⟩
   rw [q_matchesR4]
   rw [ilt_t hi',cond_true] at hc
   unfold rowS at hc
   simp (disch:=omega) only [evs,hc]
  | false =>
   simp only [cond_false]
   cases hd:cond (ilt i r5.length) (cond (rowS (r5.getD i.toNat [])==[42]) true (rowS (r5.getD i.toNat [])==rowS (r6.getD j.toNat []))) false with
   | true =>
    obtain ⟨g1,g2,_⟩:=s2 hc hd
    have hi' : i<r5.length:=by
     cases e:ilt i r5.length with
     | true=>exact ilt_of e
     | false=>rw [e] at hd; cases hd
    refine .inl ⟨(f,i+1,j+1,b,fr),⟨g1,by simp only; omega⟩,by simp only; omega,fun K=>?_,fun K=>rfl⟩
    rw [q_matchesR4]
    rw [ilt_t hi',cond_true] at hc hd
    unfold rowS at hc hd
    cases e42:V.toStr (List.getD (List.getD r5 i.toNat []) 0 V.undef)==[42] with
    | true=>simp (disch:=omega) only [evs,hc]
    | false=>rw [e42,cond_false] at hd; simp (disch:=omega) only [evs,hc,hd]
   | false =>
    simp only [cond_false]
    obtain ⟨t1,t2⟩:=s3 hc hd
    cases hb:ile 0 b with
    | true =>
     obtain ⟨g1,g2,_⟩:=t1 hb
     refine .inl ⟨(f,b,fr+1,b,fr+1),⟨g1,by simp only; omega⟩,by simp only; omega,fun K=>?_,fun K=>rfl⟩
     rw [q_matchesR4]
     by_cases hi' : i<r5.length
     ·rw [ilt_t hi',cond_true] at hc hd
      unfold rowS at hc hd
      cases e42:V.toStr (List.getD (List.getD r5 i.toNat []) 0 V.undef)==[42] with
      | true=>rw [e42] at hd; cases hd
      | false=>rw [e42,cond_false] at hd; simp (disch:=omega) only [evs,hc,hd,hb]
     ·simp (disch:=omega) only [evs,hb]
    | false =>
     refine .inr ⟨.ret,{ fr:=[(4,.bool false)],tab:=[] },by simp,fun K=>?_,fun K=>rfl⟩
     rw [q_matchesR4]
     by_cases hi' : i<r5.length
     ·rw [ilt_t hi',cond_true] at hc hd
      unfold rowS at hc hd
      cases e42:V.toStr (List.getD (List.getD r5 i.toNat []) 0 V.undef)==[42] with
      | true=>rw [e42] at hd; cases hd
      | false=>rw [e42,cond_false] at hd; simp (disch:=omega) only [evs,hc,hd,hb]
     ·simp (disch:=omega) only [evs,hb]
theorem goOn_some {p k:List Bytes} {i:Int} (h:N.goOn p k (N.goFuel p k) 0 0 (-1) 0=some i):0≤i∧i≤p.length :=
 goOn_bd _ ⟨by omega,by omega,by omega,by omega,.inl ⟨rfl,rfl⟩⟩ h
theorem hashes_fuel {p:List Bytes}:∀ (f g:Nat) (i:Int),0≤i→p.length<f+i.toNat→p.length<g+i.toNat→N.hashes p f i=N.hashes p g i
 | 0,0,i,_,_,_=>rfl
 | 0,g+1,i,h0,h1,_=>by unfold N.hashes; rw [ilt_f (by omega)]; rfl
 | f+1,0,i,h0,_,h1=>by unfold N.hashes; rw [ilt_f (by omega)]; rfl
 | f+1,g+1,i,h0,h1,h2=>by
  unfold N.hashes
  rw [hashes_fuel f g (i+1) (by omega) (by omega) (by omega)]
theorem ok_matches:FnOk Tryz.prog 93 dMatches:=by
 refine den_okF (env_ok ((TOk.nil _).cons ok_words)) (E:=eMatches) Tryz.func93 [4,14] (by kernel_rfl) (two2 (rounds_of rfl fun l K q h=>?_) (rounds_of rfl fun l K q h=>?_)) fun a _ h=>?_
 ·unfold gMatches4 at h
  split at h
  ·rename_i r5 r6 i7 i8 i9 i10
   have h1:=(cond_none h).1; replace h:=(cond_none h).2; have h2:=(cond_none h).1; replace h:=(cond_none h).2; have h3:=(cond_none h).1; replace h:=(cond_none h).2; have h4:=(cond_none h).1; replace h:=(cond_none h).2; have h5:=(cond_none h).1; replace h:=(cond_none h).2; have h6:=(cond_none h).1; replace h:=(cond_none h).2
   have e1:=ieq_of h1
   have e2:=ieq_of h2
   have e3:=ieq_of h3
   have e4:=ieq_of h4
   subst e1 e2 e3 e4
   exact matches4 r5 r6 (ble_of h5) (ble_of h6) K q h
  ·cases h
 ·unfold gMatches14 at h
  split at h
  ·rename_i r5 i7
   have h1:=(cond_none h).1; replace h:=(cond_none h).2; have h2:=(cond_none h).1; replace h:=(cond_none h).2
   exact matches14 r5 (ble_of h2) K q i7 (ile_of h1) h
  ·cases h
 ·obtain ⟨p,k⟩:=a
  have h1:=(bcond h).1; replace h:=(bcond h).2
  have h1:p.length≤1000000:=ble_of h1
  have h:k.length≤1000000:=ble_of h
  refine (q_matches p k).trans ?_
  show _=some (⟨.bool (N.matchW (N.words p) (N.words k)),[],[]⟩:DRes)
  have e:∀ l:List Bytes,(l.map (fun n=>[V.str n])).map (fun r=>V.toStr (List.getD r 0 V.undef))=l:=fun l=>rowsS_enc l
  have w1:=(words_small p).1
  have w2:=(words_small k).1
  generalize N.words p=p at *
  generalize N.words k=k at *
  simp (disch:=omega) only [evs,e]
  unfold N.goOnI N.matchW
  cases hg:N.goOn p k (N.goFuel p k) 0 0 (-1) 0 with
  | none=>rfl
  | some i =>
   obtain ⟨g1,g2⟩:=goOn_some hg
   simp only [Option.getD_some]
   simp (disch:=omega) only [evs,hashes_fuel (p:=p) (p.length+1-i.toNat) (p.length+1) i g1 (by omega) (by omega)]
end Go.Ev

/- Splitting at the line's end: the plain functions and the library's: definitions and lemmas,no condition. -/
namespace Go.Ev
open Go Go.Proofs
set_option maxRecDepth 100000
namespace N
def splitDotNL:Bytes→List Bytes
 | []=>[[]]
 | c::r=>cond (c==10) ([]::splitDotNL r) (match splitDotNL r with | []=>[[c]] | w::ws=>(c::w)::ws)
def dotNL:Bytes→Int
 | []=>-1
 | c::r=>cond (c==10) 0 (cond (dotNL r==-1) (-1) (dotNL r+1))
def dotsNL (s:Bytes):Int:=s.count 10
def genNL:Nat→Bytes→Int→List (List V)→Bytes × Int × List (List V)
 | 0,s,i,rows=>(s,i,rows)
 | f+1,s,i,rows=>cond (ilt (dotNL s) 0) (s,i,rows) (genNL f (s.drop (dotNL s+1).toNat) (i+1) (rows.set i.toNat [.str (s.take (dotNL s).toNat)]))
end N
def dDot1NL:Den:=den (aCons vStr (aOne (vInt .u8))) bNil (oV (vInt .i64)) (fun a _=>a.2==10) fun a _=>(N.dotNL a.1,())
def dDotNL:Den:=den (aCons vStr (aOne vStr)) bNil (oV (vInt .i64)) (fun a _=>a.2==[10]) fun a _=>(N.dotNL a.1,())
def dDots1NL:Den:=den (aCons vStr (aOne (vInt .u8))) bNil (oV (vInt .i64)) (fun a _=>a.2==10) fun a _=>(N.dotsNL a.1,())
def dDotsNL:Den:=den (aCons vStr (aOne vStr)) bNil (oV (vInt .i64)) (fun a _=>a.2==[10]) fun a _=>(N.dotsNL a.1,())
def dSplitNL:Den:=den (aCons vStr (aOne vStr)) bNil (oV (vSl rStr)) (fun a _=>cond (a.2==[10]) (Nat.ble a.1.length LIM) false) fun a _=>(N.splitDotNL a.1,())
def dGenSplitNL:Den:=den (aCons vStr (aCons vStr (aCons (vInt .i64) (aOne (vInt .i64))))) bNil (oV (vSl rStr)) (fun a _=>cond (a.2.1==[10]) (cond (a.2.2.1==0) (cond (a.2.2.2==-1) (Nat.ble a.1.length LIM) false) false) false) fun a _=>(N.splitDotNL a.1,())
theorem splitDot_neNL:∀ s,N.splitDotNL s ≠ []
 | []=>by simp [N.splitDotNL]
 | c::r=>by
  unfold N.splitDotNL
  cases c==10 with
  | true=>simp
  | false =>
   simp only [cond_false]
   split<;>simp
theorem splitDot_dotNL:∀ s,(N.dotNL s = -1∧N.splitDotNL s=[s]∧N.dotsNL s=0)∨(0≤N.dotNL s∧N.dotNL s<s.length∧N.splitDotNL s=s.take (N.dotNL s).toNat::N.splitDotNL (s.drop (N.dotNL s+1).toNat)∧N.dotsNL s=N.dotsNL (s.drop (N.dotNL s+1).toNat)+1)
 | []=>.inl ⟨rfl,rfl,rfl⟩
 | c::r=>by
  have hd:N.dotsNL (c::r)=N.dotsNL r+(if c==10 then 1 else 0):=by
   unfold N.dotsNL; rw [List.count_cons]; split<;>simp
  have hs:N.splitDotNL (c::r)=cond (c==10) ([]::N.splitDotNL r) (match N.splitDotNL r with | []=>[[c]] | w::ws=>(c::w)::ws):=rfl
  have ht:N.dotNL (c::r)=cond (c==10) 0 (cond (N.dotNL r==-1) (-1) (N.dotNL r+1)):=rfl
  rw [hs,ht]
  cases hc:c==10 with
  | true =>
   rw [hc,if_pos rfl] at hd
   simp only [cond_true]
   refine .inr ⟨by decide,by simp only [List.length_cons]; omega,?_,?_⟩
   ·rfl
   ·rw [hd]; rfl
  | false =>
   rw [hc] at hd
   simp only [cond_false]
   rcases splitDot_dotNL r with ⟨h1,h2,h3⟩ | ⟨h1,h2,h3,h4⟩
   ·rw [h1,h2]
    exact .inl ⟨rfl,rfl,by rw [hd,h3]; rfl⟩
   ·have hne:(N.dotNL r==-1)=false:=by rw [beq_eq_false_iff_ne]; omega
    rw [hne,cond_false]
    have e1:(N.dotNL r+1+1).toNat=(N.dotNL r+1).toNat+1:=by omega
    have e2:(N.dotNL r+1).toNat=(N.dotNL r).toNat+1:=by omega
    refine .inr ⟨by omega,by simp only [List.length_cons]; omega,?_,?_⟩
    ·rw [h3,e1,List.drop_succ_cons,e2,List.take_succ_cons]
    ·rw [hd,h4,e1,List.drop_succ_cons]; simp
theorem gen_okNL:∀ (f:Nat) (s:Bytes) (i:Int) (rows:List (List V)),0≤i→(f:Int)=N.dotsNL s→(rows.length:Int)=i+f+1 →
  0≤(N.genNL f s i rows).2.1∧(N.genNL f s i rows).2.1<rows.length∧(N.genNL f s i rows).2.2.length=rows.length ∧
  ((N.genNL f s i rows).2.2.set (N.genNL f s i rows).2.1.toNat [.str (N.genNL f s i rows).1]).take ((N.genNL f s i rows).2.1+1).toNat=rows.take i.toNat++(N.splitDotNL s).map rStr.enc
 | f,s,i,rows,h0,hf,hl=>by
  have stop:N.splitDotNL s=[s]→(rows.set i.toNat [.str s]).take (i+1).toNat=rows.take i.toNat++(N.splitDotNL s).map rStr.enc:=fun e=>by
   have hi:i.toNat<rows.length:=by omega
   rw [e,show (i+1).toNat=i.toNat+1 by omega,List.take_add_one,List.getElem?_set_self hi,List.take_set_of_le (Nat.le_refl _)]; rfl
  rcases splitDot_dotNL s with ⟨h1,h2,h3⟩ | ⟨h1,h2,h3,h4⟩
  ·have:f=0:=by omega
   subst this
   exact ⟨h0,by show i<_; omega,rfl,stop h2⟩
  ·cases f with
   | zero =>
    have:0≤N.dotsNL (s.drop (N.dotNL s+1).toNat):=Int.natCast_nonneg _
    omega
   | succ f =>
    have hn:ilt (N.dotNL s) 0=false:=by rw [ilt_eq,decide_eq_false_iff_not]; omega
    unfold N.genNL
    rw [hn,cond_false]
    obtain ⟨g1,g2,g3,g4⟩:=gen_okNL f (s.drop (N.dotNL s+1).toNat) (i+1) (rows.set i.toNat [.str (s.take (N.dotNL s).toNat)]) (by omega) (by omega) (by rw [List.length_set]; omega)
    rw [List.length_set] at g2 g3
    refine ⟨g1,g2,g3,g4.trans ?_⟩
    have hi:i.toNat<rows.length:=by omega
    rw [h3,show (i+1).toNat=i.toNat+1 by omega,List.take_add_one,List.getElem?_set_self hi,List.take_set_of_le (Nat.le_refl _),List.append_assoc]; rfl
noncomputable def eDot1NL:Env:=env Tryz.prog [(144,dDot1NL)] [] []
theorem q_dot1NL (s:Bytes):evFn eDot1NL 133 ((aCons vStr (aOne (vInt .u8))).enc (s,10)) ([]) some =
 some {v:=V.int .i64 (N.dotNL s),bx:=[]}:=by kernel_rfl
theorem dot_eqNL (s:Bytes):Lib.indexByte s 10=N.dotNL s:=by
 induction s with
 | nil=>rfl
 | cons c r ih =>
  unfold Lib.indexByte N.dotNL
  rw [ih]
  cases c==10<;>cases N.dotNL r==-1<;>rfl
theorem two_argsNL {s:Bytes} {w:World} {I:Nat→Nat→Prop} {ρ:Nat→Option Real} {ys:List Value} (h:AllRv w I ρ [.str s,.int .u8 10] ys):ys=[.string ⟨s.toArray⟩,.int .u8 10]:=by
 obtain ⟨x,xs,rfl,h1,h2⟩:=h.uncons
 obtain ⟨y,rfl,h3⟩:=h2.one
 rw [h1.str_inv,h3.int_inv]
theorem ok_dotENL:FnOk Tryz.prog 144 dDot1NL:=by
 refine den_of fun a u h=>?_
 obtain ⟨s,c⟩:=a
 have h:c=10:=ieq_of h
 subst h
 refine entry_ok (vs:=[.str s,.int .u8 10]) (.int .i64 (N.dotNL s)) (.int .i64 (N.dotNL s)) (fun _ _ _=>.dat (.int _ _)) [.string ⟨s.toArray⟩,.int .u8 10] (fun _ _ _ _ h=>two_argsNL h) (fun a b h=>?_) fun w=>?_
 ·have h:a=(aCons vStr (aOne (vInt .u8))).enc (s,10)∧b=bNil.enc u:=by simpa using h
  exact ⟨h.1,h.2,rfl⟩
 ·rw [run_callFunc_extern Tryz.func144 (by kernel_rfl) (by kernel_rfl) (by kernel_rfl) (e:=Extern.BytealgIndexByte.indexByte) (by kernel_rfl),Lib.run_indexByteString]
  simp only [Result.andThen]
  have:Lib.indexByte (ByteArray.mk s.toArray).data.toList (Int.toNat 10).toUInt8=N.dotNL s:=dot_eqNL s
  rw [this]
theorem ok_dotsENL:FnOk Tryz.prog 118 dDots1NL:=by
 refine den_of fun a u h=>?_
 obtain ⟨s,c⟩:=a
 have h:c=10:=ieq_of h
 subst h
 refine entry_ok (vs:=[.str s,.int .u8 10]) (.int .i64 (N.dotsNL s)) (.int .i64 (N.dotsNL s)) (fun _ _ _=>.dat (.int _ _)) [.string ⟨s.toArray⟩,.int .u8 10] (fun _ _ _ _ h=>two_argsNL h) (fun a b h=>?_) fun w=>?_
 ·have h:a=(aCons vStr (aOne (vInt .u8))).enc (s,10)∧b=bNil.enc u:=by simpa using h
  exact ⟨h.1,h.2,rfl⟩
 ·rw [run_callFunc_extern Tryz.func118 (by kernel_rfl) (by kernel_rfl) (by kernel_rfl) (e:=Extern.BytealgCount.count) (by kernel_rfl),Lib.run_countString]
  try rfl
theorem ok_dot1NL:FnOk Tryz.prog 133 dDot1NL:=by
 refine den_okF (env_ok ((TOk.nil _).cons ok_dotENL)) (E:=eDot1NL) Tryz.func133 [] (by kernel_rfl) none0 fun a _ h=>?_
 obtain ⟨s,c⟩:=a
 have h:c=10:=ieq_of h
 subst h
 exact q_dot1NL s
noncomputable def eDotLNL:Env:=env Tryz.prog [(133,dDot1NL)] [(15,fun _ _=>none)] []
theorem q_dotLNL (s:Bytes):evFn eDotLNL 119 ((aCons vStr (aOne vStr)).enc (s,[10])) ([]) some =
 cond ([(10:UInt8)]==s) (some {v:=V.int .i64 (0:Int),bx:=[]}) (some {v:=V.int .i64 (N.dotNL s),bx:=[]}):=by kernel_rfl
theorem ok_dotLNL:FnOk Tryz.prog 119 dDotNL:=by
 refine den_okF (env_ok ((TOk.nil _).cons ok_dot1NL)) (E:=eDotLNL) Tryz.func119 [15] (by kernel_rfl) (one1 (rounds_none rfl)) fun a _ h=>?_
 obtain ⟨s,c⟩:=a
 have h:c=[10]:=by simpa using h
 subst h
 refine (q_dotLNL s).trans ?_
 cases e:([10]==s) with
 | true =>
  have e:[10]=s:=by simpa using e
  subst e; rfl
 | false=>rfl
noncomputable def eDotNL:Env:=env Tryz.prog [(119,dDotNL)] [] []
theorem q_dotNL (s:Bytes):evFn eDotNL 97 ((aCons vStr (aOne vStr)).enc (s,[10])) ([]) some =
 some {v:=V.int .i64 (N.dotNL s),bx:=[]}:=by kernel_rfl
theorem ok_dotNL:FnOk Tryz.prog 97 dDotNL:=by
 refine den_okF (env_ok ((TOk.nil _).cons ok_dotLNL)) (E:=eDotNL) Tryz.func97 [] (by kernel_rfl) none0 fun a _ h=>?_
 obtain ⟨s,c⟩:=a
 have h:c=[10]:=by simpa using h
 subst h
 exact q_dotNL s
noncomputable def eDotsNL:Env:=env Tryz.prog [(118,dDots1NL)] [(6,fun _ _=>none)] []
theorem q_dotsNL (s:Bytes):evFn eDotsNL 96 ((aCons vStr (aOne vStr)).enc (s,[10])) ([]) some =
 some {v:=V.int .i64 (N.dotsNL s),bx:=[]}:=by kernel_rfl
theorem ok_dotsNL:FnOk Tryz.prog 96 dDotsNL:=by
 refine den_okF (env_ok ((TOk.nil _).cons ok_dotsENL)) (E:=eDotsNL) Tryz.func96 [6] (by kernel_rfl) (one1 (rounds_none rfl)) fun a _ h=>?_
 obtain ⟨s,c⟩:=a
 have h:c=[10]:=by simpa using h
 subst h
 exact q_dotsNL s
def schGenNL:SSch:={ fr:=[(0,.str),(1,.str),(2,.int .i64),(3,.int .i64),(9,.own 10000),(10,.int .i64)],tab:=[(10000,.sl [.str])] }
def gGenNL:List Leaf→(Ex→St→Option R)→Option R
 | [.s s0,.s s1,.i i2,.i i3,.i i10,.r rx0],K=>cond (s1==[10]) (cond (i2==0) (cond (ile 0 i10) (cond (ile i10 i3) (cond (i3+1==rx0.length) (cond (Nat.ble s0.length LIM) (cond (Nat.ble rx0.length (LIM+1))
   (K (.exit 0) { fr:=[(0,.str (N.genNL (i3-i10).toNat s0 i10 rx0).1),(9,.own 10000 0),(10,.int .i64 (N.genNL (i3-i10).toNat s0 i10 rx0).2.1)],tab:=[(10000,.sl [.str] (N.genNL (i3-i10).toNat s0 i10 rx0).2.2 0)] }) none) none) none) none) none) none) none
 | _,_=>none
noncomputable def eGenNL:Env:=env Tryz.prog [(96,dDotsNL),(97,dDotNL)] [(11,loopF schGenNL gGenNL)] [(11,[(0,[0,1,2,3,9,10]),(1,[0,9,10]),(1000,[8])])]
theorem q_genNL_ (s:Bytes):evFn eGenNL 70 ((aCons vStr (aCons vStr (aCons (vInt .i64) (aOne (vInt .i64))))).enc (s,[10],0,-1)) ([]) some =(
 let z2:=((↑(List.length s):Int)+(1:Int));let z5:=(N.dotsNL s+(1:Int));let z0:=(bif ilt (IntKind.wrap .i64 z2) (IntKind.wrap .i64 z5) then IntKind.wrap .i64 z2 else IntKind.wrap .i64 z5);let z1:=(N.genNL (Int.toNat (IntKind.wrap .i64 (z0-(1:Int))-(0:Int))) s (0:Int) (List.replicate (Int.toNat z0) [V.str []]));let z3:=(List.set (Prod.snd (Prod.snd z1)) (Int.toNat (Prod.fst (Prod.snd z1))) [V.str (Prod.fst z1)]);let z4:=(Prod.fst (Prod.snd z1)+(1:Int));let z6:=(List.length (List.replicate (Int.toNat z0) [V.str []]));cond (decide (((0:Int)≤bif ilt (IntKind.wrap .i64 z2) (IntKind.wrap .i64 z5) then IntKind.wrap .i64 z2 else IntKind.wrap .i64 z5)∧(z0=bif ilt (IntKind.wrap .i64 z2) (IntKind.wrap .i64 z5) then IntKind.wrap .i64 z2 else IntKind.wrap .i64 z5)∧z0*(↑(16:Nat):Int)≤(140737488355328:Int)∧z0≤(140737488355328:Int))) (cond (ile (0:Int) (IntKind.wrap .i64 (z0-(1:Int)))) (cond (IntKind.wrap .i64 (z0-(1:Int))+(1:Int)==(↑z6:Int)) (cond (Nat.ble (List.length s) 1000000) (cond (Nat.ble z6 1000001) (cond (decide ((0:Int)≤Prod.fst (Prod.snd z1)∧Prod.fst (Prod.snd z1)<(↑(List.length (Prod.snd (Prod.snd z1))):Int))) (cond (decide ((0:Int)≤IntKind.wrap .i64 z4∧IntKind.wrap .i64 z4≤(↑(List.length z3):Int))) (some {v:=V.slc [.str] (List.drop 0 (List.take (Int.toNat (IntKind.wrap .i64 z4)) z3)),bx:=[]}) (none)) (none)) (none)) (none)) (none)) (none)) (none)):=by kernel_rfl
theorem q_genNL (s:Bytes):type_of% (by have h:=q_genNL_ s; dsimp only at h; exact h):=by
 have h:=q_genNL_ s
 dsimp only at h
 exact h
theorem q_genRNL (s0:Bytes) (i3:Int) (i10:Int) (rx0:List (List V)) (K:Ex→St→Option R):evRound eGenNL 70 11 { fr:=[(0,.str s0),(1,.str [10]),(2,.int .i64 0),(3,.int .i64 i3),(9,.own 10000 0),(10,.int .i64 i10)],tab:=[(10000,.sl [.str] rx0 0)] } K =
 cond (ilt i10 i3) (cond (ilt (N.dotNL s0) (0:Int)) (K (Ex.exit 0) {fr:=[(0,V.str s0),(9,V.own 10000 0),(10,V.int .i64 i10)],tab:=[(10000,Box.sl [.str] rx0 0)]}) (cond (decide ((0:Int)≤IntKind.wrap .i64 (N.dotNL s0+(0:Int))∧IntKind.wrap .i64 (N.dotNL s0+(0:Int))≤(↑(List.length s0):Int))) (cond (decide ((0:Int)≤i10∧i10<(↑(List.length rx0):Int))) (cond (decide ((0:Int)≤IntKind.wrap .i64 (N.dotNL s0+(↑(1:Nat):Int))∧IntKind.wrap .i64 (N.dotNL s0+(↑(1:Nat):Int))≤(↑(List.length s0):Int))) (K Ex.normal {fr:=[(0,V.str (List.drop (Int.toNat (IntKind.wrap .i64 (N.dotNL s0+(↑(1:Nat):Int)))) (List.take (List.length s0) s0))),(1,V.str [(10:UInt8)]),(2,V.int .i64 (0:Int)),(3,V.int .i64 i3),(9,V.own 10000 0),(10,V.int .i64 (IntKind.wrap .i64 (i10+(1:Int))))],tab:=[(10000,Box.sl [.str] (List.set rx0 (Int.toNat i10) [V.str (List.drop 0 (List.take (Int.toNat (IntKind.wrap .i64 (N.dotNL s0+(0:Int)))) s0))]) 0)]}) (none)) (none)) (none))) (K (Ex.exit 0) {fr:=[(0,V.str s0),(9,V.own 10000 0),(10,V.int .i64 i10)],tab:=[(10000,Box.sl [.str] rx0 0)]}):=by kernel_rfl
theorem dots_leNL (s:Bytes):N.dotsNL s≤s.length:=by unfold N.dotsNL; have:=List.count_le_length (a:=(10:UInt8)) (l:=s); omega
theorem ok_genNL:FnOk Tryz.prog 70 dGenSplitNL:=by
 refine den_okF (env_ok (((TOk.nil _).cons ok_dotNL).cons ok_dotsNL)) (E:=eGenNL) Tryz.func70 [11] (by kernel_rfl) (one1 (rounds_of rfl fun l K q h=>?_)) fun a _ h=>?_
 ·unfold gGenNL at h
  split at h
  ·rename_i s c z n i rows
   have h1:=(cond_none h).1; replace h:=(cond_none h).2; have h2:=(cond_none h).1; replace h:=(cond_none h).2; have h3:=(cond_none h).1; replace h:=(cond_none h).2; have h4:=(cond_none h).1; replace h:=(cond_none h).2; have h5:=(cond_none h).1; replace h:=(cond_none h).2; have h6:=(cond_none h).1; replace h:=(cond_none h).2; have h7:=(cond_none h).1; replace h:=(cond_none h).2
   have h7:rows.length≤1000001:=ble_of h7
   have h1:c=[10]:=by simpa using h1
   have h2:=ieq_of h2
   subst h1 h2
   have h5:=ieq_of h5
   have h6:s.length≤1000000:=ble_of h6
   have h3:=ile_of h3
   have h4:=ile_of h4
   refine loop_ind (E:=eGenNL) (f:=70) (id:=11) (σ:=Bytes × Int × List (List V)) (fun x=>{ fr:=[(0,.str x.1),(1,.str [10]),(2,.int .i64 0),(3,.int .i64 n),(9,.own 10000 0),(10,.int .i64 x.2.1)],tab:=[(10000,.sl [.str] x.2.2 0)] })
    (fun x=>x.1.length≤1000000∧0≤x.2.1∧x.2.1≤n∧n+1=x.2.2.length∧x.2.2.length≤1000001) (fun x=>(n-x.2.1).toNat)
    (fun x K=>K (.exit 0) { fr:=[(0,.str (N.genNL (n-x.2.1).toNat x.1 x.2.1 x.2.2).1),(9,.own 10000 0),(10,.int .i64 (N.genNL (n-x.2.1).toNat x.1 x.2.1 x.2.2).2.1)],tab:=[(10000,.sl [.str] (N.genNL (n-x.2.1).toNat x.1 x.2.1 x.2.2).2.2 0)] }) ?_ (s,i,rows)
    ⟨h6,h3,h4,h5,h7⟩ K q h
   rintro ⟨s,i,rows⟩ ⟨h6,h3,h4,h5,h7⟩
   simp only at h6 h3 h4 h5 h7 ⊢
   by_cases hl:i<n
   ·have e:(n-i).toNat=(n-(i+1)).toNat+1:=by omega
    rw [e]
    simp only [N.genNL]
    rcases splitDot_dotNL s with ⟨g1,_,_⟩ | ⟨g1,g2,_,_⟩
    ·have hd:ilt (N.dotNL s) 0=true:=by rw [g1]; rfl
     rw [hd]
     refine .inr ⟨.exit 0,_,by simp,fun K=>?_,fun K=>rfl⟩
     rw [q_genRNL]
     simp (disch:=omega) only [evs]
    ·have hd:ilt (N.dotNL s) 0=false:=ilt_f (by omega)
     rw [hd]
     refine .inl ⟨(s.drop (N.dotNL s+1).toNat,i+1,rows.set i.toNat [.str (s.take (N.dotNL s).toNat)]),⟨by simp only [List.length_drop]; omega,by simp only; omega,by simp only; omega,by simp only [List.length_set]; omega,by simp only [List.length_set]; omega⟩,by simp only; omega,fun K=>?_,fun K=>rfl⟩
     rw [q_genRNL]
     simp (disch:=omega) only [evs,List.take_length,Int.add_zero,List.drop_zero]
     try rfl
   ·refine .inr ⟨.exit 0,_,by simp,fun K=>?_,fun K=>rfl⟩
    rw [q_genRNL,show (n-i).toNat=0 by omega]
    simp (disch:=omega) only [evs,N.genNL]
  ·cases h
 ·obtain ⟨s,c,z,n⟩:=a
  have h1:=(bcond h).1; replace h:=(bcond h).2; have h2:=(bcond h).1; replace h:=(bcond h).2; have h3:=(bcond h).1; replace h:=(bcond h).2
  have e1:c=[10]:=by simpa using h1
  have e2:z=0:=ieq_of h2
  have e3:n = -1:=ieq_of h3
  subst e1 e2 e3
  have h:s.length≤1000000:=ble_of h
  refine (q_genNL s).trans ?_
  show _=some (⟨.slc [.str] ((N.splitDotNL s).map rStr.enc),[],[]⟩:DRes)
  have hd:=dots_leNL s
  have hd0:0≤N.dotsNL s:=Int.natCast_nonneg _
  obtain ⟨g1,g2,g3,g4⟩:=gen_okNL (N.dotsNL s).toNat s 0 (List.replicate (N.dotsNL s+1).toNat [V.str []]) (by omega) (by omega) (by rw [List.length_replicate]; omega)
  rw [List.length_replicate] at g2 g3
  simp (disch:=omega) only [evs,show N.dotsNL s+1-1-0=N.dotsNL s by omega,g3]
  rw [g4]
  try rfl
noncomputable def eSplitNL:Env:=env Tryz.prog [(70,dGenSplitNL)] [] []
theorem q_splitNL (s:Bytes):evFn eSplitNL 37 ((aCons vStr (aOne vStr)).enc (s,[10])) ([]) some =
 cond (Nat.ble (List.length s) 1000000) (some {v:=V.slc [.str] (List.map (fun n=>[V.str n]) (N.splitDotNL s)),bx:=[]}) (none):=by kernel_rfl
theorem ok_splitNL:FnOk Tryz.prog 37 dSplitNL:=by
 refine den_okF (env_ok ((TOk.nil _).cons ok_genNL)) (E:=eSplitNL) Tryz.func37 [] (by kernel_rfl) none0 fun a _ h=>?_
 obtain ⟨s,c⟩:=a
 obtain ⟨h1,h⟩:=bcond h
 have h1:c=[10]:=by simpa using h1
 subst h1
 have h:s.length≤1000000:=ble_of h
 refine (q_splitNL s).trans ?_
 simp (disch:=omega) only [evs]
 try rfl
end Go.Ev

/- The words of a line and the lines of a text,by the program and by the document: lemmas,no condition. -/
namespace Go.Ev
open Go Go.Proofs
set_option maxRecDepth 100000
-- FOLD
namespace N
end N
def dWordsP:Den:=den (aOne vStr) bNil (oV (vSl rStr)) (fun s _=>Nat.ble s.length 1000000) fun s _=>(N.wordsOf s,())
noncomputable def ePSplit:Env:=env Tryz.prog [(71,dFields)] [] []
theorem q_pSplit (s:Bytes):evFn ePSplit 38 ((aOne vStr).enc s) ([]) some =
 cond (Nat.ble (List.length s) 1000000) (some {v:=V.slc [.str] (List.map (RCod.enc rStr) (N.wordsOf s)),bx:=[]:DRes}) (none):=by kernel_rfl
theorem ok_pSplit:FnOk Tryz.prog 38 dWordsP:=by
 refine den_okF (env_ok ((TOk.nil _).cons ok_fields)) (E:=ePSplit) Tryz.func38 [] (by kernel_rfl) (none0) fun a b hp=>?_
 refine (q_pSplit a).trans ?_
 rw [show Nat.ble a.length 1000000=true from hp]; rfl
end Go.Ev

/- Labels are read,by the document: lemmas,no condition. -/
namespace Go.Ev
open Go Go.Proofs
set_option maxRecDepth 100000
-- FOLD
end Go.Ev

/- Heads: the plain functions and their codecs: definitions,no condition. -/
namespace Go.Ev
open Go
def _root_.Go.Ev.RCod.spelt {α:Type} (c:RCod α) (sh:List Sh) (enc:α→List V) (dec:List V→α) (hs:c.sh=sh) (he:∀ a,c.enc a=enc a) (hd:∀ r,c.dec r=dec r):RCod α where
 sh:=sh; enc:=enc; dec:=dec
 rf:=by rw [← hs]; exact c.rf
 fit a:=by rw [← hs,← he]; exact c.fit a
 wf row h hw:=by rw [← hd,← he]; exact c.wf row (by rw [hs]; exact h) hw
 de a:=by rw [← hd,← he]; exact c.de a
 law w I row val h hr j hj:=by rw [← hd,← he]; exact c.law w I row val (by rw [hs]; exact h) (fun k hk=>hr k (by rw [← hs]; exact hk)) j (by rw [hs]; exact hj)
def vFn (f:FuncId) (n:Nat):VCod Unit where
 ok:=fun | .fn g [] [.ptr m 0 0 0]=>cond (Nat.beq f g) (Nat.beq n m) false | _=>false
 enc _:=.fn f [] [.ptr n 0 0 0]
 dec _:=()
 ed _:=⟨by show cond (Nat.beq f f) (Nat.beq n n) false=true; rw [Nat.beq_refl,Nat.beq_refl]; rfl,rfl⟩
 law w I ρ v x h hx:=by
  split at h
  ·obtain ⟨h1,h2⟩:=bcond h
   have:=Nat.eq_of_beq_eq_true h1; subst this
   have:=Nat.eq_of_beq_eq_true h2; subst this
   exact hx
  ·cases h
namespace N
end N
end Go.Ev

/- Policies: their types and codes,what they are asked: definitions and lemmas,no condition. -/
namespace Go.Ev
open Go Go.Proofs
set_option maxRecDepth 100000
structure HPlace where
 name:Bytes
 label:Label
 bytes:Int
 base:Int
structure HGrant where
 src:Int
 dst:Int
 budget:Int
structure HPolicy where
 work:Int
 give:Int
 places:List HPlace
 slots:List Int
 grants:List HGrant
theorem getD_dropY (r:List V) (i j:Nat):(r.drop i).getD j .undef=r.getD (i+j) .undef:=by
 rw [List.getD_eq_getElem?_getD,List.getD_eq_getElem?_getD,List.getElem?_drop]
theorem getD_takeY {n j:Nat} (h:j<n) (r:List V):(r.take n).getD j .undef=r.getD j .undef:=by
 rw [List.getD_eq_getElem?_getD,List.getD_eq_getElem?_getD,List.getElem?_take,if_pos h]
theorem dec_encsY {α:Type} (c:RCod α) (l:List α):(l.map c.enc).map c.dec=l:=by
 rw [List.map_map]
 exact (List.map_congr_left fun x _=>c.de x).trans (List.map_id _)
def rowPl (r:List V):HPlace:=⟨(r.getD 0 .undef).toStr,⟨(r.getD 1 .undef).toInt,(r.getD 2 .undef).toInt⟩,(r.getD 3 .undef).toInt,(r.getD 4 .undef).toInt⟩
def cPlace:RCod HPlace:=((rStr.and (cLabel.and ((rInt .i64).and (rInt .u64)))).iso (fun p=>(⟨p.1,p.2.1,p.2.2.1,p.2.2.2⟩:HPlace)) (fun o=>(o.name,o.label,o.bytes,o.base)) (fun _=>rfl) fun _=>rfl).spelt
 [.str,.int .u8,.int .u32,.int .i64,.int .u64] (fun x=>[.str x.name,.int .u8 x.label.level,.int .u32 x.label.set,.int .i64 x.bytes,.int .u64 x.base]) rowPl rfl (fun _=>rfl) fun r=>by
  show (⟨((r.take 1).getD 0 .undef).toStr,⟨((((r.drop 1).take 2).take 1).getD 0 .undef).toInt,((((r.drop 1).take 2).drop 1).getD 0 .undef).toInt⟩,((((r.drop 1).drop 2).take 1).getD 0 .undef).toInt,((((r.drop 1).drop 2).drop 1).getD 0 .undef).toInt⟩:HPlace)=rowPl r
  simp only [List.drop_drop,getD_dropY,getD_takeY (show 0<1 by decide),getD_takeY (show 0<2 by decide),getD_takeY (show 1+0<2 by decide)]
  try rfl
def rowGr (r:List V):HGrant:=⟨(r.getD 0 .undef).toInt,(r.getD 1 .undef).toInt,(r.getD 2 .undef).toInt⟩
def cGrant:RCod HGrant:=(((rInt .i64).and ((rInt .i64).and (rInt .i64))).iso (fun p=>(⟨p.1,p.2.1,p.2.2⟩:HGrant)) (fun o=>(o.src,o.dst,o.budget)) (fun _=>rfl) fun _=>rfl).spelt
 [.int .i64,.int .i64,.int .i64] (fun x=>[.int .i64 x.src,.int .i64 x.dst,.int .i64 x.budget]) rowGr rfl (fun _=>rfl) fun r=>by
  show (⟨((r.take 1).getD 0 .undef).toInt,(((r.drop 1).take 1).getD 0 .undef).toInt,(((r.drop 1).drop 1).getD 0 .undef).toInt⟩:HGrant)=rowGr r
  simp only [List.drop_drop,getD_dropY,getD_takeY (show 0<1 by decide)]
  try rfl
def rowPo (r:List V):HPolicy:=⟨(r.getD 0 .undef).toInt,(r.getD 1 .undef).toInt,(r.getD 2 .undef).toRows.map cPlace.dec,(r.getD 3 .undef).toRows.map (rInt .i64).dec,(r.getD 4 .undef).toRows.map cGrant.dec⟩
def cPolicy:RCod HPolicy:=(((rInt .i64).and ((rInt .i64).and ((rSl cPlace).and ((rSl (rInt .i64)).and (rSl cGrant))))).iso (fun p=>(⟨p.1,p.2.1,p.2.2.1,p.2.2.2.1,p.2.2.2.2⟩:HPolicy)) (fun o=>(o.work,o.give,o.places,o.slots,o.grants)) (fun _=>rfl) fun _=>rfl).spelt
 [.int .i64,.int .i64,.slc [.str,.int .u8,.int .u32,.int .i64,.int .u64],.slc [.int .i64],.slc [.int .i64,.int .i64,.int .i64]]
 (fun x=>[.int .i64 x.work,.int .i64 x.give,.slc [.str,.int .u8,.int .u32,.int .i64,.int .u64] (x.places.map cPlace.enc),.slc [.int .i64] (x.slots.map (rInt .i64).enc),.slc [.int .i64,.int .i64,.int .i64] (x.grants.map cGrant.enc)]) rowPo rfl (fun _=>rfl) fun r=>by
  show (⟨((r.take 1).getD 0 .undef).toInt,(((r.drop 1).take 1).getD 0 .undef).toInt,((((r.drop 1).drop 1).take 1).getD 0 .undef).toRows.map cPlace.dec,(((((r.drop 1).drop 1).drop 1).take 1).getD 0 .undef).toRows.map (rInt .i64).dec,(((((r.drop 1).drop 1).drop 1).drop 1).getD 0 .undef).toRows.map cGrant.dec⟩:HPolicy)=rowPo r
  simp only [List.drop_drop,getD_dropY,getD_takeY (show 0<1 by decide)]
  try rfl
namespace N
def pFindL (n:Bytes):List HPlace→Int→Int
 | [],_=>-1
 | x::r,i=>cond (x.name==n) i (pFindL n r (i+1))
def pFind (p:HPolicy) (n:Bytes):Int:=pFindL n p.places 0
end N
end Go.Ev

/- Loops over a slice's rows,one behind another: a lemma,no condition. -/
namespace Go.Ev
open Go
theorem drop_row {r:List (List V)} {i:Nat} (h:i<r.length):r.drop i=r.getD i []::r.drop (i+1):=by
 rw [List.drop_eq_getElem_cons h,List.getD_eq_getElem?_getD,List.getElem?_eq_getElem h]; rfl
theorem range_ind {E:Env} {f:FuncId} {id:Nat} {A:Type} (r:List (List V)) (enc:A→Int→St) (inv:A→Nat→Prop) (res:A→List (List V)→(Ex→St→Option R)→Option R)
  (step:∀ (a:A) (i:Nat),inv a i→i<r.length→(∃ a',inv a' (i+1)∧(∀ K,evRound E f id (enc a i) K=K .normal (enc a' ((i:Int)+1)))∧∀ K,res a (r.getD i []::r.drop (i+1)) K=res a' (r.drop (i+1)) K) ∨
   ∃ e S,e ≠ .normal∧(∀ K,evRound E f id (enc a i) K=K e S)∧∀ K,res a (r.getD i []::r.drop (i+1)) K=K e S)
  (fin:∀ a,inv a r.length→∃ e S,e ≠ .normal∧(∀ K,evRound E f id (enc a r.length) K=K e S)∧∀ K,res a [] K=K e S)
  (a:A) (i:Int) (h0:0≤i) (h1:i≤r.length) (ha:inv a i.toNat) (K:Ex→St→Option R) (q:R) (hq:res a (r.drop i.toNat) K=some q):∃ n,iterR E f id n (enc a i) K=some q:=by
 refine loop_ind (σ:=A × Nat) (fun s=>enc s.1 s.2) (fun s=>inv s.1 s.2∧s.2≤r.length) (fun s=>r.length-s.2) (fun s K=>res s.1 (r.drop s.2) K) (fun s ⟨hs,hl⟩=>?_) (a,i.toNat) ⟨ha,by simp only; omega⟩ K q hq |>.imp fun n h=>by
  simpa only [Int.toNat_of_nonneg h0] using h
 obtain ⟨a,i⟩:=s
 simp only at hs hl ⊢
 by_cases hi:i<r.length
 ·rw [drop_row hi]
  rcases step a i hs hi with ⟨a',g1,g2,g3⟩ | ⟨e,S,g1,g2,g3⟩
  ·exact .inl ⟨(a',i+1),⟨g1,hi⟩,by simp only; omega,fun K=>by rw [g2]; rfl,fun K=>g3 K⟩
  ·exact .inr ⟨e,S,g1,g2,g3⟩
 ·obtain rfl:i=r.length:=by omega
  rw [List.drop_eq_nil_of_le (Nat.le_refl _)]
  obtain ⟨e,S,g1,g2,g3⟩:=fin a hs
  exact .inr ⟨e,S,g1,g2,g3⟩
end Go.Ev

/- Policies: small functions: lemmas,no condition. -/
namespace Go.Ev
open Go Go.Proofs
set_option maxRecDepth 100000
-- FOLD
namespace N
def within (n a b:Int):Bool:=cond (ile a n) (ile n b) false
def there (p:HPolicy) (i:Int):Bool:=within i 0 (p.places.length-1)
def count (n a b:Int):Int:=cond (ilt n a) 15 (cond (ilt b n) 6 0)
def pSmall (s:Bytes):Int × Int:=(IntKind.wrap .i64 (pNumber s 1048576).1,(pNumber s 1048576).2)
end N
def fewP (p:HPolicy):Bool:=cond (Nat.ble p.places.length 3000) (cond (Nat.ble p.slots.length 3000) (Nat.ble p.grants.length 3000) false) false
def dWithin:Den:=den (aCons (vInt .i64) (aCons (vInt .i64) (aOne (vInt .i64)))) bNil (oV vBool) (fun _ _=>true) fun a _=>(N.within a.1 a.2.1 a.2.2,())
def dThere:Den:=den (aCons (vAgg cPolicy) (aOne (vInt .i64))) bNil (oV vBool) (fun a _=>fewP a.1) fun a _=>(N.there a.1 a.2,())
def dCount:Den:=den (aCons (vInt .i64) (aCons (vInt .i64) (aOne (vInt .i64)))) bNil (oV (vInt .i64)) (fun _ _=>true) fun a _=>(N.count a.1 a.2.1 a.2.2,())
def dSmallP:Den:=den (aOne vStr) bNil (oTup (aCons (vInt .i64) (aOne (vInt .i64)))) (fun s _=>Nat.ble s.length 1000000) fun s _=>(N.pSmall s,())
def dFindR:Den:=den (aCons (vAgg cPolicy) (aOne vStr)) bNil (oV (vInt .i64)) (fun a _=>fewP a.1) fun a _=>(N.pFind a.1 a.2,())
noncomputable def eWithin:Env:=env Tryz.prog [] [] []
theorem q_within (n a b:Int):evFn eWithin 58 ((aCons (vInt .i64) (aCons (vInt .i64) (aOne (vInt .i64)))).enc (n,a,b)) ([]) some =
 cond (ile a n) (some {v:=V.bool (ile n b),bx:=[]:DRes}) (some {v:=V.bool false,bx:=[]:DRes}):=by kernel_rfl
theorem ok_within:FnOk Tryz.prog 58 dWithin:=by
 refine den_okF (env_ok (TOk.nil _)) (E:=eWithin) Tryz.func58 [] (by kernel_rfl) (none0) fun a b hp=>?_
 refine (q_within a.1 a.2.1 a.2.2).trans ?_
 show _=some (⟨.bool (N.within a.1 a.2.1 a.2.2),[],[]⟩:DRes)
 unfold N.within
 cases ile a.2.1 a.1<;>rfl
noncomputable def eCount:Env:=env Tryz.prog [] [] []
theorem q_count (n a b:Int):evFn eCount 86 ((aCons (vInt .i64) (aCons (vInt .i64) (aOne (vInt .i64)))).enc (n,a,b)) ([]) some =
 cond (ilt n a) (some {v:=V.int .i64 (15:Int),bx:=[]:DRes}) (cond (ilt b n) (some {v:=V.int .i64 (6:Int),bx:=[]:DRes}) (some {v:=V.int .i64 (0:Int),bx:=[]:DRes})):=by kernel_rfl
theorem ok_count:FnOk Tryz.prog 86 dCount:=by
 refine den_okF (env_ok (TOk.nil _)) (E:=eCount) Tryz.func86 [] (by kernel_rfl) (none0) fun a b hp=>?_
 refine (q_count a.1 a.2.1 a.2.2).trans ?_
 show _=some (⟨.int .i64 (N.count a.1 a.2.1 a.2.2),[],[]⟩:DRes)
 unfold N.count
 cases ilt a.1 a.2.1<;>cases ilt a.2.2 a.1<;>rfl
noncomputable def eThere:Env:=env Tryz.prog [(58,dWithin)] [] []
theorem q_there (p:HPolicy) (i:Int):evFn eThere 43 ((aCons (vAgg cPolicy) (aOne (vInt .i64))).enc (p,i)) ([]) some =
 some {v:=V.bool (N.within i (0:Int) (IntKind.wrap .i64 ((↑(List.length (List.map (RCod.enc cPlace) (HPolicy.places p))):Int)-(1:Int)))),bx:=[]:DRes}:=by kernel_rfl
theorem ok_there:FnOk Tryz.prog 43 dThere:=by
 refine den_okF (env_ok ((TOk.nil _).cons ok_within)) (E:=eThere) Tryz.func43 [] (by kernel_rfl) (none0) fun a b hp=>?_
 obtain ⟨p,i⟩:=a
 have hp:fewP p=true:=hp
 obtain ⟨h1,_⟩:=bcond hp
 have h1:=ble_of h1
 refine (q_there p i).trans ?_
 have w:IntKind.wrap .i64 ((p.places.length:Int)-1)=(p.places.length:Int)-1:=wr_i64 (by omega) (by omega)
 simp only [List.length_map,w]
 try rfl
noncomputable def ePSmall:Env:=env Tryz.prog [(98,dPNumber)] [] []
theorem q_pSmall (s:Bytes):evFn ePSmall 73 ((aOne vStr).enc s) ([]) some =
 cond (bif Nat.ble (List.length s) 1000000 then true else false) (some {v:=V.tup [V.int .i64 (IntKind.wrap .i64 (Prod.fst (N.pNumber s (1048576:Int)))),V.int .i64 (Prod.snd (N.pNumber s (1048576:Int)))],bx:=[]:DRes}) (none):=by kernel_rfl
theorem ok_pSmall:FnOk Tryz.prog 73 dSmallP:=by
 refine den_okF (env_ok ((TOk.nil _).cons ok_pNumber)) (E:=ePSmall) Tryz.func73 [] (by kernel_rfl) (none0) fun a b hp=>?_
 refine (q_pSmall a).trans ?_
 have hl:Nat.ble a.length 1000000=true:=hp
 rw [hl]; rfl
theorem isPl_row (r:List V) (n:Bytes):(V.toStr (List.getD r 0 V.undef)==n)=((cPlace.dec r).name==n):=rfl
theorem pFindL_lt:∀ (l:List HPlace) (n:Bytes) (i:Int),N.pFindL n l i = -1∨i≤N.pFindL n l i
 | [],_,_=>.inl rfl
 | x::r,n,i=>by
  show cond (x.name==n) i (N.pFindL n r (i+1)) = -1∨i≤cond (x.name==n) i (N.pFindL n r (i+1))
  cases x.name==n with
  | true=>exact .inr (Int.le_refl _)
  | false =>
   rcases pFindL_lt r n (i+1) with h | h
   ·exact .inl h
   ·exact .inr (by show i≤N.pFindL n r (i+1); omega)
def schRFindP:SSch:={ fr:=[(1,.str),(8,.slc [.str,.int .u8,.int .u32,.int .i64,.int .u64]),(9,.int .i64),(10,.int .i64)],tab:=[] }
def gRFindP:List Leaf→(Ex→St→Option R)→Option R
 | [.s s1,.r r8,.i i9,.i i10],K=>cond (i9==r8.length) (cond (i10==0) (cond (Nat.ble r8.length 3000) (cond (ile 0 (N.pFindL s1 ((r8).map cPlace.dec) ((0:Int)))) (K .ret { fr:=[(4,.int .i64 (N.pFindL s1 ((r8).map cPlace.dec) ((0:Int))))],tab:=[] }) (K (.exit 0) { fr:=[],tab:=[] })) none) none) none
 | _,_=>none
noncomputable def eRFindP:Env:=env Tryz.prog [] [(2,loopF schRFindP gRFindP)] [(2,[(0,[1,8,9,10]),(1,[]),(1000,[4])])]
theorem q_rFindP (p:HPolicy) (n:Bytes):evFn eRFindP 33 ((aCons (vAgg cPolicy) (aOne vStr)).enc (p,n)) ([]) some =
 cond ((↑(List.length (List.map (RCod.enc cPlace) (HPolicy.places p))):Int)==(↑(List.length (List.map (RCod.enc cPlace) (HPolicy.places p))):Int)) (cond (Nat.ble (List.length (List.map (RCod.enc cPlace) (HPolicy.places p))) 3000) (cond (ile (0:Int) (N.pFindL n (List.map (RCod.dec cPlace) (List.map (RCod.enc cPlace) (HPolicy.places p))) (0:Int))) (some {v:=V.int .i64 (N.pFindL n (List.map (RCod.dec cPlace) (List.map (RCod.enc cPlace) (HPolicy.places p))) (0:Int)),bx:=[]:DRes}) (some {v:=V.int .i64 (-1:Int),bx:=[]:DRes})) (none)) (none):=by kernel_rfl
theorem q_rFindPR (s1:Bytes) (r8:List (List V)) (i9:Int) (i10:Int) (K:Ex→St→Option R):evRound eRFindP 33 2 { fr:=[(1,.str s1),(8,.slc [.str,.int .u8,.int .u32,.int .i64,.int .u64] r8),(9,.int .i64 i9),(10,.int .i64 i10)],tab:=[] } K =
 cond (ilt i10 i9) (cond (decide ((0:Int)≤i10∧i10<(↑(List.length r8):Int))) (cond (V.toStr (List.getD (List.getD r8 (Int.toNat i10) []) 0 V.undef)==s1) (K Ex.ret {fr:=[(4,V.int .i64 i10)],tab:=[]:St}) (K Ex.normal {fr:=[(1,V.str s1),(8,V.slc [.str,.int .u8,.int .u32,.int .i64,.int .u64] r8),(9,V.int .i64 i9),(10,V.int .i64 (IntKind.wrap .i64 (i10+(1:Int))))],tab:=[]:St})) (none)) (K (Ex.exit 0) {fr:=[],tab:=[]:St}):=by kernel_rfl
theorem ok_rFindP_2:RoundsOk eRFindP 33 2:=by
 refine rounds_of rfl fun l K q h=>?_
 unfold gRFindP at h
 split at h
 ·rename_i s1 r8 i9 i10
  have h1:=(cond_none h).1; replace h:=(cond_none h).2; have h2:=(cond_none h).1; replace h:=(cond_none h).2; have h3:=(cond_none h).1; replace h:=(cond_none h).2
  have e1:=ieq_of h1
  have e2:=ieq_of h2
  subst e1 e2
  have h3:r8.length≤3000:=ble_of h3
  have main:=range_ind (E:=eRFindP) (f:=33) (id:=2) (A:=Int) (r8) (fun a i=>{ fr:=[(1,.str s1),(8,.slc [.str,.int .u8,.int .u32,.int .i64,.int .u64] r8),(9,.int .i64 r8.length),(10,.int .i64 i)],tab:=[] }) (fun a i=>a=(i:Int))
   (fun a rows K=>cond (ile 0 (N.pFindL s1 ((rows).map cPlace.dec) (a))) (K .ret { fr:=[(4,.int .i64 (N.pFindL s1 ((rows).map cPlace.dec) (a)))],tab:=[] }) (K (.exit 0) { fr:=[],tab:=[] })) (fun a i ha hi=>?_) (fun a ha=>?_) ((0:Int)) 0 (Int.le_refl _) (by omega) rfl K q (by assumption)
  ·exact main
  ·have hq:=fun K=>q_rFindPR (s1) (r8) (r8.length) ((i:Int)) K
   have t1:ilt (i:Int) r8.length=true:=ilt_t (by omega)
   have t2:decide ((0:Int)≤i∧(i:Int)<r8.length)=true:=decide_eq_true (by omega)
   have t3:IntKind.wrap .i64 ((i:Int)+1)=(i:Int)+1:=wr_i64 (by omega) (by omega)
   simp only [Int.toNat_natCast,isPl_row] at hq
   simp only [t1,t2,t3,cond_true] at hq
   subst ha
   have ei:(((i+1:Nat)):Int)=(i:Int)+1:=by omega
   simp only [List.map_cons]
   have er:∀ (x:HPlace) (l:List HPlace),N.pFindL s1 (x::l) (i:Int)=cond (x.name==s1) (i:Int) (N.pFindL s1 l ((i:Int)+1)):=fun _ _=>rfl
   simp only [er]
   cases hc:((cPlace.dec (r8.getD i [])).name==s1) with
   | true =>
    refine .inr ⟨.ret,{ fr:=[(4,.int .i64 (i:Int))],tab:=[] },by simp,fun K=>?_,fun K=>?_⟩
    ·rw [hq,hc]; rfl
    ·simp only [cond_true]
     rw [ile_t (by omega)]; rfl
   | false =>
    refine .inl ⟨(i:Int)+1,ei.symm,fun K=>?_,fun K=>rfl⟩
    rw [hq,hc]; rfl
  ·refine ⟨.exit 0,_,by simp,fun K=>?_,fun K=>rfl⟩
   rw [q_rFindPR]
   simp (disch:=omega) only [evs]
   try rfl
 ·cases h
theorem ok_rFindP:FnOk Tryz.prog 33 dFindR:=by
 refine den_okF (env_ok (TOk.nil _)) (E:=eRFindP) Tryz.func33 [2] (by kernel_rfl) (one1 ok_rFindP_2) fun a b hp=>?_
 obtain ⟨p,n⟩:=a
 have hp:fewP p=true:=hp
 obtain ⟨h1,_⟩:=bcond hp
 refine (q_rFindP p n).trans ?_
 simp only [List.length_map,dec_encsY,h1,beq_self_eq_true,cond_true]
 show _=some (⟨.int .i64 (N.pFindL n p.places 0),[],[]⟩:DRes)
 rcases pFindL_lt p.places n 0 with h | h
 ·rw [h]; rfl
 ·rw [ile_t h]; rfl
end Go.Ev

/- Policies: closures: lemmas,no condition. -/
namespace Go.Ev
open Go Go.Proofs
set_option maxRecDepth 100000
-- FOLD
namespace N
def twiceP (x y:HPlace):Bool:=cond (y.name==x.name) true (cond (y.label.level==x.label.level) (y.label.set==x.label.set) false)
def isGr (a b:Int) (y:HGrant):Bool:=cond (y.src==a) (y.dst==b) false
end N
def dFind1:Den:=den (aCons (vAgg cPlace) (aOne (vPtr 0))) (bOne rStr) (oV vBool) (fun _ _=>true) fun a n=>(a.1.name==n,n)
def dPlace1:Den:=den (aCons (vAgg cPlace) (aOne (vPtr 0))) (bOne cPlace) (oV vBool) (fun _ _=>true) fun a x=>(N.twiceP x a.1,x)
def dGrantC1:Den:=den (aCons (vAgg cGrant) (aOne (vPtr 0))) (bOne cGrant) (oV vBool) (fun _ _=>true) fun a x=>(N.isGr x.src x.dst a.1,x)
noncomputable def eFind1:Env:=env Tryz.prog [] [] []
theorem q_find1 (x:HPlace) (n:Bytes):evFn eFind1 65 ((aCons (vAgg cPlace) (aOne (vPtr 0))).enc (x,())) ((bOne rStr).enc n) some =
 some {v:=V.bool (HPlace.name x==n),bx:=[[V.str n]]:DRes}:=by kernel_rfl
theorem ok_find1:FnOk Tryz.prog 65 dFind1:=by
 refine den_okF (env_ok (TOk.nil _)) (E:=eFind1) Tryz.func65 [] (by kernel_rfl) (none0) fun a b hp=>?_
 exact q_find1 a.1 b
noncomputable def ePlace1:Env:=env Tryz.prog [] [] []
theorem q_place1 (y x:HPlace):evFn ePlace1 107 ((aCons (vAgg cPlace) (aOne (vPtr 0))).enc (y,())) ((bOne cPlace).enc x) some =
 cond (HPlace.name y==HPlace.name x) (some {v:=V.bool true,bx:=[[V.str (HPlace.name x),V.int .u8 (Label.level (HPlace.label x)),V.int .u32 (Label.set (HPlace.label x)),V.int .i64 (HPlace.bytes x),V.int .u64 (HPlace.base x)]]:DRes}) (some {v:=V.bool (Label.level (HPlace.label y)==Label.level (HPlace.label x) && (Label.set (HPlace.label y)==Label.set (HPlace.label x) && true)),bx:=[[V.str (HPlace.name x),V.int .u8 (Label.level (HPlace.label x)),V.int .u32 (Label.set (HPlace.label x)),V.int .i64 (HPlace.bytes x),V.int .u64 (HPlace.base x)]]:DRes}):=by kernel_rfl
theorem ok_place1:FnOk Tryz.prog 107 dPlace1:=by
 refine den_okF (env_ok (TOk.nil _)) (E:=ePlace1) Tryz.func107 [] (by kernel_rfl) (none0) fun a b hp=>?_
 refine (q_place1 a.1 b).trans ?_
 show _=some (⟨.bool (N.twiceP b a.1),[cPlace.enc b],[]⟩:DRes)
 unfold N.twiceP
 cases a.1.name==b.name with
 | true=>rfl
 | false=>cases a.1.label.level==b.label.level<;>cases a.1.label.set==b.label.set<;>rfl
noncomputable def eGrantC1:Env:=env Tryz.prog [] [] []
theorem q_grantC1 (y x:HGrant):evFn eGrantC1 110 ((aCons (vAgg cGrant) (aOne (vPtr 0))).enc (y,())) ((bOne cGrant).enc x) some =
 cond (HGrant.src y==HGrant.src x) (some {v:=V.bool (HGrant.dst y==HGrant.dst x),bx:=[[V.int .i64 (HGrant.src x),V.int .i64 (HGrant.dst x),V.int .i64 (HGrant.budget x)]]:DRes}) (some {v:=V.bool false,bx:=[[V.int .i64 (HGrant.src x),V.int .i64 (HGrant.dst x),V.int .i64 (HGrant.budget x)]]:DRes}):=by kernel_rfl
theorem ok_grantC1:FnOk Tryz.prog 110 dGrantC1:=by
 refine den_okF (env_ok (TOk.nil _)) (E:=eGrantC1) Tryz.func110 [] (by kernel_rfl) (none0) fun a b hp=>?_
 refine (q_grantC1 a.1 b).trans ?_
 show _=some (⟨.bool (N.isGr b.src b.dst a.1),[cGrant.enc b],[]⟩:DRes)
 unfold N.isGr
 cases a.1.src==b.src<;>rfl
end Go.Ev

/- Policies: searches: lemmas,no condition. -/
namespace Go.Ev
open Go Go.Proofs
set_option maxRecDepth 100000
-- FOLD
def N.ixY {α:Type} (p:α→Bool):List α→Int→Int
 | [],_=>-1
 | x::r,i=>cond (p x) i (N.ixY p r (i+1))
theorem ixY_cons {α:Type} (p:α→Bool) (x:α) (r:List α) (i:Int):N.ixY p (x::r) i=cond (p x) i (N.ixY p r (i+1)):=rfl
theorem ixY_lt {α:Type} (p:α→Bool):∀ (l:List α) (i:Int),(N.ixY p l i = -1∧l.any p=false)∨(i≤N.ixY p l i∧l.any p=true)
 | [],_=>.inl ⟨rfl,rfl⟩
 | x::r,i=>by
  rw [ixY_cons,List.any_cons]
  cases p x with
  | true=>exact .inr ⟨Int.le_refl _,rfl⟩
  | false =>
   rcases ixY_lt p r (i+1) with h | h
   ·exact .inl ⟨h.1,by rw [h.2]; rfl⟩
   ·exact .inr ⟨by show i≤N.ixY p r (i+1); omega,by rw [h.2]; rfl⟩
namespace N
def isNm (n:Bytes) (y:HPlace):Bool:=y.name==n
end N
def dIxFind:Den:=den (aCons (vSl cPlace) (aOne (vFn 65 0))) (bOne rStr) (oV (vInt .i64)) (fun a _=>Nat.ble a.1.length 3000) fun a n=>(N.ixY (N.isNm n) a.1 0,n)
def schIxFind:SSch:={ fr:=[(0,.slc [.str,.int .u8,.int .u32,.int .i64,.int .u64]),(1,.fn 65 [] [.ptr 0 0 0]),(7,.int .i64),(8,.int .i64)],tab:=[(0,.var [.str])] }
def gIxFind:List Leaf→(Ex→St→Option R)→Option R
 | [.r r0,.i i7,.i i8,.s sx0],K=>cond (i7==r0.length) (cond (i8==0) (cond (Nat.ble r0.length 3000) (cond (ile 0 (N.ixY (N.isNm sx0) ((r0).map cPlace.dec) ((0:Int)))) (K .ret { fr:=[(4,.int .i64 (N.ixY (N.isNm sx0) ((r0).map cPlace.dec) ((0:Int))))],tab:=[(0,.var [.str sx0])] }) (K (.exit 0) { fr:=[],tab:=[(0,.var [.str sx0])] })) none) none) none
 | _,_=>none
noncomputable def eIxFind:Env:=env Tryz.prog [(65,dFind1)] [(2,loopF schIxFind gIxFind)] [(2,[(0,[0,1,7,8]),(1,[]),(1000,[4])])]
theorem q_ixFind (l:List HPlace) (n:Bytes):evFn eIxFind 64 ((aCons (vSl cPlace) (aOne (vFn 65 0))).enc (l,())) ((bOne rStr).enc n) some =
 cond ((↑(List.length (List.map (RCod.enc cPlace) l)):Int)==(↑(List.length (List.map (RCod.enc cPlace) l)):Int)) (cond (Nat.ble (List.length (List.map (RCod.enc cPlace) l)) 3000) (cond (ile (0:Int) (N.ixY (N.isNm n) (List.map (RCod.dec cPlace) (List.map (RCod.enc cPlace) l)) (0:Int))) (some {v:=V.int .i64 (N.ixY (N.isNm n) (List.map (RCod.dec cPlace) (List.map (RCod.enc cPlace) l)) (0:Int)),bx:=[[V.str n]]:DRes}) (some {v:=V.int .i64 (-1:Int),bx:=[[V.str n]]:DRes})) (none)) (none):=by kernel_rfl
theorem q_ixFindR (r0:List (List V)) (i7:Int) (i8:Int) (sx0:Bytes) (K:Ex→St→Option R):evRound eIxFind 64 2 { fr:=[(0,.slc [.str,.int .u8,.int .u32,.int .i64,.int .u64] r0),(1,.fn 65 [] [.ptr 0 0 0 0]),(7,.int .i64 i7),(8,.int .i64 i8)],tab:=[(0,.var [.str sx0])] } K =
 cond (ilt i8 i7) (cond (decide ((0:Int)≤i8∧i8<(↑(List.length r0):Int))) (cond (V.toStr (List.getD (List.getD r0 (Int.toNat i8) []) 0 V.undef)==sx0) (K Ex.ret {fr:=[(4,V.int .i64 i8)],tab:=[(0,Box.var [V.str sx0])]:St}) (K Ex.normal {fr:=[(0,V.slc [.str,.int .u8,.int .u32,.int .i64,.int .u64] r0),(1,V.fn 65 [] [V.ptr 0 0 0 0]),(7,V.int .i64 i7),(8,V.int .i64 (IntKind.wrap .i64 (i8+(1:Int))))],tab:=[(0,Box.var [V.str sx0])]:St})) (none)) (K (Ex.exit 0) {fr:=[],tab:=[(0,Box.var [V.str sx0])]:St}):=by kernel_rfl
theorem ok_ixFind_2:RoundsOk eIxFind 64 2:=by
 refine rounds_of rfl fun l K q h=>?_
 unfold gIxFind at h
 split at h
 ·rename_i r0 i7 i8 sx0
  have h1:=(cond_none h).1; replace h:=(cond_none h).2; have h2:=(cond_none h).1; replace h:=(cond_none h).2; have h3:=(cond_none h).1; replace h:=(cond_none h).2
  have e1:=ieq_of h1
  have e2:=ieq_of h2
  subst e1 e2
  have h3:r0.length≤3000:=ble_of h3
  have main:=range_ind (E:=eIxFind) (f:=64) (id:=2) (A:=Int) (r0) (fun a i=>{ fr:=[(0,.slc [.str,.int .u8,.int .u32,.int .i64,.int .u64] r0),(1,.fn 65 [] [.ptr 0 0 0 0]),(7,.int .i64 r0.length),(8,.int .i64 i)],tab:=[(0,.var [.str sx0])] }) (fun a i=>a=(i:Int))
   (fun a rows K=>cond (ile 0 (N.ixY (N.isNm sx0) ((rows).map cPlace.dec) (a))) (K .ret { fr:=[(4,.int .i64 (N.ixY (N.isNm sx0) ((rows).map cPlace.dec) (a)))],tab:=[(0,.var [.str sx0])] }) (K (.exit 0) { fr:=[],tab:=[(0,.var [.str sx0])] })) (fun a i ha hi=>?_) (fun a ha=>?_) ((0:Int)) 0 (Int.le_refl _) (by omega) rfl K q (by assumption)
  ·exact main
  ·have hq:=fun K=>q_ixFindR (r0) (r0.length) ((i:Int)) (sx0) K
   have t1:ilt (i:Int) r0.length=true:=ilt_t (by omega)
   have t2:decide ((0:Int)≤i∧(i:Int)<r0.length)=true:=decide_eq_true (by omega)
   have t3:IntKind.wrap .i64 ((i:Int)+1)=(i:Int)+1:=wr_i64 (by omega) (by omega)
   simp only [Int.toNat_natCast] at hq
   simp only [t1,t2,t3,cond_true] at hq
   subst ha
   have ei:(((i+1:Nat)):Int)=(i:Int)+1:=by omega
   simp only [List.map_cons,ixY_cons]
   have hq:∀ K,evRound eIxFind 64 2 _ K=cond (N.isNm sx0 (cPlace.dec (r0.getD i []))) (K .ret { fr:=[(4,.int .i64 ((i:Int)))],tab:=[(0,.var [.str sx0])] }) (K .normal _):=hq
   cases hc:N.isNm sx0 (cPlace.dec (r0.getD i [])) with
   | true =>
    refine .inr ⟨.ret,{ fr:=[(4,.int .i64 ((i:Int)))],tab:=[(0,.var [.str sx0])] },by simp,fun K=>?_,fun K=>?_⟩
    ·rw [hq,hc]; rfl
    ·simp only [cond_true]
     rw [ile_t (by omega)]; rfl
   | false =>
    refine .inl ⟨(i:Int)+1,ei.symm,fun K=>?_,fun K=>rfl⟩
    rw [hq,hc]; rfl
  ·refine ⟨.exit 0,_,by simp,fun K=>?_,fun K=>rfl⟩
   rw [q_ixFindR]
   simp (disch:=omega) only [evs]
   try rfl
 ·cases h
theorem ok_ixFind:FnOk Tryz.prog 64 dIxFind:=by
 refine den_okF (env_ok ((TOk.nil _).cons ok_find1)) (E:=eIxFind) Tryz.func64 [2] (by kernel_rfl) (one1 ok_ixFind_2) fun a b hp=>?_
 obtain ⟨l,⟨⟩⟩:=a
 have h1:Nat.ble l.length 3000=true:=hp
 refine (q_ixFind l b).trans ?_
 simp only [List.length_map,dec_encsY,h1,beq_self_eq_true,cond_true]
 show _=some (⟨.int .i64 (N.ixY (N.isNm b) l 0),[[.str b]],[]⟩:DRes)
 rcases ixY_lt (N.isNm b) l 0 with h | h
 ·rw [h.1]; rfl
 ·rw [ile_t h.1]; rfl
def dIxTwice:Den:=den (aCons (vSl cPlace) (aOne (vFn 107 0))) (bOne cPlace) (oV (vInt .i64)) (fun a _=>Nat.ble a.1.length 3000) fun a x=>(N.ixY (N.twiceP x) a.1 0,x)
def schIxTwice:SSch:={ fr:=[(0,.slc [.str,.int .u8,.int .u32,.int .i64,.int .u64]),(1,.fn 107 [] [.ptr 0 0 0]),(7,.int .i64),(8,.int .i64)],tab:=[(0,.var [.str,.int .u8,.int .u32,.int .i64,.int .u64])] }
def gIxTwice:List Leaf→(Ex→St→Option R)→Option R
 | [.r r0,.i i7,.i i8,.s sx0,.i ix0,.i ix0_1,.i ix0_2,.i ix0_3],K=>cond (i7==r0.length) (cond (i8==0) (cond (Nat.ble r0.length 3000) (cond (ile 0 (N.ixY (N.twiceP ⟨sx0,⟨ix0,ix0_1⟩,ix0_2,ix0_3⟩) ((r0).map cPlace.dec) ((0:Int)))) (K .ret { fr:=[(4,.int .i64 (N.ixY (N.twiceP ⟨sx0,⟨ix0,ix0_1⟩,ix0_2,ix0_3⟩) ((r0).map cPlace.dec) ((0:Int))))],tab:=[(0,.var [.str sx0,.int .u8 ix0,.int .u32 ix0_1,.int .i64 ix0_2,.int .u64 ix0_3])] }) (K (.exit 0) { fr:=[],tab:=[(0,.var [.str sx0,.int .u8 ix0,.int .u32 ix0_1,.int .i64 ix0_2,.int .u64 ix0_3])] })) none) none) none
 | _,_=>none
noncomputable def eIxTwice:Env:=env Tryz.prog [(107,dPlace1)] [(2,loopF schIxTwice gIxTwice)] [(2,[(0,[0,1,7,8]),(1,[]),(1000,[4])])]
theorem q_ixTwice (l:List HPlace) (x:HPlace):evFn eIxTwice 64 ((aCons (vSl cPlace) (aOne (vFn 107 0))).enc (l,())) ((bOne cPlace).enc x) some =
 cond ((↑(List.length (List.map (RCod.enc cPlace) l)):Int)==(↑(List.length (List.map (RCod.enc cPlace) l)):Int)) (cond (Nat.ble (List.length (List.map (RCod.enc cPlace) l)) 3000) (cond (ile (0:Int) (N.ixY (N.twiceP x) (List.map (RCod.dec cPlace) (List.map (RCod.enc cPlace) l)) (0:Int))) (some {v:=V.int .i64 (N.ixY (N.twiceP x) (List.map (RCod.dec cPlace) (List.map (RCod.enc cPlace) l)) (0:Int)),bx:=[[V.str (HPlace.name x),V.int .u8 (Label.level (HPlace.label x)),V.int .u32 (Label.set (HPlace.label x)),V.int .i64 (HPlace.bytes x),V.int .u64 (HPlace.base x)]]:DRes}) (some {v:=V.int .i64 (-1:Int),bx:=[[V.str (HPlace.name x),V.int .u8 (Label.level (HPlace.label x)),V.int .u32 (Label.set (HPlace.label x)),V.int .i64 (HPlace.bytes x),V.int .u64 (HPlace.base x)]]:DRes})) (none)) (none):=by kernel_rfl
theorem q_ixTwiceR (r0:List (List V)) (i7:Int) (i8:Int) (sx0:Bytes) (ix0:Int) (ix0_1:Int) (ix0_2:Int) (ix0_3:Int) (K:Ex→St→Option R):evRound eIxTwice 64 2 { fr:=[(0,.slc [.str,.int .u8,.int .u32,.int .i64,.int .u64] r0),(1,.fn 107 [] [.ptr 0 0 0 0]),(7,.int .i64 i7),(8,.int .i64 i8)],tab:=[(0,.var [.str sx0,.int .u8 ix0,.int .u32 ix0_1,.int .i64 ix0_2,.int .u64 ix0_3])] } K =
 cond (ilt i8 i7) (cond (decide ((0:Int)≤i8∧i8<(↑(List.length r0):Int))) (cond (N.twiceP {name:=sx0,label:={level:=ix0,set:=ix0_1:Label},bytes:=ix0_2,base:=ix0_3:HPlace} {name:=V.toStr (List.getD (List.getD r0 (Int.toNat i8) []) 0 V.undef),label:={level:=V.toInt (List.getD (List.getD r0 (Int.toNat i8) []) 1 V.undef),set:=V.toInt (List.getD (List.getD r0 (Int.toNat i8) []) 2 V.undef):Label},bytes:=V.toInt (List.getD (List.getD r0 (Int.toNat i8) []) 3 V.undef),base:=V.toInt (List.getD (List.getD r0 (Int.toNat i8) []) 4 V.undef):HPlace}) (K Ex.ret {fr:=[(4,V.int .i64 i8)],tab:=[(0,Box.var [V.str sx0,V.int .u8 ix0,V.int .u32 ix0_1,V.int .i64 ix0_2,V.int .u64 ix0_3])]:St}) (K Ex.normal {fr:=[(0,V.slc [.str,.int .u8,.int .u32,.int .i64,.int .u64] r0),(1,V.fn 107 [] [V.ptr 0 0 0 0]),(7,V.int .i64 i7),(8,V.int .i64 (IntKind.wrap .i64 (i8+(1:Int))))],tab:=[(0,Box.var [V.str sx0,V.int .u8 ix0,V.int .u32 ix0_1,V.int .i64 ix0_2,V.int .u64 ix0_3])]:St})) (none)) (K (Ex.exit 0) {fr:=[],tab:=[(0,Box.var [V.str sx0,V.int .u8 ix0,V.int .u32 ix0_1,V.int .i64 ix0_2,V.int .u64 ix0_3])]:St}):=by kernel_rfl
theorem ok_ixTwice_2:RoundsOk eIxTwice 64 2:=by
 refine rounds_of rfl fun l K q h=>?_
 unfold gIxTwice at h
 split at h
 ·rename_i r0 i7 i8 sx0 ix0 ix0_1 ix0_2 ix0_3
  have h1:=(cond_none h).1; replace h:=(cond_none h).2; have h2:=(cond_none h).1; replace h:=(cond_none h).2; have h3:=(cond_none h).1; replace h:=(cond_none h).2
  have e1:=ieq_of h1
  have e2:=ieq_of h2
  subst e1 e2
  have h3:r0.length≤3000:=ble_of h3
  have main:=range_ind (E:=eIxTwice) (f:=64) (id:=2) (A:=Int) (r0) (fun a i=>{ fr:=[(0,.slc [.str,.int .u8,.int .u32,.int .i64,.int .u64] r0),(1,.fn 107 [] [.ptr 0 0 0 0]),(7,.int .i64 r0.length),(8,.int .i64 i)],tab:=[(0,.var [.str sx0,.int .u8 ix0,.int .u32 ix0_1,.int .i64 ix0_2,.int .u64 ix0_3])] }) (fun a i=>a=(i:Int))
   (fun a rows K=>cond (ile 0 (N.ixY (N.twiceP ⟨sx0,⟨ix0,ix0_1⟩,ix0_2,ix0_3⟩) ((rows).map cPlace.dec) (a))) (K .ret { fr:=[(4,.int .i64 (N.ixY (N.twiceP ⟨sx0,⟨ix0,ix0_1⟩,ix0_2,ix0_3⟩) ((rows).map cPlace.dec) (a)))],tab:=[(0,.var [.str sx0,.int .u8 ix0,.int .u32 ix0_1,.int .i64 ix0_2,.int .u64 ix0_3])] }) (K (.exit 0) { fr:=[],tab:=[(0,.var [.str sx0,.int .u8 ix0,.int .u32 ix0_1,.int .i64 ix0_2,.int .u64 ix0_3])] })) (fun a i ha hi=>?_) (fun a ha=>?_) ((0:Int)) 0 (Int.le_refl _) (by omega) rfl K q (by assumption)
  ·exact main
  ·have hq:=fun K=>q_ixTwiceR (r0) (r0.length) ((i:Int)) (sx0) (ix0) (ix0_1) (ix0_2) (ix0_3) K
   have t1:ilt (i:Int) r0.length=true:=ilt_t (by omega)
   have t2:decide ((0:Int)≤i∧(i:Int)<r0.length)=true:=decide_eq_true (by omega)
   have t3:IntKind.wrap .i64 ((i:Int)+1)=(i:Int)+1:=wr_i64 (by omega) (by omega)
   simp only [Int.toNat_natCast] at hq
   simp only [t1,t2,t3,cond_true] at hq
   subst ha
   have ei:(((i+1:Nat)):Int)=(i:Int)+1:=by omega
   simp only [List.map_cons,ixY_cons]
   have hq:∀ K,evRound eIxTwice 64 2 _ K=cond (N.twiceP ⟨sx0,⟨ix0,ix0_1⟩,ix0_2,ix0_3⟩ (cPlace.dec (r0.getD i []))) (K .ret { fr:=[(4,.int .i64 ((i:Int)))],tab:=[(0,.var [.str sx0,.int .u8 ix0,.int .u32 ix0_1,.int .i64 ix0_2,.int .u64 ix0_3])] }) (K .normal _):=hq
   cases hc:N.twiceP ⟨sx0,⟨ix0,ix0_1⟩,ix0_2,ix0_3⟩ (cPlace.dec (r0.getD i [])) with
   | true =>
    refine .inr ⟨.ret,{ fr:=[(4,.int .i64 ((i:Int)))],tab:=[(0,.var [.str sx0,.int .u8 ix0,.int .u32 ix0_1,.int .i64 ix0_2,.int .u64 ix0_3])] },by simp,fun K=>?_,fun K=>?_⟩
    ·rw [hq,hc]; rfl
    ·simp only [cond_true]
     rw [ile_t (by omega)]; rfl
   | false =>
    refine .inl ⟨(i:Int)+1,ei.symm,fun K=>?_,fun K=>rfl⟩
    rw [hq,hc]; rfl
  ·refine ⟨.exit 0,_,by simp,fun K=>?_,fun K=>rfl⟩
   rw [q_ixTwiceR]
   simp (disch:=omega) only [evs]
   try rfl
 ·cases h
theorem ok_ixTwice:FnOk Tryz.prog 64 dIxTwice:=by
 refine den_okF (env_ok ((TOk.nil _).cons ok_place1)) (E:=eIxTwice) Tryz.func64 [2] (by kernel_rfl) (one1 ok_ixTwice_2) fun a b hp=>?_
 obtain ⟨l,⟨⟩⟩:=a
 have h1:Nat.ble l.length 3000=true:=hp
 refine (q_ixTwice l b).trans ?_
 simp only [List.length_map,dec_encsY,h1,beq_self_eq_true,cond_true]
 show _=some (⟨.int .i64 (N.ixY (N.twiceP b) l 0),[cPlace.enc b],[]⟩:DRes)
 rcases ixY_lt (N.twiceP b) l 0 with h | h
 ·rw [h.1]; rfl
 ·rw [ile_t h.1]; rfl
def dIxTwiceG:Den:=den (aCons (vSl cGrant) (aOne (vFn 110 0))) (bOne cGrant) (oV (vInt .i64)) (fun a _=>Nat.ble a.1.length 3000) fun a x=>(N.ixY (N.isGr x.src x.dst) a.1 0,x)
def schIxTwiceG:SSch:={ fr:=[(0,.slc [.int .i64,.int .i64,.int .i64]),(1,.fn 110 [] [.ptr 0 0 0]),(7,.int .i64),(8,.int .i64)],tab:=[(0,.var [.int .i64,.int .i64,.int .i64])] }
def gIxTwiceG:List Leaf→(Ex→St→Option R)→Option R
 | [.r r0,.i i7,.i i8,.i ix0,.i ix0_1,.i ix0_2],K=>cond (i7==r0.length) (cond (i8==0) (cond (Nat.ble r0.length 3000) (cond (ile 0 (N.ixY (N.isGr ix0 ix0_1) ((r0).map cGrant.dec) ((0:Int)))) (K .ret { fr:=[(4,.int .i64 (N.ixY (N.isGr ix0 ix0_1) ((r0).map cGrant.dec) ((0:Int))))],tab:=[(0,.var [.int .i64 ix0,.int .i64 ix0_1,.int .i64 ix0_2])] }) (K (.exit 0) { fr:=[],tab:=[(0,.var [.int .i64 ix0,.int .i64 ix0_1,.int .i64 ix0_2])] })) none) none) none
 | _,_=>none
noncomputable def eIxTwiceG:Env:=env Tryz.prog [(110,dGrantC1)] [(2,loopF schIxTwiceG gIxTwiceG)] [(2,[(0,[0,1,7,8]),(1,[]),(1000,[4])])]
theorem q_ixTwiceG (l:List HGrant) (x:HGrant):evFn eIxTwiceG 46 ((aCons (vSl cGrant) (aOne (vFn 110 0))).enc (l,())) ((bOne cGrant).enc x) some =
 cond ((↑(List.length (List.map (RCod.enc cGrant) l)):Int)==(↑(List.length (List.map (RCod.enc cGrant) l)):Int)) (cond (Nat.ble (List.length (List.map (RCod.enc cGrant) l)) 3000) (cond (ile (0:Int) (N.ixY (N.isGr (HGrant.src x) (HGrant.dst x)) (List.map (RCod.dec cGrant) (List.map (RCod.enc cGrant) l)) (0:Int))) (some {v:=V.int .i64 (N.ixY (N.isGr (HGrant.src x) (HGrant.dst x)) (List.map (RCod.dec cGrant) (List.map (RCod.enc cGrant) l)) (0:Int)),bx:=[[V.int .i64 (HGrant.src x),V.int .i64 (HGrant.dst x),V.int .i64 (HGrant.budget x)]]:DRes}) (some {v:=V.int .i64 (-1:Int),bx:=[[V.int .i64 (HGrant.src x),V.int .i64 (HGrant.dst x),V.int .i64 (HGrant.budget x)]]:DRes})) (none)) (none):=by kernel_rfl
theorem q_ixTwiceGR (r0:List (List V)) (i7:Int) (i8:Int) (ix0:Int) (ix0_1:Int) (ix0_2:Int) (K:Ex→St→Option R):evRound eIxTwiceG 46 2 { fr:=[(0,.slc [.int .i64,.int .i64,.int .i64] r0),(1,.fn 110 [] [.ptr 0 0 0 0]),(7,.int .i64 i7),(8,.int .i64 i8)],tab:=[(0,.var [.int .i64 ix0,.int .i64 ix0_1,.int .i64 ix0_2])] } K =
 cond (ilt i8 i7) (cond (decide ((0:Int)≤i8∧i8<(↑(List.length r0):Int))) (cond (N.isGr ix0 ix0_1 {src:=V.toInt (List.getD (List.getD r0 (Int.toNat i8) []) 0 V.undef),dst:=V.toInt (List.getD (List.getD r0 (Int.toNat i8) []) 1 V.undef),budget:=V.toInt (List.getD (List.getD r0 (Int.toNat i8) []) 2 V.undef):HGrant}) (K Ex.ret {fr:=[(4,V.int .i64 i8)],tab:=[(0,Box.var [V.int .i64 ix0,V.int .i64 ix0_1,V.int .i64 ix0_2])]:St}) (K Ex.normal {fr:=[(0,V.slc [.int .i64,.int .i64,.int .i64] r0),(1,V.fn 110 [] [V.ptr 0 0 0 0]),(7,V.int .i64 i7),(8,V.int .i64 (IntKind.wrap .i64 (i8+(1:Int))))],tab:=[(0,Box.var [V.int .i64 ix0,V.int .i64 ix0_1,V.int .i64 ix0_2])]:St})) (none)) (K (Ex.exit 0) {fr:=[],tab:=[(0,Box.var [V.int .i64 ix0,V.int .i64 ix0_1,V.int .i64 ix0_2])]:St}):=by kernel_rfl
theorem ok_ixTwiceG_2:RoundsOk eIxTwiceG 46 2:=by
 refine rounds_of rfl fun l K q h=>?_
 unfold gIxTwiceG at h
 split at h
 ·rename_i r0 i7 i8 ix0 ix0_1 ix0_2
  have h1:=(cond_none h).1; replace h:=(cond_none h).2; have h2:=(cond_none h).1; replace h:=(cond_none h).2; have h3:=(cond_none h).1; replace h:=(cond_none h).2
  have e1:=ieq_of h1
  have e2:=ieq_of h2
  subst e1 e2
  have h3:r0.length≤3000:=ble_of h3
  have main:=range_ind (E:=eIxTwiceG) (f:=46) (id:=2) (A:=Int) (r0) (fun a i=>{ fr:=[(0,.slc [.int .i64,.int .i64,.int .i64] r0),(1,.fn 110 [] [.ptr 0 0 0 0]),(7,.int .i64 r0.length),(8,.int .i64 i)],tab:=[(0,.var [.int .i64 ix0,.int .i64 ix0_1,.int .i64 ix0_2])] }) (fun a i=>a=(i:Int))
   (fun a rows K=>cond (ile 0 (N.ixY (N.isGr ix0 ix0_1) ((rows).map cGrant.dec) (a))) (K .ret { fr:=[(4,.int .i64 (N.ixY (N.isGr ix0 ix0_1) ((rows).map cGrant.dec) (a)))],tab:=[(0,.var [.int .i64 ix0,.int .i64 ix0_1,.int .i64 ix0_2])] }) (K (.exit 0) { fr:=[],tab:=[(0,.var [.int .i64 ix0,.int .i64 ix0_1,.int .i64 ix0_2])] })) (fun a i ha hi=>?_) (fun a ha=>?_) ((0:Int)) 0 (Int.le_refl _) (by omega) rfl K q (by assumption)
  ·exact main
  ·have hq:=fun K=>q_ixTwiceGR (r0) (r0.length) ((i:Int)) (ix0) (ix0_1) (ix0_2) K
   have t1:ilt (i:Int) r0.length=true:=ilt_t (by omega)
   have t2:decide ((0:Int)≤i∧(i:Int)<r0.length)=true:=decide_eq_true (by omega)
   have t3:IntKind.wrap .i64 ((i:Int)+1)=(i:Int)+1:=wr_i64 (by omega) (by omega)
   simp only [Int.toNat_natCast] at hq
   simp only [t1,t2,t3,cond_true] at hq
   subst ha
   have ei:(((i+1:Nat)):Int)=(i:Int)+1:=by omega
   simp only [List.map_cons,ixY_cons]
   have hq:∀ K,evRound eIxTwiceG 46 2 _ K=cond (N.isGr ix0 ix0_1 (cGrant.dec (r0.getD i []))) (K .ret { fr:=[(4,.int .i64 ((i:Int)))],tab:=[(0,.var [.int .i64 ix0,.int .i64 ix0_1,.int .i64 ix0_2])] }) (K .normal _):=hq
   cases hc:N.isGr ix0 ix0_1 (cGrant.dec (r0.getD i [])) with
   | true =>
    refine .inr ⟨.ret,{ fr:=[(4,.int .i64 ((i:Int)))],tab:=[(0,.var [.int .i64 ix0,.int .i64 ix0_1,.int .i64 ix0_2])] },by simp,fun K=>?_,fun K=>?_⟩
    ·rw [hq,hc]; rfl
    ·simp only [cond_true]
     rw [ile_t (by omega)]; rfl
   | false =>
    refine .inl ⟨(i:Int)+1,ei.symm,fun K=>?_,fun K=>rfl⟩
    rw [hq,hc]; rfl
  ·refine ⟨.exit 0,_,by simp,fun K=>?_,fun K=>rfl⟩
   rw [q_ixTwiceGR]
   simp (disch:=omega) only [evs]
   try rfl
 ·cases h
theorem ok_ixTwiceG:FnOk Tryz.prog 46 dIxTwiceG:=by
 refine den_okF (env_ok ((TOk.nil _).cons ok_grantC1)) (E:=eIxTwiceG) Tryz.func46 [2] (by kernel_rfl) (one1 ok_ixTwiceG_2) fun a b hp=>?_
 obtain ⟨l,⟨⟩⟩:=a
 have h1:Nat.ble l.length 3000=true:=hp
 refine (q_ixTwiceG l b).trans ?_
 simp only [List.length_map,dec_encsY,h1,beq_self_eq_true,cond_true]
 show _=some (⟨.int .i64 (N.ixY (N.isGr b.src b.dst) l 0),[cGrant.enc b],[]⟩:DRes)
 rcases ixY_lt (N.isGr b.src b.dst) l 0 with h | h
 ·rw [h.1]; rfl
 ·rw [ile_t h.1]; rfl
end Go.Ev

/- What the statements on words reckon: lemmas,no condition. -/
namespace Go.Ev
open Go Go.Proofs
set_option maxRecDepth 100000
def dTrueW:Den:=den aNil bNil (oV vBool) (fun _ _=>true) fun _ _=>(true,())
noncomputable def eName:Env:=env Tryz.prog [(115,dPlain)] [] []
theorem q_name (s:Bytes):evFn eName 94 ((aOne vStr).enc s) ([]) some =
 cond (s==[]) (some {v:=V.int .i64 (15:Int),bx:=[]}) (cond (ilt (16:Int) (↑(List.length s):Int)) (some {v:=V.int .i64 (5:Int),bx:=[]}) (cond (Nat.ble (List.length s) 1000000) (cond (!N.plain s) (some {v:=V.int .i64 (4:Int),bx:=[]}) (some {v:=V.int .i64 (0:Int),bx:=[]})) (none))):=by kernel_rfl
theorem ok_name:FnOk Tryz.prog 94 dName:=by
 refine den_okF (env_ok ((TOk.nil _).cons ok_plain)) (E:=eName) Tryz.func94 [] (by kernel_rfl) none0 fun s _ h=>?_
 refine (q_name s).trans ?_
 show _=some (⟨.int .i64 (N.name s),[],[]⟩:DRes)
 unfold N.name
 cases s==[] with
 | true=>rfl
 | false =>
  cases h:ilt 16 s.length with
  | true=>rfl
  | false =>
   have h:=ilt_nof h
   simp (disch:=omega) only [evs]
   cases N.plain s<;>rfl
noncomputable def eAwW:Env:=env Tryz.prog [(93,dMatches),(94,dName)] [] []
theorem q_awW  : evFn eAwW 69 [] [] some =
 some {v:=V.bool true,bx:=[]}:=by kernel_rfl
theorem ok_awW:FnOk Tryz.prog 69 dTrueW :=
 den_okF (env_ok (((TOk.nil _).cons ok_name).cons ok_matches)) (E:=eAwW) Tryz.func69 [] (by kernel_rfl) none0 fun _ _ _=>q_awW
end Go.Ev

/- Policies: what they are asked: lemmas,no condition. -/
namespace Go.Ev
open Go Go.Proofs
set_option maxRecDepth 100000
-- FOLD
def place0:HPlace:=⟨[],⟨0,0⟩,0,0⟩
namespace N
def pNamed (p:HPolicy) (s:Bytes):Int × Int:=cond (ile 0 (pFind p s)) (pFind p s,0) (0,10)
def placeE (x:HPlace) (ahead:List HPlace):Int :=
 cond (name x.name != 0) (name x.name) (cond (cond (right x.label) (cond (within x.bytes 0 65536) (!(x.base==0)) false) false) (cond (ahead.any (twiceP x)) 9 0) 7)
def plAt (p:HPolicy) (i:Int):HPlace:=p.places.getD i.toNat place0
def grantE (p:HPolicy) (x:HGrant) (ahead:List HGrant):Int :=
 cond (cond (there p x.src) (there p x.dst) false) (cond (under (plAt p x.src).label (plAt p x.dst).label) 11 (cond (within x.budget 0 16) (cond (ahead.any (isGr x.src x.dst)) 9 0) 7)) 10
def flows (p:HPolicy) (a b:Int):Bool:=cond (a != b) (cond (there p a) (cond (there p b) (under (plAt p a).label (plAt p b).label) false) false) false
end N
theorem ix_find (n:Bytes):∀ (l:List HPlace) (i:Int),N.ixY (N.isNm n) l i=N.pFindL n l i
 | [],_=>rfl
 | x::r,i=>by
  show cond (x.name==n) i (N.ixY (N.isNm n) r (i+1))=cond (x.name==n) i (N.pFindL n r (i+1))
  rw [ix_find n r]
theorem ixY_ge {α:Type} (p:α→Bool) (l:List α):ile 0 (N.ixY p l 0)=l.any p:=by
 rcases ixY_lt p l 0 with h | h
 ·rw [h.1,h.2]; rfl
 ·rw [ile_t h.1,h.2]
def dNamed:Den:=den (aCons (vAgg cPolicy) (aOne vStr)) bNil (oTup (aCons (vInt .i64) (aOne (vInt .i64)))) (fun a _=>fewP a.1) fun a _=>(N.pNamed a.1 a.2,())
def dAnyTwice:Den:=den (aCons (vSl cPlace) (aOne (vFn 107 0))) (bOne cPlace) (oV vBool) (fun a _=>Nat.ble a.1.length 3000) fun a x=>(a.1.any (N.twiceP x),x)
def dAnyTwiceG:Den:=den (aCons (vSl cGrant) (aOne (vFn 110 0))) (bOne cGrant) (oV vBool) (fun a _=>Nat.ble a.1.length 3000) fun a x=>(a.1.any (N.isGr x.src x.dst),x)
def dPlaceE:Den:=den (aCons (vAgg cPlace) (aOne (vSl cPlace))) bNil (oV (vInt .i64)) (fun a _=>cond (Nat.ble a.1.name.length 1000000) (Nat.ble a.2.length 3000) false) fun a _=>(N.placeE a.1 a.2,())
def dGrantE:Den:=den (aCons (vAgg cPolicy) (aCons (vAgg cGrant) (aOne (vSl cGrant)))) bNil (oV (vInt .i64)) (fun a _=>cond (fewP a.1) (Nat.ble a.2.2.length 3000) false) fun a _=>(N.grantE a.1 a.2.1 a.2.2,())
noncomputable def ePFind:Env:=env Tryz.prog [(64,dIxFind)] [] []
theorem q_pFind (p:HPolicy) (n:Bytes):evFn ePFind 32 ((aCons (vAgg cPolicy) (aOne vStr)).enc (p,n)) ([]) some =
 cond (Nat.ble (List.length (List.map (RCod.dec cPlace) (List.map (RCod.enc cPlace) (HPolicy.places p)))) 3000) (some {v:=V.int .i64 (N.ixY (N.isNm n) (List.map (RCod.dec cPlace) (List.map (RCod.enc cPlace) (HPolicy.places p))) (0:Int)),bx:=[]:DRes}) (none):=by kernel_rfl
theorem ok_pFind:FnOk Tryz.prog 32 dFindR:=by
 refine den_okF (env_ok ((TOk.nil _).cons ok_ixFind)) (E:=ePFind) Tryz.func32 [] (by kernel_rfl) (none0) fun a b hp=>?_
 obtain ⟨p,n⟩:=a
 have hp:fewP p=true:=hp
 obtain ⟨h1,h2⟩:=bcond hp
 obtain ⟨h2,h3⟩:=bcond h2
 refine (q_pFind p n).trans ?_
 simp only [dec_encsY,h1,cond_true,ix_find]
 try rfl
noncomputable def eAnyTwice:Env:=env Tryz.prog [(64,dIxTwice)] [] []
theorem q_anyTwice (l:List HPlace) (x:HPlace):evFn eAnyTwice 109 ((aCons (vSl cPlace) (aOne (vFn 107 0))).enc (l,())) ((bOne cPlace).enc x) some =
 cond (Nat.ble (List.length (List.map (RCod.dec cPlace) (List.map (RCod.enc cPlace) l))) 3000) (some {v:=V.bool (ile (0:Int) (N.ixY (N.twiceP x) (List.map (RCod.dec cPlace) (List.map (RCod.enc cPlace) l)) (0:Int))),bx:=[[V.str (HPlace.name x),V.int .u8 (Label.level (HPlace.label x)),V.int .u32 (Label.set (HPlace.label x)),V.int .i64 (HPlace.bytes x),V.int .u64 (HPlace.base x)]]:DRes}) (none):=by kernel_rfl
theorem ok_anyTwice:FnOk Tryz.prog 109 dAnyTwice:=by
 refine den_okF (env_ok ((TOk.nil _).cons ok_ixTwice)) (E:=eAnyTwice) Tryz.func109 [] (by kernel_rfl) (none0) fun a b hp=>?_
 obtain ⟨l,⟨⟩⟩:=a
 have h1:Nat.ble l.length 3000=true:=hp
 refine (q_anyTwice l b).trans ?_
 simp only [dec_encsY,h1,cond_true]
 show some (⟨.bool (ile 0 (N.ixY (N.twiceP b) l 0)),[cPlace.enc b],[]⟩:DRes)=some ⟨.bool (l.any (N.twiceP b)),[cPlace.enc b],[]⟩
 rw [ixY_ge]
noncomputable def eAnyTwiceG:Env:=env Tryz.prog [(46,dIxTwiceG)] [] []
theorem q_anyTwiceG (l:List HGrant) (x:HGrant):evFn eAnyTwiceG 111 ((aCons (vSl cGrant) (aOne (vFn 110 0))).enc (l,())) ((bOne cGrant).enc x) some =
 cond (Nat.ble (List.length (List.map (RCod.dec cGrant) (List.map (RCod.enc cGrant) l))) 3000) (some {v:=V.bool (ile (0:Int) (N.ixY (N.isGr (HGrant.src x) (HGrant.dst x)) (List.map (RCod.dec cGrant) (List.map (RCod.enc cGrant) l)) (0:Int))),bx:=[[V.int .i64 (HGrant.src x),V.int .i64 (HGrant.dst x),V.int .i64 (HGrant.budget x)]]:DRes}) (none):=by kernel_rfl
theorem ok_anyTwiceG:FnOk Tryz.prog 111 dAnyTwiceG:=by
 refine den_okF (env_ok ((TOk.nil _).cons ok_ixTwiceG)) (E:=eAnyTwiceG) Tryz.func111 [] (by kernel_rfl) (none0) fun a b hp=>?_
 obtain ⟨l,⟨⟩⟩:=a
 have h1:Nat.ble l.length 3000=true:=hp
 refine (q_anyTwiceG l b).trans ?_
 simp only [dec_encsY,h1,cond_true]
 show some (⟨.bool (ile 0 (N.ixY (N.isGr b.src b.dst) l 0)),[cGrant.enc b],[]⟩:DRes)=some ⟨.bool (l.any (N.isGr b.src b.dst)),[cGrant.enc b],[]⟩
 rw [ixY_ge]
end Go.Ev

/- Policies: errors of places and grants,flows: lemmas,no condition. -/
namespace Go.Ev
open Go Go.Proofs
set_option maxRecDepth 100000
-- FOLD
theorem fold_pol (p:HPolicy):(⟨p.work,p.give,p.places,p.slots,p.grants⟩:HPolicy)=p:=rfl
theorem lab_at {l:List HPlace} {k:Nat} (h:k<l.length):(⟨V.toInt (List.getD (List.getD (l.map cPlace.enc) k []) 1 V.undef),V.toInt (List.getD (List.getD (l.map cPlace.enc) k []) 2 V.undef)⟩:Label)=(l.getD k place0).label:=by
 have e:(l.map cPlace.enc).getD k []=cPlace.enc (l.getD k place0):=by
  rw [List.getD_eq_getElem?_getD,List.getD_eq_getElem?_getD,List.getElem?_map,List.getElem?_eq_getElem h]; rfl
 rw [e]; rfl
theorem there_of {p:HPolicy} {i:Int} (h:N.there p i=true):0≤i∧i<p.places.length:=by
 obtain ⟨h1,h2⟩:=bcond (show cond (ile 0 i) (ile i ((p.places.length:Int)-1)) false=true from h)
 have:=ile_of h1
 have:=ile_of h2
 omega
noncomputable def eNamed:Env:=env Tryz.prog [(32,dFindR)] [] []
theorem q_named (p:HPolicy) (s:Bytes):evFn eNamed 74 ((aCons (vAgg cPolicy) (aOne vStr)).enc (p,s)) ([]) some =
 cond (bif Nat.ble (List.length (List.map (RCod.dec cPlace) (List.map (RCod.enc cPlace) (HPolicy.places p)))) 3000 then bif Nat.ble (List.length (List.map (RCod.dec (rInt .i64)) (List.map (RCod.enc (rInt .i64)) (HPolicy.slots p)))) 3000 then Nat.ble (List.length (List.map (RCod.dec cGrant) (List.map (RCod.enc cGrant) (HPolicy.grants p)))) 3000 else false else false) (cond (ile (0:Int) (N.pFind {work:=HPolicy.work p,give:=HPolicy.give p,places:=List.map (RCod.dec cPlace) (List.map (RCod.enc cPlace) (HPolicy.places p)),slots:=List.map (RCod.dec (rInt .i64)) (List.map (RCod.enc (rInt .i64)) (HPolicy.slots p)),grants:=List.map (RCod.dec cGrant) (List.map (RCod.enc cGrant) (HPolicy.grants p)):HPolicy} s)) (some {v:=V.tup [V.int .i64 (N.pFind {work:=HPolicy.work p,give:=HPolicy.give p,places:=List.map (RCod.dec cPlace) (List.map (RCod.enc cPlace) (HPolicy.places p)),slots:=List.map (RCod.dec (rInt .i64)) (List.map (RCod.enc (rInt .i64)) (HPolicy.slots p)),grants:=List.map (RCod.dec cGrant) (List.map (RCod.enc cGrant) (HPolicy.grants p)):HPolicy} s),V.int .i64 (0:Int)],bx:=[]:DRes}) (some {v:=V.tup [V.int .i64 (0:Int),V.int .i64 (10:Int)],bx:=[]:DRes})) (none):=by kernel_rfl
theorem ok_named:FnOk Tryz.prog 74 dNamed:=by
 refine den_okF (env_ok ((TOk.nil _).cons ok_pFind)) (E:=eNamed) Tryz.func74 [] (by kernel_rfl) (none0) fun a b hp=>?_
 obtain ⟨p,s⟩:=a
 have hp:fewP p=true:=hp
 obtain ⟨h1,h2⟩:=bcond hp
 obtain ⟨h2,h3⟩:=bcond h2
 refine (q_named p s).trans ?_
 simp only [dec_encsY,h1,h2,h3,cond_true,fold_pol]
 show _=some (⟨.tup [.int .i64 (N.pNamed p s).1,.int .i64 (N.pNamed p s).2],[],[]⟩:DRes)
 unfold N.pNamed
 cases ile 0 (N.pFind p s)<;>rfl
def okPl (x:HPlace):Bool:=cond (cond (ile 0 x.label.level) (ile x.label.level 255) false) (cond (ile 0 x.label.set) (ilt x.label.set 4294967296) false) false
theorem okPl_at {l:List HPlace} (h:l.all okPl=true) {k:Nat} (hk:k<l.length):(l.getD k place0).label.ok:=by
 have hm:l.getD k place0∈l:=by
  rw [List.getD_eq_getElem?_getD,List.getElem?_eq_getElem hk]; exact List.getElem_mem hk
 have:=List.all_eq_true.1 h _ hm
 generalize l.getD k place0=x at *
 obtain ⟨h1,h2⟩:=bcond (show cond (cond (ile 0 x.label.level) (ile x.label.level 255) false) (cond (ile 0 x.label.set) (ilt x.label.set 4294967296) false) false=true from this)
 obtain ⟨h1,h3⟩:=bcond h1
 obtain ⟨h2,h4⟩:=bcond h2
 have:=ile_of h1; have:=ile_of h2; have:=ile_of h3; have:=ilt_of h4
 exact ⟨⟨by omega,by omega⟩,⟨by omega,by omega⟩⟩
noncomputable def ePlaceE:Env:=env Tryz.prog [(94,dName),(108,dRight),(58,dWithin),(109,dAnyTwice)] [] []
theorem q_placeE (x:HPlace) (l:List HPlace):evFn ePlaceE 87 ((aCons (vAgg cPlace) (aOne (vSl cPlace))).enc (x,l)) ([]) some =
 cond (N.name (HPlace.name x) != (0:Int)) (some {v:=V.int .i64 (N.name (HPlace.name x)),bx:=[]:DRes}) (cond (!N.right (HPlace.label x)) (cond (!N.right (HPlace.label x)) (some {v:=V.int .i64 (7:Int),bx:=[]:DRes}) (cond (Nat.ble (List.length (List.map (RCod.dec cPlace) (List.map (RCod.enc cPlace) l))) 3000) (cond (List.any (List.map (RCod.dec cPlace) (List.map (RCod.enc cPlace) l)) (N.twiceP x)) (some {v:=V.int .i64 (9:Int),bx:=[]:DRes}) (some {v:=V.int .i64 (0:Int),bx:=[]:DRes})) (none))) (cond (!N.within (HPlace.bytes x) (0:Int) (65536:Int)) (cond (!N.within (HPlace.bytes x) (0:Int) (65536:Int)) (some {v:=V.int .i64 (7:Int),bx:=[]:DRes}) (cond (Nat.ble (List.length (List.map (RCod.dec cPlace) (List.map (RCod.enc cPlace) l))) 3000) (cond (List.any (List.map (RCod.dec cPlace) (List.map (RCod.enc cPlace) l)) (N.twiceP x)) (some {v:=V.int .i64 (9:Int),bx:=[]:DRes}) (some {v:=V.int .i64 (0:Int),bx:=[]:DRes})) (none))) (cond (HPlace.base x==(0:Int)) (some {v:=V.int .i64 (7:Int),bx:=[]:DRes}) (cond (Nat.ble (List.length (List.map (RCod.dec cPlace) (List.map (RCod.enc cPlace) l))) 3000) (cond (List.any (List.map (RCod.dec cPlace) (List.map (RCod.enc cPlace) l)) (N.twiceP x)) (some {v:=V.int .i64 (9:Int),bx:=[]:DRes}) (some {v:=V.int .i64 (0:Int),bx:=[]:DRes})) (none))))):=by kernel_rfl
theorem ok_placeE:FnOk Tryz.prog 87 dPlaceE:=by
 refine den_okF (env_ok (((((TOk.nil _).cons ok_anyTwice).cons ok_within).cons ok_right).cons ok_name)) (E:=ePlaceE) Tryz.func87 [] (by kernel_rfl) (none0) fun a b hp=>?_
 obtain ⟨x,l⟩:=a
 obtain ⟨hn,hl⟩:=bcond (show cond (Nat.ble x.name.length 1000000) (Nat.ble l.length 3000) false=true from hp)
 refine (q_placeE x l).trans ?_
 simp only [dec_encsY,hl,cond_true]
 show _=some (⟨.int .i64 (N.placeE x l),[],[]⟩:DRes)
 unfold N.placeE
 cases N.name x.name != 0 with
 | true=>rfl
 | false=>cases N.right x.label<;>cases N.within x.bytes 0 65536<;>cases x.base==0<;>cases l.any (N.twiceP x)<;>rfl
noncomputable def eGrantE:Env:=env Tryz.prog [(43,dThere),(44,dUnder),(58,dWithin),(111,dAnyTwiceG)] [] []
theorem q_grantE_ (p:HPolicy) (x:HGrant) (l:List HGrant):evFn eGrantE 88 ((aCons (vAgg cPolicy) (aCons (vAgg cGrant) (aOne (vSl cGrant)))).enc (p,x,l)) ([]) some =(
 let z3:=(List.map (RCod.enc cPlace) (HPolicy.places p));let z6:=(List.map (RCod.dec cGrant) (List.map (RCod.enc cGrant) l));let z0:=(cond (decide ((0:Int)≤HGrant.src x∧HGrant.src x<(↑(List.length z3):Int))) (cond (decide ((0:Int)≤HGrant.dst x∧HGrant.dst x<(↑(List.length z3):Int))) (cond (N.under {level:=V.toInt (List.getD (List.getD z3 (Int.toNat (HGrant.src x)) []) 1 V.undef),set:=V.toInt (List.getD (List.getD z3 (Int.toNat (HGrant.src x)) []) 2 V.undef):Label} {level:=V.toInt (List.getD (List.getD z3 (Int.toNat (HGrant.dst x)) []) 1 V.undef),set:=V.toInt (List.getD (List.getD z3 (Int.toNat (HGrant.dst x)) []) 2 V.undef):Label}) (some {v:=V.int .i64 (11:Int),bx:=[]:DRes}) (cond (!N.within (HGrant.budget x) (0:Int) (16:Int)) (some {v:=V.int .i64 (7:Int),bx:=[]:DRes}) (cond (Nat.ble (List.length z6) 3000) (cond (List.any z6 (N.isGr (HGrant.src x) (HGrant.dst x))) (some {v:=V.int .i64 (9:Int),bx:=[]:DRes}) (some {v:=V.int .i64 (0:Int),bx:=[]:DRes})) (none)))) (none)) (none));let z4:=(List.map (RCod.enc (rInt .i64)) (HPolicy.slots p));let z5:=(List.map (RCod.enc cGrant) (HPolicy.grants p));let z1:=(bif Nat.ble (List.length (List.map (RCod.dec cPlace) z3)) 3000 then bif Nat.ble (List.length (List.map (RCod.dec (rInt .i64)) z4)) 3000 then Nat.ble (List.length (List.map (RCod.dec cGrant) z5)) 3000 else false else false);let z2:=(!N.there {work:=HPolicy.work p,give:=HPolicy.give p,places:=List.map (RCod.dec cPlace) z3,slots:=List.map (RCod.dec (rInt .i64)) z4,grants:=List.map (RCod.dec cGrant) z5:HPolicy} (HGrant.src x));cond z1 (cond z2 (cond z2 (some {v:=V.int .i64 (10:Int),bx:=[]:DRes}) z0) (cond z1 (cond (!N.there {work:=HPolicy.work p,give:=HPolicy.give p,places:=List.map (RCod.dec cPlace) z3,slots:=List.map (RCod.dec (rInt .i64)) z4,grants:=List.map (RCod.dec cGrant) z5:HPolicy} (HGrant.dst x)) (some {v:=V.int .i64 (10:Int),bx:=[]:DRes}) z0) (none))) (none)):=by kernel_rfl
theorem q_grantE (p:HPolicy) (x:HGrant) (l:List HGrant):type_of% (by have h:=q_grantE_ p x l; dsimp only at h; exact h):=by
 have h:=q_grantE_ p x l
 dsimp only at h
 exact h
theorem ok_grantE:FnOk Tryz.prog 88 dGrantE:=by
 refine den_okF (env_ok (((((TOk.nil _).cons ok_anyTwiceG).cons ok_within).cons ok_under).cons ok_there)) (E:=eGrantE) Tryz.func88 [] (by kernel_rfl) (none0) fun a b hp=>?_
 obtain ⟨p,x,l⟩:=a
 obtain ⟨hp,hl⟩:=bcond (show cond (fewP p) (Nat.ble l.length 3000) false=true from hp)
 have hp:fewP p=true:=hp
 obtain ⟨h1,h2⟩:=bcond hp
 obtain ⟨h2,h3⟩:=bcond h2
 refine (q_grantE p x l).trans ?_
 simp only [dec_encsY,h1,h2,h3,hl,cond_true,fold_pol,List.length_map]
 show _=some (⟨.int .i64 (N.grantE p x l),[],[]⟩:DRes)
 unfold N.grantE
 cases hx:N.there p x.src with
 | false=>rfl
 | true =>
  cases hy:N.there p x.dst with
  | false=>rfl
  | true =>
   have ax:=there_of hx
   have ay:=there_of hy
   have d1:decide ((0:Int)≤x.src∧x.src<p.places.length)=true:=decide_eq_true ax
   have d2:decide ((0:Int)≤x.dst∧x.dst<p.places.length)=true:=decide_eq_true ay
   rw [d1,d2,lab_at (by omega),lab_at (by omega)]
   have e1:(p.places.getD x.src.toNat place0)=N.plAt p x.src:=rfl
   have e2:(p.places.getD x.dst.toNat place0)=N.plAt p x.dst:=rfl
   rw [e1,e2]
   cases N.under (N.plAt p x.src).label (N.plAt p x.dst).label<;>cases N.within x.budget 0 16<;>cases l.any (N.isGr x.src x.dst)<;>rfl
end Go.Ev

/- Policies: whether they may be,by the program: lemmas,no condition. -/
namespace Go.Ev
open Go Go.Proofs
set_option maxRecDepth 100000
-- FOLD
def xsPolicy:List Sh:=[.int .i64,.int .i64,.slc [.str,.int .u8,.int .u32,.int .i64,.int .u64],.slc [.int .i64],.slc [.int .i64,.int .i64,.int .i64]]
def grant0:HGrant:=⟨0,0,0⟩
namespace N
def errFrom (f:Nat→Int):Nat→Nat→Int→Int
 | 0,_,e=>e
 | k+1,i,e=>cond (e==0) (errFrom f k (i+1) (f i)) e
def plF (p:HPolicy) (i:Nat):Int:=placeE (p.places.getD i place0) (p.places.take i)
def slF (p:HPolicy) (i:Nat):Int:=cond (there p (p.slots.getD i 0)) 0 10
def grF (p:HPolicy) (i:Nat):Int:=grantE p (p.grants.getD i grant0) (p.grants.take i)
def placesE (p:HPolicy):Int:=errFrom (plF p) p.places.length 0 (count p.places.length 1 16)
def slotsE (p:HPolicy):Int:=errFrom (slF p) p.slots.length 0 (count p.slots.length 1 32)
def grantsE (p:HPolicy):Int:=errFrom (grF p) p.grants.length 0 (count p.grants.length 0 8)
def or3:List Int→Int
 | []=>0
 | x::r=>cond (x != 0) x (or3 r)
def lacks (p:HPolicy):Nat→Nat→Int
 | 0,_=>0
 | k+1,i=>cond (p.slots.any (·==(i:Int))) (lacks p k (i+1)) 15
def checkP (p:HPolicy):Int :=
 cond (cond (within p.work 1 16) (within p.give 1 16) false) (cond (or3 [placesE p,slotsE p,grantsE p] != 0) (or3 [placesE p,slotsE p,grantsE p]) (lacks p p.places.length 0)) 7
end N
def fewC (p:HPolicy):Bool:=cond (fewP p) (p.places.all fun x=>Nat.ble x.name.length 1000000) false
def dPlacesE:Den:=den (aOne (vAgg cPolicy)) bNil (oV (vInt .i64)) (fun p _=>fewC p) fun p _=>(N.placesE p,())
def dSlotsE:Den:=den (aOne (vAgg cPolicy)) bNil (oV (vInt .i64)) (fun p _=>fewC p) fun p _=>(N.slotsE p,())
def dGrantsE:Den:=den (aOne (vAgg cPolicy)) bNil (oV (vInt .i64)) (fun p _=>fewC p) fun p _=>(N.grantsE p,())
theorem pol_rows (c:List V):List.map cPlace.dec (V.toRows (List.getD c 2 V.undef))=(cPolicy.dec c).places:=rfl
theorem pol_slots (c:List V):List.map (rInt .i64).dec (V.toRows (List.getD c 3 V.undef))=(cPolicy.dec c).slots:=rfl
theorem pol_grants (c:List V):List.map cGrant.dec (V.toRows (List.getD c 4 V.undef))=(cPolicy.dec c).grants:=rfl
theorem rows_len2 (c:List V):(V.toRows (List.getD c 2 V.undef)).length=(cPolicy.dec c).places.length:=by rw [← pol_rows,List.length_map]
theorem rows_len3 (c:List V):(V.toRows (List.getD c 3 V.undef)).length=(cPolicy.dec c).slots.length:=by rw [← pol_slots,List.length_map]
theorem rows_len4 (c:List V):(V.toRows (List.getD c 4 V.undef)).length=(cPolicy.dec c).grants.length:=by rw [← pol_grants,List.length_map]
theorem dec_at {α:Type} (c:RCod α) {r:List (List V)} {i:Nat} (d:α) (h:i<r.length):c.dec (r.getD i [])=(r.map c.dec).getD i d:=by
 rw [List.getD_eq_getElem?_getD,List.getD_eq_getElem?_getD,List.getElem?_map,List.getElem?_eq_getElem h]; rfl
theorem dec_take {α:Type} (c:RCod α) (r:List (List V)) (i:Nat):(r.take i).map c.dec=(r.map c.dec).take i:=List.map_take ..
def schPPlaces:SSch:={ fr:=[(1,.ptr 10000 0 0),(3,.int .i64),(4,.int .i64)],tab:=[(10000,.row [] xsPolicy)] }
def gPPlaces:List Leaf→(Ex→St→Option R)→Option R
 | [.i i3,.i i4,.c cx0],K=>cond (ile 0 i4) (cond (ile i4 (cPolicy.dec cx0).places.length) (cond (fewC (cPolicy.dec cx0)) (K (.exit 0) { fr:=[(3,.int .i64 (N.errFrom (N.plF (cPolicy.dec cx0)) ((cPolicy.dec cx0).places.length-i4.toNat) i4.toNat i3))],tab:=[] }) none) none) none
 | _,_=>none
noncomputable def ePPlaces:Env:=env Tryz.prog [(86,dCount),(87,dPlaceE)] [(3,loopF schPPlaces gPPlaces)] [(3,[(0,[1,3,4]),(1,[3]),(1000,[2])])]
theorem q_pPlaces (p:HPolicy):evFn ePPlaces 60 ((aOne (vAgg cPolicy)).enc p) ([]) some =
 cond (bif bif Nat.ble (List.length (List.map (RCod.dec cPlace) (List.map (RCod.enc cPlace) (HPolicy.places p)))) 3000 then bif Nat.ble (List.length (List.map (RCod.dec (rInt .i64)) (List.map (RCod.enc (rInt .i64)) (HPolicy.slots p)))) 3000 then Nat.ble (List.length (List.map (RCod.dec cGrant) (List.map (RCod.enc cGrant) (HPolicy.grants p)))) 3000 else false else false then List.all (List.map (RCod.dec cPlace) (List.map (RCod.enc cPlace) (HPolicy.places p))) fun x=>Nat.ble (List.length (HPlace.name x)) 1000000 else false) (some {v:=V.int .i64 (N.errFrom (N.plF {work:=HPolicy.work p,give:=HPolicy.give p,places:=List.map (RCod.dec cPlace) (List.map (RCod.enc cPlace) (HPolicy.places p)),slots:=List.map (RCod.dec (rInt .i64)) (List.map (RCod.enc (rInt .i64)) (HPolicy.slots p)),grants:=List.map (RCod.dec cGrant) (List.map (RCod.enc cGrant) (HPolicy.grants p)):HPolicy}) (List.length (List.map (RCod.dec cPlace) (List.map (RCod.enc cPlace) (HPolicy.places p)))-0) 0 (N.count (↑(List.length (List.map (RCod.enc cPlace) (HPolicy.places p))):Int) (1:Int) (16:Int))),bx:=[]:DRes}) (none):=by kernel_rfl
theorem q_pPlacesR_ (i3:Int) (i4:Int) (cx0:List V) (K:Ex→St→Option R):evRound ePPlaces 60 3 { fr:=[(1,.ptr 10000 0 0 0),(3,.int .i64 i3),(4,.int .i64 i4)],tab:=[(10000,.var (etaRow xsPolicy 0 cx0))] } K =(
 let z0:=(V.toRows (List.getD cx0 2 .undef));let z1:=(List.getD z0 (Int.toNat i4) []);let z2:=(List.map (RCod.dec cPlace) (List.drop 0 (List.take (Int.toNat i4) z0)));let z3:=(K (Ex.exit 0) {fr:=[(3,V.int .i64 i3)],tab:=[]:St});cond (i3==(0:Int)) (cond (ilt i4 (↑(List.length z0):Int)) (cond (decide ((0:Int)≤i4∧i4<(↑(List.length z0):Int))) (cond (decide ((0:Int)≤i4∧i4≤(↑(List.length z0):Int))) (cond (bif Nat.ble (List.length (V.toStr (List.getD z1 0 V.undef))) 1000000 then Nat.ble (List.length z2) 3000 else false) (K Ex.normal {fr:=[(1,V.ptr 10000 0 0 0),(3,V.int .i64 (N.placeE {name:=V.toStr (List.getD z1 0 V.undef),label:={level:=V.toInt (List.getD z1 1 V.undef),set:=V.toInt (List.getD z1 2 V.undef):Label},bytes:=V.toInt (List.getD z1 3 V.undef),base:=V.toInt (List.getD z1 4 V.undef):HPlace} z2)),(4,V.int .i64 (IntKind.wrap .i64 (i4+(1:Int))))],tab:=[(10000,Box.var [V.int .i64 (V.toInt (List.getD cx0 0 .undef)),V.int .i64 (V.toInt (List.getD cx0 1 .undef)),V.slc [.str,.int .u8,.int .u32,.int .i64,.int .u64] z0,V.slc [.int .i64] (V.toRows (List.getD cx0 3 .undef)),V.slc [.int .i64,.int .i64,.int .i64] (V.toRows (List.getD cx0 4 .undef))])]:St}) (none)) (none)) (none)) z3) z3):=by kernel_rfl
theorem q_pPlacesR (i3:Int) (i4:Int) (cx0:List V) (K:Ex→St→Option R):type_of% (by have h:=q_pPlacesR_ i3 i4 cx0 K; dsimp only at h; exact h):=by
 have h:=q_pPlacesR_ i3 i4 cx0 K
 dsimp only at h
 exact h
theorem ok_pPlaces_3:RoundsOk ePPlaces 60 3:=by
 refine rounds_of rfl fun l K q h=>?_
 unfold gPPlaces at h
 split at h
 ·rename_i i3 i4 cx0
  have h1:=(cond_none h).1; replace h:=(cond_none h).2; have h2:=(cond_none h).1; replace h:=(cond_none h).2; have h3:=(cond_none h).1; replace h:=(cond_none h).2
  have h1:=ile_of h1
  have h2:=ile_of h2
  obtain ⟨hf,hnm⟩:=bcond h3
  obtain ⟨f1,f2⟩:=bcond hf
  obtain ⟨f2,f3⟩:=bcond f2
  have f1':=ble_of f1
  have f2':=ble_of f2
  have f3':=ble_of f3
  have main:=loop_ind (E:=ePPlaces) (f:=60) (id:=3) (σ:=Int × Nat) (fun x=>{ fr:=[(1,.ptr 10000 0 0 0),(3,.int .i64 x.1),(4,.int .i64 (x.2:Int))],tab:=[(10000,.var (etaRow xsPolicy 0 cx0))] })
   (fun x=>x.2≤(cPolicy.dec cx0).places.length) (fun x=>(cPolicy.dec cx0).places.length-x.2)
   (fun x K=>K (.exit 0) { fr:=[(3,.int .i64 (N.errFrom (N.plF (cPolicy.dec cx0)) ((cPolicy.dec cx0).places.length-x.2) x.2 x.1))],tab:=[] }) (fun x hx=>?_) (i3,i4.toNat) (by show i4.toNat≤_; omega) K q h
  ·rw [show ((i4.toNat:Nat):Int)=i4 from Int.toNat_of_nonneg h1] at main
   exact main
  ·obtain ⟨e,k⟩:=x
   have hx:k≤(cPolicy.dec cx0).places.length:=hx
   have hn:=fun K=>q_pPlacesR e (k:Int) cx0 K
   simp only [rows_len2,Int.toNat_natCast,List.drop_zero,dec_take,List.length_take,pol_rows] at hn
   by_cases hk:k<(cPolicy.dec cx0).places.length
   ·obtain ⟨j,hj⟩:∃ j,(cPolicy.dec cx0).places.length-k=j+1:=⟨(cPolicy.dec cx0).places.length-k-1,by omega⟩
    have hj' : (cPolicy.dec cx0).places.length-(k+1)=j:=by omega
    have er:N.errFrom (N.plF (cPolicy.dec cx0)) (j+1) k e=cond (e==0) (N.errFrom (N.plF (cPolicy.dec cx0)) j (k+1) (N.plF (cPolicy.dec cx0) k)) e:=rfl
    have t1:ilt (k:Int) ((cPolicy.dec cx0).places.length:Int)=true:=ilt_t (by omega)
    have t2:decide ((0:Int)≤(k:Int)∧(k:Int)<((cPolicy.dec cx0).places.length:Int))=true:=decide_eq_true (by omega)
    have t3:decide ((0:Int)≤(k:Int)∧(k:Int)≤((cPolicy.dec cx0).places.length:Int))=true:=decide_eq_true (by omega)
    have t4:IntKind.wrap .i64 ((k:Int)+1)=(k:Int)+1:=wr_i64 (by omega) (by omega)
    have hkr:k<(V.toRows (List.getD cx0 2 V.undef)).length:=by rw [rows_len2]; exact hk
    have g1:Nat.ble (V.toStr (List.getD (List.getD (V.toRows (List.getD cx0 2 V.undef)) k []) 0 V.undef)).length 1000000=true:=by
     show Nat.ble (cPlace.dec ((V.toRows (List.getD cx0 2 V.undef)).getD k [])).name.length 1000000=true
     rw [dec_at cPlace place0 hkr,pol_rows,List.getD_eq_getElem?_getD,List.getElem?_eq_getElem hk]
     exact List.all_eq_true.1 hnm _ (List.getElem_mem hk)
    have g2:Nat.ble (min k (cPolicy.dec cx0).places.length) 3000=true:=ble_t (by omega)
    simp only [t1,t2,t3,t4,g1,g2,cond_true] at hn
    cases he:e==0 with
    | false =>
     refine .inr ⟨.exit 0,{ fr:=[(3,.int .i64 e)],tab:=[] },by simp,fun K=>?_,fun K=>?_⟩
     ·rw [hn,he]; rfl
     ·simp only [hj,er,he,cond_false]
    | true =>
     refine .inl ⟨(N.plF (cPolicy.dec cx0) k,k+1),by show k+1≤_; omega,by simp only; omega,fun K=>?_,fun K=>?_⟩
     ·rw [hn,he]
      have hF:N.placeE (cPlace.dec ((V.toRows (List.getD cx0 2 V.undef)).getD k [])) ((cPolicy.dec cx0).places.take k)=N.plF (cPolicy.dec cx0) k:=by
       unfold N.plF
       rw [dec_at cPlace place0 hkr,pol_rows]
      rw [← hF]; rfl
     ·simp only [hj,hj',er,he,cond_true]
   ·obtain rfl:k=(cPolicy.dec cx0).places.length:=by omega
    refine .inr ⟨.exit 0,{ fr:=[(3,.int .i64 e)],tab:=[] },by simp,fun K=>?_,fun K=>?_⟩
    ·rw [hn,ilt_f (Int.le_refl _)]
     cases e==0<;>rfl
    ·simp only [Nat.sub_self]; rfl
 ·cases h
theorem ok_pPlaces:FnOk Tryz.prog 60 dPlacesE:=by
 refine den_okF (env_ok (((TOk.nil _).cons ok_placeE).cons ok_count)) (E:=ePPlaces) Tryz.func60 [3] (by kernel_rfl) (one1 ok_pPlaces_3) fun a b hp=>?_
 have hc:fewC a=true:=hp
 refine (q_pPlaces a).trans ?_
 simp only [dec_encsY,List.length_map]
 have hz:ile (0:Int) (a.places.length:Int)=true:=ile_t (Int.natCast_nonneg _)
 simp only [fold_pol]
 show cond (fewC a) _ none=_
 rw [hc]
 try rfl
def schPSlots:SSch:={ fr:=[(1,.ptr 10000 0 0),(3,.int .i64),(4,.int .i64)],tab:=[(10000,.row [] xsPolicy)] }
def gPSlots:List Leaf→(Ex→St→Option R)→Option R
 | [.i i3,.i i4,.c cx0],K=>cond (ile 0 i4) (cond (ile i4 (cPolicy.dec cx0).slots.length) (cond (fewC (cPolicy.dec cx0)) (K (.exit 0) { fr:=[(3,.int .i64 (N.errFrom (N.slF (cPolicy.dec cx0)) ((cPolicy.dec cx0).slots.length-i4.toNat) i4.toNat i3))],tab:=[] }) none) none) none
 | _,_=>none
noncomputable def ePSlots:Env:=env Tryz.prog [(86,dCount),(43,dThere)] [(3,loopF schPSlots gPSlots)] [(3,[(0,[1,3,4]),(1,[3]),(1000,[2])])]
theorem q_pSlots (p:HPolicy):evFn ePSlots 61 ((aOne (vAgg cPolicy)).enc p) ([]) some =
 cond (bif bif Nat.ble (List.length (List.map (RCod.dec cPlace) (List.map (RCod.enc cPlace) (HPolicy.places p)))) 3000 then bif Nat.ble (List.length (List.map (RCod.dec (rInt .i64)) (List.map (RCod.enc (rInt .i64)) (HPolicy.slots p)))) 3000 then Nat.ble (List.length (List.map (RCod.dec cGrant) (List.map (RCod.enc cGrant) (HPolicy.grants p)))) 3000 else false else false then List.all (List.map (RCod.dec cPlace) (List.map (RCod.enc cPlace) (HPolicy.places p))) fun x=>Nat.ble (List.length (HPlace.name x)) 1000000 else false) (some {v:=V.int .i64 (N.errFrom (N.slF {work:=HPolicy.work p,give:=HPolicy.give p,places:=List.map (RCod.dec cPlace) (List.map (RCod.enc cPlace) (HPolicy.places p)),slots:=List.map (RCod.dec (rInt .i64)) (List.map (RCod.enc (rInt .i64)) (HPolicy.slots p)),grants:=List.map (RCod.dec cGrant) (List.map (RCod.enc cGrant) (HPolicy.grants p)):HPolicy}) (List.length (List.map (RCod.dec (rInt .i64)) (List.map (RCod.enc (rInt .i64)) (HPolicy.slots p)))-0) 0 (N.count (↑(List.length (List.map (RCod.enc (rInt .i64)) (HPolicy.slots p))):Int) (1:Int) (32:Int))),bx:=[]:DRes}) (none):=by kernel_rfl
theorem q_pSlotsR_ (i3:Int) (i4:Int) (cx0:List V) (K:Ex→St→Option R):evRound ePSlots 61 3 { fr:=[(1,.ptr 10000 0 0 0),(3,.int .i64 i3),(4,.int .i64 i4)],tab:=[(10000,.var (etaRow xsPolicy 0 cx0))] } K =(
 let z0:=(V.toRows (List.getD cx0 3 .undef));let z1:=(V.toRows (List.getD cx0 2 .undef));let z2:=(V.toRows (List.getD cx0 4 .undef));let z3:=(K (Ex.exit 0) {fr:=[(3,V.int .i64 i3)],tab:=[]:St});cond (i3==(0:Int)) (cond (ilt i4 (↑(List.length z0):Int)) (cond (decide ((0:Int)≤i4∧i4<(↑(List.length z0):Int))) (cond (bif Nat.ble (List.length (List.map (RCod.dec cPlace) z1)) 3000 then bif Nat.ble (List.length (List.map (RCod.dec (rInt .i64)) z0)) 3000 then Nat.ble (List.length (List.map (RCod.dec cGrant) z2)) 3000 else false else false) (cond (!N.there {work:=V.toInt (List.getD cx0 0 .undef),give:=V.toInt (List.getD cx0 1 .undef),places:=List.map (RCod.dec cPlace) z1,slots:=List.map (RCod.dec (rInt .i64)) z0,grants:=List.map (RCod.dec cGrant) z2:HPolicy} (V.toInt (List.getD (List.getD z0 (Int.toNat i4) []) 0 V.undef))) (K Ex.normal {fr:=[(1,V.ptr 10000 0 0 0),(3,V.int .i64 (10:Int)),(4,V.int .i64 (IntKind.wrap .i64 (i4+(1:Int))))],tab:=[(10000,Box.var [V.int .i64 (V.toInt (List.getD cx0 0 .undef)),V.int .i64 (V.toInt (List.getD cx0 1 .undef)),V.slc [.str,.int .u8,.int .u32,.int .i64,.int .u64] z1,V.slc [.int .i64] z0,V.slc [.int .i64,.int .i64,.int .i64] z2])]:St}) (K Ex.normal {fr:=[(1,V.ptr 10000 0 0 0),(3,V.int .i64 i3),(4,V.int .i64 (IntKind.wrap .i64 (i4+(1:Int))))],tab:=[(10000,Box.var [V.int .i64 (V.toInt (List.getD cx0 0 .undef)),V.int .i64 (V.toInt (List.getD cx0 1 .undef)),V.slc [.str,.int .u8,.int .u32,.int .i64,.int .u64] z1,V.slc [.int .i64] z0,V.slc [.int .i64,.int .i64,.int .i64] z2])]:St})) (none)) (none)) z3) z3):=by kernel_rfl
theorem q_pSlotsR (i3:Int) (i4:Int) (cx0:List V) (K:Ex→St→Option R):type_of% (by have h:=q_pSlotsR_ i3 i4 cx0 K; dsimp only at h; exact h):=by
 have h:=q_pSlotsR_ i3 i4 cx0 K
 dsimp only at h
 exact h
theorem ok_pSlots_3:RoundsOk ePSlots 61 3:=by
 refine rounds_of rfl fun l K q h=>?_
 unfold gPSlots at h
 split at h
 ·rename_i i3 i4 cx0
  have h1:=(cond_none h).1; replace h:=(cond_none h).2; have h2:=(cond_none h).1; replace h:=(cond_none h).2; have h3:=(cond_none h).1; replace h:=(cond_none h).2
  have h1:=ile_of h1
  have h2:=ile_of h2
  obtain ⟨hf,hnm⟩:=bcond h3
  obtain ⟨f1,f2⟩:=bcond hf
  obtain ⟨f2,f3⟩:=bcond f2
  have f1':=ble_of f1
  have f2':=ble_of f2
  have f3':=ble_of f3
  have main:=loop_ind (E:=ePSlots) (f:=61) (id:=3) (σ:=Int × Nat) (fun x=>{ fr:=[(1,.ptr 10000 0 0 0),(3,.int .i64 x.1),(4,.int .i64 (x.2:Int))],tab:=[(10000,.var (etaRow xsPolicy 0 cx0))] })
   (fun x=>x.2≤(cPolicy.dec cx0).slots.length) (fun x=>(cPolicy.dec cx0).slots.length-x.2)
   (fun x K=>K (.exit 0) { fr:=[(3,.int .i64 (N.errFrom (N.slF (cPolicy.dec cx0)) ((cPolicy.dec cx0).slots.length-x.2) x.2 x.1))],tab:=[] }) (fun x hx=>?_) (i3,i4.toNat) (by show i4.toNat≤_; omega) K q h
  ·rw [show ((i4.toNat:Nat):Int)=i4 from Int.toNat_of_nonneg h1] at main
   exact main
  ·obtain ⟨e,k⟩:=x
   have hx:k≤(cPolicy.dec cx0).slots.length:=hx
   have hn:=fun K=>q_pSlotsR e (k:Int) cx0 K
   simp only [rows_len3,Int.toNat_natCast,pol_rows,pol_slots,pol_grants] at hn
   by_cases hk:k<(cPolicy.dec cx0).slots.length
   ·obtain ⟨j,hj⟩:∃ j,(cPolicy.dec cx0).slots.length-k=j+1:=⟨(cPolicy.dec cx0).slots.length-k-1,by omega⟩
    have hj' : (cPolicy.dec cx0).slots.length-(k+1)=j:=by omega
    have er:N.errFrom (N.slF (cPolicy.dec cx0)) (j+1) k e=cond (e==0) (N.errFrom (N.slF (cPolicy.dec cx0)) j (k+1) (N.slF (cPolicy.dec cx0) k)) e:=rfl
    have t1:ilt (k:Int) ((cPolicy.dec cx0).slots.length:Int)=true:=ilt_t (by omega)
    have t2:decide ((0:Int)≤(k:Int)∧(k:Int)<((cPolicy.dec cx0).slots.length:Int))=true:=decide_eq_true (by omega)
    have t3:decide ((0:Int)≤(k:Int)∧(k:Int)≤((cPolicy.dec cx0).slots.length:Int))=true:=decide_eq_true (by omega)
    have t4:IntKind.wrap .i64 ((k:Int)+1)=(k:Int)+1:=wr_i64 (by omega) (by omega)
    have hkr:k<(V.toRows (List.getD cx0 3 V.undef)).length:=by rw [rows_len3]; exact hk
    simp only [t1,t2,t4,f1,f2,f3,cond_true] at hn
    cases he:e==0 with
    | false =>
     refine .inr ⟨.exit 0,{ fr:=[(3,.int .i64 e)],tab:=[] },by simp,fun K=>?_,fun K=>?_⟩
     ·rw [hn,he]; rfl
     ·simp only [hj,er,he,cond_false]
    | true =>
     refine .inl ⟨(N.slF (cPolicy.dec cx0) k,k+1),by show k+1≤_; omega,by simp only; omega,fun K=>?_,fun K=>?_⟩
     ·rw [hn,he]
      have hF:cond (N.there (cPolicy.dec cx0) (V.toInt (List.getD (List.getD (V.toRows (List.getD cx0 3 V.undef)) k []) 0 V.undef))) 0 10=N.slF (cPolicy.dec cx0) k:=by
       unfold N.slF
       have:V.toInt (List.getD (List.getD (V.toRows (List.getD cx0 3 V.undef)) k []) 0 V.undef)=(cPolicy.dec cx0).slots.getD k 0:=by
        rw [← pol_slots]
        exact dec_at (rInt .i64) 0 hkr
       rw [this]
      rw [← hF]
      have e0:e=0:=ieq_of he
      have hp0:(⟨V.toInt (List.getD cx0 0 V.undef),V.toInt (List.getD cx0 1 V.undef),(cPolicy.dec cx0).places,(cPolicy.dec cx0).slots,(cPolicy.dec cx0).grants⟩:HPolicy)=cPolicy.dec cx0:=rfl
      rw [hp0,e0]
      cases N.there (cPolicy.dec cx0) (V.toInt (List.getD (List.getD (V.toRows (List.getD cx0 3 V.undef)) k []) 0 V.undef))<;>rfl
     ·simp only [hj,hj',er,he,cond_true]
   ·obtain rfl:k=(cPolicy.dec cx0).slots.length:=by omega
    refine .inr ⟨.exit 0,{ fr:=[(3,.int .i64 e)],tab:=[] },by simp,fun K=>?_,fun K=>?_⟩
    ·rw [hn,ilt_f (Int.le_refl _)]
     cases e==0<;>rfl
    ·simp only [Nat.sub_self]; rfl
 ·cases h
theorem ok_pSlots:FnOk Tryz.prog 61 dSlotsE:=by
 refine den_okF (env_ok (((TOk.nil _).cons ok_there).cons ok_count)) (E:=ePSlots) Tryz.func61 [3] (by kernel_rfl) (one1 ok_pSlots_3) fun a b hp=>?_
 have hc:fewC a=true:=hp
 refine (q_pSlots a).trans ?_
 simp only [dec_encsY,List.length_map]
 have hz:ile (0:Int) (a.slots.length:Int)=true:=ile_t (Int.natCast_nonneg _)
 simp only [fold_pol]
 show cond (fewC a) _ none=_
 rw [hc]
 try rfl
def schPGrants:SSch:={ fr:=[(1,.ptr 10000 0 0),(3,.int .i64),(4,.int .i64)],tab:=[(10000,.row [] xsPolicy)] }
def gPGrants:List Leaf→(Ex→St→Option R)→Option R
 | [.i i3,.i i4,.c cx0],K=>cond (ile 0 i4) (cond (ile i4 (cPolicy.dec cx0).grants.length) (cond (fewC (cPolicy.dec cx0)) (K (.exit 0) { fr:=[(3,.int .i64 (N.errFrom (N.grF (cPolicy.dec cx0)) ((cPolicy.dec cx0).grants.length-i4.toNat) i4.toNat i3))],tab:=[] }) none) none) none
 | _,_=>none
noncomputable def ePGrants:Env:=env Tryz.prog [(86,dCount),(88,dGrantE)] [(3,loopF schPGrants gPGrants)] [(3,[(0,[1,3,4]),(1,[3]),(1000,[2])])]
theorem q_pGrants (p:HPolicy):evFn ePGrants 62 ((aOne (vAgg cPolicy)).enc p) ([]) some =
 cond (bif bif Nat.ble (List.length (List.map (RCod.dec cPlace) (List.map (RCod.enc cPlace) (HPolicy.places p)))) 3000 then bif Nat.ble (List.length (List.map (RCod.dec (rInt .i64)) (List.map (RCod.enc (rInt .i64)) (HPolicy.slots p)))) 3000 then Nat.ble (List.length (List.map (RCod.dec cGrant) (List.map (RCod.enc cGrant) (HPolicy.grants p)))) 3000 else false else false then List.all (List.map (RCod.dec cPlace) (List.map (RCod.enc cPlace) (HPolicy.places p))) fun x=>Nat.ble (List.length (HPlace.name x)) 1000000 else false) (some {v:=V.int .i64 (N.errFrom (N.grF {work:=HPolicy.work p,give:=HPolicy.give p,places:=List.map (RCod.dec cPlace) (List.map (RCod.enc cPlace) (HPolicy.places p)),slots:=List.map (RCod.dec (rInt .i64)) (List.map (RCod.enc (rInt .i64)) (HPolicy.slots p)),grants:=List.map (RCod.dec cGrant) (List.map (RCod.enc cGrant) (HPolicy.grants p)):HPolicy}) (List.length (List.map (RCod.dec cGrant) (List.map (RCod.enc cGrant) (HPolicy.grants p)))-0) 0 (N.count (↑(List.length (List.map (RCod.enc cGrant) (HPolicy.grants p))):Int) (0:Int) (8:Int))),bx:=[]:DRes}) (none):=by kernel_rfl
theorem q_pGrantsR_ (i3:Int) (i4:Int) (cx0:List V) (K:Ex→St→Option R):evRound ePGrants 62 3 { fr:=[(1,.ptr 10000 0 0 0),(3,.int .i64 i3),(4,.int .i64 i4)],tab:=[(10000,.var (etaRow xsPolicy 0 cx0))] } K =(
 let z0:=(V.toRows (List.getD cx0 4 .undef));let z1:=(List.map (RCod.dec cGrant) (List.drop 0 (List.take (Int.toNat i4) z0)));let z2:=(V.toRows (List.getD cx0 2 .undef));let z3:=(V.toRows (List.getD cx0 3 .undef));let z4:=(List.getD z0 (Int.toNat i4) []);let z5:=(K (Ex.exit 0) {fr:=[(3,V.int .i64 i3)],tab:=[]:St});cond (i3==(0:Int)) (cond (ilt i4 (↑(List.length z0):Int)) (cond (decide ((0:Int)≤i4∧i4<(↑(List.length z0):Int))) (cond (decide ((0:Int)≤i4∧i4≤(↑(List.length z0):Int))) (cond (bif bif Nat.ble (List.length (List.map (RCod.dec cPlace) z2)) 3000 then bif Nat.ble (List.length (List.map (RCod.dec (rInt .i64)) z3)) 3000 then Nat.ble (List.length (List.map (RCod.dec cGrant) z0)) 3000 else false else false then Nat.ble (List.length z1) 3000 else false) (K Ex.normal {fr:=[(1,V.ptr 10000 0 0 0),(3,V.int .i64 (N.grantE {work:=V.toInt (List.getD cx0 0 .undef),give:=V.toInt (List.getD cx0 1 .undef),places:=List.map (RCod.dec cPlace) z2,slots:=List.map (RCod.dec (rInt .i64)) z3,grants:=List.map (RCod.dec cGrant) z0:HPolicy} {src:=V.toInt (List.getD z4 0 V.undef),dst:=V.toInt (List.getD z4 1 V.undef),budget:=V.toInt (List.getD z4 2 V.undef):HGrant} z1)),(4,V.int .i64 (IntKind.wrap .i64 (i4+(1:Int))))],tab:=[(10000,Box.var [V.int .i64 (V.toInt (List.getD cx0 0 .undef)),V.int .i64 (V.toInt (List.getD cx0 1 .undef)),V.slc [.str,.int .u8,.int .u32,.int .i64,.int .u64] z2,V.slc [.int .i64] z3,V.slc [.int .i64,.int .i64,.int .i64] z0])]:St}) (none)) (none)) (none)) z5) z5):=by kernel_rfl
theorem q_pGrantsR (i3:Int) (i4:Int) (cx0:List V) (K:Ex→St→Option R):type_of% (by have h:=q_pGrantsR_ i3 i4 cx0 K; dsimp only at h; exact h):=by
 have h:=q_pGrantsR_ i3 i4 cx0 K
 dsimp only at h
 exact h
theorem ok_pGrants_3:RoundsOk ePGrants 62 3:=by
 refine rounds_of rfl fun l K q h=>?_
 unfold gPGrants at h
 split at h
 ·rename_i i3 i4 cx0
  have h1:=(cond_none h).1; replace h:=(cond_none h).2; have h2:=(cond_none h).1; replace h:=(cond_none h).2; have h3:=(cond_none h).1; replace h:=(cond_none h).2
  have h1:=ile_of h1
  have h2:=ile_of h2
  obtain ⟨hf,hnm⟩:=bcond h3
  obtain ⟨f1,f2⟩:=bcond hf
  obtain ⟨f2,f3⟩:=bcond f2
  have f1':=ble_of f1
  have f2':=ble_of f2
  have f3':=ble_of f3
  have main:=loop_ind (E:=ePGrants) (f:=62) (id:=3) (σ:=Int × Nat) (fun x=>{ fr:=[(1,.ptr 10000 0 0 0),(3,.int .i64 x.1),(4,.int .i64 (x.2:Int))],tab:=[(10000,.var (etaRow xsPolicy 0 cx0))] })
   (fun x=>x.2≤(cPolicy.dec cx0).grants.length) (fun x=>(cPolicy.dec cx0).grants.length-x.2)
   (fun x K=>K (.exit 0) { fr:=[(3,.int .i64 (N.errFrom (N.grF (cPolicy.dec cx0)) ((cPolicy.dec cx0).grants.length-x.2) x.2 x.1))],tab:=[] }) (fun x hx=>?_) (i3,i4.toNat) (by show i4.toNat≤_; omega) K q h
  ·rw [show ((i4.toNat:Nat):Int)=i4 from Int.toNat_of_nonneg h1] at main
   exact main
  ·obtain ⟨e,k⟩:=x
   have hx:k≤(cPolicy.dec cx0).grants.length:=hx
   have hn:=fun K=>q_pGrantsR e (k:Int) cx0 K
   simp only [rows_len4,Int.toNat_natCast,List.drop_zero,dec_take,List.length_take,pol_rows,pol_slots,pol_grants] at hn
   by_cases hk:k<(cPolicy.dec cx0).grants.length
   ·obtain ⟨j,hj⟩:∃ j,(cPolicy.dec cx0).grants.length-k=j+1:=⟨(cPolicy.dec cx0).grants.length-k-1,by omega⟩
    have hj' : (cPolicy.dec cx0).grants.length-(k+1)=j:=by omega
    have er:N.errFrom (N.grF (cPolicy.dec cx0)) (j+1) k e=cond (e==0) (N.errFrom (N.grF (cPolicy.dec cx0)) j (k+1) (N.grF (cPolicy.dec cx0) k)) e:=rfl
    have t1:ilt (k:Int) ((cPolicy.dec cx0).grants.length:Int)=true:=ilt_t (by omega)
    have t2:decide ((0:Int)≤(k:Int)∧(k:Int)<((cPolicy.dec cx0).grants.length:Int))=true:=decide_eq_true (by omega)
    have t3:decide ((0:Int)≤(k:Int)∧(k:Int)≤((cPolicy.dec cx0).grants.length:Int))=true:=decide_eq_true (by omega)
    have t4:IntKind.wrap .i64 ((k:Int)+1)=(k:Int)+1:=wr_i64 (by omega) (by omega)
    have hkr:k<(V.toRows (List.getD cx0 4 V.undef)).length:=by rw [rows_len4]; exact hk
    have g2:Nat.ble (min k (cPolicy.dec cx0).grants.length) 3000=true:=ble_t (by omega)
    simp only [t1,t2,t3,t4,f1,f2,f3,g2,cond_true] at hn
    cases he:e==0 with
    | false =>
     refine .inr ⟨.exit 0,{ fr:=[(3,.int .i64 e)],tab:=[] },by simp,fun K=>?_,fun K=>?_⟩
     ·rw [hn,he]; rfl
     ·simp only [hj,er,he,cond_false]
    | true =>
     refine .inl ⟨(N.grF (cPolicy.dec cx0) k,k+1),by show k+1≤_; omega,by simp only; omega,fun K=>?_,fun K=>?_⟩
     ·rw [hn,he]
      have hF:N.grantE (cPolicy.dec cx0) (cGrant.dec ((V.toRows (List.getD cx0 4 V.undef)).getD k [])) ((cPolicy.dec cx0).grants.take k)=N.grF (cPolicy.dec cx0) k:=by
       unfold N.grF
       rw [dec_at cGrant grant0 hkr,pol_grants]
      rw [← hF]; rfl
     ·simp only [hj,hj',er,he,cond_true]
   ·obtain rfl:k=(cPolicy.dec cx0).grants.length:=by omega
    refine .inr ⟨.exit 0,{ fr:=[(3,.int .i64 e)],tab:=[] },by simp,fun K=>?_,fun K=>?_⟩
    ·rw [hn,ilt_f (Int.le_refl _)]
     cases e==0<;>rfl
    ·simp only [Nat.sub_self]; rfl
 ·cases h
theorem ok_pGrants:FnOk Tryz.prog 62 dGrantsE:=by
 refine den_okF (env_ok (((TOk.nil _).cons ok_grantE).cons ok_count)) (E:=ePGrants) Tryz.func62 [3] (by kernel_rfl) (one1 ok_pGrants_3) fun a b hp=>?_
 have hc:fewC a=true:=hp
 refine (q_pGrants a).trans ?_
 simp only [dec_encsY,List.length_map]
 have hz:ile (0:Int) (a.grants.length:Int)=true:=ile_t (Int.natCast_nonneg _)
 simp only [fold_pol]
 show cond (fewC a) _ none=_
 rw [hc]
 try rfl
end Go.Ev

/- Policies: whether they may be,by the program: lemmas,no condition. -/
namespace Go.Ev
open Go Go.Proofs
set_option maxRecDepth 100000
-- FOLD
def dOr:Den:=den (aOne (vSl (rInt .i64))) bNil (oV (vInt .i64)) (fun l _=>Nat.ble l.length 3000) fun l _=>(N.or3 l,())
def dIxInt:Den:=den (aCons (vSl (rInt .i64)) (aOne (vInt .i64))) bNil (oV (vInt .i64)) (fun a _=>Nat.ble a.1.length 3000) fun a _=>(N.ixY (·==a.2) a.1 0,())
def dHasInt:Den:=den (aCons (vSl (rInt .i64)) (aOne (vInt .i64))) bNil (oV vBool) (fun a _=>Nat.ble a.1.length 3000) fun a _=>(a.1.any (·==a.2),())
def dCheckP:Den:=den (aOne (vAgg cPolicy)) bNil (oV (vInt .i64)) (fun p _=>fewC p) fun p _=>(N.checkP p,())
theorem int_dec (r:List V):V.toInt (List.getD r 0 V.undef)=(rInt .i64).dec r:=rfl
def schCmpOr:SSch:={ fr:=[(3,.int .i64),(6,.slc [.int .i64]),(7,.int .i64),(8,.int .i64)],tab:=[] }
def gCmpOr:List Leaf→(Ex→St→Option R)→Option R
 | [.i i3,.r r6,.i i7,.i i8],K=>cond (i7==r6.length) (cond (i8==0) (cond (Nat.ble r6.length 3000) (cond (i3==0) (cond (N.or3 ((r6).map (rInt .i64).dec) != 0) (K .ret { fr:=[(2,.int .i64 (N.or3 ((r6).map (rInt .i64).dec)))],tab:=[] }) (K (.exit 0) { fr:=[(3,.int .i64 0)],tab:=[] })) none) none) none) none
 | _,_=>none
noncomputable def eCmpOr:Env:=env Tryz.prog [] [(3,loopF schCmpOr gCmpOr)] [(3,[(0,[3,6,7,8]),(1,[3]),(1000,[2])])]
theorem q_cmpOr (l:List Int):evFn eCmpOr 59 ((aOne (vSl (rInt .i64))).enc l) ([]) some =
 cond ((↑(List.length (List.map (RCod.enc (rInt .i64)) l)):Int)==(↑(List.length (List.map (RCod.enc (rInt .i64)) l)):Int)) (cond (Nat.ble (List.length (List.map (RCod.enc (rInt .i64)) l)) 3000) (cond (N.or3 (List.map (RCod.dec (rInt .i64)) (List.map (RCod.enc (rInt .i64)) l)) != (0:Int)) (some {v:=V.int .i64 (N.or3 (List.map (RCod.dec (rInt .i64)) (List.map (RCod.enc (rInt .i64)) l))),bx:=[]:DRes}) (some {v:=V.int .i64 (0:Int),bx:=[]:DRes})) (none)) (none):=by kernel_rfl
theorem q_cmpOrR (i3:Int) (r6:List (List V)) (i7:Int) (i8:Int) (K:Ex→St→Option R):evRound eCmpOr 59 3 { fr:=[(3,.int .i64 i3),(6,.slc [.int .i64] r6),(7,.int .i64 i7),(8,.int .i64 i8)],tab:=[] } K =
 cond (ilt i8 i7) (cond (decide ((0:Int)≤i8∧i8<(↑(List.length r6):Int))) (cond (V.toInt (List.getD (List.getD r6 (Int.toNat i8) []) 0 V.undef) != i3) (K Ex.ret {fr:=[(2,V.int .i64 (V.toInt (List.getD (List.getD r6 (Int.toNat i8) []) 0 V.undef)))],tab:=[]:St}) (K Ex.normal {fr:=[(3,V.int .i64 i3),(6,V.slc [.int .i64] r6),(7,V.int .i64 i7),(8,V.int .i64 (IntKind.wrap .i64 (i8+(1:Int))))],tab:=[]:St})) (none)) (K (Ex.exit 0) {fr:=[(3,V.int .i64 i3)],tab:=[]:St}):=by kernel_rfl
theorem ok_cmpOr_3:RoundsOk eCmpOr 59 3:=by
 refine rounds_of rfl fun l K q h=>?_
 unfold gCmpOr at h
 split at h
 ·rename_i i3 r6 i7 i8
  have h1:=(cond_none h).1; replace h:=(cond_none h).2; have h2:=(cond_none h).1; replace h:=(cond_none h).2; have h3:=(cond_none h).1; replace h:=(cond_none h).2; have h4:=(cond_none h).1; replace h:=(cond_none h).2
  have e1:=ieq_of h1
  have e2:=ieq_of h2
  subst e1 e2
  have h3:r6.length≤3000:=ble_of h3
  have e4:=ieq_of h4
  subst e4
  have main:=range_ind (E:=eCmpOr) (f:=59) (id:=3) (A:=Unit) (r6) (fun a i=>{ fr:=[(3,.int .i64 0),(6,.slc [.int .i64] r6),(7,.int .i64 r6.length),(8,.int .i64 i)],tab:=[] }) (fun a i=>True)
   (fun a rows K=>cond (N.or3 ((rows).map (rInt .i64).dec) != 0) (K .ret { fr:=[(2,.int .i64 (N.or3 ((rows).map (rInt .i64).dec)))],tab:=[] }) (K (.exit 0) { fr:=[(3,.int .i64 0)],tab:=[] })) (fun a i ha hi=>?_) (fun a ha=>?_) (()) 0 (Int.le_refl _) (by omega) trivial K q (by assumption)
  ·exact main
  ·have hq:=fun K=>q_cmpOrR (0) (r6) (r6.length) ((i:Int)) K
   have t1:ilt (i:Int) r6.length=true:=ilt_t (by omega)
   have t2:decide ((0:Int)≤i∧(i:Int)<r6.length)=true:=decide_eq_true (by omega)
   have t3:IntKind.wrap .i64 ((i:Int)+1)=(i:Int)+1:=wr_i64 (by omega) (by omega)
   simp only [Int.toNat_natCast,int_dec] at hq
   simp only [t1,t2,t3,cond_true] at hq
   simp only [List.map_cons]
   have er:∀ (x:Int) (l:List Int),N.or3 (x::l)=cond (x != 0) x (N.or3 l):=fun _ _=>rfl
   simp only [er]
   cases hc:(rInt .i64).dec (r6.getD i []) != 0 with
   | true =>
    refine .inr ⟨.ret,{ fr:=[(2,.int .i64 ((rInt .i64).dec (r6.getD i [])))],tab:=[] },by simp,fun K=>?_,fun K=>?_⟩
    ·rw [hq,hc]; rfl
    ·simp only [cond_true]
     rw [hc]; rfl
   | false =>
    refine .inl ⟨(),trivial,fun K=>?_,fun K=>rfl⟩
    rw [hq,hc]; rfl
  ·refine ⟨.exit 0,_,by simp,fun K=>?_,fun K=>rfl⟩
   rw [q_cmpOrR]
   simp (disch:=omega) only [evs]
   try rfl
 ·cases h
theorem ok_cmpOr:FnOk Tryz.prog 59 dOr:=by
 refine den_okF (env_ok (TOk.nil _)) (E:=eCmpOr) Tryz.func59 [3] (by kernel_rfl) (one1 ok_cmpOr_3) fun a b hp=>?_
 have h1:Nat.ble a.length 3000=true:=hp
 refine (q_cmpOr a).trans ?_
 simp only [List.length_map,dec_encsY,h1,beq_self_eq_true,cond_true]
 show _=some (⟨.int .i64 (N.or3 a),[],[]⟩:DRes)
 cases hc:N.or3 a != 0 with
 | true=>rfl
 | false =>
  have:N.or3 a=0:=by simpa using hc
  rw [this]; rfl
def schIxInt:SSch:={ fr:=[(0,.slc [.int .i64]),(1,.int .i64),(7,.int .i64),(8,.int .i64)],tab:=[] }
def gIxInt:List Leaf→(Ex→St→Option R)→Option R
 | [.r r0,.i i1,.i i7,.i i8],K=>cond (i7==r0.length) (cond (i8==0) (cond (Nat.ble r0.length 3000) (cond (ile 0 (N.ixY (·==i1) ((r0).map (rInt .i64).dec) ((0:Int)))) (K .ret { fr:=[(4,.int .i64 (N.ixY (·==i1) ((r0).map (rInt .i64).dec) ((0:Int))))],tab:=[] }) (K (.exit 0) { fr:=[],tab:=[] })) none) none) none
 | _,_=>none
noncomputable def eIxInt:Env:=env Tryz.prog [] [(2,loopF schIxInt gIxInt)] [(2,[(0,[0,1,7,8]),(1,[]),(1000,[4])])]
theorem q_ixInt (l:List Int) (x:Int):evFn eIxInt 89 ((aCons (vSl (rInt .i64)) (aOne (vInt .i64))).enc (l,x)) ([]) some =
 cond ((↑(List.length (List.map (RCod.enc (rInt .i64)) l)):Int)==(↑(List.length (List.map (RCod.enc (rInt .i64)) l)):Int)) (cond (Nat.ble (List.length (List.map (RCod.enc (rInt .i64)) l)) 3000) (cond (ile (0:Int) (N.ixY (fun x_1=>x_1==x) (List.map (RCod.dec (rInt .i64)) (List.map (RCod.enc (rInt .i64)) l)) (0:Int))) (some {v:=V.int .i64 (N.ixY (fun x_1=>x_1==x) (List.map (RCod.dec (rInt .i64)) (List.map (RCod.enc (rInt .i64)) l)) (0:Int)),bx:=[]:DRes}) (some {v:=V.int .i64 (-1:Int),bx:=[]:DRes})) (none)) (none):=by kernel_rfl
theorem q_ixIntR (r0:List (List V)) (i1:Int) (i7:Int) (i8:Int) (K:Ex→St→Option R):evRound eIxInt 89 2 { fr:=[(0,.slc [.int .i64] r0),(1,.int .i64 i1),(7,.int .i64 i7),(8,.int .i64 i8)],tab:=[] } K =
 cond (ilt i8 i7) (cond (decide ((0:Int)≤i8∧i8<(↑(List.length r0):Int))) (cond (i1==V.toInt (List.getD (List.getD r0 (Int.toNat i8) []) 0 V.undef)) (K Ex.ret {fr:=[(4,V.int .i64 i8)],tab:=[]:St}) (K Ex.normal {fr:=[(0,V.slc [.int .i64] r0),(1,V.int .i64 i1),(7,V.int .i64 i7),(8,V.int .i64 (IntKind.wrap .i64 (i8+(1:Int))))],tab:=[]:St})) (none)) (K (Ex.exit 0) {fr:=[],tab:=[]:St}):=by kernel_rfl
theorem ok_ixInt_2:RoundsOk eIxInt 89 2:=by
 refine rounds_of rfl fun l K q h=>?_
 unfold gIxInt at h
 split at h
 ·rename_i r0 i1 i7 i8
  have h1:=(cond_none h).1; replace h:=(cond_none h).2; have h2:=(cond_none h).1; replace h:=(cond_none h).2; have h3:=(cond_none h).1; replace h:=(cond_none h).2
  have e1:=ieq_of h1
  have e2:=ieq_of h2
  subst e1 e2
  have h3:r0.length≤3000:=ble_of h3
  have main:=range_ind (E:=eIxInt) (f:=89) (id:=2) (A:=Int) (r0) (fun a i=>{ fr:=[(0,.slc [.int .i64] r0),(1,.int .i64 i1),(7,.int .i64 r0.length),(8,.int .i64 i)],tab:=[] }) (fun a i=>a=(i:Int))
   (fun a rows K=>cond (ile 0 (N.ixY (·==i1) ((rows).map (rInt .i64).dec) (a))) (K .ret { fr:=[(4,.int .i64 (N.ixY (·==i1) ((rows).map (rInt .i64).dec) (a)))],tab:=[] }) (K (.exit 0) { fr:=[],tab:=[] })) (fun a i ha hi=>?_) (fun a ha=>?_) ((0:Int)) 0 (Int.le_refl _) (by omega) rfl K q (by assumption)
  ·exact main
  ·have hq:=fun K=>q_ixIntR (r0) (i1) (r0.length) ((i:Int)) K
   have t1:ilt (i:Int) r0.length=true:=ilt_t (by omega)
   have t2:decide ((0:Int)≤i∧(i:Int)<r0.length)=true:=decide_eq_true (by omega)
   have t3:IntKind.wrap .i64 ((i:Int)+1)=(i:Int)+1:=wr_i64 (by omega) (by omega)
   simp only [Int.toNat_natCast,int_dec] at hq
   simp only [t1,t2,t3,cond_true] at hq
   subst ha
   have ei:(((i+1:Nat)):Int)=(i:Int)+1:=by omega
   simp only [List.map_cons,ixY_cons]
   cases hc:(rInt .i64).dec (r0.getD i [])==i1 with
   | true =>
    refine .inr ⟨.ret,{ fr:=[(4,.int .i64 ((i:Int)))],tab:=[] },by simp,fun K=>?_,fun K=>?_⟩
    ·rw [hq]
     first | (rw [hc]; rfl) | (rw [show (i1==(rInt .i64).dec (r0.getD i []))=true from by rw [← hc]; exact Bool.beq_comm ..]; rfl)
    ·simp only [cond_true]
     rw [ile_t (by omega)]; rfl
   | false =>
    refine .inl ⟨(i:Int)+1,ei.symm,fun K=>?_,fun K=>rfl⟩
    rw [hq]
    first | (rw [hc]; rfl) | (rw [show (i1==(rInt .i64).dec (r0.getD i []))=false from by rw [← hc]; exact Bool.beq_comm ..]; rfl)
  ·refine ⟨.exit 0,_,by simp,fun K=>?_,fun K=>rfl⟩
   rw [q_ixIntR]
   simp (disch:=omega) only [evs]
   try rfl
 ·cases h
theorem ok_ixInt:FnOk Tryz.prog 89 dIxInt:=by
 refine den_okF (env_ok (TOk.nil _)) (E:=eIxInt) Tryz.func89 [2] (by kernel_rfl) (one1 ok_ixInt_2) fun a b hp=>?_
 obtain ⟨l,x⟩:=a
 have h1:Nat.ble l.length 3000=true:=hp
 refine (q_ixInt l x).trans ?_
 simp only [List.length_map,dec_encsY,h1,beq_self_eq_true,cond_true]
 show _=some (⟨.int .i64 (N.ixY (·==x) l 0),[],[]⟩:DRes)
 rcases ixY_lt (·==x) l 0 with h | h
 ·rw [h.1]; rfl
 ·rw [ile_t h.1]; rfl
noncomputable def eHasInt:Env:=env Tryz.prog [(89,dIxInt)] [] []
theorem q_hasInt (l:List Int) (x:Int):evFn eHasInt 63 ((aCons (vSl (rInt .i64)) (aOne (vInt .i64))).enc (l,x)) ([]) some =
 cond (Nat.ble (List.length (List.map (RCod.dec (rInt .i64)) (List.map (RCod.enc (rInt .i64)) l))) 3000) (some {v:=V.bool (ile (0:Int) (N.ixY (fun x_1=>x_1==x) (List.map (RCod.dec (rInt .i64)) (List.map (RCod.enc (rInt .i64)) l)) (0:Int))),bx:=[]:DRes}) (none):=by kernel_rfl
theorem ok_hasInt:FnOk Tryz.prog 63 dHasInt:=by
 refine den_okF (env_ok ((TOk.nil _).cons ok_ixInt)) (E:=eHasInt) Tryz.func63 [] (by kernel_rfl) (none0) fun a b hp=>?_
 obtain ⟨l,x⟩:=a
 have h1:Nat.ble l.length 3000=true:=hp
 refine (q_hasInt l x).trans ?_
 simp only [dec_encsY,h1,cond_true]
 show some (⟨.bool (ile 0 (N.ixY (·==x) l 0)),[],[]⟩:DRes)=some ⟨.bool (l.any (·==x)),[],[]⟩
 rw [ixY_ge]
end Go.Ev

/- Policies: Check,by the program: lemmas,no condition. -/
namespace Go.Ev
open Go Go.Proofs
set_option maxRecDepth 100000
-- FOLD
theorem lacks_or (p:HPolicy):∀ (k i:Nat),N.lacks p k i=0∨N.lacks p k i=15
 | 0,_=>.inl rfl
 | k+1,i=>by
  show cond (p.slots.any (·==(i:Int))) (N.lacks p k (i+1)) 15=0∨cond (p.slots.any (·==(i:Int))) (N.lacks p k (i+1)) 15=15
  cases p.slots.any (·==(i:Int)) with
  | true=>exact lacks_or p k (i+1)
  | false=>exact .inr rfl
def schPCheck:SSch:={ fr:=[(1,.ptr 10000 0 0),(28,.int .i64),(29,.int .i64)],tab:=[(10000,.row [] xsPolicy)] }
def gPCheck:List Leaf→(Ex→St→Option R)→Option R
 | [.i i28,.i i29,.c cx0],K=>cond (i28==(cPolicy.dec cx0).places.length) (cond (i29==0) (cond (Nat.ble (cPolicy.dec cx0).places.length 3000) (cond (Nat.ble (cPolicy.dec cx0).slots.length 3000) (cond (N.lacks (cPolicy.dec cx0) (cPolicy.dec cx0).places.length 0==0) (K (.exit 0) { fr:=[],tab:=[] }) (K .ret { fr:=[(2,.int .i64 15)],tab:=[] })) none) none) none) none
 | _,_=>none
noncomputable def ePCheck:Env:=env Tryz.prog [(58,dWithin),(60,dPlacesE),(61,dSlotsE),(62,dGrantsE),(59,dOr),(63,dHasInt)] [(7,loopF schPCheck gPCheck)] [(7,[(0,[1,28,29]),(1,[]),(1000,[2])])]
theorem q_pCheck_ (p:HPolicy):evFn ePCheck 31 ((aOne (vAgg cPolicy)).enc p) ([]) some =(
 let z2:=(List.map (RCod.enc cPlace) (HPolicy.places p));let z4:=(List.map (RCod.enc (rInt .i64)) (HPolicy.slots p));let z5:=(List.map (RCod.enc cGrant) (HPolicy.grants p));let z0:=(List.map (RCod.dec (rInt .i64)) [[V.int .i64 (N.placesE {work:=HPolicy.work p,give:=HPolicy.give p,places:=List.map (RCod.dec cPlace) z2,slots:=List.map (RCod.dec (rInt .i64)) z4,grants:=List.map (RCod.dec cGrant) z5:HPolicy})],[V.int .i64 (N.slotsE {work:=HPolicy.work p,give:=HPolicy.give p,places:=List.map (RCod.dec cPlace) z2,slots:=List.map (RCod.dec (rInt .i64)) z4,grants:=List.map (RCod.dec cGrant) z5:HPolicy})],[V.int .i64 (N.grantsE {work:=HPolicy.work p,give:=HPolicy.give p,places:=List.map (RCod.dec cPlace) z2,slots:=List.map (RCod.dec (rInt .i64)) z4,grants:=List.map (RCod.dec cGrant) z5:HPolicy})]]);let z3:=(List.length (List.map (RCod.dec cPlace) z2));let z1:=(bif bif Nat.ble z3 3000 then bif Nat.ble (List.length (List.map (RCod.dec (rInt .i64)) z4)) 3000 then Nat.ble (List.length (List.map (RCod.dec cGrant) z5)) 3000 else false else false then List.all (List.map (RCod.dec cPlace) z2) fun x=>Nat.ble (List.length (HPlace.name x)) 1000000 else false);cond (!N.within (HPolicy.work p) (1:Int) (16:Int)) (some {v:=V.int .i64 (7:Int),bx:=[]:DRes}) (cond (!N.within (HPolicy.give p) (1:Int) (16:Int)) (some {v:=V.int .i64 (7:Int),bx:=[]:DRes}) (cond z1 (cond z1 (cond z1 (cond (N.or3 z0 != (0:Int)) (some {v:=V.int .i64 (N.or3 z0),bx:=[]:DRes}) (cond ((↑(List.length z2):Int)==(↑z3:Int)) (cond (Nat.ble z3 3000) (cond (Nat.ble (List.length (List.map (RCod.dec (rInt .i64)) z4)) 3000) (cond (N.lacks {work:=HPolicy.work p,give:=HPolicy.give p,places:=List.map (RCod.dec cPlace) z2,slots:=List.map (RCod.dec (rInt .i64)) z4,grants:=List.map (RCod.dec cGrant) z5:HPolicy} z3 0==(0:Int)) (some {v:=V.int .i64 (0:Int),bx:=[]:DRes}) (some {v:=V.int .i64 (15:Int),bx:=[]:DRes})) (none)) (none)) (none))) (none)) (none)) (none)))):=by kernel_rfl
theorem q_pCheck (p:HPolicy):type_of% (by have h:=q_pCheck_ p; dsimp only at h; exact h):=by
 have h:=q_pCheck_ p
 dsimp only at h
 exact h
theorem q_pCheckR (i28:Int) (i29:Int) (cx0:List V) (K:Ex→St→Option R):evRound ePCheck 31 7 { fr:=[(1,.ptr 10000 0 0 0),(28,.int .i64 i28),(29,.int .i64 i29)],tab:=[(10000,.var (etaRow xsPolicy 0 cx0))] } K =
 cond (ilt i29 i28) (cond (Nat.ble (List.length (List.map (RCod.dec (rInt .i64)) (V.toRows (List.getD cx0 3 .undef)))) 3000) (cond (!List.any (List.map (RCod.dec (rInt .i64)) (V.toRows (List.getD cx0 3 .undef))) fun x=>x==i29) (K Ex.ret {fr:=[(2,V.int .i64 (15:Int))],tab:=[]:St}) (K Ex.normal {fr:=[(1,V.ptr 10000 0 0 0),(28,V.int .i64 i28),(29,V.int .i64 (IntKind.wrap .i64 (i29+(1:Int))))],tab:=[(10000,Box.var [V.int .i64 (V.toInt (List.getD cx0 0 .undef)),V.int .i64 (V.toInt (List.getD cx0 1 .undef)),V.slc [.str,.int .u8,.int .u32,.int .i64,.int .u64] (V.toRows (List.getD cx0 2 .undef)),V.slc [.int .i64] (V.toRows (List.getD cx0 3 .undef)),V.slc [.int .i64,.int .i64,.int .i64] (V.toRows (List.getD cx0 4 .undef))])]:St})) (none)) (K (Ex.exit 0) {fr:=[],tab:=[]:St}):=by kernel_rfl
theorem ok_pCheck_7:RoundsOk ePCheck 31 7:=by
 refine rounds_of rfl fun l K q h=>?_
 unfold gPCheck at h
 split at h
 ·rename_i i28 i29 cx0
  have h1:=(cond_none h).1; replace h:=(cond_none h).2; have h2:=(cond_none h).1; replace h:=(cond_none h).2; have h3:=(cond_none h).1; replace h:=(cond_none h).2; have h4:=(cond_none h).1; replace h:=(cond_none h).2
  have e1:=ieq_of h1
  have e2:=ieq_of h2
  subst e1 e2
  have h3:=ble_of h3
  have h4':=ble_of h4
  have main:=loop_ind (E:=ePCheck) (f:=31) (id:=7) (σ:=Nat) (fun i=>{ fr:=[(1,.ptr 10000 0 0 0),(28,.int .i64 (cPolicy.dec cx0).places.length),(29,.int .i64 (i:Int))],tab:=[(10000,.var (etaRow xsPolicy 0 cx0))] }) (fun i=>i≤(cPolicy.dec cx0).places.length) (fun i=>(cPolicy.dec cx0).places.length-i)
   (fun i K=>cond (N.lacks (cPolicy.dec cx0) ((cPolicy.dec cx0).places.length-i) i==0) (K (.exit 0) { fr:=[],tab:=[] }) (K .ret { fr:=[(2,.int .i64 15)],tab:=[] })) (fun i hi=>?_) 0 (Nat.zero_le _) K q (by assumption)
  ·exact main
  ·have hn:=fun K=>q_pCheckR (cPolicy.dec cx0).places.length (i:Int) cx0 K
   simp only [pol_slots,h4,cond_true] at hn
   by_cases hk:i<(cPolicy.dec cx0).places.length
   ·obtain ⟨j,hj⟩:∃ j,(cPolicy.dec cx0).places.length-i=j+1:=⟨(cPolicy.dec cx0).places.length-i-1,by omega⟩
    have hj' : (cPolicy.dec cx0).places.length-(i+1)=j:=by omega
    have er:N.lacks (cPolicy.dec cx0) (j+1) i=cond ((cPolicy.dec cx0).slots.any (·==(i:Int))) (N.lacks (cPolicy.dec cx0) j (i+1)) 15:=rfl
    have t1:ilt (i:Int) ((cPolicy.dec cx0).places.length:Int)=true:=ilt_t (by omega)
    have t2:IntKind.wrap .i64 ((i:Int)+1)=(i:Int)+1:=wr_i64 (by omega) (by omega)
    simp only [t1,t2,cond_true] at hn
    cases hc:(cPolicy.dec cx0).slots.any (·==(i:Int)) with
    | true =>
     refine .inl ⟨i+1,hk,by omega,fun K=>?_,fun K=>?_⟩
     ·rw [hn,hc]; rfl
     ·simp only [hj,hj',er,hc,cond_true]
    | false =>
     refine .inr ⟨.ret,{ fr:=[(2,.int .i64 15)],tab:=[] },by simp,fun K=>?_,fun K=>?_⟩
     ·rw [hn,hc]; rfl
     ·simp only [hj,er,hc,cond_false]; rfl
   ·obtain rfl:i=(cPolicy.dec cx0).places.length:=by omega
    refine .inr ⟨.exit 0,{ fr:=[],tab:=[] },by simp,fun K=>?_,fun K=>?_⟩
    ·rw [hn,ilt_f (Int.le_refl _)]; rfl
    ·rw [Nat.sub_self]; rfl
 ·cases h
theorem ok_pCheck:FnOk Tryz.prog 31 dCheckP:=by
 refine den_okF (env_ok (((((((TOk.nil _).cons ok_hasInt).cons ok_cmpOr).cons ok_pGrants).cons ok_pSlots).cons ok_pPlaces).cons ok_within)) (E:=ePCheck) Tryz.func31 [7] (by kernel_rfl) (one1 ok_pCheck_7) fun a b hp=>?_
 have hc:fewC a=true:=hp
 obtain ⟨hf,hnm⟩:=bcond hc
 obtain ⟨f1,f2⟩:=bcond hf
 obtain ⟨f2,f3⟩:=bcond f2
 refine (q_pCheck a).trans ?_
 have hnm' : (a.places.all fun x=>Nat.ble (List.length x.name) 1000000)=true:=hnm
 simp only [dec_encsY,List.length_map,fold_pol,f1,f2,f3,hnm',beq_self_eq_true,cond_true]
 show _=some (⟨.int .i64 (N.checkP a),[],[]⟩:DRes)
 unfold N.checkP
 cases N.within a.work 1 16 with
 | false=>rfl
 | true =>
  cases N.within a.give 1 16 with
  | false=>rfl
  | true =>
   have e:∀ x y z:Int,List.map (rInt .i64).dec [[V.int .i64 x],[V.int .i64 y],[V.int .i64 z]]=[x,y,z]:=fun _ _ _=>rfl
   show cond (N.or3 [N.placesE a,N.slotsE a,N.grantsE a] != 0) (some (⟨.int .i64 (N.or3 [N.placesE a,N.slotsE a,N.grantsE a]),[],[]⟩:DRes)) (cond (N.lacks a a.places.length 0==0) (some ⟨.int .i64 0,[],[]⟩) (some ⟨.int .i64 15,[],[]⟩))=_
   cases N.or3 [N.placesE a,N.slotsE a,N.grantsE a] != 0 with
   | true=>rfl
   | false =>
    rcases lacks_or a a.places.length 0 with h | h<;>rw [h]<;>rfl
end Go.Ev

/- A line of a policy,gone through in place: lemmas,no condition. -/
namespace Go.Ev
open Go Go.Proofs
set_option maxRecDepth 100000
noncomputable def eLabel:Env:=env Tryz.prog [(91,dParse),(73,dSmallP),(98,dPNumber)] [] []
noncomputable def eGranted:Env:=env Tryz.prog [(74,dNamed),(73,dSmallP)] [] []
theorem x_label:FnOkX Tryz.prog 75 (evFnX eLabel 75) :=
 x_okF (E:=eLabel) (env_ok ((((TOk.nil _).cons ok_pNumber).cons ok_pSmall).cons ok_parse)) (fun _=>rfl) Tryz.func75 (by kernel_rfl)
theorem x_granted:FnOkX Tryz.prog 76 (evFnX eGranted 76) :=
 x_okF (E:=eGranted) (env_ok (((TOk.nil _).cons ok_pSmall).cons ok_named)) (fun _=>rfl) Tryz.func76 (by kernel_rfl)
noncomputable def eLine:Env:={ env Tryz.prog [(73,dSmallP),(74,dNamed)] [] [] with X:=lk? [(75,evFnX eLabel 75),(76,evFnX eGranted 76)] }
theorem gok_line:GOk eLine:=env_ok2 (T:=[(73,dSmallP),(74,dNamed)]) (MT:=[]) (XT:=[(75,evFnX eLabel 75),(76,evFnX eGranted 76)])
 (((TOk.nil _).cons ok_named).cons ok_pSmall) (MOk.nil _) (((XOk.nil _).cons x_granted).cons x_label) rfl (by funext f; rfl) rfl
theorem x_line:FnOkX Tryz.prog 39 (evFnX eLine 39) :=
 x_okF (E:=eLine) gok_line (fun _=>rfl) Tryz.func39 (by kernel_rfl)
end Go.Ev

/- A policy's text,line by line: the plain function,and what it keeps: definitions and lemmas,no condition. -/
namespace Go.Ev
open Go Go.Proofs
set_option maxRecDepth 100000
def pol0:HPolicy:=⟨0,0,[],[],[]⟩
namespace N
def kLabel:Bytes:=[108,97,98,101,108]
def kGrant:Bytes:=[103,114,97,110,116]
def kWork:Bytes:=[119,111,114,107]
def kGive:Bytes:=[103,105,118,101]
def kSlot:Bytes:=[115,108,111,116]
def pLabel (p:HPolicy) (l:List Bytes):HPolicy × Int :=
 cond ((parse (l.getD 2 [])).2 != 0) (p,(parse (l.getD 2 [])).2) (cond ((pSmall (l.getD 3 [])).2 != 0) (p,(pSmall (l.getD 3 [])).2)
  (⟨p.work,p.give,p.places++[⟨l.getD 1 [],(parse (l.getD 2 [])).1,(pSmall (l.getD 3 [])).1,(pNumber (l.getD 4 []) 18446744073709551615).1⟩],p.slots,p.grants⟩,(pNumber (l.getD 4 []) 18446744073709551615).2))
def pGranted (p:HPolicy) (l:List Bytes):HPolicy × Int :=
 cond ((pNamed p (l.getD 1 [])).2 != 0) (p,(pNamed p (l.getD 1 [])).2) (cond ((pNamed p (l.getD 2 [])).2 != 0) (p,(pNamed p (l.getD 2 [])).2)
  (⟨p.work,p.give,p.places,p.slots,p.grants++[⟨(pNamed p (l.getD 1 [])).1,(pNamed p (l.getD 2 [])).1,(pSmall (l.getD 3 [])).1⟩]⟩,(pSmall (l.getD 3 [])).2))
def pLine (p:HPolicy) (l:List Bytes):HPolicy × Int :=
 cond (l.getD 0 []==kLabel) (cond ((l.length:Int) != 5) (p,4) (pLabel p l))
  (cond (l.getD 0 []==kGrant) (cond ((l.length:Int) != 4) (p,4) (pGranted p l))
  (cond (l.getD 0 []==kWork) (cond ((l.length:Int) != 2) (p,4) (⟨(pSmall (l.getD 1 [])).1,p.give,p.places,p.slots,p.grants⟩,(pSmall (l.getD 1 [])).2))
  (cond (l.getD 0 []==kGive) (cond ((l.length:Int) != 2) (p,4) (⟨p.work,(pSmall (l.getD 1 [])).1,p.places,p.slots,p.grants⟩,(pSmall (l.getD 1 [])).2))
  (cond (l.getD 0 []==kSlot) (cond ((l.length:Int) != 2) (p,4) (⟨p.work,p.give,p.places,p.slots++[(pNamed p (l.getD 1 [])).1],p.grants⟩,(pNamed p (l.getD 1 [])).2)) (p,4)))))
def skipL (l:List Bytes):Bool:=cond ((l.length:Int)==0) true (((l.getD 0 []).getD 0 0).toNat==(35:Int))
def pLines (p:HPolicy) (i:Int):List Bytes→HPolicy × Int × Int
 | []=>(p,0,0)
 | t::r=>cond (skipL (wordsOf t)) (pLines p (i+1) r) (cond ((pLine p (wordsOf t)).2 != 0) (pol0,i+1,(pLine p (wordsOf t)).2) (pLines (pLine p (wordsOf t)).1 (i+1) r))
def pParse (s:Bytes):HPolicy × Int × Int :=
 cond ((pLines pol0 0 (splitDotNL s)).2.2 != 0) (pLines pol0 0 (splitDotNL s))
  (cond (checkP (pLines pol0 0 (splitDotNL s)).1 != 0) (pol0,0,checkP (pLines pol0 0 (splitDotNL s)).1) ((pLines pol0 0 (splitDotNL s)).1,0,0))
end N
theorem wordsGo_ok:∀ (s w x:Bytes),x∈N.wordsGo s w→x ≠ []∧x.length≤w.length+s.length
 | [],w,x,h=>by
  have h:x∈cond (Nat.beq w.length 0) [] [w]:=h
  cases w with
  | nil=>cases h
  | cons c w =>
   have h:x∈[c::w]:=h
   obtain rfl:=List.mem_singleton.1 h
   exact ⟨by simp,by simp⟩
 | c::r,w,x,h=>by
  have h:x∈cond (c.toNat==32) (cond (Nat.beq w.length 0) (N.wordsGo r []) (w::N.wordsGo r [])) (N.wordsGo r (w++[c])):=h
  cases hc:c.toNat==32 with
  | false =>
   rw [hc] at h
   have g:=wordsGo_ok r (w++[c]) x h
   simp only [List.length_append,List.length_cons,List.length_nil] at g ⊢
   exact ⟨g.1,by omega⟩
  | true =>
   rw [hc] at h
   have g:=wordsGo_ok r [] x
   simp only [List.length_cons,List.length_nil] at g ⊢
   cases w with
   | nil=>have g:=g h; exact ⟨g.1,by simp only [List.length_nil]; omega⟩
   | cons d w =>
    have h:x∈(d::w)::N.wordsGo r []:=h
    rcases List.mem_cons.1 h with rfl | h
    ·exact ⟨by simp,by omega⟩
    ·have g:=g h; exact ⟨g.1,by omega⟩
theorem wordsOf_ok {s x:Bytes} (h:x∈N.wordsOf s):x ≠ []∧x.length≤s.length:=by
 have:=wordsGo_ok s [] x h
 simpa using this
theorem splitNL_small:∀ (s:Bytes),(N.splitDotNL s).length≤s.length+1∧∀ w∈N.splitDotNL s,w.length≤s.length
 | []=>⟨Nat.le_refl _,fun w h=>by
  have h:w∈[[]]:=h
  rw [List.mem_singleton] at h; subst h; exact Nat.le_refl _⟩
 | c::r=>by
  obtain ⟨h1,h2⟩:=splitNL_small r
  unfold N.splitDotNL
  cases c==10 with
  | true =>
   refine ⟨by simpa using h1,fun w h=>?_⟩
   rcases List.mem_cons.1 h with rfl | h
   ·exact Nat.zero_le _
   ·have:=h2 w h; simp only [List.length_cons]; omega
  | false =>
   simp only [cond_false]
   cases hs:N.splitDotNL r with
   | nil=>exact absurd hs (splitDot_neNL _)
   | cons w ws =>
    rw [hs] at h1 h2
    refine ⟨by simp only [List.length_cons] at h1 ⊢; omega,fun v h=>?_⟩
    rcases List.mem_cons.1 h with rfl | h
    ·have:=h2 w List.mem_cons_self; simp only [List.length_cons]; omega
    ·have:=h2 v (List.mem_cons_of_mem _ h); simp only [List.length_cons]; omega
theorem getD_small {l:List Bytes} {n:Nat} (h:∀ w∈l,w.length≤n) (k:Nat):(l.getD k []).length≤n:=by
 rw [List.getD_eq_getElem?_getD]
 cases hk:l[k]? with
 | none=>exact Nat.zero_le _
 | some w=>exact h w (List.mem_of_getElem? hk)
def PInv (p:HPolicy) (i:Nat):Prop:=p.places.length≤i∧p.slots.length≤i∧p.grants.length≤i∧∀ x∈p.places,x.name.length≤1000000
theorem PInv.up {p:HPolicy} {i:Nat} (h:PInv p i):PInv p (i+1):=⟨Nat.le_succ_of_le h.1,Nat.le_succ_of_le h.2.1,Nat.le_succ_of_le h.2.2.1,h.2.2.2⟩
theorem PInv.zero (i:Nat):PInv pol0 i:=⟨Nat.zero_le _,Nat.zero_le _,Nat.zero_le _,fun x h=>by cases h⟩
def PInv1 (i:Nat) (q:HPolicy × Int):Prop:=PInv q.1 i
theorem PInv1.cond {i:Nat} {c:Bool} {a b:HPolicy × Int} (ha:PInv1 i a) (hb:PInv1 i b):PInv1 i (cond c a b):=by cases c<;>assumption
theorem pLine_inv {p:HPolicy} {i:Nat} {l:List Bytes} (h:PInv p i) (hl:∀ w∈l,w.length≤1000000):PInv (N.pLine p l).1 (i+1):=by
 have h0:∀ e,PInv1 (i+1) (p,e):=fun e=>h.up
 obtain ⟨a1,a2,a3,a4⟩:=h
 have L:PInv1 (i+1) (N.pLabel p l):=by
  refine .cond (h0 _) (.cond (h0 _) ⟨?_,?_,?_,fun x hx=>?_⟩)
  ·simp only [List.length_append,List.length_cons,List.length_nil]; omega
  ·simp only; omega
  ·simp only; omega
  ·rcases List.mem_append.1 hx with hx | hx
   ·exact a4 x hx
   ·obtain rfl:=List.mem_singleton.1 hx
    exact getD_small hl 1
 have G:PInv1 (i+1) (N.pGranted p l):=by
  refine .cond (h0 _) (.cond (h0 _) ⟨?_,?_,?_,a4⟩)
  ·simp only; omega
  ·simp only; omega
  ·simp only [List.length_append,List.length_cons,List.length_nil]; omega
 have W:PInv1 (i+1) (⟨(N.pSmall (l.getD 1 [])).1,p.give,p.places,p.slots,p.grants⟩,(N.pSmall (l.getD 1 [])).2):=h0 0
 have V:PInv1 (i+1) (⟨p.work,(N.pSmall (l.getD 1 [])).1,p.places,p.slots,p.grants⟩,(N.pSmall (l.getD 1 [])).2):=h0 0
 have S:PInv1 (i+1) (⟨p.work,p.give,p.places,p.slots++[(N.pNamed p (l.getD 1 [])).1],p.grants⟩,(N.pNamed p (l.getD 1 [])).2):=by
  refine ⟨?_,?_,?_,a4⟩
  ·simp only; omega
  ·simp only [List.length_append,List.length_cons,List.length_nil]; omega
  ·simp only; omega
 exact PInv1.cond (.cond (h0 _) L) (.cond (.cond (h0 _) G) (.cond (.cond (h0 _) W) (.cond (.cond (h0 _) V) (.cond (.cond (h0 _) S) (h0 _)))))
theorem pLines_inv:∀ (l:List Bytes) (p:HPolicy) (k:Int) (i:Nat),PInv p i→(∀ t∈l,t.length≤1000000)→PInv (N.pLines p k l).1 (i+l.length)
 | [],p,k,i,h,_=>h
 | t::r,p,k,i,h,ht=>by
  have hr:∀ t∈r,t.length≤1000000:=fun x hx=>ht x (List.mem_cons_of_mem _ hx)
  have e:i+(t::r).length=i+1+r.length:=by simp only [List.length_cons]; omega
  rw [e]
  show PInv (cond (N.skipL (N.wordsOf t)) (N.pLines p (k+1) r) (cond ((N.pLine p (N.wordsOf t)).2 != 0) (pol0,k+1,(N.pLine p (N.wordsOf t)).2) (N.pLines (N.pLine p (N.wordsOf t)).1 (k+1) r))).1 _
  cases N.skipL (N.wordsOf t) with
  | true=>exact pLines_inv r p (k+1) (i+1) h.up hr
  | false =>
   cases (N.pLine p (N.wordsOf t)).2 != 0 with
   | true=>exact PInv.zero _
   | false =>
    refine pLines_inv r _ (k+1) (i+1) (pLine_inv h fun w hw=>?_) hr
    have:=(wordsOf_ok hw).2
    have:=ht t (List.mem_cons_self ..)
    omega
theorem PInv.few {p:HPolicy} {i:Nat} (h:PInv p i) (hi:i≤3000):fewC p=true:=by
 obtain ⟨a1,a2,a3,a4⟩:=h
 have b1:Nat.ble p.places.length 3000=true:=Nat.ble_eq_true_of_le (by omega)
 have b2:Nat.ble p.slots.length 3000=true:=Nat.ble_eq_true_of_le (by omega)
 have b3:Nat.ble p.grants.length 3000=true:=Nat.ble_eq_true_of_le (by omega)
 have b4:(p.places.all fun x=>Nat.ble x.name.length 1000000)=true:=List.all_eq_true.2 fun x hx=>Nat.ble_eq_true_of_le (a4 x hx)
 show cond (cond (Nat.ble p.places.length 3000) (cond (Nat.ble p.slots.length 3000) (Nat.ble p.grants.length 3000) false) false) (p.places.all fun x=>Nat.ble x.name.length 1000000) false=true
 rw [b1,b2,b3,b4]; rfl
end Go.Ev

/- Policies of texts,by the program: what the evaluator makes of Parse: lemmas,no condition. -/
namespace Go.Ev
open Go Go.Proofs
set_option maxRecDepth 100000
-- FOLD
def schPParse:SSch:={ fr:=[(2,.ptr 10000 0 0),(5,.ptr 10004 0 0),(12,.slc [.str]),(13,.int .i64),(14,.int .i64)],tab:=[(10001,.sl [.str,.int .u8,.int .u32,.int .i64,.int .u64]),(10002,.sl [.int .i64]),(10003,.sl [.int .i64,.int .i64,.int .i64]),(10000,.var [.int .i64,.int .i64,.own 10001,.own 10002,.own 10003]),(10005,.sl [.str,.int .u8,.int .u32,.int .i64,.int .u64]),(10006,.sl [.int .i64]),(10007,.sl [.int .i64,.int .i64,.int .i64]),(10004,.var [.int .i64,.int .i64,.own 10005,.own 10006,.own 10007])] }
def gPParse:List Leaf→(Ex→St→Option R)→Option R
 | [.r r12,.i i13,.i i14,.r rx1,.r rx2,.r rx3,.i ix0,.i ix0_1,.r rx5,.r rx6,.r rx7,.i ix4,.i ix4_1],K=>cond (i13==r12.length) (cond (i14==0) (cond (Nat.ble r12.length 3000) (cond (ix4==0) (cond (ix4_1==0) (cond (Nat.beq rx5.length 0) (cond (Nat.beq rx6.length 0) (cond (Nat.beq rx7.length 0) (cond (r12.all fun r=>Nat.ble (V.toStr (List.getD r 0 V.undef)).length 1000000) (cond ((N.pLines (pol0,(0:Int)).1 (pol0,(0:Int)).2 (r12.map rStr.dec)).2.2 != 0) (K .ret { fr:=[(2,.ptr 10000 0 0 0),(3,.int .i64 (N.pLines (pol0,(0:Int)).1 (pol0,(0:Int)).2 (r12.map rStr.dec)).2.1),(4,.int .i64 (N.pLines (pol0,(0:Int)).1 (pol0,(0:Int)).2 (r12.map rStr.dec)).2.2)],tab:=[(10001,.sl [.str,.int .u8,.int .u32,.int .i64,.int .u64] [] 0),(10002,.sl [.int .i64] [] 0),(10003,.sl [.int .i64,.int .i64,.int .i64] [] 0),(10000,.var [.int .i64 0,.int .i64 0,.own 10001 0,.own 10002 0,.own 10003 0])] }) (K (.exit 0) { fr:=[(2,.ptr 10000 0 0 0),(5,.ptr 10004 0 0 0)],tab:=[(10001,.sl [.str,.int .u8,.int .u32,.int .i64,.int .u64] rx1 0),(10002,.sl [.int .i64] rx2 0),(10003,.sl [.int .i64,.int .i64,.int .i64] rx3 0),(10000,.var [.int .i64 ix0,.int .i64 ix0_1,.own 10001 0,.own 10002 0,.own 10003 0]),(10005,.sl [.str,.int .u8,.int .u32,.int .i64,.int .u64] ((N.pLines (pol0,(0:Int)).1 (pol0,(0:Int)).2 (r12.map rStr.dec)).1.places.map cPlace.enc) 0),(10006,.sl [.int .i64] ((N.pLines (pol0,(0:Int)).1 (pol0,(0:Int)).2 (r12.map rStr.dec)).1.slots.map (rInt .i64).enc) 0),(10007,.sl [.int .i64,.int .i64,.int .i64] ((N.pLines (pol0,(0:Int)).1 (pol0,(0:Int)).2 (r12.map rStr.dec)).1.grants.map cGrant.enc) 0),(10004,.var [.int .i64 (N.pLines (pol0,(0:Int)).1 (pol0,(0:Int)).2 (r12.map rStr.dec)).1.work,.int .i64 (N.pLines (pol0,(0:Int)).1 (pol0,(0:Int)).2 (r12.map rStr.dec)).1.give,.own 10005 0,.own 10006 0,.own 10007 0])] })) none) none) none) none) none) none) none) none) none
 | _,_=>none
noncomputable def ePParse:Env:={ env Tryz.prog [(37,dSplitNL),(38,dWordsP),(31,dCheckP)] [(3,loopF schPParse gPParse)] [(3,[(0,[2,5,12,13,14]),(1,[2,5]),(1000,[2,3,4])])] with X:=lk? [(39,evFnX eLine 39)] }
theorem q_pParse_ (s:Bytes):evFn ePParse 10 ((aOne vStr).enc s) ([]) some =(
 let z4:=(List.map (RCod.enc rStr) (N.splitDotNL s));let z0:=(N.pLines {work:=(0:Int),give:=(0:Int),places:=[],slots:=[],grants:=[]:HPolicy} (0:Int) (List.map (RCod.dec rStr) z4));let z1:=(List.map (RCod.enc cPlace) (HPolicy.places (Prod.fst z0)));let z2:=(List.map (RCod.enc (rInt .i64)) (HPolicy.slots (Prod.fst z0)));let z3:=(List.map (RCod.enc cGrant) (HPolicy.grants (Prod.fst z0)));cond (Nat.ble (List.length s) 1000000) (cond ((↑(List.length z4):Int)==(↑(List.length z4):Int)) (cond (Nat.ble (List.length z4) 3000) (cond (List.all z4 fun r=>Nat.ble (List.length (V.toStr (List.getD r 0 .undef))) 1000000) (cond (Prod.snd (Prod.snd z0) != (0:Int)) (some {v:=V.tup [V.agg [V.int .i64 (0:Int),V.int .i64 (0:Int),V.slc [.str,.int .u8,.int .u32,.int .i64,.int .u64] [],V.slc [.int .i64] [],V.slc [.int .i64,.int .i64,.int .i64] []],V.int .i64 (Prod.fst (Prod.snd z0)),V.int .i64 (Prod.snd (Prod.snd z0))],bx:=[]:DRes}) (cond (bif bif Nat.ble (List.length (List.map (RCod.dec cPlace) z1)) 3000 then bif Nat.ble (List.length (List.map (RCod.dec (rInt .i64)) z2)) 3000 then Nat.ble (List.length (List.map (RCod.dec cGrant) z3)) 3000 else false else false then List.all (List.map (RCod.dec cPlace) z1) fun x=>Nat.ble (List.length (HPlace.name x)) 1000000 else false) (cond (N.checkP {work:=HPolicy.work (Prod.fst z0),give:=HPolicy.give (Prod.fst z0),places:=List.map (RCod.dec cPlace) z1,slots:=List.map (RCod.dec (rInt .i64)) z2,grants:=List.map (RCod.dec cGrant) z3:HPolicy} != (0:Int)) (some {v:=V.tup [V.agg [V.int .i64 (0:Int),V.int .i64 (0:Int),V.slc [.str,.int .u8,.int .u32,.int .i64,.int .u64] [],V.slc [.int .i64] [],V.slc [.int .i64,.int .i64,.int .i64] []],V.int .i64 (0:Int),V.int .i64 (N.checkP {work:=HPolicy.work (Prod.fst z0),give:=HPolicy.give (Prod.fst z0),places:=List.map (RCod.dec cPlace) z1,slots:=List.map (RCod.dec (rInt .i64)) z2,grants:=List.map (RCod.dec cGrant) z3:HPolicy})],bx:=[]:DRes}) (some {v:=V.tup [V.agg [V.int .i64 (HPolicy.work (Prod.fst z0)),V.int .i64 (HPolicy.give (Prod.fst z0)),V.slc [.str,.int .u8,.int .u32,.int .i64,.int .u64] z1,V.slc [.int .i64] z2,V.slc [.int .i64,.int .i64,.int .i64] z3],V.int .i64 (0:Int),V.int .i64 (0:Int)],bx:=[]:DRes})) (none))) (none)) (none)) (none)) (none)):=by kernel_rfl
theorem q_pParse (s:Bytes):type_of% (by have h:=q_pParse_ s; dsimp only at h; exact h):=by
 have h:=q_pParse_ s
 dsimp only at h
 exact h
theorem q_pParseR_ (r12:List (List V)) (i13:Int) (i14:Int) (rx1:List (List V)) (rx2:List (List V)) (rx3:List (List V)) (ix0:Int) (ix0_1:Int) (rx5:List (List V)) (rx6:List (List V)) (rx7:List (List V)) (ix4:Int) (ix4_1:Int) (K:Ex→St→Option R):evRound ePParse 10 3 { fr:=[(2,.ptr 10000 0 0 0),(5,.ptr 10004 0 0 0),(12,.slc [.str] r12),(13,.int .i64 i13),(14,.int .i64 i14)],tab:=[(10001,.sl [.str,.int .u8,.int .u32,.int .i64,.int .u64] rx1 0),(10002,.sl [.int .i64] rx2 0),(10003,.sl [.int .i64,.int .i64,.int .i64] rx3 0),(10000,.var [.int .i64 ix0,.int .i64 ix0_1,.own 10001 0,.own 10002 0,.own 10003 0]),(10005,.sl [.str,.int .u8,.int .u32,.int .i64,.int .u64] rx5 0),(10006,.sl [.int .i64] rx6 0),(10007,.sl [.int .i64,.int .i64,.int .i64] rx7 0),(10004,.var [.int .i64 ix4,.int .i64 ix4_1,.own 10005 0,.own 10006 0,.own 10007 0])] } K =(
 let z25:=(V.toStr (List.getD (List.getD r12 (Int.toNat i14) []) 0 V.undef));let z2:=(List.map (RCod.enc rStr) (N.wordsOf z25));let z5:=(↑(List.length z2):Int);let z21:=(decide ((0:Int)≤(0:Int)∧(0:Int)<z5));let z4:=(List.getD (List.getD z2 0 []) 0 V.undef);let z6:=(V.toStr z4==[(119:UInt8),(111:UInt8),(114:UInt8),(107:UInt8)]);let z19:=(decide ((0:Int)≤(1:Int)∧(1:Int)<z5));let z15:=(V.toStr (List.getD (List.getD z2 1 []) 0 V.undef));let z11:=(IntKind.wrap .i64 (i14+(1:Int)));let z13:=(K Ex.ret {fr:=[(2,V.ptr 10000 0 0 0),(3,V.int .i64 z11),(4,V.int .i64 (Prod.snd (N.pSmall z15)))],tab:=[(10001,Box.sl [.str,.int .u8,.int .u32,.int .i64,.int .u64] [] 0),(10002,Box.sl [.int .i64] [] 0),(10003,Box.sl [.int .i64,.int .i64,.int .i64] [] 0),(10000,Box.var [V.int .i64 (0:Int),V.int .i64 (0:Int),V.own 10001 0,V.own 10002 0,V.own 10003 0])]:St});let z7:=(V.toStr z4==[(103:UInt8),(105:UInt8),(118:UInt8),(101:UInt8)]);let z23:=(V.toStr z4==[(115:UInt8),(108:UInt8),(111:UInt8),(116:UInt8)]);let z12:=(bif Nat.ble (List.length (List.map (RCod.dec cPlace) rx5)) 3000 then bif Nat.ble (List.length (List.map (RCod.dec (rInt .i64)) rx6)) 3000 then Nat.ble (List.length (List.map (RCod.dec cGrant) rx7)) 3000 else false else false);let z9:=(N.pNamed {work:=ix4,give:=ix4_1,places:=List.map (RCod.dec cPlace) rx5,slots:=List.map (RCod.dec (rInt .i64)) rx6,grants:=List.map (RCod.dec cGrant) rx7:HPolicy} z15);let z16:=(K Ex.ret {fr:=[(2,V.ptr 10000 0 0 0),(3,V.int .i64 z11),(4,V.int .i64 (Prod.snd z9))],tab:=[(10001,Box.sl [.str,.int .u8,.int .u32,.int .i64,.int .u64] [] 0),(10002,Box.sl [.int .i64] [] 0),(10003,Box.sl [.int .i64,.int .i64,.int .i64] [] 0),(10000,Box.var [V.int .i64 (0:Int),V.int .i64 (0:Int),V.own 10001 0,V.own 10002 0,V.own 10003 0])]:St});let z22:=(V.toStr z4==[(108:UInt8),(97:UInt8),(98:UInt8),(101:UInt8),(108:UInt8)]);let z18:=(V.toStr (List.getD (List.getD z2 2 []) 0 V.undef));let z3:=(K Ex.normal {fr:=[(2,V.ptr 10000 0 0 0),(5,V.ptr 10004 0 0 0),(12,V.slc [.str] r12),(13,V.int .i64 i13),(14,V.int .i64 z11)],tab:=[(10001,Box.sl [.str,.int .u8,.int .u32,.int .i64,.int .u64] rx1 0),(10002,Box.sl [.int .i64] rx2 0),(10003,Box.sl [.int .i64,.int .i64,.int .i64] rx3 0),(10000,Box.var [V.int .i64 ix0,V.int .i64 ix0_1,V.own 10001 0,V.own 10002 0,V.own 10003 0]),(10005,Box.sl [.str,.int .u8,.int .u32,.int .i64,.int .u64] rx5 0),(10006,Box.sl [.int .i64] rx6 0),(10007,Box.sl [.int .i64,.int .i64,.int .i64] rx7 0),(10004,Box.var [V.int .i64 ix4,V.int .i64 ix4_1,V.own 10005 0,V.own 10006 0,V.own 10007 0])]:St});let z17:=(V.toStr (List.getD (List.getD z2 3 []) 0 V.undef));let z24:=(Prod.snd (N.pSmall z17) != (0:Int));let z14:=(K Ex.ret {fr:=[(2,V.ptr 10000 0 0 0),(3,V.int .i64 z11),(4,V.int .i64 (Prod.snd (N.pSmall z17)))],tab:=[(10001,Box.sl [.str,.int .u8,.int .u32,.int .i64,.int .u64] [] 0),(10002,Box.sl [.int .i64] [] 0),(10003,Box.sl [.int .i64,.int .i64,.int .i64] [] 0),(10000,Box.var [V.int .i64 (0:Int),V.int .i64 (0:Int),V.own 10001 0,V.own 10002 0,V.own 10003 0])]:St});let z20:=(N.pNumber (V.toStr (List.getD (List.getD z2 4 []) 0 V.undef)) (18446744073709551615:Int));let z10:=(N.pNamed {work:=ix4,give:=ix4_1,places:=List.map (RCod.dec cPlace) rx5,slots:=List.map (RCod.dec (rInt .i64)) rx6,grants:=List.map (RCod.dec cGrant) rx7:HPolicy} z18);let z0:=(cond z21 (cond z6 (cond z19 (cond (Nat.ble (List.length z15) 1000000) (cond (Prod.snd (N.pSmall z15) != (0:Int)) z13 (K Ex.normal {fr:=[(2,V.ptr 10000 0 0 0),(5,V.ptr 10004 0 0 0),(12,V.slc [.str] r12),(13,V.int .i64 i13),(14,V.int .i64 z11)],tab:=[(10001,Box.sl [.str,.int .u8,.int .u32,.int .i64,.int .u64] rx1 0),(10002,Box.sl [.int .i64] rx2 0),(10003,Box.sl [.int .i64,.int .i64,.int .i64] rx3 0),(10000,Box.var [V.int .i64 ix0,V.int .i64 ix0_1,V.own 10001 0,V.own 10002 0,V.own 10003 0]),(10005,Box.sl [.str,.int .u8,.int .u32,.int .i64,.int .u64] rx5 0),(10006,Box.sl [.int .i64] rx6 0),(10007,Box.sl [.int .i64,.int .i64,.int .i64] rx7 0),(10004,Box.var [V.int .i64 (Prod.fst (N.pSmall z15)),V.int .i64 ix4_1,V.own 10005 0,V.own 10006 0,V.own 10007 0])]:St})) (none)) (none)) (cond z7 (cond z19 (cond (Nat.ble (List.length z15) 1000000) (cond (Prod.snd (N.pSmall z15) != (0:Int)) z13 (K Ex.normal {fr:=[(2,V.ptr 10000 0 0 0),(5,V.ptr 10004 0 0 0),(12,V.slc [.str] r12),(13,V.int .i64 i13),(14,V.int .i64 z11)],tab:=[(10001,Box.sl [.str,.int .u8,.int .u32,.int .i64,.int .u64] rx1 0),(10002,Box.sl [.int .i64] rx2 0),(10003,Box.sl [.int .i64,.int .i64,.int .i64] rx3 0),(10000,Box.var [V.int .i64 ix0,V.int .i64 ix0_1,V.own 10001 0,V.own 10002 0,V.own 10003 0]),(10005,Box.sl [.str,.int .u8,.int .u32,.int .i64,.int .u64] rx5 0),(10006,Box.sl [.int .i64] rx6 0),(10007,Box.sl [.int .i64,.int .i64,.int .i64] rx7 0),(10004,Box.var [V.int .i64 ix4,V.int .i64 (Prod.fst (N.pSmall z15)),V.own 10005 0,V.own 10006 0,V.own 10007 0])]:St})) (none)) (none)) (cond z23 (cond z19 (cond z12 (cond (decide ((List.length rx6+1)*8≤140737488355328)) (cond (Prod.snd z9 != (0:Int)) z16 (K Ex.normal {fr:=[(2,V.ptr 10000 0 0 0),(5,V.ptr 10004 0 0 0),(12,V.slc [.str] r12),(13,V.int .i64 i13),(14,V.int .i64 z11)],tab:=[(10001,Box.sl [.str,.int .u8,.int .u32,.int .i64,.int .u64] rx1 0),(10002,Box.sl [.int .i64] rx2 0),(10003,Box.sl [.int .i64,.int .i64,.int .i64] rx3 0),(10000,Box.var [V.int .i64 ix0,V.int .i64 ix0_1,V.own 10001 0,V.own 10002 0,V.own 10003 0]),(10005,Box.sl [.str,.int .u8,.int .u32,.int .i64,.int .u64] rx5 0),(10006,Box.sl [.int .i64] (rx6++[[V.int .i64 (Prod.fst z9)]]) 0),(10007,Box.sl [.int .i64,.int .i64,.int .i64] rx7 0),(10004,Box.var [V.int .i64 ix4,V.int .i64 ix4_1,V.own 10005 0,V.own 10006 0,V.own 10007 0])]:St})) (none)) (none)) (none)) (cond z22 (cond (decide ((0:Int)≤(2:Int)∧(2:Int)<z5)) (cond (Nat.ble (List.length z18) 9223372036854775806) (cond (Prod.snd (N.parse z18) != (0:Int)) (cond (Prod.snd (N.parse z18) != (0:Int)) (K Ex.ret {fr:=[(2,V.ptr 10000 0 0 0),(3,V.int .i64 z11),(4,V.int .i64 (Prod.snd (N.parse z18)))],tab:=[(10001,Box.sl [.str,.int .u8,.int .u32,.int .i64,.int .u64] [] 0),(10002,Box.sl [.int .i64] [] 0),(10003,Box.sl [.int .i64,.int .i64,.int .i64] [] 0),(10000,Box.var [V.int .i64 (0:Int),V.int .i64 (0:Int),V.own 10001 0,V.own 10002 0,V.own 10003 0])]:St}) z3) (cond (decide ((0:Int)≤(3:Int)∧(3:Int)<z5)) (cond (Nat.ble (List.length z17) 1000000) (cond z24 (cond z24 z14 z3) (cond (decide ((0:Int)≤(4:Int)∧(4:Int)<z5)) (cond (bif Nat.ble (List.length (V.toStr (List.getD (List.getD z2 4 []) 0 V.undef))) 1000000 then true else false) (cond z19 (cond (decide ((List.length rx5+1)*40≤140737488355328)) (cond (Prod.snd z20 != (0:Int)) (K Ex.ret {fr:=[(2,V.ptr 10000 0 0 0),(3,V.int .i64 z11),(4,V.int .i64 (Prod.snd z20))],tab:=[(10001,Box.sl [.str,.int .u8,.int .u32,.int .i64,.int .u64] [] 0),(10002,Box.sl [.int .i64] [] 0),(10003,Box.sl [.int .i64,.int .i64,.int .i64] [] 0),(10000,Box.var [V.int .i64 (0:Int),V.int .i64 (0:Int),V.own 10001 0,V.own 10002 0,V.own 10003 0])]:St}) (K Ex.normal {fr:=[(2,V.ptr 10000 0 0 0),(5,V.ptr 10004 0 0 0),(12,V.slc [.str] r12),(13,V.int .i64 i13),(14,V.int .i64 z11)],tab:=[(10001,Box.sl [.str,.int .u8,.int .u32,.int .i64,.int .u64] rx1 0),(10002,Box.sl [.int .i64] rx2 0),(10003,Box.sl [.int .i64,.int .i64,.int .i64] rx3 0),(10000,Box.var [V.int .i64 ix0,V.int .i64 ix0_1,V.own 10001 0,V.own 10002 0,V.own 10003 0]),(10005,Box.sl [.str,.int .u8,.int .u32,.int .i64,.int .u64] (rx5++[[V.str z15,V.int .u8 (Label.level (Prod.fst (N.parse z18))),V.int .u32 (Label.set (Prod.fst (N.parse z18))),V.int .i64 (Prod.fst (N.pSmall z17)),V.int .u64 (Prod.fst z20)]]) 0),(10006,Box.sl [.int .i64] rx6 0),(10007,Box.sl [.int .i64,.int .i64,.int .i64] rx7 0),(10004,Box.var [V.int .i64 ix4,V.int .i64 ix4_1,V.own 10005 0,V.own 10006 0,V.own 10007 0])]:St})) (none)) (none)) (none)) (none))) (none)) (none))) (none)) (none)) (cond z19 (cond z12 (cond (Prod.snd z9 != (0:Int)) (cond (Prod.snd z9 != (0:Int)) z16 z3) (cond (decide ((0:Int)≤(2:Int)∧(2:Int)<z5)) (cond z12 (cond (Prod.snd z10 != (0:Int)) (cond (Prod.snd z10 != (0:Int)) (K Ex.ret {fr:=[(2,V.ptr 10000 0 0 0),(3,V.int .i64 z11),(4,V.int .i64 (Prod.snd z10))],tab:=[(10001,Box.sl [.str,.int .u8,.int .u32,.int .i64,.int .u64] [] 0),(10002,Box.sl [.int .i64] [] 0),(10003,Box.sl [.int .i64,.int .i64,.int .i64] [] 0),(10000,Box.var [V.int .i64 (0:Int),V.int .i64 (0:Int),V.own 10001 0,V.own 10002 0,V.own 10003 0])]:St}) z3) (cond (decide ((0:Int)≤(3:Int)∧(3:Int)<z5)) (cond (Nat.ble (List.length z17) 1000000) (cond (decide ((List.length rx7+1)*24≤140737488355328)) (cond z24 z14 (K Ex.normal {fr:=[(2,V.ptr 10000 0 0 0),(5,V.ptr 10004 0 0 0),(12,V.slc [.str] r12),(13,V.int .i64 i13),(14,V.int .i64 z11)],tab:=[(10001,Box.sl [.str,.int .u8,.int .u32,.int .i64,.int .u64] rx1 0),(10002,Box.sl [.int .i64] rx2 0),(10003,Box.sl [.int .i64,.int .i64,.int .i64] rx3 0),(10000,Box.var [V.int .i64 ix0,V.int .i64 ix0_1,V.own 10001 0,V.own 10002 0,V.own 10003 0]),(10005,Box.sl [.str,.int .u8,.int .u32,.int .i64,.int .u64] rx5 0),(10006,Box.sl [.int .i64] rx6 0),(10007,Box.sl [.int .i64,.int .i64,.int .i64] (rx7++[[V.int .i64 (Prod.fst z9),V.int .i64 (Prod.fst z10),V.int .i64 (Prod.fst (N.pSmall z17))]]) 0),(10004,Box.var [V.int .i64 ix4,V.int .i64 ix4_1,V.own 10005 0,V.own 10006 0,V.own 10007 0])]:St})) (none)) (none)) (none))) (none)) (none))) (none)) (none)))))) (none));let z1:=(K Ex.ret {fr:=[(2,V.ptr 10000 0 0 0),(3,V.int .i64 z11),(4,V.int .i64 (4:Int))],tab:=[(10001,Box.sl [.str,.int .u8,.int .u32,.int .i64,.int .u64] [] 0),(10002,Box.sl [.int .i64] [] 0),(10003,Box.sl [.int .i64,.int .i64,.int .i64] [] 0),(10000,Box.var [V.int .i64 (0:Int),V.int .i64 (0:Int),V.own 10001 0,V.own 10002 0,V.own 10003 0])]:St});let z8:=(cond (z5 != (2:Int)) z1 z0);cond (ilt i14 i13) (cond (decide ((0:Int)≤i14∧i14<(↑(List.length r12):Int))) (cond (Nat.ble (List.length z25) 1000000) (cond (z5==(0:Int)) z3 (cond z21 (cond (decide ((0:Int)≤(0:Int)∧(0:Int)<(↑(List.length (V.toStr z4)):Int))) (cond ((↑(UInt8.toNat (List.getD (V.toStr z4) 0 (0:UInt8))):Int)==(35:Int)) z3 (cond z21 (cond z22 (cond (z5 != (5:Int)) z1 z0) (cond (V.toStr z4==[(103:UInt8),(114:UInt8),(97:UInt8),(110:UInt8),(116:UInt8)]) (cond (z5 != (4:Int)) z1 z0) (cond z6 (cond z6 z8 z1) (cond z7 (cond z7 z8 z1) (cond z23 z8 z1))))) (none))) (none)) (none))) (none)) (none)) (K (Ex.exit 0) {fr:=[(2,V.ptr 10000 0 0 0),(5,V.ptr 10004 0 0 0)],tab:=[(10001,Box.sl [.str,.int .u8,.int .u32,.int .i64,.int .u64] rx1 0),(10002,Box.sl [.int .i64] rx2 0),(10003,Box.sl [.int .i64,.int .i64,.int .i64] rx3 0),(10000,Box.var [V.int .i64 ix0,V.int .i64 ix0_1,V.own 10001 0,V.own 10002 0,V.own 10003 0]),(10005,Box.sl [.str,.int .u8,.int .u32,.int .i64,.int .u64] rx5 0),(10006,Box.sl [.int .i64] rx6 0),(10007,Box.sl [.int .i64,.int .i64,.int .i64] rx7 0),(10004,Box.var [V.int .i64 ix4,V.int .i64 ix4_1,V.own 10005 0,V.own 10006 0,V.own 10007 0])]:St})):=by kernel_rfl
theorem q_pParseR (r12:List (List V)) (i13:Int) (i14:Int) (rx1:List (List V)) (rx2:List (List V)) (rx3:List (List V)) (ix0:Int) (ix0_1:Int) (rx5:List (List V)) (rx6:List (List V)) (rx7:List (List V)) (ix4:Int) (ix4_1:Int) (K:Ex→St→Option R):type_of% (by have h:=q_pParseR_ r12 i13 i14 rx1 rx2 rx3 ix0 ix0_1 rx5 rx6 rx7 ix4 ix4_1 K; dsimp only at h; exact h):=by
 have h:=q_pParseR_ r12 i13 i14 rx1 rx2 rx3 ix0 ix0_1 rx5 rx6 rx7 ix4 ix4_1 K
 dsimp only at h
 exact h
theorem gok_pParse:GOk ePParse:=env_ok2 (T:=[(37,dSplitNL),(38,dWordsP),(31,dCheckP)]) (MT:=[]) (XT:=[(39,evFnX eLine 39)]) ((((TOk.nil _).cons ok_pCheck).cons ok_pSplit).cons ok_splitNL) (MOk.nil _) ((XOk.nil _).cons x_line) rfl (by funext f; rfl) rfl
end Go.Ev

/- Policies of texts,by the program: the round of Parse,the loop,Parse: lemmas,no condition. -/
namespace Go.Ev
open Go Go.Proofs
set_option maxRecDepth 100000
def dPParse:Den:=den (aOne vStr) bNil (oTup (aCons (vAgg cPolicy) (aCons (vInt .i64) (aOne (vInt .i64))))) (fun s _=>cond (Nat.ble s.length 1000000) (Nat.ble (N.splitDotNL s).length 3000) false) fun s _=>(N.pParse s,())
def stPP (r12 rx1 rx2 rx3:List (List V)) (ix0 ix0_1:Int) (p:HPolicy) (j:Int):St:={ fr:=[(2,.ptr 10000 0 0 0),(5,.ptr 10004 0 0 0),(12,.slc [.str] r12),(13,.int .i64 r12.length),(14,.int .i64 j)],tab:=[(10001,.sl [.str,.int .u8,.int .u32,.int .i64,.int .u64] rx1 0),(10002,.sl [.int .i64] rx2 0),(10003,.sl [.int .i64,.int .i64,.int .i64] rx3 0),(10000,.var [.int .i64 ix0,.int .i64 ix0_1,.own 10001 0,.own 10002 0,.own 10003 0]),(10005,.sl [.str,.int .u8,.int .u32,.int .i64,.int .u64] (p.places.map cPlace.enc) 0),(10006,.sl [.int .i64] (p.slots.map (rInt .i64).enc) 0),(10007,.sl [.int .i64,.int .i64,.int .i64] (p.grants.map cGrant.enc) 0),(10004,.var [.int .i64 p.work,.int .i64 p.give,.own 10005 0,.own 10006 0,.own 10007 0])] }
def enPP (rx1 rx2 rx3:List (List V)) (ix0 ix0_1:Int) (p:HPolicy):St:={ fr:=[(2,.ptr 10000 0 0 0),(5,.ptr 10004 0 0 0)],tab:=[(10001,.sl [.str,.int .u8,.int .u32,.int .i64,.int .u64] rx1 0),(10002,.sl [.int .i64] rx2 0),(10003,.sl [.int .i64,.int .i64,.int .i64] rx3 0),(10000,.var [.int .i64 ix0,.int .i64 ix0_1,.own 10001 0,.own 10002 0,.own 10003 0]),(10005,.sl [.str,.int .u8,.int .u32,.int .i64,.int .u64] (p.places.map cPlace.enc) 0),(10006,.sl [.int .i64] (p.slots.map (rInt .i64).enc) 0),(10007,.sl [.int .i64,.int .i64,.int .i64] (p.grants.map cGrant.enc) 0),(10004,.var [.int .i64 p.work,.int .i64 p.give,.own 10005 0,.own 10006 0,.own 10007 0])] }
def erPP (j e:Int):St:={ fr:=[(2,.ptr 10000 0 0 0),(3,.int .i64 j),(4,.int .i64 e)],tab:=[(10001,.sl [.str,.int .u8,.int .u32,.int .i64,.int .u64] [] 0),(10002,.sl [.int .i64] [] 0),(10003,.sl [.int .i64,.int .i64,.int .i64] [] 0),(10000,.var [.int .i64 0,.int .i64 0,.own 10001 0,.own 10002 0,.own 10003 0])] }
theorem str_at:∀ (l:List Bytes) (k:Nat),V.toStr (List.getD (List.getD (l.map rStr.enc) k []) 0 V.undef)=l.getD k []
 | [],0=>rfl
 | [],_+1=>rfl
 | _::_,0=>rfl
 | _::l,k+1=>str_at l k
theorem few_up {n:Nat} (h:n≤3000) (c:Nat) (hc:c≤1000000):decide ((n+1)*c≤140737488355328)=true:=decide_eq_true (by
 have:(n+1)*c≤3001*1000000:=Nat.mul_le_mul (by omega) hc
 omega)
theorem k_lg:(([108,97,98,101,108]:Bytes)==[103,114,97,110,116])=false:=rfl
theorem k_lw:(([108,97,98,101,108]:Bytes)==[119,111,114,107])=false:=rfl
theorem k_lv:(([108,97,98,101,108]:Bytes)==[103,105,118,101])=false:=rfl
theorem k_ls:(([108,97,98,101,108]:Bytes)==[115,108,111,116])=false:=rfl
theorem k_gl:(([103,114,97,110,116]:Bytes)==[108,97,98,101,108])=false:=rfl
theorem k_gw:(([103,114,97,110,116]:Bytes)==[119,111,114,107])=false:=rfl
theorem k_gv:(([103,114,97,110,116]:Bytes)==[103,105,118,101])=false:=rfl
theorem k_gs:(([103,114,97,110,116]:Bytes)==[115,108,111,116])=false:=rfl
theorem k_wl:(([119,111,114,107]:Bytes)==[108,97,98,101,108])=false:=rfl
theorem k_wg:(([119,111,114,107]:Bytes)==[103,114,97,110,116])=false:=rfl
theorem k_wv:(([119,111,114,107]:Bytes)==[103,105,118,101])=false:=rfl
theorem k_ws:(([119,111,114,107]:Bytes)==[115,108,111,116])=false:=rfl
theorem k_vl:(([103,105,118,101]:Bytes)==[108,97,98,101,108])=false:=rfl
theorem k_vg:(([103,105,118,101]:Bytes)==[103,114,97,110,116])=false:=rfl
theorem k_vw:(([103,105,118,101]:Bytes)==[119,111,114,107])=false:=rfl
theorem k_vs:(([103,105,118,101]:Bytes)==[115,108,111,116])=false:=rfl
theorem k_sl:(([115,108,111,116]:Bytes)==[108,97,98,101,108])=false:=rfl
theorem k_sg:(([115,108,111,116]:Bytes)==[103,114,97,110,116])=false:=rfl
theorem k_sw:(([115,108,111,116]:Bytes)==[119,111,114,107])=false:=rfl
theorem k_sv:(([115,108,111,116]:Bytes)==[103,105,118,101])=false:=rfl
theorem k_ll:(([108,97,98,101,108]:Bytes)==[108,97,98,101,108])=true:=rfl
theorem k_gg:(([103,114,97,110,116]:Bytes)==[103,114,97,110,116])=true:=rfl
theorem k_ww:(([119,111,114,107]:Bytes)==[119,111,114,107])=true:=rfl
theorem k_vv:(([103,105,118,101]:Bytes)==[103,105,118,101])=true:=rfl
theorem k_ss:(([115,108,111,116]:Bytes)==[115,108,111,116])=true:=rfl
theorem len_no {w:Bytes} {ws:List Bytes} {n:Nat} (h:ws.length ≠ n):(((w::ws).length:Int) != (n:Int)+1)=true:=by
 rw [bne_iff_ne]; simp only [List.length_cons]; omega
theorem two_of {ws:List Bytes} (h:ws.length=1):∃ a,ws=[a]:=by
 match ws,h with
 | [a],_=>exact ⟨a,rfl⟩
theorem four_of {ws:List Bytes} (h:ws.length=3):∃ a b c,ws=[a,b,c]:=by
 match ws,h with
 | [a,b,c],_=>exact ⟨a,b,c,rfl⟩
theorem five_of {ws:List Bytes} (h:ws.length=4):∃ a b c d,ws=[a,b,c,d]:=by
 match ws,h with
 | [a,b,c,d],_=>exact ⟨a,b,c,d,rfl⟩
theorem pLines_err:∀ (l:List Bytes) (p:HPolicy) (k:Int),((N.pLines p k l).2.2 != 0)=true→(N.pLines p k l).1=pol0
 | [],p,k,h=>by cases h
 | t::r,p,k,h=>by
  have e:N.pLines p k (t::r)=cond (N.skipL (N.wordsOf t)) (N.pLines p (k+1) r) (cond ((N.pLine p (N.wordsOf t)).2 != 0) (pol0,k+1,(N.pLine p (N.wordsOf t)).2) (N.pLines (N.pLine p (N.wordsOf t)).1 (k+1) r)):=rfl
  rw [e] at h ⊢
  cases hs:N.skipL (N.wordsOf t) with
  | true=>rw [hs] at h; exact pLines_err r p (k+1) h
  | false =>
   rw [hs] at h
   cases hl:(N.pLine p (N.wordsOf t)).2 != 0 with
   | true=>rfl
   | false=>rw [hl] at h; exact pLines_err r _ (k+1) h
theorem pl_lab (p:HPolicy) (ws:List Bytes):N.pLine p ([108,97,98,101,108]::ws)=cond (((([108,97,98,101,108]:Bytes)::ws).length:Int) != 5) (p,4) (N.pLabel p ([108,97,98,101,108]::ws)):=rfl
theorem pl_gra (p:HPolicy) (ws:List Bytes):N.pLine p ([103,114,97,110,116]::ws)=cond (((([103,114,97,110,116]:Bytes)::ws).length:Int) != 4) (p,4) (N.pGranted p ([103,114,97,110,116]::ws)):=rfl
theorem pl_wor (p:HPolicy) (ws:List Bytes):N.pLine p ([119,111,114,107]::ws)=cond (((([119,111,114,107]:Bytes)::ws).length:Int) != 2) (p,4) (⟨(N.pSmall (List.getD ([119,111,114,107]::ws) 1 [])).1,p.give,p.places,p.slots,p.grants⟩,(N.pSmall (List.getD ([119,111,114,107]::ws) 1 [])).2):=rfl
theorem pl_giv (p:HPolicy) (ws:List Bytes):N.pLine p ([103,105,118,101]::ws)=cond (((([103,105,118,101]:Bytes)::ws).length:Int) != 2) (p,4) (⟨p.work,(N.pSmall (List.getD ([103,105,118,101]::ws) 1 [])).1,p.places,p.slots,p.grants⟩,(N.pSmall (List.getD ([103,105,118,101]::ws) 1 [])).2):=rfl
theorem pl_slo (p:HPolicy) (ws:List Bytes):N.pLine p ([115,108,111,116]::ws)=cond (((([115,108,111,116]:Bytes)::ws).length:Int) != 2) (p,4) (⟨p.work,p.give,p.places,p.slots++[(N.pNamed p (List.getD ([115,108,111,116]::ws) 1 [])).1],p.grants⟩,(N.pNamed p (List.getD ([115,108,111,116]::ws) 1 [])).2):=rfl
theorem pl_non (p:HPolicy) (w:Bytes) (ws:List Bytes) (h1:(w==[108,97,98,101,108])=false) (h2:(w==[103,114,97,110,116])=false) (h3:(w==[119,111,114,107])=false) (h4:(w==[103,105,118,101])=false) (h5:(w==[115,108,111,116])=false):N.pLine p (w::ws)=(p,4):=by
 have e1:(w==N.kLabel)=false:=h1
 have e2:(w==N.kGrant)=false:=h2
 have e3:(w==N.kWork)=false:=h3
 have e4:(w==N.kGive)=false:=h4
 have e5:(w==N.kSlot)=false:=h5
 unfold N.pLine
 simp only [List.getD_cons_zero,e1,e2,e3,e4,e5,cond_false]
theorem round_pParse (r12 rx1 rx2 rx3:List (List V)) (ix0 ix0_1:Int) (p:HPolicy) (i:Nat) (hi:i<r12.length) (h3:r12.length≤3000) (hp:PInv p i) (ht:(V.toStr (List.getD (List.getD r12 i []) 0 V.undef)).length≤1000000) (K:Ex→St→Option R) :
  evRound ePParse 10 3 (stPP r12 rx1 rx2 rx3 ix0 ix0_1 p i) K=cond (N.skipL (N.wordsOf (V.toStr (List.getD (List.getD r12 i []) 0 V.undef)))) (K .normal (stPP r12 rx1 rx2 rx3 ix0 ix0_1 p ((i:Int)+1)))
   (cond ((N.pLine p (N.wordsOf (V.toStr (List.getD (List.getD r12 i []) 0 V.undef)))).2 != 0) (K .ret (erPP ((i:Int)+1) (N.pLine p (N.wordsOf (V.toStr (List.getD (List.getD r12 i []) 0 V.undef)))).2))
    (K .normal (stPP r12 rx1 rx2 rx3 ix0 ix0_1 (N.pLine p (N.wordsOf (V.toStr (List.getD (List.getD r12 i []) 0 V.undef)))).1 ((i:Int)+1)))):=by
 refine (q_pParseR r12 r12.length (i:Int) rx1 rx2 rx3 ix0 ix0_1 _ _ _ _ _ K).trans ?_
 have t1:ilt (i:Int) r12.length=true:=ilt_t (by omega)
 have t2:decide ((0:Int)≤i∧(i:Int)<r12.length)=true:=decide_eq_true (by omega)
 have t3:IntKind.wrap .i64 ((i:Int)+1)=(i:Int)+1:=wr_i64 (by omega) (by omega)
 obtain ⟨a1,a2,a3,a4⟩:=hp
 have b1:Nat.ble p.places.length 3000=true:=Nat.ble_eq_true_of_le (by omega)
 have b2:Nat.ble p.slots.length 3000=true:=Nat.ble_eq_true_of_le (by omega)
 have b3:Nat.ble p.grants.length 3000=true:=Nat.ble_eq_true_of_le (by omega)
 have b4:=few_up (n:=p.places.length) (by omega) 40 (by omega)
 have b5:=few_up (n:=p.slots.length) (by omega) 8 (by omega)
 have b6:=few_up (n:=p.grants.length) (by omega) 24 (by omega)
 have hW:∀ w∈N.wordsOf (V.toStr (List.getD (List.getD r12 i []) 0 V.undef)),w ≠ []∧Nat.ble w.length 1000000=true:=fun w hw=>⟨(wordsOf_ok hw).1,Nat.ble_eq_true_of_le (Nat.le_trans (wordsOf_ok hw).2 ht)⟩
 have ht:Nat.ble (V.toStr (List.getD (List.getD r12 i []) 0 V.undef)).length 1000000=true:=Nat.ble_eq_true_of_le ht
 simp only [Int.toNat_natCast,t1,t2,t3,cond_true,str_at,List.length_map,dec_encsY,fold_pol,b1,b2,b3,b4,b5,b6,ht]
 generalize N.wordsOf (V.toStr (List.getD (List.getD r12 i []) 0 V.undef))=W at *
 cases W with
 | nil=>rfl
 | cons w0 ws =>
  obtain ⟨hn,hs⟩:=hW w0 (List.mem_cons_self ..)
  have u0:(((w0::ws).length:Int)==0)=false:=by rw [beq_eq_false_iff_ne]; simp only [List.length_cons]; omega
  have u1:decide ((0:Int)≤0∧(0:Int)<((w0::ws).length:Int))=true:=decide_eq_true (by simp only [List.length_cons]; omega)
  have u2:decide ((0:Int)≤0∧(0:Int)<(w0.length:Int))=true:=decide_eq_true (by
   have:=List.length_pos_iff.2 hn
   omega)
  have sk:N.skipL (w0::ws)=(((w0.getD 0 0).toNat:Int)==35):=by unfold N.skipL; rw [u0]; rfl
  have hx:∀ x∈ws,Nat.ble x.length 1000000=true:=fun x hx=>(hW x (List.mem_cons_of_mem _ hx)).2
  simp only [List.getD_cons_zero,u0,u1,u2,cond_true,cond_false,sk]
  cases (((w0.getD 0 0).toNat:Int)==35) with
  | true=>rfl
  | false =>
   simp only [cond_false]
   by_cases k1:w0=[108,97,98,101,108]
   ·subst k1
    simp only [k_ll,k_lg,k_lw,k_lv,k_ls,cond_true,cond_false,pl_lab]
    by_cases hl:ws.length=4
    ·obtain ⟨a,b,c,d,rfl⟩:=five_of hl
     have n1:((([[108,97,98,101,108],a,b,c,d]:List Bytes).length:Int) != 5)=false:=rfl
     have ga:List.getD ([[108,97,98,101,108],a,b,c,d]:List Bytes) 1 []=a:=rfl
     have gb:List.getD ([[108,97,98,101,108],a,b,c,d]:List Bytes) 2 []=b:=rfl
     have gc:List.getD ([[108,97,98,101,108],a,b,c,d]:List Bytes) 3 []=c:=rfl
     have gd:List.getD ([[108,97,98,101,108],a,b,c,d]:List Bytes) 4 []=d:=rfl
     have hb:Nat.ble b.length 9223372036854775806=true:=Nat.ble_eq_true_of_le (Nat.le_trans (ble_of (hx b (by simp))) (by omega))
     have hc:=hx c (by simp)
     have hd:=hx d (by simp)
     simp only [n1,ga,gb,gc,gd,hb,hc,hd,cond_true,cond_false,N.pLabel]
     cases h1:(N.parse b).2 != 0 with
     | true=>simp only [cond_true,h1]; rfl
     | false =>
      cases h2:(N.pSmall c).2 != 0 with
      | true=>simp only [cond_true,cond_false,h2]; rfl
      | false =>
       cases h3:(N.pNumber d 18446744073709551615).2 != 0 with
       | true=>simp only [cond_true,cond_false,h3]; rfl
       | false=>simp only [cond_false,h3,stPP,List.map_append,List.map_cons,List.map_nil]; rfl
    ·have n1:=len_no (w:=[108,97,98,101,108]) hl
     have n1:((([108,97,98,101,108]::ws:List Bytes).length:Int) != 5)=true:=n1
     simp only [n1,cond_true]
     try rfl
   ·by_cases k2:w0=[103,114,97,110,116]
    ·subst k2
     simp only [k_gl,k_gg,k_gw,k_gv,k_gs,cond_true,cond_false,pl_gra]
     by_cases hl:ws.length=3
     ·obtain ⟨a,b,c,rfl⟩:=four_of hl
      have n1:((([[103,114,97,110,116],a,b,c]:List Bytes).length:Int) != 4)=false:=rfl
      have ga:List.getD ([[103,114,97,110,116],a,b,c]:List Bytes) 1 []=a:=rfl
      have gb:List.getD ([[103,114,97,110,116],a,b,c]:List Bytes) 2 []=b:=rfl
      have gc:List.getD ([[103,114,97,110,116],a,b,c]:List Bytes) 3 []=c:=rfl
      have hc:=hx c (by simp)
      simp only [n1,ga,gb,gc,hc,cond_true,cond_false,N.pGranted]
      cases h1:(N.pNamed p a).2 != 0 with
      | true=>simp only [cond_true,h1]; rfl
      | false =>
       cases h2:(N.pNamed p b).2 != 0 with
       | true=>simp only [cond_true,cond_false,h2]; rfl
       | false =>
        cases h3:(N.pSmall c).2 != 0 with
        | true=>simp only [cond_true,cond_false,h3]; rfl
        | false=>simp only [cond_false,h3,stPP,List.map_append,List.map_cons,List.map_nil]; rfl
     ·have n1:=len_no (w:=[103,114,97,110,116]) hl
      have n1:((([103,114,97,110,116]::ws:List Bytes).length:Int) != 4)=true:=n1
      simp only [n1,cond_true]
      try rfl
    ·by_cases k3:w0=[119,111,114,107]
     ·subst k3
      simp only [k_wl,k_wg,k_ww,k_wv,k_ws,cond_true,cond_false,pl_wor]
      by_cases hl:ws.length=1
      ·obtain ⟨a,rfl⟩:=two_of hl
       have n1:((([[119,111,114,107],a]:List Bytes).length:Int) != 2)=false:=rfl
       have ga:List.getD ([[119,111,114,107],a]:List Bytes) 1 []=a:=rfl
       have ha:=hx a (by simp)
       simp only [n1,ga,ha,cond_true,cond_false]
       cases h1:(N.pSmall a).2 != 0 with
       | true=>simp only [cond_true]; rfl
       | false=>simp only [cond_false,stPP]; rfl
      ·have n1:=len_no (w:=[119,111,114,107]) hl
       have n1:((([119,111,114,107]::ws:List Bytes).length:Int) != 2)=true:=n1
       simp only [n1,cond_true]
       try rfl
     ·by_cases k4:w0=[103,105,118,101]
      ·subst k4
       simp only [k_vl,k_vg,k_vw,k_vv,k_vs,cond_true,cond_false,pl_giv]
       by_cases hl:ws.length=1
       ·obtain ⟨a,rfl⟩:=two_of hl
        have n1:((([[103,105,118,101],a]:List Bytes).length:Int) != 2)=false:=rfl
        have ga:List.getD ([[103,105,118,101],a]:List Bytes) 1 []=a:=rfl
        have ha:=hx a (by simp)
        simp only [n1,ga,ha,cond_true,cond_false]
        cases h1:(N.pSmall a).2 != 0 with
        | true=>simp only [cond_true]; rfl
        | false=>simp only [cond_false,stPP]; rfl
       ·have n1:=len_no (w:=[103,105,118,101]) hl
        have n1:((([103,105,118,101]::ws:List Bytes).length:Int) != 2)=true:=n1
        simp only [n1,cond_true]
        try rfl
      ·by_cases k5:w0=[115,108,111,116]
       ·subst k5
        simp only [k_sl,k_sg,k_sw,k_sv,k_ss,cond_true,cond_false,pl_slo]
        by_cases hl:ws.length=1
        ·obtain ⟨a,rfl⟩:=two_of hl
         have n1:((([[115,108,111,116],a]:List Bytes).length:Int) != 2)=false:=rfl
         have ga:List.getD ([[115,108,111,116],a]:List Bytes) 1 []=a:=rfl
         have ha:=hx a (by simp)
         simp only [n1,ga,cond_false]
         cases h1:(N.pNamed p a).2 != 0 with
         | true=>simp only [cond_true]; rfl
         | false=>simp only [cond_false,stPP,List.map_append,List.map_cons,List.map_nil]; rfl
        ·have n1:=len_no (w:=[115,108,111,116]) hl
         have n1:((([115,108,111,116]::ws:List Bytes).length:Int) != 2)=true:=n1
         simp only [n1,cond_true]
         try rfl
       ·have e1:(w0==[108,97,98,101,108])=false:=beq_eq_false_iff_ne.2 k1
        have e2:(w0==[103,114,97,110,116])=false:=beq_eq_false_iff_ne.2 k2
        have e3:(w0==[119,111,114,107])=false:=beq_eq_false_iff_ne.2 k3
        have e4:(w0==[103,105,118,101])=false:=beq_eq_false_iff_ne.2 k4
        have e5:(w0==[115,108,111,116])=false:=beq_eq_false_iff_ne.2 k5
        simp only [e1,e2,e3,e4,e5,cond_false,pl_non p w0 ws e1 e2 e3 e4 e5]
        try rfl
theorem ok_pParse_3:RoundsOk ePParse 10 3:=by
 refine rounds_of rfl fun l K q h=>?_
 unfold gPParse at h
 split at h
 ·rename_i r12 i13 i14 rx1 rx2 rx3 ix0 ix0_1 rx5 rx6 rx7 ix4 ix4_1
  have h1:=(cond_none h).1; replace h:=(cond_none h).2; have h2:=(cond_none h).1; replace h:=(cond_none h).2; have h3:=(cond_none h).1; replace h:=(cond_none h).2; have g1:=(cond_none h).1; replace h:=(cond_none h).2; have g2:=(cond_none h).1; replace h:=(cond_none h).2; have g3:=(cond_none h).1; replace h:=(cond_none h).2; have g4:=(cond_none h).1; replace h:=(cond_none h).2; have g5:=(cond_none h).1; replace h:=(cond_none h).2; have g6:=(cond_none h).1; replace h:=(cond_none h).2
  have e1:=ieq_of h1
  have e2:=ieq_of h2
  subst e1 e2
  have h3:r12.length≤3000:=ble_of h3
  have g6:∀ r∈r12,(V.toStr (List.getD r 0 V.undef)).length≤1000000:=fun r hr=>ble_of (List.all_eq_true.1 g6 r hr)
  have e3:=ieq_of g1
  have e4:=ieq_of g2
  have e5:=List.eq_nil_of_length_eq_zero (Nat.eq_of_beq_eq_true g3)
  have e6:=List.eq_nil_of_length_eq_zero (Nat.eq_of_beq_eq_true g4)
  have e7:=List.eq_nil_of_length_eq_zero (Nat.eq_of_beq_eq_true g5)
  subst e3 e4 e5 e6 e7
  have main:=range_ind (E:=ePParse) (f:=10) (id:=3) (A:=HPolicy × Int) r12 (fun a i=>stPP r12 rx1 rx2 rx3 ix0 ix0_1 a.1 i) (fun a i=>a.2=(i:Int)∧PInv a.1 i)
   (fun a rows K=>cond ((N.pLines a.1 a.2 (rows.map rStr.dec)).2.2 != 0) (K .ret (erPP (N.pLines a.1 a.2 (rows.map rStr.dec)).2.1 (N.pLines a.1 a.2 (rows.map rStr.dec)).2.2)) (K (.exit 0) (enPP rx1 rx2 rx3 ix0 ix0_1 (N.pLines a.1 a.2 (rows.map rStr.dec)).1)))
   (fun a i ha hi=>?_) (fun a ha=>?_) (pol0,0) 0 (Int.le_refl _) (by omega) ⟨rfl,PInv.zero 0⟩ K q (by assumption)
  ·exact main
  ·obtain ⟨p,j⟩:=a
   obtain ⟨rfl,hp⟩:j=(i:Int)∧PInv p i:=ha
   have hq:=fun K=>round_pParse r12 rx1 rx2 rx3 ix0 ix0_1 p i hi h3 hp (g6 _ (by rw [List.getD_eq_getElem?_getD,List.getElem?_eq_getElem hi]; exact List.getElem_mem hi)) K
   have hd:rStr.dec (List.getD r12 i [])=V.toStr (List.getD (List.getD r12 i []) 0 V.undef):=rfl
   have hr:∀ x,N.pLines p x ((List.getD r12 i []::r12.drop (i+1)).map rStr.dec)=cond (N.skipL (N.wordsOf (V.toStr (List.getD (List.getD r12 i []) 0 V.undef)))) (N.pLines p (x+1) ((r12.drop (i+1)).map rStr.dec)) (cond ((N.pLine p (N.wordsOf (V.toStr (List.getD (List.getD r12 i []) 0 V.undef)))).2 != 0) (pol0,x+1,(N.pLine p (N.wordsOf (V.toStr (List.getD (List.getD r12 i []) 0 V.undef)))).2) (N.pLines (N.pLine p (N.wordsOf (V.toStr (List.getD (List.getD r12 i []) 0 V.undef)))).1 (x+1) ((r12.drop (i+1)).map rStr.dec))):=fun x=>rfl
   have ht:=g6 _ (show List.getD r12 i []∈r12 by rw [List.getD_eq_getElem?_getD,List.getElem?_eq_getElem hi]; exact List.getElem_mem hi)
   generalize V.toStr (List.getD (List.getD r12 i []) 0 V.undef)=t at *
   cases hs:N.skipL (N.wordsOf t) with
   | true =>
    refine .inl ⟨(p,(i:Int)+1),⟨rfl,hp.up⟩,fun K=>?_,fun K=>?_⟩
    ·rw [hq,hs]; rfl
    ·simp only [hr,hs,cond_true]
   | false =>
    cases hl:(N.pLine p (N.wordsOf t)).2 != 0 with
    | true =>
     refine .inr ⟨.ret,erPP ((i:Int)+1) (N.pLine p (N.wordsOf t)).2,by simp,fun K=>?_,fun K=>?_⟩
     ·rw [hq,hs,hl]; rfl
     ·simp only [hr,hs,hl,cond_true,cond_false]
    | false =>
     refine .inl ⟨((N.pLine p (N.wordsOf t)).1,(i:Int)+1),⟨rfl,pLine_inv hp fun w hw=>?_⟩,fun K=>?_,fun K=>?_⟩
     ·exact Nat.le_trans (wordsOf_ok hw).2 ht
     ·rw [hq,hs,hl]; rfl
     ·simp only [hr,hs,hl,cond_false]
  ·obtain ⟨p,j⟩:=a
   refine ⟨.exit 0,enPP rx1 rx2 rx3 ix0 ix0_1 p,by simp,fun K=>?_,fun K=>rfl⟩
   refine (q_pParseR r12 r12.length r12.length rx1 rx2 rx3 ix0 ix0_1 _ _ _ _ _ K).trans ?_
   rw [ilt_f (Int.le_refl _)]; rfl
 ·cases h
theorem ok_pParse:FnOk Tryz.prog 10 dPParse:=by
 refine den_okF gok_pParse (E:=ePParse) Tryz.func10 [3] (by kernel_rfl) (one1 ok_pParse_3) fun a b hp=>?_
 obtain ⟨h1,h2⟩:=bcond (show cond (Nat.ble a.length 1000000) (Nat.ble (N.splitDotNL a).length 3000) false=true from hp)
 have hs:∀ t∈N.splitDotNL a,t.length≤1000000:=fun t ht=>Nat.le_trans ((splitNL_small a).2 t ht) (ble_of h1)
 have hall:((N.splitDotNL a).map rStr.enc).all (fun r=>Nat.ble (List.length (V.toStr (List.getD r 0 V.undef))) 1000000)=true:=by
  rw [List.all_map]
  exact List.all_eq_true.2 fun t ht=>Nat.ble_eq_true_of_le (hs t ht)
 have hinv:=pLines_inv (N.splitDotNL a) pol0 0 0 (PInv.zero 0) hs
 have hf:=hinv.few (by have:=ble_of h2; omega)
 obtain ⟨f1,f2⟩:=bcond hf
 obtain ⟨f3,f4⟩:=bcond f1
 obtain ⟨f4,f5⟩:=bcond f4
 have f2' : (List.all (N.pLines pol0 0 (N.splitDotNL a)).1.places fun x=>Nat.ble (List.length x.name) 1000000)=true:=f2
 have e0:({ work:=(0:Int),give:=(0:Int),places:=[],slots:=[],grants:=[]:HPolicy })=pol0:=rfl
 refine (q_pParse a).trans ?_
 simp only [e0,dec_encsY,List.length_map,fold_pol,beq_self_eq_true,hall,h1,h2,cond_true]
 show _=some (⟨.tup [.agg (cPolicy.enc (N.pParse a).1),.int .i64 (N.pParse a).2.1,.int .i64 (N.pParse a).2.2],[],[]⟩:DRes)
 unfold N.pParse
 have herr:=pLines_err (N.splitDotNL a) pol0 0
 generalize N.pLines pol0 0 (N.splitDotNL a)=r at *
 simp only [f3,f4,f5,f2',cond_true]
 cases hr:r.2.2 != 0 with
 | true =>
  simp only [cond_true,herr hr]
  try rfl
 | false =>
  simp only [cond_false]
  cases hc:N.checkP r.1 != 0 with
  | true=>rfl
  | false=>rfl
end Go.Ev

/- Policies: Check,by the document: what the evaluator makes of it: lemmas,no condition. -/
namespace Go.Ev
open Go Go.Proofs
set_option maxRecDepth 100000
-- FOLD
namespace N
def rPl (all:List HPlace):Int→List HPlace→Int
 | _,[]=>0
 | i,x::r=>cond (placeE x (all.take i.toNat) != 0) (placeE x (all.take i.toNat)) (rPl all (i+1) r)
def rSl (n:Int):List Int→Int
 | []=>0
 | k::r=>cond (cond (ilt k 0) true (ile n k)) 10 (rSl n r)
def rGr (p:HPolicy):Int→List HGrant→Int
 | _,[]=>0
 | i,x::r=>cond (grantE p x (p.grants.take i.toNat) != 0) (grantE p x (p.grants.take i.toNat)) (rGr p (i+1) r)
end N
def dCheckR:Den:=den (aOne (vAgg cPolicy)) bNil (oV (vInt .i64)) (fun p _=>cond (fewC p) (p.places.all okPl) false) fun p _=>(N.checkP p,())
def schRCheckP9:SSch:={ fr:=[(1,.ptr 10000 0 0),(3,.int .i64),(45,.slc [.str,.int .u8,.int .u32,.int .i64,.int .u64]),(46,.int .i64),(47,.int .i64)],tab:=[(10000,.row [] xsPolicy)] }
def gRCheckP9:List Leaf→(Ex→St→Option R)→Option R
 | [.i i3,.r r45,.i i46,.i i47,.c cx0],K=>cond (i46==r45.length) (cond (i47==0) (cond (Nat.ble r45.length 3000) (cond (i3==(cPolicy.dec cx0).places.length) (cond (Nat.ble r45.length (cPolicy.dec cx0).places.length) (cond (Nat.ble (cPolicy.dec cx0).places.length 3000) (cond (r45.all fun r=>Nat.ble (V.toStr (List.getD r 0 V.undef)).length 1000000) (cond (N.rPl (cPolicy.dec cx0).places (0:Int) (r45.map cPlace.dec) != 0) (K .ret { fr:=[(2,.int .i64 (N.rPl (cPolicy.dec cx0).places (0:Int) (r45.map cPlace.dec)))],tab:=[] }) (K (.exit 0) { fr:=[(1,.ptr 10000 0 0 0),(3,.int .i64 i3)],tab:=[(10000,.var (etaRow xsPolicy 0 cx0))] })) none) none) none) none) none) none) none
 | _,_=>none
def schRCheckP17:SSch:={ fr:=[(1,.ptr 10000 0 0),(3,.int .i64),(5,.ptr 10001 0 0),(45,.slc [.str,.int .u8,.int .u32,.int .i64,.int .u64]),(46,.int .i64),(47,.int .i64),(80,.slc [.str,.int .u8,.int .u32,.int .i64,.int .u64]),(81,.int .i64),(82,.int .i64)],tab:=[(10000,.row [] xsPolicy),(10001,.var [.str,.int .u8,.int .u32,.int .i64,.int .u64])] }
def gRCheckP17:List Leaf→(Ex→St→Option R)→Option R
 | [.i i3,.r r45,.i i46,.i i47,.r r80,.i i81,.i i82,.c cx0,.s sx1,.i ix1,.i ix1_1,.i ix1_2,.i ix1_3],K=>cond (i81==r80.length) (cond (i82==0) (cond (Nat.ble r80.length 3000) (cond ((r80.map cPlace.dec).any (N.twiceP ⟨sx1,⟨ix1,ix1_1⟩,ix1_2,ix1_3⟩)) (K .ret { fr:=[(2,.int .i64 9)],tab:=[] }) (K (.exit 2) { fr:=[(1,.ptr 10000 0 0 0),(3,.int .i64 i3),(45,.slc [.str,.int .u8,.int .u32,.int .i64,.int .u64] r45),(46,.int .i64 i46),(47,.int .i64 i47)],tab:=[(10000,.var (etaRow xsPolicy 0 cx0))] })) none) none) none
 | _,_=>none
def schRCheckP28:SSch:={ fr:=[(1,.ptr 10000 0 0),(3,.int .i64),(109,.slc [.int .i64]),(110,.int .i64),(111,.int .i64)],tab:=[(10000,.row [] xsPolicy)] }
def gRCheckP28:List Leaf→(Ex→St→Option R)→Option R
 | [.i i3,.r r109,.i i110,.i i111,.c cx0],K=>cond (i110==r109.length) (cond (i111==0) (cond (Nat.ble r109.length 3000) (cond (N.rSl i3 (r109.map (rInt .i64).dec) != 0) (K .ret { fr:=[(2,.int .i64 (N.rSl i3 (r109.map (rInt .i64).dec)))],tab:=[] }) (K (.exit 4) { fr:=[(1,.ptr 10000 0 0 0),(3,.int .i64 i3)],tab:=[(10000,.var (etaRow xsPolicy 0 cx0))] })) none) none) none
 | _,_=>none
def schRCheckP36:SSch:={ fr:=[(1,.ptr 10000 0 0),(3,.int .i64),(128,.slc [.int .i64,.int .i64,.int .i64]),(129,.int .i64),(130,.int .i64)],tab:=[(10000,.row [] xsPolicy)] }
def gRCheckP36:List Leaf→(Ex→St→Option R)→Option R
 | [.i i3,.r r128,.i i129,.i i130,.c cx0],K=>cond (i129==r128.length) (cond (i130==0) (cond (Nat.ble r128.length 3000) (cond (i3==(cPolicy.dec cx0).places.length) (cond (Nat.ble r128.length (cPolicy.dec cx0).grants.length) (cond (Nat.ble (cPolicy.dec cx0).places.length 3000) (cond (Nat.ble (cPolicy.dec cx0).grants.length 3000) (cond ((cPolicy.dec cx0).places.all okPl) (cond (N.rGr (cPolicy.dec cx0) (0:Int) (r128.map cGrant.dec) != 0) (K .ret { fr:=[(2,.int .i64 (N.rGr (cPolicy.dec cx0) (0:Int) (r128.map cGrant.dec)))],tab:=[] }) (K (.exit 6) { fr:=[(1,.ptr 10000 0 0 0),(3,.int .i64 i3)],tab:=[(10000,.var (etaRow xsPolicy 0 cx0))] })) none) none) none) none) none) none) none) none
 | _,_=>none
def schRCheckP45:SSch:={ fr:=[(1,.ptr 10000 0 0),(3,.int .i64),(12,.ptr 10001 0 0),(128,.slc [.int .i64,.int .i64,.int .i64]),(129,.int .i64),(130,.int .i64),(181,.slc [.int .i64,.int .i64,.int .i64]),(182,.int .i64),(183,.int .i64)],tab:=[(10000,.row [] xsPolicy),(10001,.var [.int .i64,.int .i64,.int .i64])] }
def gRCheckP45:List Leaf→(Ex→St→Option R)→Option R
 | [.i i3,.r r128,.i i129,.i i130,.r r181,.i i182,.i i183,.c cx0,.i ix1,.i ix1_1,.i _],K=>cond (i182==r181.length) (cond (i183==0) (cond (Nat.ble r181.length 3000) (cond ((r181.map cGrant.dec).any (N.isGr ix1 ix1_1)) (K .ret { fr:=[(2,.int .i64 9)],tab:=[] }) (K (.exit 8) { fr:=[(1,.ptr 10000 0 0 0),(3,.int .i64 i3),(128,.slc [.int .i64,.int .i64,.int .i64] r128),(129,.int .i64 i129),(130,.int .i64 i130)],tab:=[(10000,.var (etaRow xsPolicy 0 cx0))] })) none) none) none
 | _,_=>none
def schRCheckP52:SSch:={ fr:=[(1,.ptr 10000 0 0),(3,.int .i64),(15,.int .i64)],tab:=[(10000,.row [] xsPolicy)] }
def gRCheckP52:List Leaf→(Ex→St→Option R)→Option R
 | [.i i3,.i i15,.c cx0],K=>cond (i3==(cPolicy.dec cx0).places.length) (cond (i15==0) (cond (Nat.ble (cPolicy.dec cx0).places.length 3000) (cond (Nat.ble (cPolicy.dec cx0).slots.length 3000) (cond (N.lacks (cPolicy.dec cx0) (cPolicy.dec cx0).places.length 0==0) (K (.exit 10) { fr:=[],tab:=[] }) (K .ret { fr:=[(2,.int .i64 15)],tab:=[] })) none) none) none) none
 | _,_=>none
def schRCheckP56:SSch:={ fr:=[(1,.ptr 10000 0 0),(3,.int .i64),(15,.int .i64),(16,.bool),(207,.slc [.int .i64]),(208,.int .i64),(209,.int .i64)],tab:=[(10000,.row [] xsPolicy)] }
def gRCheckP56:List Leaf→(Ex→St→Option R)→Option R
 | [.i i3,.i i15,.b b16,.r r207,.i i208,.i i209,.c cx0],K=>cond (i208==r207.length) (cond (i209==0) (cond (Nat.ble r207.length 3000) (K (.exit 12) { fr:=[(1,.ptr 10000 0 0 0),(3,.int .i64 i3),(15,.int .i64 i15),(16,.bool (cond b16 true ((r207.map (rInt .i64).dec).any (·==i15))))],tab:=[(10000,.var (etaRow xsPolicy 0 cx0))] }) none) none) none
 | _,_=>none
noncomputable def eRCheckP:Env:=env Tryz.prog [(50,dName),(45,dRefUnder)] [(56,loopF schRCheckP56 gRCheckP56),(52,loopF schRCheckP52 gRCheckP52),(45,loopF schRCheckP45 gRCheckP45),(36,loopF schRCheckP36 gRCheckP36),(28,loopF schRCheckP28 gRCheckP28),(17,loopF schRCheckP17 gRCheckP17),(9,loopF schRCheckP9 gRCheckP9)] [(9,[(0,[1,3,45,46,47]),(1,[1,3]),(1000,[2])]),(17,[(0,[1,3,5,45,46,47,80,81,82]),(3,[1,3,45,46,47]),(1000,[2])]),(28,[(0,[1,3,109,110,111]),(5,[1,3]),(1000,[2])]),(36,[(0,[1,3,128,129,130]),(7,[1,3]),(1000,[2])]),(45,[(0,[1,3,12,128,129,130,181,182,183]),(9,[1,3,128,129,130]),(1000,[2])]),(52,[(0,[1,3,15]),(11,[]),(1000,[2])]),(56,[(0,[1,3,15,16,207,208,209]),(13,[1,3,15,16]),(1000,[2])])]
theorem q_rCheckP_ (p:HPolicy):evFn eRCheckP 29 ((aOne (vAgg cPolicy)).enc p) ([]) some =(
 let z0:=(List.map (RCod.enc cPlace) (HPolicy.places p));let z1:=(List.map (RCod.enc cGrant) (HPolicy.grants p));let z2:=(List.map (RCod.enc (rInt .i64)) (HPolicy.slots p));let z3:=(List.map (RCod.dec cPlace) z0);let z4:=(↑(List.length z0):Int);let z5:=(some {v:=V.int .i64 (7:Int),bx:=[]:DRes});let z6:=(some {v:=V.int .i64 (15:Int),bx:=[]:DRes});let z7:=(some {v:=V.int .i64 (6:Int),bx:=[]:DRes});let z8:=(List.map (RCod.dec cGrant) z1);let z9:=(↑(List.length z2):Int);let z10:=(List.map (RCod.dec (rInt .i64)) z2);let z11:=(z4==(↑(List.length z3):Int));let z12:=(Nat.ble (List.length z3) 3000);cond (ilt (HPolicy.work p) (1:Int)) z5 (cond (ilt (16:Int) (HPolicy.work p)) z5 (cond (ilt (HPolicy.give p) (1:Int)) z5 (cond (ilt (16:Int) (HPolicy.give p)) z5 (cond (z4==(0:Int)) z6 (cond (ilt (16:Int) z4) z7 (cond (z4==z4) (cond (Nat.ble (List.length z0) 3000) (cond z11 (cond (Nat.ble (List.length z0) (List.length z3)) (cond z12 (cond (List.all z0 fun r=>Nat.ble (List.length (V.toStr (List.getD r 0 .undef))) 1000000) (cond (N.rPl z3 (0:Int) z3 != (0:Int)) (some {v:=V.int .i64 (N.rPl z3 (0:Int) z3),bx:=[]:DRes}) (cond (z9==(0:Int)) z6 (cond (ilt (32:Int) z9) z7 (cond (z9==z9) (cond (Nat.ble (List.length z2) 3000) (cond (N.rSl z4 z10 != (0:Int)) (some {v:=V.int .i64 (N.rSl z4 z10),bx:=[]:DRes}) (cond (ilt (8:Int) (↑(List.length z1):Int)) z7 (cond ((↑(List.length z1):Int)==(↑(List.length z1):Int)) (cond (Nat.ble (List.length z1) 3000) (cond z11 (cond (Nat.ble (List.length z1) (List.length z8)) (cond z12 (cond (Nat.ble (List.length z8) 3000) (cond (List.all z3 fun x=>bif bif ile (0:Int) (Label.level (HPlace.label x)) then ile (Label.level (HPlace.label x)) (255:Int) else false then bif ile (0:Int) (Label.set (HPlace.label x)) then ilt (Label.set (HPlace.label x)) (4294967296:Int) else false else false) (cond (N.rGr {work:=HPolicy.work p,give:=HPolicy.give p,places:=List.map (RCod.dec cPlace) z0,slots:=List.map (RCod.dec (rInt .i64)) z2,grants:=List.map (RCod.dec cGrant) z1:HPolicy} (0:Int) z8 != (0:Int)) (some {v:=V.int .i64 (N.rGr {work:=HPolicy.work p,give:=HPolicy.give p,places:=List.map (RCod.dec cPlace) z0,slots:=List.map (RCod.dec (rInt .i64)) z2,grants:=List.map (RCod.dec cGrant) z1:HPolicy} (0:Int) z8),bx:=[]:DRes}) (cond z11 (cond z12 (cond (Nat.ble (List.length z10) 3000) (cond (N.lacks {work:=HPolicy.work p,give:=HPolicy.give p,places:=List.map (RCod.dec cPlace) z0,slots:=List.map (RCod.dec (rInt .i64)) z2,grants:=List.map (RCod.dec cGrant) z1:HPolicy} (List.length z3) 0==(0:Int)) (some {v:=V.int .i64 (0:Int),bx:=[]:DRes}) z6) (none)) (none)) (none))) (none)) (none)) (none)) (none)) (none)) (none)) (none)))) (none)) (none))))) (none)) (none)) (none)) (none)) (none)) (none)))))))):=by kernel_rfl
theorem q_rCheckP (p:HPolicy):type_of% (by have h:=q_rCheckP_ p; dsimp only at h; exact h):=by
 have h:=q_rCheckP_ p
 dsimp only at h
 exact h
theorem q_rCheckPR9_ (i3:Int) (r45:List (List V)) (i46:Int) (i47:Int) (cx0:List V) (K:Ex→St→Option R):evRound eRCheckP 29 9 { fr:=[(1,.ptr 10000 0 0 0),(3,.int .i64 i3),(45,.slc [.str,.int .u8,.int .u32,.int .i64,.int .u64] r45),(46,.int .i64 i46),(47,.int .i64 i47)],tab:=[(10000,.var (etaRow xsPolicy 0 cx0))] } K =(
 let z0:=(List.getD r45 (Int.toNat i47) []);let z3:=(V.toRows (List.getD cx0 2 .undef));let z1:=(List.drop 0 (List.take (Int.toNat i47) z3));let z2:=(K Ex.ret {fr:=[(2,V.int .i64 (7:Int))],tab:=[]:St});cond (ilt i47 i46) (cond (decide ((0:Int)≤i47∧i47<(↑(List.length r45):Int))) (cond (N.name (V.toStr (List.getD z0 0 V.undef)) != (0:Int)) (K Ex.ret {fr:=[(2,V.int .i64 (N.name (V.toStr (List.getD z0 0 V.undef))))],tab:=[]:St}) (cond (ilt (15:Int) (V.toInt (List.getD z0 1 V.undef))) z2 (cond (ilt (V.toInt (List.getD z0 3 V.undef)) (0:Int)) z2 (cond (ilt (65536:Int) (V.toInt (List.getD z0 3 V.undef))) z2 (cond (V.toInt (List.getD z0 4 V.undef)==(0:Int)) z2 (cond (decide ((0:Int)≤i47∧i47≤(↑(List.length z3):Int))) (cond ((↑(List.length z1):Int)==(↑(List.length z1):Int)) (cond (Nat.ble (List.length z1) 3000) (cond (List.any (List.map (RCod.dec cPlace) z1) (N.twiceP {name:=V.toStr (List.getD z0 0 V.undef),label:={level:=V.toInt (List.getD z0 1 V.undef),set:=V.toInt (List.getD z0 2 V.undef):Label},bytes:=V.toInt (List.getD z0 3 V.undef),base:=V.toInt (List.getD z0 4 V.undef):HPlace})) (K Ex.ret {fr:=[(2,V.int .i64 (9:Int))],tab:=[]:St}) (K Ex.normal {fr:=[(1,V.ptr 10000 0 0 0),(3,V.int .i64 i3),(45,V.slc [.str,.int .u8,.int .u32,.int .i64,.int .u64] r45),(46,V.int .i64 i46),(47,V.int .i64 (IntKind.wrap .i64 (i47+(1:Int))))],tab:=[(10000,Box.var [V.int .i64 (V.toInt (List.getD cx0 0 .undef)),V.int .i64 (V.toInt (List.getD cx0 1 .undef)),V.slc [.str,.int .u8,.int .u32,.int .i64,.int .u64] z3,V.slc [.int .i64] (V.toRows (List.getD cx0 3 .undef)),V.slc [.int .i64,.int .i64,.int .i64] (V.toRows (List.getD cx0 4 .undef))])]:St})) (none)) (none)) (none))))))) (none)) (K (Ex.exit 0) {fr:=[(1,V.ptr 10000 0 0 0),(3,V.int .i64 i3)],tab:=[(10000,Box.var [V.int .i64 (V.toInt (List.getD cx0 0 .undef)),V.int .i64 (V.toInt (List.getD cx0 1 .undef)),V.slc [.str,.int .u8,.int .u32,.int .i64,.int .u64] z3,V.slc [.int .i64] (V.toRows (List.getD cx0 3 .undef)),V.slc [.int .i64,.int .i64,.int .i64] (V.toRows (List.getD cx0 4 .undef))])]:St})):=by kernel_rfl
theorem q_rCheckPR9 (i3:Int) (r45:List (List V)) (i46:Int) (i47:Int) (cx0:List V) (K:Ex→St→Option R):type_of% (by have h:=q_rCheckPR9_ i3 r45 i46 i47 cx0 K; dsimp only at h; exact h):=by
 have h:=q_rCheckPR9_ i3 r45 i46 i47 cx0 K
 dsimp only at h
 exact h
theorem q_rCheckPR17 (i3:Int) (r45:List (List V)) (i46:Int) (i47:Int) (r80:List (List V)) (i81:Int) (i82:Int) (cx0:List V) (sx1:Bytes) (ix1:Int) (ix1_1:Int) (ix1_2:Int) (ix1_3:Int) (K:Ex→St→Option R):evRound eRCheckP 29 17 { fr:=[(1,.ptr 10000 0 0 0),(3,.int .i64 i3),(5,.ptr 10001 0 0 0),(45,.slc [.str,.int .u8,.int .u32,.int .i64,.int .u64] r45),(46,.int .i64 i46),(47,.int .i64 i47),(80,.slc [.str,.int .u8,.int .u32,.int .i64,.int .u64] r80),(81,.int .i64 i81),(82,.int .i64 i82)],tab:=[(10000,.var (etaRow xsPolicy 0 cx0)),(10001,.var [.str sx1,.int .u8 ix1,.int .u32 ix1_1,.int .i64 ix1_2,.int .u64 ix1_3])] } K =
 cond (ilt i82 i81) (cond (decide ((0:Int)≤i82∧i82<(↑(List.length r80):Int))) (cond (V.toStr (List.getD (List.getD r80 (Int.toNat i82) []) 0 V.undef)==sx1) (K Ex.ret {fr:=[(2,V.int .i64 (9:Int))],tab:=[]:St}) (cond (V.toInt (List.getD (List.getD r80 (Int.toNat i82) []) 1 V.undef)==ix1 && (V.toInt (List.getD (List.getD r80 (Int.toNat i82) []) 2 V.undef)==ix1_1 && true)) (K Ex.ret {fr:=[(2,V.int .i64 (9:Int))],tab:=[]:St}) (K Ex.normal {fr:=[(1,V.ptr 10000 0 0 0),(3,V.int .i64 i3),(5,V.ptr 10001 0 0 0),(45,V.slc [.str,.int .u8,.int .u32,.int .i64,.int .u64] r45),(46,V.int .i64 i46),(47,V.int .i64 i47),(80,V.slc [.str,.int .u8,.int .u32,.int .i64,.int .u64] r80),(81,V.int .i64 i81),(82,V.int .i64 (IntKind.wrap .i64 (i82+(1:Int))))],tab:=[(10000,Box.var [V.int .i64 (V.toInt (List.getD cx0 0 .undef)),V.int .i64 (V.toInt (List.getD cx0 1 .undef)),V.slc [.str,.int .u8,.int .u32,.int .i64,.int .u64] (V.toRows (List.getD cx0 2 .undef)),V.slc [.int .i64] (V.toRows (List.getD cx0 3 .undef)),V.slc [.int .i64,.int .i64,.int .i64] (V.toRows (List.getD cx0 4 .undef))]),(10001,Box.var [V.str sx1,V.int .u8 ix1,V.int .u32 ix1_1,V.int .i64 ix1_2,V.int .u64 ix1_3])]:St}))) (none)) (K (Ex.exit 2) {fr:=[(1,V.ptr 10000 0 0 0),(3,V.int .i64 i3),(45,V.slc [.str,.int .u8,.int .u32,.int .i64,.int .u64] r45),(46,V.int .i64 i46),(47,V.int .i64 i47)],tab:=[(10000,Box.var [V.int .i64 (V.toInt (List.getD cx0 0 .undef)),V.int .i64 (V.toInt (List.getD cx0 1 .undef)),V.slc [.str,.int .u8,.int .u32,.int .i64,.int .u64] (V.toRows (List.getD cx0 2 .undef)),V.slc [.int .i64] (V.toRows (List.getD cx0 3 .undef)),V.slc [.int .i64,.int .i64,.int .i64] (V.toRows (List.getD cx0 4 .undef))])]:St}):=by kernel_rfl
theorem q_rCheckPR28 (i3:Int) (r109:List (List V)) (i110:Int) (i111:Int) (cx0:List V) (K:Ex→St→Option R):evRound eRCheckP 29 28 { fr:=[(1,.ptr 10000 0 0 0),(3,.int .i64 i3),(109,.slc [.int .i64] r109),(110,.int .i64 i110),(111,.int .i64 i111)],tab:=[(10000,.var (etaRow xsPolicy 0 cx0))] } K =
 cond (ilt i111 i110) (cond (decide ((0:Int)≤i111∧i111<(↑(List.length r109):Int))) (cond (ilt (V.toInt (List.getD (List.getD r109 (Int.toNat i111) []) 0 V.undef)) (0:Int)) (K Ex.ret {fr:=[(2,V.int .i64 (10:Int))],tab:=[]:St}) (cond (ile i3 (V.toInt (List.getD (List.getD r109 (Int.toNat i111) []) 0 V.undef))) (K Ex.ret {fr:=[(2,V.int .i64 (10:Int))],tab:=[]:St}) (K Ex.normal {fr:=[(1,V.ptr 10000 0 0 0),(3,V.int .i64 i3),(109,V.slc [.int .i64] r109),(110,V.int .i64 i110),(111,V.int .i64 (IntKind.wrap .i64 (i111+(1:Int))))],tab:=[(10000,Box.var [V.int .i64 (V.toInt (List.getD cx0 0 .undef)),V.int .i64 (V.toInt (List.getD cx0 1 .undef)),V.slc [.str,.int .u8,.int .u32,.int .i64,.int .u64] (V.toRows (List.getD cx0 2 .undef)),V.slc [.int .i64] (V.toRows (List.getD cx0 3 .undef)),V.slc [.int .i64,.int .i64,.int .i64] (V.toRows (List.getD cx0 4 .undef))])]:St}))) (none)) (K (Ex.exit 4) {fr:=[(1,V.ptr 10000 0 0 0),(3,V.int .i64 i3)],tab:=[(10000,Box.var [V.int .i64 (V.toInt (List.getD cx0 0 .undef)),V.int .i64 (V.toInt (List.getD cx0 1 .undef)),V.slc [.str,.int .u8,.int .u32,.int .i64,.int .u64] (V.toRows (List.getD cx0 2 .undef)),V.slc [.int .i64] (V.toRows (List.getD cx0 3 .undef)),V.slc [.int .i64,.int .i64,.int .i64] (V.toRows (List.getD cx0 4 .undef))])]:St}):=by kernel_rfl
theorem q_rCheckPR36_ (i3:Int) (r128:List (List V)) (i129:Int) (i130:Int) (cx0:List V) (K:Ex→St→Option R):evRound eRCheckP 29 36 { fr:=[(1,.ptr 10000 0 0 0),(3,.int .i64 i3),(128,.slc [.int .i64,.int .i64,.int .i64] r128),(129,.int .i64 i129),(130,.int .i64 i130)],tab:=[(10000,.var (etaRow xsPolicy 0 cx0))] } K =(
 let z0:=(List.getD r128 (Int.toNat i130) []);let z6:=(V.toRows (List.getD cx0 4 .undef));let z1:=(List.drop 0 (List.take (Int.toNat i130) z6));let z2:=(V.toRows (List.getD cx0 2 .undef));let z3:=(K Ex.ret {fr:=[(2,V.int .i64 (10:Int))],tab:=[]:St});let z4:=(List.getD z0 0 V.undef);let z5:=(List.getD z0 1 V.undef);let z7:=(K Ex.ret {fr:=[(2,V.int .i64 (7:Int))],tab:=[]:St});cond (ilt i130 i129) (cond (decide ((0:Int)≤i130∧i130<(↑(List.length r128):Int))) (cond (ilt (V.toInt z4) (0:Int)) z3 (cond (ile i3 (V.toInt z4)) z3 (cond (ilt (V.toInt z5) (0:Int)) z3 (cond (ile i3 (V.toInt z5)) z3 (cond (decide ((0:Int)≤V.toInt z4∧V.toInt z4<(↑(List.length z2):Int))) (cond (decide ((0:Int)≤V.toInt z5∧V.toInt z5<(↑(List.length z2):Int))) (cond (N.refUnder {level:=V.toInt (List.getD (List.getD z2 (Int.toNat (V.toInt z4)) []) 1 V.undef),set:=V.toInt (List.getD (List.getD z2 (Int.toNat (V.toInt z4)) []) 2 V.undef):Label} {level:=V.toInt (List.getD (List.getD z2 (Int.toNat (V.toInt z5)) []) 1 V.undef),set:=V.toInt (List.getD (List.getD z2 (Int.toNat (V.toInt z5)) []) 2 V.undef):Label}) (K Ex.ret {fr:=[(2,V.int .i64 (11:Int))],tab:=[]:St}) (cond (ilt (V.toInt (List.getD z0 2 V.undef)) (0:Int)) z7 (cond (ilt (16:Int) (V.toInt (List.getD z0 2 V.undef))) z7 (cond (decide ((0:Int)≤i130∧i130≤(↑(List.length z6):Int))) (cond ((↑(List.length z1):Int)==(↑(List.length z1):Int)) (cond (Nat.ble (List.length z1) 3000) (cond (List.any (List.map (RCod.dec cGrant) z1) (N.isGr (V.toInt z4) (V.toInt z5))) (K Ex.ret {fr:=[(2,V.int .i64 (9:Int))],tab:=[]:St}) (K Ex.normal {fr:=[(1,V.ptr 10000 0 0 0),(3,V.int .i64 i3),(128,V.slc [.int .i64,.int .i64,.int .i64] r128),(129,V.int .i64 i129),(130,V.int .i64 (IntKind.wrap .i64 (i130+(1:Int))))],tab:=[(10000,Box.var [V.int .i64 (V.toInt (List.getD cx0 0 .undef)),V.int .i64 (V.toInt (List.getD cx0 1 .undef)),V.slc [.str,.int .u8,.int .u32,.int .i64,.int .u64] z2,V.slc [.int .i64] (V.toRows (List.getD cx0 3 .undef)),V.slc [.int .i64,.int .i64,.int .i64] z6])]:St})) (none)) (none)) (none))))) (none)) (none)))))) (none)) (K (Ex.exit 6) {fr:=[(1,V.ptr 10000 0 0 0),(3,V.int .i64 i3)],tab:=[(10000,Box.var [V.int .i64 (V.toInt (List.getD cx0 0 .undef)),V.int .i64 (V.toInt (List.getD cx0 1 .undef)),V.slc [.str,.int .u8,.int .u32,.int .i64,.int .u64] z2,V.slc [.int .i64] (V.toRows (List.getD cx0 3 .undef)),V.slc [.int .i64,.int .i64,.int .i64] z6])]:St})):=by kernel_rfl
theorem q_rCheckPR36 (i3:Int) (r128:List (List V)) (i129:Int) (i130:Int) (cx0:List V) (K:Ex→St→Option R):type_of% (by have h:=q_rCheckPR36_ i3 r128 i129 i130 cx0 K; dsimp only at h; exact h):=by
 have h:=q_rCheckPR36_ i3 r128 i129 i130 cx0 K
 dsimp only at h
 exact h
theorem q_rCheckPR45_ (i3:Int) (r128:List (List V)) (i129:Int) (i130:Int) (r181:List (List V)) (i182:Int) (i183:Int) (cx0:List V) (ix1:Int) (ix1_1:Int) (ix1_2:Int) (K:Ex→St→Option R):evRound eRCheckP 29 45 { fr:=[(1,.ptr 10000 0 0 0),(3,.int .i64 i3),(12,.ptr 10001 0 0 0),(128,.slc [.int .i64,.int .i64,.int .i64] r128),(129,.int .i64 i129),(130,.int .i64 i130),(181,.slc [.int .i64,.int .i64,.int .i64] r181),(182,.int .i64 i182),(183,.int .i64 i183)],tab:=[(10000,.var (etaRow xsPolicy 0 cx0)),(10001,.var [.int .i64 ix1,.int .i64 ix1_1,.int .i64 ix1_2])] } K =(
 let z0:=(K Ex.normal {fr:=[(1,V.ptr 10000 0 0 0),(3,V.int .i64 i3),(12,V.ptr 10001 0 0 0),(128,V.slc [.int .i64,.int .i64,.int .i64] r128),(129,V.int .i64 i129),(130,V.int .i64 i130),(181,V.slc [.int .i64,.int .i64,.int .i64] r181),(182,V.int .i64 i182),(183,V.int .i64 (IntKind.wrap .i64 (i183+(1:Int))))],tab:=[(10000,Box.var [V.int .i64 (V.toInt (List.getD cx0 0 .undef)),V.int .i64 (V.toInt (List.getD cx0 1 .undef)),V.slc [.str,.int .u8,.int .u32,.int .i64,.int .u64] (V.toRows (List.getD cx0 2 .undef)),V.slc [.int .i64] (V.toRows (List.getD cx0 3 .undef)),V.slc [.int .i64,.int .i64,.int .i64] (V.toRows (List.getD cx0 4 .undef))]),(10001,Box.var [V.int .i64 ix1,V.int .i64 ix1_1,V.int .i64 ix1_2])]:St});cond (ilt i183 i182) (cond (decide ((0:Int)≤i183∧i183<(↑(List.length r181):Int))) (cond (V.toInt (List.getD (List.getD r181 (Int.toNat i183) []) 0 V.undef)==ix1) (cond (V.toInt (List.getD (List.getD r181 (Int.toNat i183) []) 1 V.undef)==ix1_1) (K Ex.ret {fr:=[(2,V.int .i64 (9:Int))],tab:=[]:St}) z0) z0) (none)) (K (Ex.exit 8) {fr:=[(1,V.ptr 10000 0 0 0),(3,V.int .i64 i3),(128,V.slc [.int .i64,.int .i64,.int .i64] r128),(129,V.int .i64 i129),(130,V.int .i64 i130)],tab:=[(10000,Box.var [V.int .i64 (V.toInt (List.getD cx0 0 .undef)),V.int .i64 (V.toInt (List.getD cx0 1 .undef)),V.slc [.str,.int .u8,.int .u32,.int .i64,.int .u64] (V.toRows (List.getD cx0 2 .undef)),V.slc [.int .i64] (V.toRows (List.getD cx0 3 .undef)),V.slc [.int .i64,.int .i64,.int .i64] (V.toRows (List.getD cx0 4 .undef))])]:St})):=by kernel_rfl
theorem q_rCheckPR45 (i3:Int) (r128:List (List V)) (i129:Int) (i130:Int) (r181:List (List V)) (i182:Int) (i183:Int) (cx0:List V) (ix1:Int) (ix1_1:Int) (ix1_2:Int) (K:Ex→St→Option R):type_of% (by have h:=q_rCheckPR45_ i3 r128 i129 i130 r181 i182 i183 cx0 ix1 ix1_1 ix1_2 K; dsimp only at h; exact h):=by
 have h:=q_rCheckPR45_ i3 r128 i129 i130 r181 i182 i183 cx0 ix1 ix1_1 ix1_2 K
 dsimp only at h
 exact h
theorem q_rCheckPR52 (i3:Int) (i15:Int) (cx0:List V) (K:Ex→St→Option R):evRound eRCheckP 29 52 { fr:=[(1,.ptr 10000 0 0 0),(3,.int .i64 i3),(15,.int .i64 i15)],tab:=[(10000,.var (etaRow xsPolicy 0 cx0))] } K =
 cond (ilt i15 i3) (cond ((↑(List.length (V.toRows (List.getD cx0 3 .undef))):Int)==(↑(List.length (V.toRows (List.getD cx0 3 .undef))):Int)) (cond (Nat.ble (List.length (V.toRows (List.getD cx0 3 .undef))) 3000) (cond (!List.any (List.map (RCod.dec (rInt .i64)) (V.toRows (List.getD cx0 3 .undef))) fun x=>x==i15) (K Ex.ret {fr:=[(2,V.int .i64 (15:Int))],tab:=[]:St}) (K Ex.normal {fr:=[(1,V.ptr 10000 0 0 0),(3,V.int .i64 i3),(15,V.int .i64 (IntKind.wrap .i64 (i15+(1:Int))))],tab:=[(10000,Box.var [V.int .i64 (V.toInt (List.getD cx0 0 .undef)),V.int .i64 (V.toInt (List.getD cx0 1 .undef)),V.slc [.str,.int .u8,.int .u32,.int .i64,.int .u64] (V.toRows (List.getD cx0 2 .undef)),V.slc [.int .i64] (V.toRows (List.getD cx0 3 .undef)),V.slc [.int .i64,.int .i64,.int .i64] (V.toRows (List.getD cx0 4 .undef))])]:St})) (none)) (none)) (K (Ex.exit 10) {fr:=[],tab:=[]:St}):=by kernel_rfl
theorem q_rCheckPR56 (i3:Int) (i15:Int) (b16:Bool) (r207:List (List V)) (i208:Int) (i209:Int) (cx0:List V) (K:Ex→St→Option R):evRound eRCheckP 29 56 { fr:=[(1,.ptr 10000 0 0 0),(3,.int .i64 i3),(15,.int .i64 i15),(16,.bool b16),(207,.slc [.int .i64] r207),(208,.int .i64 i208),(209,.int .i64 i209)],tab:=[(10000,.var (etaRow xsPolicy 0 cx0))] } K =
 cond (ilt i209 i208) (cond (decide ((0:Int)≤i209∧i209<(↑(List.length r207):Int))) (cond (b16) (K Ex.normal {fr:=[(1,V.ptr 10000 0 0 0),(3,V.int .i64 i3),(15,V.int .i64 i15),(16,V.bool true),(207,V.slc [.int .i64] r207),(208,V.int .i64 i208),(209,V.int .i64 (IntKind.wrap .i64 (i209+(1:Int))))],tab:=[(10000,Box.var [V.int .i64 (V.toInt (List.getD cx0 0 .undef)),V.int .i64 (V.toInt (List.getD cx0 1 .undef)),V.slc [.str,.int .u8,.int .u32,.int .i64,.int .u64] (V.toRows (List.getD cx0 2 .undef)),V.slc [.int .i64] (V.toRows (List.getD cx0 3 .undef)),V.slc [.int .i64,.int .i64,.int .i64] (V.toRows (List.getD cx0 4 .undef))])]:St}) (K Ex.normal {fr:=[(1,V.ptr 10000 0 0 0),(3,V.int .i64 i3),(15,V.int .i64 i15),(16,V.bool (V.toInt (List.getD (List.getD r207 (Int.toNat i209) []) 0 V.undef)==i15)),(207,V.slc [.int .i64] r207),(208,V.int .i64 i208),(209,V.int .i64 (IntKind.wrap .i64 (i209+(1:Int))))],tab:=[(10000,Box.var [V.int .i64 (V.toInt (List.getD cx0 0 .undef)),V.int .i64 (V.toInt (List.getD cx0 1 .undef)),V.slc [.str,.int .u8,.int .u32,.int .i64,.int .u64] (V.toRows (List.getD cx0 2 .undef)),V.slc [.int .i64] (V.toRows (List.getD cx0 3 .undef)),V.slc [.int .i64,.int .i64,.int .i64] (V.toRows (List.getD cx0 4 .undef))])]:St})) (none)) (K (Ex.exit 12) {fr:=[(1,V.ptr 10000 0 0 0),(3,V.int .i64 i3),(15,V.int .i64 i15),(16,V.bool b16)],tab:=[(10000,Box.var [V.int .i64 (V.toInt (List.getD cx0 0 .undef)),V.int .i64 (V.toInt (List.getD cx0 1 .undef)),V.slc [.str,.int .u8,.int .u32,.int .i64,.int .u64] (V.toRows (List.getD cx0 2 .undef)),V.slc [.int .i64] (V.toRows (List.getD cx0 3 .undef)),V.slc [.int .i64,.int .i64,.int .i64] (V.toRows (List.getD cx0 4 .undef))])]:St}):=by kernel_rfl
end Go.Ev
