/- Numbers' texts by the library's contract,and by the document: lemmas,no condition. -/
import Derived.Test.YtcfmdajabkjafaaDoorGc
import Derived.Test.YtcfmdajabkjafaaDoorShelf
import Derived.KernelRfl
import Derived.Lib.ItoaNum
import Derived.Stop.LaidErr
import Derived.MakeChecks
import Derived.Test.YtcfmdajabkjafaaDoorProg
import Derived.Shelf.Strings.Builder1
import Derived.RegionTactic
import Derived.Deep.RegionWith
namespace Go.Ev
open Go Go.Proofs Go.RowKit Go.Sort
set_option maxRecDepth 100000
theorem enter_ok {P : Program} {f : FuncId} {fn : Func} (hf : P.funcs[f]? = some fn) (hb : fn.body.isSome = true) (hn : (fn.name == "runtime.NumGoroutine") = false) (xs : Array Value) (w : World) : (callFunc f xs).run P w = .ok (.enter f xs) w := by
 have hnm : ¬ fn.name = "runtime.NumGoroutine" := by
  intro e
  rw [e] at hn; cases hn
 obtain ⟨c,hc⟩:=Option.isSome_iff_exists.1 hb
 simp [callFunc,hf,hnm,hc]
theorem keeps_below' {w w' : World} (X:Nat→Nat→Prop) (h:Below w.heap.size w w'):Keeps X w w' :=
 ⟨h.os,h.tape,h.output,h.size,fun b hb=>ObjOk.same (h.block b hb)⟩
theorem ret_plain {w w' : World} {J:Nat→Nat→Prop} {v:V} {x:Value} (hJ:∀ b o,J b o→b<w.heap.size) (hb:Below w.heap.size w w') (hv:Rv w' J noRho v x):RetOk w w' J [] [] ⟨v,[],[]⟩ x J :=
 ⟨keeps_below' _ hb,fun _ _ h=>h,fun b o h=>Nat.lt_of_lt_of_le (hJ b o h) hb.size,fun _ _ h _=>h,rfl,(fun j cs cs' p hj=>by simp at hj),.inl ⟨rfl,hv⟩⟩
theorem grow_below (w:World) (k:Nat) (os:Array Obj):Below w.heap.size w (grow (w.drewN k) os):=by
 refine ⟨rfl,rfl,rfl,?_,fun b hb=>?_⟩
 ·show w.heap.size≤(w.heap++os).size
  rw [Array.size_append]; omega
 ·show (w.heap++os)[b]? = w.heap[b]?
  exact Array.getElem?_append_left hb
theorem tabIs_of {P:Program} {n:String} {T:List GQ} {k:IntKind} {zs:List Int} (h12:((P.globalNamed n).bind fun g=>(P.globals[g]?).map (·.name))=some n) (h3:tabNamed n=T) (h4:T=zs.map fun z=>GQ.val (.int k z)) (h5:0<zs.length)
  {J:Nat→Nat→Prop} {w:World} (hH:Held P J w):Lib.TabIs P w n k zs:=by
 obtain ⟨g,h1,h2⟩:=Option.bind_eq_some_iff.1 h12
 obtain ⟨gl,e1,e2⟩:=Option.map_eq_some_iff.1 h2
 have hv:∀ o,GLv P g o=(zs[o]?).map fun z=>GQ.val (.int k z):=fun o=>by
  unfold GLv
  rw [e1]
  show (tabNamed gl.name)[o]? = _
  rw [e2,h3,h4,List.getElem?_map]
 have hn:GLn P g=zs.length:=by
  unfold GLn
  rw [e1]
  show (tabNamed gl.name).length=_
  rw [e2,h3,h4,List.length_map]
 have hc:∀ o z,zs[o]? = some z→w.cell? ⟨g,o,none⟩=some (.int k z):=fun o z hz=>by
  obtain ⟨_,⟨y,hy,hcell⟩,_⟩:=hH g o (.val (.int k z)) (by rw [hv,hz]; rfl)
  rw [hcell]
  exact congrArg some hy
 have h0:zs[0]? = some (zs[0]'h5):=List.getElem?_eq_getElem h5
 obtain ⟨_,_,hend⟩:=hH g 0 (.val (.int k (zs[0]'h5))) (by rw [hv,h0]; rfl)
 rw [hn] at hend
 have hc0:=hc 0 _ h0
 unfold Lib.TabIs World.var?
 rw [h1]
 show (match w.heap[g]? with | some (.cells cs _ _)=>some cs | _=>none)=_
 rw [cell_eq] at hc0 hend
 cases hb:w.heap[g]? with
 | none=>rw [hb] at hc0; cases hc0
 | some ob =>
  cases ob with
  | cells c e f =>
   rw [hb] at hend
   have hend:c[zs.length]? = none:=hend
   show some c=some _
   congr 1
   apply Array.ext_getElem?
   intro o
   rw [show ((zs.map fun z=>Value.int k z).toArray)[o]? = (zs[o]?).map fun z=>Value.int k z by simp]
   cases hz:zs[o]? with
   | some z =>
    have:=hc o z hz
    rw [cell_eq,hb] at this
    exact this
   | none =>
    have hle:=List.getElem?_eq_none_iff.1 hz
    have hle2:=Array.getElem?_eq_none_iff.1 hend
    exact Array.getElem?_eq_none (by omega)
  | _=>rw [hb] at hc0; cases hc0
theorem dec_dig {n:Nat} (h:n<256):Lib.decDigits n=N.digN n:=by
 unfold N.digN
 by_cases h1:n<10
 ·rw [Lib.decDigits_one h1,show Nat.blt n 10=true from Nat.blt_eq ▸ h1]; rfl
 ·rw [show Nat.blt n 10=false from by rw [Bool.eq_false_iff]; intro hh; have:=Nat.blt_eq ▸ hh; omega]
  by_cases h2:n<100
  ·rw [Lib.decDigits_two h1 h2,show Nat.blt n 100=true from Nat.blt_eq ▸ h2]; rfl
  ·rw [show Nat.blt n 100=false from by rw [Bool.eq_false_iff]; intro hh; have:=Nat.blt_eq ▸ hh; omega]
   rw [Lib.decDigits,dif_neg h1,Lib.decDigits_two (by omega) (by omega),Nat.div_div_eq_div_mul]
   try rfl
def dItoa:Den:=den (aOne (vInt .i64)) bNil (oV vStr) (fun n _=>cond (ile 0 n) (ile n 255) false) fun n _=>(N.digN n.toNat,())
theorem ok_itoa:FnOk Tryd.prog 13 dItoa:=by
 refine den_of fun n u h=>?_
 obtain ⟨h1,h2⟩:=bcond h
 have h1:=ile_of h1
 have h2:=ile_of h2
 obtain ⟨m,rfl⟩:=Int.eq_ofNat_of_zero_le h1
 intro x y hxy w J locs xs hlen hJ hx _ _ hH
 have hxy:x=(aOne (vInt .i64)).enc (m:Int)∧y=bNil.enc u:=by simpa using hxy
 obtain ⟨rfl,rfl⟩:=hxy
 have hlen:locs=[]:=List.eq_nil_of_length_eq_zero hlen
 subst hlen
 obtain ⟨x0,rfl,hx0⟩:=hx.one
 have hx0:=Rv.int_inv (show Rv w J _ (.int .i64 m) x0 from hx0)
 subst hx0
 refine .inl ⟨enter_ok Tryd.func13 (by kernel_rfl) (by kernel_rfl) _ _,?_⟩
 refine (Tryd.strconv_Itoa m (by omega) (by omega) w (tabIs_of (by kernel_rfl) rfl (by kernel_rfl) (by rw [Lib.pow10Tab_length]; omega) hH)).mono fun e w' ⟨he,k,os,hw⟩=>⟨_,he,J,?_⟩
 subst hw
 have:Lib.itoa (m:Int)=N.digN m:=by
  unfold Lib.itoa
  rw [if_neg (by omega),Int.toNat_natCast,dec_dig (by omega)]
 rw [this]
 exact ret_plain hJ (grow_below w k os) (.dat (.str _))
end Go.Ev

/- Labels' texts are written: lemmas,no condition. -/
namespace Go.Ev
open Go Go.Proofs
set_option maxRecDepth 100000
-- FOLD
theorem dig_len (n:Nat):(N.digN n).length≤3:=by
 unfold N.digN
 cases Nat.blt n 10<;>cases Nat.blt n 100<;>simp
theorem dig_app {m:Nat} (h0:10≤m) (h:m<256):N.digN (m / 10)++N.digN (m % 10)=N.digN m:=by
 have:∀ m:Fin 256,10≤m.val→N.digN (m.val / 10)++N.digN (m.val % 10)=N.digN m.val:=by decide +kernel
 exact this ⟨m,h⟩ h0
theorem has_and {S k:Nat} (hS:S<4294967296) (hk:k<32) (l:Int):(ibits .and .u32 (shr .u32 (S:Int) (k:Int)) 1==(1:Int))=N.refHas ⟨l,(S:Int)⟩ (k:Int):=by
 have e1:shr .u32 (S:Int) (k:Int)=((S / 2 ^ k:Nat):Int):=by
  unfold shr
  simp only [Int.toNat_natCast,show min k IntKind.u32.bits=k from by show min k 32=k; omega]
  rw [show (2:Int) ^ k=((2 ^ k:Nat):Int) from by norm_cast,Int.fdiv_eq_ediv_of_nonneg _ (Int.natCast_nonneg _)]
  norm_cast
 unfold N.refHas
 rw [e1]
 have hd:S / 2 ^ k≤S:=Nat.div_le_self ..
 generalize S / 2 ^ k=x at *
 have e2:ibits .and .u32 (x:Int) 1=((x % 2:Nat):Int):=by
  unfold ibits
  have e1:(BitVec.ofInt IntKind.u32.bits (x:Int)).toNat=x:=by
   rw [show IntKind.u32.bits=32 from rfl,BitVec.toNat_ofInt]
   omega
  have e3:(BitVec.ofInt IntKind.u32.bits (1:Int)).toNat=1:=by decide
  show IntKind.wrap .u32 (((BitVec.ofInt IntKind.u32.bits (x:Int)) &&& (BitVec.ofInt IntKind.u32.bits (1:Int))).toNat:Int)=_
  rw [BitVec.toNat_and,e1,e3,Nat.and_one_is_mod]
  exact wrap_u32 (Int.natCast_nonneg _) (by omega)
 rw [e2,show Int.tmod (x:Int) 2=((x % 2:Nat):Int) from by rw [Int.tmod_eq_emod_of_nonneg (Int.natCast_nonneg _)]; norm_cast]
def dDig1:Den:=den (aOne (vInt .i64)) bNil (oV vStr) (fun n _=>cond (ile 0 n) (ilt n 10) false) fun n _=>(N.digN n.toNat,())
def dDig2:Den:=den (aOne (vInt .i64)) bNil (oV vStr) (fun n _=>cond (ile 0 n) (ilt n 100) false) fun n _=>(N.digN n.toNat,())
def dDig3:Den:=den (aOne (vInt .i64)) bNil (oV vStr) (fun n _=>cond (ile 0 n) (ilt n 256) false) fun n _=>(N.digN n.toNat,())
noncomputable def eDigA:Env:=env Tryd.prog [] [] []
theorem q_digA (n:Int):evFn eDigA 14 ((aOne (vInt .i64)).enc n) ([]) some =
 cond (ilt n (10:Int)) (cond (decide ((0:Int)≤IntKind.wrap .i64 (n+(1:Int))∧IntKind.wrap .i64 (n+(1:Int))≤(↑(10:Nat):Int))) (cond (decide ((0:Int)≤n∧n≤(↑(Int.toNat (IntKind.wrap .i64 (n+(1:Int)))):Int))) (some {v:=V.str (List.drop (Int.toNat n) (List.take (Int.toNat (IntKind.wrap .i64 (n+(1:Int)))) [(48:UInt8),(49:UInt8),(50:UInt8),(51:UInt8),(52:UInt8),(53:UInt8),(54:UInt8),(55:UInt8),(56:UInt8),(57:UInt8)])),bx:=[]:DRes}) (none)) (none)) (none):=by kernel_rfl
theorem ok_digA:FnOk Tryd.prog 14 dDig1:=by
 refine den_okF (env_ok (TOk.nil _)) (E:=eDigA) Tryd.func14 [] (by kernel_rfl) (none0) fun a b hp=>?_
 refine (q_digA a).trans ?_
 obtain ⟨h1,h2⟩:=bcond (show cond (ile 0 a) (ilt a 10) false=true from hp)
 have h1:=ile_of h1
 have h2:=ilt_of h2
 obtain ⟨m,rfl⟩:=Int.eq_ofNat_of_zero_le h1
 have hm:m<10:=by omega
 have:m=0∨m=1∨m=2∨m=3∨m=4∨m=5∨m=6∨m=7∨m=8∨m=9:=by omega
 rcases this with rfl | rfl | rfl | rfl | rfl | rfl | rfl | rfl | rfl | rfl<;>rfl
noncomputable def eDigB:Env:=env Tryd.prog [(14,dDig1)] [] []
theorem q_digB (n:Int):evFn eDigB 14 ((aOne (vInt .i64)).enc n) ([]) some =
 cond (ilt n (10:Int)) (cond (decide ((0:Int)≤IntKind.wrap .i64 (n+(1:Int))∧IntKind.wrap .i64 (n+(1:Int))≤(↑(10:Nat):Int))) (cond (decide ((0:Int)≤n∧n≤(↑(Int.toNat (IntKind.wrap .i64 (n+(1:Int)))):Int))) (some {v:=V.str (List.drop (Int.toNat n) (List.take (Int.toNat (IntKind.wrap .i64 (n+(1:Int)))) [(48:UInt8),(49:UInt8),(50:UInt8),(51:UInt8),(52:UInt8),(53:UInt8),(54:UInt8),(55:UInt8),(56:UInt8),(57:UInt8)])),bx:=[]:DRes}) (none)) (none)) (cond (bif ile (0:Int) (IntKind.wrap .i64 (Int.tdiv n (10:Int))) then ilt (IntKind.wrap .i64 (Int.tdiv n (10:Int))) (10:Int) else false) (cond (bif ile (0:Int) (Int.tmod n (10:Int)) then ilt (Int.tmod n (10:Int)) (10:Int) else false) (cond (Nat.ble (List.length (N.digN (Int.toNat (IntKind.wrap .i64 (Int.tdiv n (10:Int)))))+List.length (N.digN (Int.toNat (Int.tmod n (10:Int))))) 9223372036854775807) (some {v:=V.str (N.digN (Int.toNat (IntKind.wrap .i64 (Int.tdiv n (10:Int))))++N.digN (Int.toNat (Int.tmod n (10:Int)))),bx:=[]:DRes}) (none)) (none)) (none)):=by kernel_rfl
theorem ok_digB:FnOk Tryd.prog 14 dDig2:=by
 refine den_okF (env_ok ((TOk.nil _).cons ok_digA)) (E:=eDigB) Tryd.func14 [] (by kernel_rfl) (none0) fun a b hp=>?_
 refine (q_digB a).trans ?_
 obtain ⟨h1,h2⟩:=bcond (show cond (ile 0 a) (ilt a 100) false=true from hp)
 have h1:=ile_of h1
 have h2:=ilt_of h2
 obtain ⟨m,rfl⟩:=Int.eq_ofNat_of_zero_le h1
 by_cases hm:m<10
 ·have:m=0∨m=1∨m=2∨m=3∨m=4∨m=5∨m=6∨m=7∨m=8∨m=9:=by omega
  rcases this with rfl | rfl | rfl | rfl | rfl | rfl | rfl | rfl | rfl | rfl<;>rfl
 ·have e1:Int.tdiv (m:Int) 10=((m / 10:Nat):Int):=by
   rw [Int.tdiv_eq_ediv_of_nonneg (Int.natCast_nonneg _)]; norm_cast
  have e2:Int.tmod (m:Int) 10=((m % 10:Nat):Int):=by
   rw [Int.tmod_eq_emod_of_nonneg (Int.natCast_nonneg _)]; norm_cast
  have w:IntKind.wrap .i64 ((m / 10:Nat):Int)=((m / 10:Nat):Int):=wr_i64 (by omega) (by omega)
  have l1:=dig_len (m / 10)
  have l2:=dig_len (m % 10)
  have l3:=ble_t (show (N.digN (m / 10)).length+(N.digN (m % 10)).length≤9223372036854775807 by omega)
  rw [ilt_f (show (10:Int)≤(m:Int) by omega),e1,e2,w]
  simp only [Int.toNat_natCast,ile_t (Int.natCast_nonneg _),ilt_t (show ((m / 10:Nat):Int)<10 by omega),ilt_t (show ((m % 10:Nat):Int)<10 by omega),l3,cond_true,cond_false]
  rw [dig_app (by omega) (by omega)]
  try rfl
noncomputable def eDigC:Env:=env Tryd.prog [(14,dDig2)] [] []
theorem q_digC (n:Int):evFn eDigC 14 ((aOne (vInt .i64)).enc n) ([]) some =
 cond (ilt n (10:Int)) (cond (decide ((0:Int)≤IntKind.wrap .i64 (n+(1:Int))∧IntKind.wrap .i64 (n+(1:Int))≤(↑(10:Nat):Int))) (cond (decide ((0:Int)≤n∧n≤(↑(Int.toNat (IntKind.wrap .i64 (n+(1:Int)))):Int))) (some {v:=V.str (List.drop (Int.toNat n) (List.take (Int.toNat (IntKind.wrap .i64 (n+(1:Int)))) [(48:UInt8),(49:UInt8),(50:UInt8),(51:UInt8),(52:UInt8),(53:UInt8),(54:UInt8),(55:UInt8),(56:UInt8),(57:UInt8)])),bx:=[]:DRes}) (none)) (none)) (cond (bif ile (0:Int) (IntKind.wrap .i64 (Int.tdiv n (10:Int))) then ilt (IntKind.wrap .i64 (Int.tdiv n (10:Int))) (100:Int) else false) (cond (bif ile (0:Int) (Int.tmod n (10:Int)) then ilt (Int.tmod n (10:Int)) (100:Int) else false) (cond (Nat.ble (List.length (N.digN (Int.toNat (IntKind.wrap .i64 (Int.tdiv n (10:Int)))))+List.length (N.digN (Int.toNat (Int.tmod n (10:Int))))) 9223372036854775807) (some {v:=V.str (N.digN (Int.toNat (IntKind.wrap .i64 (Int.tdiv n (10:Int))))++N.digN (Int.toNat (Int.tmod n (10:Int)))),bx:=[]:DRes}) (none)) (none)) (none)):=by kernel_rfl
theorem ok_digC:FnOk Tryd.prog 14 dDig3:=by
 refine den_okF (env_ok ((TOk.nil _).cons ok_digB)) (E:=eDigC) Tryd.func14 [] (by kernel_rfl) (none0) fun a b hp=>?_
 refine (q_digC a).trans ?_
 obtain ⟨h1,h2⟩:=bcond (show cond (ile 0 a) (ilt a 256) false=true from hp)
 have h1:=ile_of h1
 have h2:=ilt_of h2
 obtain ⟨m,rfl⟩:=Int.eq_ofNat_of_zero_le h1
 by_cases hm:m<10
 ·have:m=0∨m=1∨m=2∨m=3∨m=4∨m=5∨m=6∨m=7∨m=8∨m=9:=by omega
  rcases this with rfl | rfl | rfl | rfl | rfl | rfl | rfl | rfl | rfl | rfl<;>rfl
 ·have e1:Int.tdiv (m:Int) 10=((m / 10:Nat):Int):=by
   rw [Int.tdiv_eq_ediv_of_nonneg (Int.natCast_nonneg _)]; norm_cast
  have e2:Int.tmod (m:Int) 10=((m % 10:Nat):Int):=by
   rw [Int.tmod_eq_emod_of_nonneg (Int.natCast_nonneg _)]; norm_cast
  have w:IntKind.wrap .i64 ((m / 10:Nat):Int)=((m / 10:Nat):Int):=wr_i64 (by omega) (by omega)
  have l1:=dig_len (m / 10)
  have l2:=dig_len (m % 10)
  have l3:=ble_t (show (N.digN (m / 10)).length+(N.digN (m % 10)).length≤9223372036854775807 by omega)
  rw [ilt_f (show (10:Int)≤(m:Int) by omega),e1,e2,w]
  simp only [Int.toNat_natCast,ile_t (Int.natCast_nonneg _),ilt_t (show ((m / 10:Nat):Int)<100 by omega),ilt_t (show ((m % 10:Nat):Int)<100 by omega),l3,cond_true,cond_false]
  rw [dig_app (by omega) (by omega)]
  try rfl
def okL (a:Label):Bool:=cond (cond (ile 0 a.level) (ile a.level 255) false) (cond (ile 0 a.set) (ilt a.set 4294967296) false) false
def dLText:Den:=den (aOne (vAgg cLabel)) bNil (oV vStr) (fun a _=>okL a) fun a _=>(N.text a,())
def schLText:SSch:={ fr:=[(1,.ptr 10000 0 0),(3,.str),(9,.int .i64)],tab:=[(10000,.var [.int .u8,.int .u32])] }
def gLText:List Leaf→(Ex→St→Option R)→Option R
 | [.s s3,.i i9,.i ix0,.i ix0_1],K=>cond (ile 0 i9) (cond (ile i9 32) (cond (ile 0 ix0_1) (cond (ilt ix0_1 4294967296) (cond (Nat.ble s3.length 1000) (K (.exit 0) { fr:=[(3,.str (s3++N.textLoop ix0_1 (32-i9).toNat i9))],tab:=[] }) none) none) none) none) none
 | _,_=>none
noncomputable def eLText:Env:=env Tryd.prog [(13,dItoa)] [(3,loopF schLText gLText)] [(3,[(0,[1,3,9]),(1,[3]),(1000,[2])])]
theorem q_lText (a:Label):evFn eLText 7 ((aOne (vAgg cLabel)).enc a) ([]) some =
 cond (bif ile (0:Int) (IntKind.wrap .i64 (Label.level a)) then ile (IntKind.wrap .i64 (Label.level a)) (255:Int) else false) (cond (ile (0:Int) (Label.set a)) (cond (ilt (Label.set a) (4294967296:Int)) (cond (Nat.ble (List.length (N.digN (Int.toNat (IntKind.wrap .i64 (Label.level a))))) 1000) (some {v:=V.str (N.digN (Int.toNat (IntKind.wrap .i64 (Label.level a)))++N.textLoop (Label.set a) 32 (0:Int)),bx:=[]:DRes}) (none)) (none)) (none)) (none):=by kernel_rfl
theorem q_lTextR (s3:Bytes) (i9:Int) (ix0:Int) (ix0_1:Int) (K:Ex→St→Option R):evRound eLText 7 3 { fr:=[(1,.ptr 10000 0 0 0),(3,.str s3),(9,.int .i64 i9)],tab:=[(10000,.var [.int .u8 ix0,.int .u32 ix0_1])] } K =
 cond (ilt i9 (32:Int)) (cond (decide (i9<(0:Int))) (none) (cond (ibits BinOp.and .u32 (shr .u32 ix0_1 i9) (1:Int)==(1:Int)) (cond (bif ile (0:Int) i9 then ile i9 (255:Int) else false) (cond (Nat.ble (1+List.length (N.digN (Int.toNat i9))) 9223372036854775807) (cond (Nat.ble (List.length s3+List.length ([(58:UInt8)]++N.digN (Int.toNat i9))) 9223372036854775807) (K Ex.normal {fr:=[(1,V.ptr 10000 0 0 0),(3,V.str (s3++([(58:UInt8)]++N.digN (Int.toNat i9)))),(9,V.int .i64 (IntKind.wrap .i64 (i9+(1:Int))))],tab:=[(10000,Box.var [V.int .u8 ix0,V.int .u32 ix0_1])]:St}) (none)) (none)) (none)) (K Ex.normal {fr:=[(1,V.ptr 10000 0 0 0),(3,V.str s3),(9,V.int .i64 (IntKind.wrap .i64 (i9+(1:Int))))],tab:=[(10000,Box.var [V.int .u8 ix0,V.int .u32 ix0_1])]:St}))) (K (Ex.exit 0) {fr:=[(3,V.str s3)],tab:=[]:St}):=by kernel_rfl
theorem ok_lText_3:RoundsOk eLText 7 3:=by
 refine rounds_of rfl fun l K q h=>?_
 unfold gLText at h
 split at h
 ·rename_i s3 i9 ix0 ix0_1
  have h1:=(cond_none h).1; replace h:=(cond_none h).2; have h2:=(cond_none h).1; replace h:=(cond_none h).2; have h3:=(cond_none h).1; replace h:=(cond_none h).2; have h4:=(cond_none h).1; replace h:=(cond_none h).2; have h5:=(cond_none h).1; replace h:=(cond_none h).2
  have h1:=ile_of h1
  have h2:=ile_of h2
  have h3:=ile_of h3
  have h4:=ilt_of h4
  have h5:=ble_of h5
  obtain ⟨S,hS⟩:=Int.eq_ofNat_of_zero_le h3
  have main:=loop_ind (E:=eLText) (f:=7) (id:=3) (σ:=Int × Bytes) (fun x=>{ fr:=[(1,.ptr 10000 0 0 0),(3,.str x.2),(9,.int .i64 x.1)],tab:=[(10000,.var [.int .u8 ix0,.int .u32 ix0_1])] })
   (fun x=>(0≤x.1∧x.1≤32)∧x.2.length≤1000+4*x.1.toNat) (fun x=>(32-x.1).toNat) (fun x K=>K (.exit 0) { fr:=[(3,.str (x.2++N.textLoop ix0_1 (32-x.1).toNat x.1))],tab:=[] }) (fun x hx=>?_) (i9,s3) ⟨⟨h1,h2⟩,by show s3.length≤1000+4*(i9).toNat; omega⟩ K q h
  ·exact main
  ·obtain ⟨k,acc⟩:=x
   obtain ⟨⟨hk,hx⟩,hl⟩:=hx
   have hl:acc.length≤1000+4*k.toNat:=hl
   have hk:0≤k:=hk
   have hx:k≤32:=hx
   have hn:=fun K=>q_lTextR acc k ix0 ix0_1 K
   cases hc:ilt k 32 with
   | false =>
    have hc':=ilt_nof hc
    have e0:(32-k).toNat=0:=by omega
    refine .inr ⟨.exit 0,{ fr:=[(3,.str acc)],tab:=[] },by simp,fun K=>?_,fun K=>?_⟩
    ·refine (hn K).trans ?_
     rw [hc]; rfl
    ·simp only [e0]
     show K _ { fr:=[(3,.str (acc++[]))],tab:=[] }=_
     rw [List.append_nil]
   | true =>
    have hc':=ilt_of hc
    obtain ⟨j,hj⟩:∃ j,(32-k).toNat=j+1:=⟨(32-k).toNat-1,by omega⟩
    have hj' : (32-(k+1)).toNat=j:=by omega
    have t2:IntKind.wrap .i64 (k+1)=k+1:=wr_i64 (by omega) (by omega)
    have hb:(ibits .and .u32 (shr .u32 ix0_1 k) 1==(1:Int))=N.refHas ⟨0,ix0_1⟩ k:=by
     obtain ⟨i,rfl⟩:=Int.eq_ofNat_of_zero_le hk
     rw [hS]
     exact has_and (by omega) (by omega) 0
    have er:N.textLoop ix0_1 (j+1) k=cond (N.refHas ⟨0,ix0_1⟩ k) (58::(N.digN k.toNat++N.textLoop ix0_1 j (k+1))) (N.textLoop ix0_1 j (k+1)):=rfl
    have dl:=dig_len k.toNat
    obtain ⟨i,rfl⟩:=Int.eq_ofNat_of_zero_le hk
    simp only [Int.toNat_natCast] at dl hl er
    have t1:decide (((i:Nat):Int)<0)=false:=decide_eq_false (by omega)
    have b1:=ile_t (show (0:Int)≤(i:Int) by omega)
    have b2:=ile_t (show (i:Int)≤255 by omega)
    have b3:=ilt_t (show (i:Int)<256 by omega)
    have b4:=ble_t (show 1+(N.digN i).length≤9223372036854775807 by omega)
    have b5:=ble_t (show acc.length+([58]++N.digN i:Bytes).length≤9223372036854775807 by rw [List.length_append,List.length_singleton]; omega)
    have b6:=ble_t (show acc.length+1≤9223372036854775807 by omega)
    have b7:=ble_t (show (acc++[58]:Bytes).length+(N.digN i).length≤9223372036854775807 by rw [List.length_append,List.length_singleton]; omega)
    have hh:N.refHas ⟨ix0,ix0_1⟩ (i:Int)=N.refHas ⟨0,ix0_1⟩ (i:Int):=rfl
    simp only [hc,t1,t2,hb,hh,b1,b2,b3,b4,b5,b6,b7,Int.toNat_natCast,cond_true,cond_false] at hn
    refine .inl ⟨((i:Int)+1,acc++cond (N.refHas ⟨0,ix0_1⟩ (i:Int)) (58::N.digN i) []),⟨⟨by show (0:Int)≤(i:Int)+1; omega,by show (i:Int)+1≤32; omega⟩,?_⟩,by simp only; omega,fun K=>?_,fun K=>?_⟩
    ·simp only [List.length_append]
     cases N.refHas ⟨0,ix0_1⟩ (i:Int)<;>simp<;>omega
    ·refine (hn K).trans ?_
     cases N.refHas ⟨0,ix0_1⟩ (i:Int) with
     | true=>simp only [cond_true,List.append_assoc]; rfl
     | false=>simp only [cond_false,List.append_nil]
    ·simp only [hj',hj,er]
     cases N.refHas ⟨0,ix0_1⟩ (i:Int) with
     | true=>simp only [cond_true,List.append_assoc,List.cons_append]
     | false=>simp only [cond_false,List.append_nil]
 ·cases h
theorem ok_lText:FnOk Tryd.prog 7 dLText:=by
 refine den_okF (env_ok ((TOk.nil _).cons ok_itoa)) (E:=eLText) Tryd.func7 [3] (by kernel_rfl) (one1 ok_lText_3) fun a b hp=>?_
 obtain ⟨h1,h2⟩:=bcond (show cond (cond (ile 0 a.level) (ile a.level 255) false) (cond (ile 0 a.set) (ilt a.set 4294967296) false) false=true from hp)
 obtain ⟨h1,h3⟩:=bcond h1
 obtain ⟨h2,h4⟩:=bcond h2
 have h1':=ile_of h1
 have h3':=ile_of h3
 refine (q_lText a).trans ?_
 have w:IntKind.wrap .i64 a.level=a.level:=wr_i64 (by omega) (by omega)
 have dl:=dig_len a.level.toNat
 have b1:=ilt_t (show a.level<256 by omega)
 have b2:=ble_t (show (N.digN a.level.toNat).length≤1000 by omega)
 simp only [w,h1,h2,h3,h4,b1,b2,cond_true]
 try rfl
def schRText3:SSch:={ fr:=[(1,.ptr 10000 0 0),(3,.str),(4,.int .i64)],tab:=[(10000,.var [.int .u8,.int .u32])] }
def gRText3:List Leaf→(Ex→St→Option R)→Option R
 | [.s s3,.i i4,.i ix0,.i ix0_1],K=>cond (ile 0 i4) (cond (ile i4 32) (cond (ile 0 ix0_1) (cond (ilt ix0_1 4294967296) (cond (Nat.ble s3.length 1000) (K (.exit 0) { fr:=[(3,.str (s3++N.textLoop ix0_1 (32-i4).toNat i4))],tab:=[] }) none) none) none) none) none
 | _,_=>none
noncomputable def eRText3:Env:=env Tryd.prog [(15,dHas),(14,dDig3)] [(3,loopF schRText3 gRText3)] [(3,[(0,[1,3,4]),(1,[3]),(1000,[2])])]
theorem q_rText3 (a:Label):evFn eRText3 8 ((aOne (vAgg cLabel)).enc a) ([]) some =
 cond (bif ile (0:Int) (IntKind.wrap .i64 (Label.level a)) then ilt (IntKind.wrap .i64 (Label.level a)) (256:Int) else false) (cond (ile (0:Int) (Label.set a)) (cond (ilt (Label.set a) (4294967296:Int)) (cond (Nat.ble (List.length (N.digN (Int.toNat (IntKind.wrap .i64 (Label.level a))))) 1000) (some {v:=V.str (N.digN (Int.toNat (IntKind.wrap .i64 (Label.level a)))++N.textLoop (Label.set a) 32 (0:Int)),bx:=[]:DRes}) (none)) (none)) (none)) (none):=by kernel_rfl
theorem q_rText3R (s3:Bytes) (i4:Int) (ix0:Int) (ix0_1:Int) (K:Ex→St→Option R):evRound eRText3 8 3 { fr:=[(1,.ptr 10000 0 0 0),(3,.str s3),(4,.int .i64 i4)],tab:=[(10000,.var [.int .u8 ix0,.int .u32 ix0_1])] } K =
 cond (ilt i4 (32:Int)) (cond (ile (0:Int) i4) (cond (N.refHas {level:=ix0,set:=ix0_1:Label} i4) (cond (Nat.ble (List.length s3+1) 9223372036854775807) (cond (bif ile (0:Int) i4 then ilt i4 (256:Int) else false) (cond (Nat.ble (List.length (s3++[(58:UInt8)])+List.length (N.digN (Int.toNat i4))) 9223372036854775807) (K Ex.normal {fr:=[(1,V.ptr 10000 0 0 0),(3,V.str (s3++[(58:UInt8)]++N.digN (Int.toNat i4))),(4,V.int .i64 (IntKind.wrap .i64 (i4+(1:Int))))],tab:=[(10000,Box.var [V.int .u8 ix0,V.int .u32 ix0_1])]:St}) (none)) (none)) (none)) (K Ex.normal {fr:=[(1,V.ptr 10000 0 0 0),(3,V.str s3),(4,V.int .i64 (IntKind.wrap .i64 (i4+(1:Int))))],tab:=[(10000,Box.var [V.int .u8 ix0,V.int .u32 ix0_1])]:St})) (none)) (K (Ex.exit 0) {fr:=[(3,V.str s3)],tab:=[]:St}):=by kernel_rfl
theorem ok_rText3_3:RoundsOk eRText3 8 3:=by
 refine rounds_of rfl fun l K q h=>?_
 unfold gRText3 at h
 split at h
 ·rename_i s3 i4 ix0 ix0_1
  have h1:=(cond_none h).1; replace h:=(cond_none h).2; have h2:=(cond_none h).1; replace h:=(cond_none h).2; have h3:=(cond_none h).1; replace h:=(cond_none h).2; have h4:=(cond_none h).1; replace h:=(cond_none h).2; have h5:=(cond_none h).1; replace h:=(cond_none h).2
  have h1:=ile_of h1
  have h2:=ile_of h2
  have h3:=ile_of h3
  have h4:=ilt_of h4
  have h5:=ble_of h5
  obtain ⟨S,hS⟩:=Int.eq_ofNat_of_zero_le h3
  have main:=loop_ind (E:=eRText3) (f:=8) (id:=3) (σ:=Int × Bytes) (fun x=>{ fr:=[(1,.ptr 10000 0 0 0),(3,.str x.2),(4,.int .i64 x.1)],tab:=[(10000,.var [.int .u8 ix0,.int .u32 ix0_1])] })
   (fun x=>(0≤x.1∧x.1≤32)∧x.2.length≤1000+4*x.1.toNat) (fun x=>(32-x.1).toNat) (fun x K=>K (.exit 0) { fr:=[(3,.str (x.2++N.textLoop ix0_1 (32-x.1).toNat x.1))],tab:=[] }) (fun x hx=>?_) (i4,s3) ⟨⟨h1,h2⟩,by show s3.length≤1000+4*(i4).toNat; omega⟩ K q h
  ·exact main
  ·obtain ⟨k,acc⟩:=x
   obtain ⟨⟨hk,hx⟩,hl⟩:=hx
   have hl:acc.length≤1000+4*k.toNat:=hl
   have hk:0≤k:=hk
   have hx:k≤32:=hx
   have hn:=fun K=>q_rText3R acc k ix0 ix0_1 K
   cases hc:ilt k 32 with
   | false =>
    have hc':=ilt_nof hc
    have e0:(32-k).toNat=0:=by omega
    refine .inr ⟨.exit 0,{ fr:=[(3,.str acc)],tab:=[] },by simp,fun K=>?_,fun K=>?_⟩
    ·refine (hn K).trans ?_
     rw [hc]; rfl
    ·simp only [e0]
     show K _ { fr:=[(3,.str (acc++[]))],tab:=[] }=_
     rw [List.append_nil]
   | true =>
    have hc':=ilt_of hc
    obtain ⟨j,hj⟩:∃ j,(32-k).toNat=j+1:=⟨(32-k).toNat-1,by omega⟩
    have hj' : (32-(k+1)).toNat=j:=by omega
    have t2:IntKind.wrap .i64 (k+1)=k+1:=wr_i64 (by omega) (by omega)
    have er:N.textLoop ix0_1 (j+1) k=cond (N.refHas ⟨0,ix0_1⟩ k) (58::(N.digN k.toNat++N.textLoop ix0_1 j (k+1))) (N.textLoop ix0_1 j (k+1)):=rfl
    have dl:=dig_len k.toNat
    obtain ⟨i,rfl⟩:=Int.eq_ofNat_of_zero_le hk
    simp only [Int.toNat_natCast] at dl hl er
    have t1:decide (((i:Nat):Int)<0)=false:=decide_eq_false (by omega)
    have b1:=ile_t (show (0:Int)≤(i:Int) by omega)
    have b2:=ile_t (show (i:Int)≤255 by omega)
    have b3:=ilt_t (show (i:Int)<256 by omega)
    have b4:=ble_t (show 1+(N.digN i).length≤9223372036854775807 by omega)
    have b5:=ble_t (show acc.length+([58]++N.digN i:Bytes).length≤9223372036854775807 by rw [List.length_append,List.length_singleton]; omega)
    have b6:=ble_t (show acc.length+1≤9223372036854775807 by omega)
    have b7:=ble_t (show (acc++[58]:Bytes).length+(N.digN i).length≤9223372036854775807 by rw [List.length_append,List.length_singleton]; omega)
    have hh:N.refHas ⟨ix0,ix0_1⟩ (i:Int)=N.refHas ⟨0,ix0_1⟩ (i:Int):=rfl
    simp only [hc,t1,t2,hh,b1,b2,b3,b4,b5,b6,b7,Int.toNat_natCast,cond_true,cond_false] at hn
    refine .inl ⟨((i:Int)+1,acc++cond (N.refHas ⟨0,ix0_1⟩ (i:Int)) (58::N.digN i) []),⟨⟨by show (0:Int)≤(i:Int)+1; omega,by show (i:Int)+1≤32; omega⟩,?_⟩,by simp only; omega,fun K=>?_,fun K=>?_⟩
    ·simp only [List.length_append]
     cases N.refHas ⟨0,ix0_1⟩ (i:Int)<;>simp<;>omega
    ·refine (hn K).trans ?_
     cases N.refHas ⟨0,ix0_1⟩ (i:Int) with
     | true=>simp only [cond_true,List.append_assoc]; rfl
     | false=>simp only [cond_false,List.append_nil]
    ·simp only [hj',hj,er]
     cases N.refHas ⟨0,ix0_1⟩ (i:Int) with
     | true=>simp only [cond_true,List.append_assoc,List.cons_append]
     | false=>simp only [cond_false,List.append_nil]
 ·cases h
theorem ok_rText3:FnOk Tryd.prog 8 dLText:=by
 refine den_okF (env_ok (((TOk.nil _).cons ok_digC).cons ok_has)) (E:=eRText3) Tryd.func8 [3] (by kernel_rfl) (one1 ok_rText3_3) fun a b hp=>?_
 obtain ⟨h1,h2⟩:=bcond (show cond (cond (ile 0 a.level) (ile a.level 255) false) (cond (ile 0 a.set) (ilt a.set 4294967296) false) false=true from hp)
 obtain ⟨h1,h3⟩:=bcond h1
 obtain ⟨h2,h4⟩:=bcond h2
 have h1':=ile_of h1
 have h3':=ile_of h3
 refine (q_rText3 a).trans ?_
 have w:IntKind.wrap .i64 a.level=a.level:=wr_i64 (by omega) (by omega)
 have dl:=dig_len a.level.toNat
 have b1:=ilt_t (show a.level<256 by omega)
 have b2:=ble_t (show (N.digN a.level.toNat).length≤1000 by omega)
 simp only [w,h1,h2,h3,h4,b1,b2,cond_true]
 try rfl
end Go.Ev

/- Labels are read,by the document: lemmas,no condition. -/
namespace Go.Ev
open Go Go.Proofs
set_option maxRecDepth 100000
-- FOLD
def dRNumber:Den:=den (aCons vStr (aCons (vInt .i64) (aOne (vInt .i64)))) bNil (oTup (aCons (vInt .i64) (aCons (vInt .i64) (aOne (vInt .i64))))) (fun a _=>cond (cond (ile 0 a.2.1) (ile a.2.1 a.1.length) false) (cond (cond (ile 0 a.2.2) (ile a.2.2 31) false) (Nat.ble a.1.length 1000000) false) false) fun a _=>(N.rNumber a.1 a.2.1 a.2.2,())
theorem numLoop_shift (most:Int):∀ (l:Bytes) (k n:Int),N.numLoop most l k n=(k+(N.numLoop most l 0 n).1,(N.numLoop most l 0 n).2)
 | [],k,n=>by show (k,n)=(k+0,n); rw [Int.add_zero]
 | c::r,k,n=>by
  show cond (N.isDigit c) (N.numLoop most r (k+1) _) (k,n)=(k+(cond (N.isDigit c) (N.numLoop most r (0+1) _) (0,n)).1,(cond (N.isDigit c) (N.numLoop most r (0+1) _) (0,n)).2)
  cases N.isDigit c with
  | false=>simp
  | true =>
   simp only [cond_true]
   rw [numLoop_shift most r (k+1),numLoop_shift most r (0+1)]
   simp only [Prod.mk.injEq,and_true]
   omega
def schRNumber:SSch:={ fr:=[(0,.str),(1,.int .i64),(2,.int .i64),(9,.int .i64),(10,.int .i64)],tab:=[] }
def gRNumber:List Leaf→(Ex→St→Option R)→Option R
 | [.s s0,.i i1,.i i2,.i i9,.i i10],K=>cond (ile 0 i9) (cond (ile i9 s0.length) (cond (ile 0 i10) (cond (ile i10 400) (cond (ile i2 31) (cond (Nat.ble s0.length 1000000) (cond (ile 0 i2) (K (.exit 0) { fr:=[(0,.str s0),(1,.int .i64 i1),(2,.int .i64 i2),(9,.int .i64 (N.numLoop i2 (s0.drop (i9).toNat) i9 i10).1),(10,.int .i64 (N.numLoop i2 (s0.drop (i9).toNat) i9 i10).2)],tab:=[] }) none) none) none) none) none) none) none
 | _,_=>none
noncomputable def eRNumber:Env:=env Tryd.prog [] [(3,loopF schRNumber gRNumber)] [(3,[(0,[0,1,2,9,10]),(1,[0,1,2,9,10]),(1000,[6,7,8])])]
theorem q_rNumber_ (s:Bytes) (a most:Int):evFn eRNumber 12 ((aCons vStr (aCons (vInt .i64) (aOne (vInt .i64)))).enc (s,a,most)) ([]) some =(
 let z1:=(N.numLoop most (List.drop (Int.toNat a) s) a (0:Int));let z3:=(some {v:=V.tup [V.int .i64 a,V.int .i64 (0:Int),V.int .i64 (4:Int)],bx:=[]:DRes});let z2:=(cond (ilt most (Prod.snd z1)) (some {v:=V.tup [V.int .i64 a,V.int .i64 (0:Int),V.int .i64 (7:Int)],bx:=[]:DRes}) (some {v:=V.tup [V.int .i64 (Prod.fst z1),V.int .i64 (Prod.snd z1),V.int .i64 (0:Int)],bx:=[]:DRes}));let z0:=(cond (Prod.fst z1==a) z3 (cond (ilt (IntKind.wrap .i64 (a+(1:Int))) (Prod.fst z1)) (cond (decide ((0:Int)≤a∧a<(↑(List.length s):Int))) (cond ((↑(UInt8.toNat (List.getD s (Int.toNat a) (0:UInt8))):Int)==(48:Int)) z3 z2) (none)) z2));cond (ile (0:Int) a) (cond (ile a (↑(List.length s):Int)) (cond (ile most (31:Int)) (cond (Nat.ble (List.length s) 1000000) (cond (ile (0:Int) most) (cond (Prod.fst z1==a) (cond (ile (↑(List.length s):Int) a) (some {v:=V.tup [V.int .i64 a,V.int .i64 (0:Int),V.int .i64 (3:Int)],bx:=[]:DRes}) z0) z0) (none)) (none)) (none)) (none)) (none)):=by kernel_rfl
theorem q_rNumber (s:Bytes) (a most:Int):type_of% (by have h:=q_rNumber_ s a most; dsimp only at h; exact h):=by
 have h:=q_rNumber_ s a most
 dsimp only at h
 exact h
theorem q_rNumberR (s0:Bytes) (i1:Int) (i2:Int) (i9:Int) (i10:Int) (K:Ex→St→Option R):evRound eRNumber 12 3 { fr:=[(0,.str s0),(1,.int .i64 i1),(2,.int .i64 i2),(9,.int .i64 i9),(10,.int .i64 i10)],tab:=[] } K =
 cond (ilt i9 (↑(List.length s0):Int)) (cond (decide ((0:Int)≤i9∧i9<(↑(List.length s0):Int))) (cond (ile (48:Int) (↑(UInt8.toNat (List.getD s0 (Int.toNat i9) (0:UInt8))):Int)) (cond (decide ((0:Int)≤i9∧i9<(↑(List.length s0):Int))) (cond (ile (↑(UInt8.toNat (List.getD s0 (Int.toNat i9) (0:UInt8))):Int) (57:Int)) (cond (ile i10 i2) (cond (decide ((0:Int)≤i9∧i9<(↑(List.length s0):Int))) (K Ex.normal {fr:=[(0,V.str s0),(1,V.int .i64 i1),(2,V.int .i64 i2),(9,V.int .i64 (IntKind.wrap .i64 (i9+(1:Int)))),(10,V.int .i64 (IntKind.wrap .i64 (IntKind.wrap .i64 (IntKind.wrap .i64 (i10*(10:Int))+IntKind.wrap .i64 (↑(UInt8.toNat (List.getD s0 (Int.toNat i9) (0:UInt8))):Int))-(48:Int))))],tab:=[]:St}) (none)) (K Ex.normal {fr:=[(0,V.str s0),(1,V.int .i64 i1),(2,V.int .i64 i2),(9,V.int .i64 (IntKind.wrap .i64 (i9+(1:Int)))),(10,V.int .i64 i10)],tab:=[]:St})) (K (Ex.exit 0) {fr:=[(0,V.str s0),(1,V.int .i64 i1),(2,V.int .i64 i2),(9,V.int .i64 i9),(10,V.int .i64 i10)],tab:=[]:St})) (none)) (K (Ex.exit 0) {fr:=[(0,V.str s0),(1,V.int .i64 i1),(2,V.int .i64 i2),(9,V.int .i64 i9),(10,V.int .i64 i10)],tab:=[]:St})) (none)) (K (Ex.exit 0) {fr:=[(0,V.str s0),(1,V.int .i64 i1),(2,V.int .i64 i2),(9,V.int .i64 i9),(10,V.int .i64 i10)],tab:=[]:St}):=by kernel_rfl
theorem ok_rNumber_3:RoundsOk eRNumber 12 3:=by
 refine rounds_of rfl fun l K q h=>?_
 unfold gRNumber at h
 split at h
 ·rename_i s0 i1 i2 i9 i10
  have h1:=(cond_none h).1; replace h:=(cond_none h).2; have h2:=(cond_none h).1; replace h:=(cond_none h).2; have h3:=(cond_none h).1; replace h:=(cond_none h).2; have h4:=(cond_none h).1; replace h:=(cond_none h).2; have h5:=(cond_none h).1; replace h:=(cond_none h).2; have h6:=(cond_none h).1; replace h:=(cond_none h).2; have h7:=(cond_none h).1; replace h:=(cond_none h).2
  have h1:=ile_of h1
  have h2:=ile_of h2
  have h3:=ile_of h3
  have h4:=ile_of h4
  have h5:=ile_of h5
  have h6:s0.length≤1000000:=ble_of h6
  have h7:=ile_of h7
  have main:=loop_ind (E:=eRNumber) (f:=12) (id:=3) (σ:=Int × Int) (fun x=>{ fr:=[(0,.str s0),(1,.int .i64 i1),(2,.int .i64 i2),(9,.int .i64 x.1),(10,.int .i64 x.2)],tab:=[] })
   (fun x=>(0≤x.1∧x.1≤s0.length)∧0≤x.2∧x.2≤400) (fun x=>(s0.length-x.1).toNat)
   (fun x K=>K (.exit 0) { fr:=[(0,.str s0),(1,.int .i64 i1),(2,.int .i64 i2),(9,.int .i64 (N.numLoop i2 (s0.drop x.1.toNat) x.1 x.2).1),(10,.int .i64 (N.numLoop i2 (s0.drop x.1.toNat) x.1 x.2).2)],tab:=[] })
   (fun x hx=>?_) (i9,i10) ⟨⟨h1,h2⟩,h3,h4⟩ K q h
  ·exact main
  ·obtain ⟨e,n⟩:=x
   obtain ⟨⟨he,hel⟩,hn0,hn1⟩:=hx
   have he:0≤e:=he
   have hel:e≤s0.length:=hel
   have hn0:0≤n:=hn0
   have hn1:n≤400:=hn1
   have hn:=fun K=>q_rNumberR s0 i1 i2 e n K
   obtain ⟨k,rfl⟩:=Int.eq_ofNat_of_zero_le he
   simp only [Int.toNat_natCast] at hn ⊢
   have stop:N.numLoop i2 (s0.drop k) k n=((k:Int),n)→(∀ K,evRound eRNumber 12 3 { fr:=[(0,.str s0),(1,.int .i64 i1),(2,.int .i64 i2),(9,.int .i64 (k:Int)),(10,.int .i64 n)],tab:=[] } K =
     K (.exit 0) { fr:=[(0,.str s0),(1,.int .i64 i1),(2,.int .i64 i2),(9,.int .i64 (k:Int)),(10,.int .i64 n)],tab:=[] })→∃ e S,e ≠ .normal∧(∀ K,evRound eRNumber 12 3 { fr:=[(0,.str s0),(1,.int .i64 i1),(2,.int .i64 i2),(9,.int .i64 (k:Int)),(10,.int .i64 n)],tab:=[] } K=K e S) ∧
     ∀ K:Ex→St→Option R,K (.exit 0) { fr:=[(0,.str s0),(1,.int .i64 i1),(2,.int .i64 i2),(9,.int .i64 (N.numLoop i2 (s0.drop k) k n).1),(10,.int .i64 (N.numLoop i2 (s0.drop k) k n).2)],tab:=[] }=K e S:=fun e1 e2 =>
    ⟨.exit 0,_,by simp,e2,fun K=>by rw [e1]⟩
   by_cases hk:k<s0.length
   ·have hd:s0.drop k=s0.getD k 0::s0.drop (k+1):=by
     rw [List.getD_eq_getElem?_getD,List.getElem?_eq_getElem hk,Option.getD_some]
     exact List.drop_eq_getElem_cons hk
    have t1:ilt (k:Int) s0.length=true:=ilt_t (by omega)
    have t2:decide ((0:Int)≤(k:Int)∧(k:Int)<s0.length)=true:=decide_eq_true (by omega)
    have t3:IntKind.wrap .i64 ((k:Int)+1)=(k:Int)+1:=wr_i64 (by omega) (by omega)
    rw [hd] at stop ⊢
    have hb:(s0.getD k 0).toNat<256:=UInt8.toNat_lt _
    generalize s0.getD k 0=c at *
    have er:N.numLoop i2 (c::s0.drop (k+1)) k n=cond (N.isDigit c) (N.numLoop i2 (s0.drop (k+1)) (k+1) (cond (ile n i2) (10*n+(c.toNat-48)) n)) ((k:Int),n):=rfl
    simp only [t1,t2,t3,cond_true] at hn
    cases c1:ile (48:Int) (c.toNat:Int) with
    | false =>
     have c1':=ile_nof c1
     refine .inr (stop ?_ fun K=>?_)
     ·rw [er,show N.isDigit c=false from by unfold N.isDigit; rw [ilt_t c1']; rfl]; rfl
     ·rw [hn,c1]; rfl
    | true =>
     have c1':=ile_of c1
     cases c2:ile (c.toNat:Int) 57 with
     | false =>
      have c2':=ile_nof c2
      refine .inr (stop ?_ fun K=>?_)
      ·rw [er,show N.isDigit c=false from by unfold N.isDigit; rw [ilt_f c1',ilt_t c2']; rfl]; rfl
      ·rw [hn,c1,c2]; rfl
     | true =>
      have c2':=ile_of c2
      have hd1:N.isDigit c=true:=by unfold N.isDigit; rw [ilt_f c1',ilt_f c2']; rfl
      have w:IntKind.wrap .i64 (IntKind.wrap .i64 (IntKind.wrap .i64 (n*10)+IntKind.wrap .i64 (c.toNat:Int))-48)=10*n+((c.toNat:Int)-48):=by
       rw [wr_i64 (n:=n*10) (by omega) (by omega),wr_i64 (n:=(c.toNat:Int)) (by omega) (by omega),wr_i64 (n:=n*10+(c.toNat:Int)) (by omega) (by omega),wr_i64 (by omega) (by omega)]
       omega
      refine .inl ⟨((k:Int)+1,cond (ile n i2) (10*n+((c.toNat:Int)-48)) n),⟨⟨by show (0:Int)≤(k:Int)+1; omega,by show (k:Int)+1≤s0.length; omega⟩,?_⟩,by simp only; omega,fun K=>?_,fun K=>?_⟩
      ·cases hc:ile n i2 with
       | true =>
        have:=ile_of hc
        exact ⟨by show (0:Int)≤10*n+((c.toNat:Int)-48); omega,by show 10*n+((c.toNat:Int)-48)≤400; omega⟩
       | false=>exact ⟨hn0,hn1⟩
      ·rw [hn,c1,c2,w]
       cases ile n i2<;>rfl
      ·have ek:((k:Int)+1).toNat=k+1:=by omega
       simp only [er,hd1,cond_true,ek]
   ·obtain rfl:k=s0.length:=by omega
    refine .inr (stop ?_ fun K=>?_)
    ·rw [List.drop_length]; rfl
    ·rw [hn,ilt_f (by omega)]; rfl
 ·cases h
theorem ok_rNumber:FnOk Tryd.prog 12 dRNumber:=by
 refine den_okF (env_ok (TOk.nil _)) (E:=eRNumber) Tryd.func12 [3] (by kernel_rfl) (one1 ok_rNumber_3) fun a b hp=>?_
 obtain ⟨s,p,most⟩:=a
 obtain ⟨ha,hp⟩:=bcond (show cond (cond (ile 0 p) (ile p s.length) false) (cond (cond (ile 0 most) (ile most 31) false) (Nat.ble s.length 1000000) false) false=true from hp)
 obtain ⟨ha0,ha1⟩:=bcond ha
 obtain ⟨hm,hl⟩:=bcond hp
 obtain ⟨hm0,hm1⟩:=bcond hm
 have a0:=ile_of ha0
 have a1:=ile_of ha1
 have l1:s.length≤1000000:=ble_of hl
 refine (q_rNumber s p most).trans ?_
 have w:IntKind.wrap .i64 (p+1)=p+1:=wr_i64 (by omega) (by omega)
 have hb:=N.numLoop_bounds most (s.drop p.toNat) 0 0
 have hdl:(s.drop p.toNat).length=s.length-p.toNat:=List.length_drop ..
 have hsh:=numLoop_shift most (s.drop p.toNat) p 0
 rw [hsh,w]
 show _=some (⟨.tup [.int .i64 (N.rNumber s p most).1,.int .i64 (N.rNumber s p most).2.1,.int .i64 (N.rNumber s p most).2.2],[],[]⟩:DRes)
 unfold N.rNumber
 generalize N.numLoop most (s.drop p.toNat) 0 0=z at *
 simp only [ha0,ha1,hm0,hm1,hl,cond_true]
 cases c1:z.1==0 with
 | true =>
  have e:z.1=0:=ieq_of c1
  rw [e,Int.add_zero,ieq_t rfl]
  simp only [cond_true]
  cases ile (s.length:Int) p<;>rfl
 | false =>
  have hz:z.1 ≠ 0:=fun e=>by rw [e] at c1; cases c1
  rw [ieq_f (show p+z.1 ≠ p by omega)]
  have d1:decide ((0:Int)≤p∧p<s.length)=true:=decide_eq_true (by omega)
  rw [d1]
  simp only [cond_false,cond_true]
  cases c2:ilt 1 z.1 with
  | true =>
   rw [ilt_t (show p+1<p+z.1 by have:=ilt_of c2; omega)]
   simp only [cond_true]
   cases ((s.getD p.toNat 0).toNat:Int)==48<;>cases ilt most z.2<;>rfl
  | false =>
   rw [ilt_f (show p+z.1≤p+1 by have:=ilt_nof c2; omega)]
   simp only [cond_false]
   cases ilt most z.2<;>rfl
end Go.Ev

/- Labels are read,by the document: lemmas,no condition. -/
namespace Go.Ev
open Go Go.Proofs
set_option maxRecDepth 100000
-- FOLD
def dRParse3:Den:=den (aOne vStr) bNil (oTup (aCons (vAgg cLabel) (aOne (vInt .i64)))) (fun s _=>Nat.ble s.length 1000000) fun s _=>(N.rParse s,())
theorem rNumber_spec (s:Bytes) (a most:Int) (h0:0≤a) (h1:a≤s.length):0≤(N.rNumber s a most).2.1∧((N.rNumber s a most).2.2=0→a<(N.rNumber s a most).1∧(N.rNumber s a most).1≤s.length∧(N.rNumber s a most).2.1≤most):=by
 have hb:=N.numLoop_bounds most (s.drop a.toNat) 0 0
 have hz:=N.numLoop_nonneg most (s.drop a.toNat) 0 0 (Int.le_refl 0)
 have hl:(s.drop a.toNat).length=s.length-a.toNat:=List.length_drop ..
 unfold N.rNumber
 generalize N.numLoop most (s.drop a.toNat) 0 0=z at *
 cases c1:z.1==0 with
 | true=>cases ile (s.length:Int) a<;>exact ⟨Int.le_refl 0,fun h=>by simp at h⟩
 | false =>
  have hz1:z.1 ≠ 0:=fun e=>by rw [e] at c1; cases c1
  cases cond (ilt 1 z.1) ((s.getD a.toNat 0).toNat==(48:Int)) false with
  | true=>exact ⟨Int.le_refl 0,fun h=>by simp at h⟩
  | false =>
   cases c3:ilt most z.2 with
   | true=>exact ⟨Int.le_refl 0,fun h=>by simp at h⟩
   | false =>
    have:=ilt_nof c3
    exact ⟨hz,fun _=>⟨by show a<a+z.1; omega,by show a+z.1≤s.length; omega,this⟩⟩
theorem rLoop_err (s:Bytes):∀ (f:Nat) (a:Int) (lab:Label) (last:Int),((N.rParseLoop s f a lab last).2 != 0)=true→(N.rParseLoop s f a lab last).1=⟨0,0⟩
 | 0,a,lab,last,h=>by cases h
 | f+1,a,lab,last,h=>by
  have e:N.rParseLoop s (f+1) a lab last=cond (ilt a s.length) (cond (((s.getD a.toNat 0).toNat:Int) != 58) (⟨0,0⟩,4) (cond ((N.rNumber s (a+1) 31).2.2 != 0) (⟨0,0⟩,(N.rNumber s (a+1) 31).2.2)
    (cond (ile (N.rNumber s (a+1) 31).2.1 last) (⟨0,0⟩,4) (N.rParseLoop s f (N.rNumber s (a+1) 31).1 ⟨lab.level,IntKind.wrap .u32 (lab.set+shl .u32 1 (N.rNumber s (a+1) 31).2.1)⟩ (N.rNumber s (a+1) 31).2.1)))) (lab,0):=rfl
  rw [e] at h ⊢
  cases c0:ilt a s.length with
  | false=>rw [c0] at h; cases h
  | true =>
   cases c1:((s.getD a.toNat 0).toNat:Int) != 58 with
   | true=>rfl
   | false =>
    cases c2:(N.rNumber s (a+1) 31).2.2 != 0 with
    | true=>rfl
    | false =>
     cases c3:ile (N.rNumber s (a+1) 31).2.1 last with
     | true=>rfl
     | false =>
      rw [c0,c1,c2,c3] at h
      exact rLoop_err s f _ _ _ h
def schRParse3:SSch:={ fr:=[(0,.str),(2,.ptr 10000 0 0),(4,.int .i64),(7,.ptr 10001 0 0),(8,.int .i64)],tab:=[(10000,.var [.int .u8,.int .u32]),(10001,.var [.int .u8,.int .u32])] }
def gRParse3:List Leaf→(Ex→St→Option R)→Option R
 | [.s s0,.i i4,.i i8,.i ix0,.i ix0_1,.i ix1,.i ix1_1],K=>cond (ile 0 i4) (cond (Nat.ble s0.length 1000000) (cond ((N.rParseLoop s0 s0.length i4 ⟨ix1,ix1_1⟩ i8).2 != 0) (K .ret { fr:=[(2,.ptr 10000 0 0 0),(3,.int .i64 (N.rParseLoop s0 s0.length i4 ⟨ix1,ix1_1⟩ i8).2)],tab:=[(10000,.var [.int .u8 0,.int .u32 0])] }) (K (.exit 0) { fr:=[(2,.ptr 10000 0 0 0),(7,.ptr 10001 0 0 0)],tab:=[(10000,.var [.int .u8 ix0,.int .u32 ix0_1]),(10001,.var [.int .u8 (N.rParseLoop s0 s0.length i4 ⟨ix1,ix1_1⟩ i8).1.level,.int .u32 (N.rParseLoop s0 s0.length i4 ⟨ix1,ix1_1⟩ i8).1.set])] })) none) none
 | _,_=>none
noncomputable def eRParse3:Env:=env Tryd.prog [(12,dRNumber)] [(6,loopF schRParse3 gRParse3)] [(6,[(0,[0,2,4,7,8]),(1,[2,7]),(1000,[2,3])])]
theorem q_rParse3 (s:Bytes):evFn eRParse3 6 ((aOne vStr).enc s) ([]) some =
 cond (Nat.ble (List.length s) 1000000) (cond (Prod.snd (Prod.snd (N.rNumber s (0:Int) (15:Int))) != (0:Int)) (some {v:=V.tup [V.agg [V.int .u8 (0:Int),V.int .u32 (0:Int)],V.int .i64 (Prod.snd (Prod.snd (N.rNumber s (0:Int) (15:Int))))],bx:=[]:DRes}) (cond (ile (0:Int) (Prod.fst (N.rNumber s (0:Int) (15:Int)))) (cond (Nat.ble (List.length s) 1000000) (cond (Prod.snd (N.rParseLoop s (List.length s) (Prod.fst (N.rNumber s (0:Int) (15:Int))) {level:=IntKind.wrap .u8 (Prod.fst (Prod.snd (N.rNumber s (0:Int) (15:Int)))),set:=(0:Int):Label} (-1:Int)) != (0:Int)) (some {v:=V.tup [V.agg [V.int .u8 (0:Int),V.int .u32 (0:Int)],V.int .i64 (Prod.snd (N.rParseLoop s (List.length s) (Prod.fst (N.rNumber s (0:Int) (15:Int))) {level:=IntKind.wrap .u8 (Prod.fst (Prod.snd (N.rNumber s (0:Int) (15:Int)))),set:=(0:Int):Label} (-1:Int)))],bx:=[]:DRes}) (some {v:=V.tup [V.agg [V.int .u8 (Label.level (Prod.fst (N.rParseLoop s (List.length s) (Prod.fst (N.rNumber s (0:Int) (15:Int))) {level:=IntKind.wrap .u8 (Prod.fst (Prod.snd (N.rNumber s (0:Int) (15:Int)))),set:=(0:Int):Label} (-1:Int)))),V.int .u32 (Label.set (Prod.fst (N.rParseLoop s (List.length s) (Prod.fst (N.rNumber s (0:Int) (15:Int))) {level:=IntKind.wrap .u8 (Prod.fst (Prod.snd (N.rNumber s (0:Int) (15:Int)))),set:=(0:Int):Label} (-1:Int))))],V.int .i64 (0:Int)],bx:=[]:DRes})) (none)) (none))) (none):=by kernel_rfl
theorem q_rParse3R_ (s0:Bytes) (i4:Int) (i8:Int) (ix0:Int) (ix0_1:Int) (ix1:Int) (ix1_1:Int) (K:Ex→St→Option R):evRound eRParse3 6 6 { fr:=[(0,.str s0),(2,.ptr 10000 0 0 0),(4,.int .i64 i4),(7,.ptr 10001 0 0 0),(8,.int .i64 i8)],tab:=[(10000,.var [.int .u8 ix0,.int .u32 ix0_1]),(10001,.var [.int .u8 ix1,.int .u32 ix1_1])] } K =(
 let z2:=(IntKind.wrap .i64 (i4+(1:Int)));let z0:=(N.rNumber s0 z2 (31:Int));let z1:=(K Ex.ret {fr:=[(2,V.ptr 10000 0 0 0),(3,V.int .i64 (4:Int))],tab:=[(10000,Box.var [V.int .u8 (0:Int),V.int .u32 (0:Int)])]:St});cond (ilt i4 (↑(List.length s0):Int)) (cond (decide ((0:Int)≤i4∧i4<(↑(List.length s0):Int))) (cond ((↑(UInt8.toNat (List.getD s0 (Int.toNat i4) (0:UInt8))):Int) != (58:Int)) z1 (cond (bif bif ile (0:Int) z2 then ile z2 (↑(List.length s0):Int) else false then Nat.ble (List.length s0) 1000000 else false) (cond (Prod.snd (Prod.snd z0) != (0:Int)) (K Ex.ret {fr:=[(2,V.ptr 10000 0 0 0),(3,V.int .i64 (Prod.snd (Prod.snd z0)))],tab:=[(10000,Box.var [V.int .u8 (0:Int),V.int .u32 (0:Int)])]:St}) (cond (ile (Prod.fst (Prod.snd z0)) i8) z1 (cond (decide (Prod.fst (Prod.snd z0)<(0:Int))) (none) (K Ex.normal {fr:=[(0,V.str s0),(2,V.ptr 10000 0 0 0),(4,V.int .i64 (Prod.fst z0)),(7,V.ptr 10001 0 0 0),(8,V.int .i64 (Prod.fst (Prod.snd z0)))],tab:=[(10000,Box.var [V.int .u8 ix0,V.int .u32 ix0_1]),(10001,Box.var [V.int .u8 ix1,V.int .u32 (IntKind.wrap .u32 (ix1_1+shl .u32 (1:Int) (Prod.fst (Prod.snd z0))))])]:St})))) (none))) (none)) (K (Ex.exit 0) {fr:=[(2,V.ptr 10000 0 0 0),(7,V.ptr 10001 0 0 0)],tab:=[(10000,Box.var [V.int .u8 ix0,V.int .u32 ix0_1]),(10001,Box.var [V.int .u8 ix1,V.int .u32 ix1_1])]:St})):=by kernel_rfl
theorem q_rParse3R (s0:Bytes) (i4:Int) (i8:Int) (ix0:Int) (ix0_1:Int) (ix1:Int) (ix1_1:Int) (K:Ex→St→Option R):type_of% (by have h:=q_rParse3R_ s0 i4 i8 ix0 ix0_1 ix1 ix1_1 K; dsimp only at h; exact h):=by
 have h:=q_rParse3R_ s0 i4 i8 ix0 ix0_1 ix1 ix1_1 K
 dsimp only at h
 exact h
theorem ok_rParse3_6:RoundsOk eRParse3 6 6:=by
 refine rounds_of rfl fun l K q h=>?_
 unfold gRParse3 at h
 split at h
 ·rename_i s0 i4 i8 ix0 ix0_1 ix1 ix1_1
  have h1:=(cond_none h).1; replace h:=(cond_none h).2; have h2:=(cond_none h).1; replace h:=(cond_none h).2
  have h1:=ile_of h1
  have h2:s0.length≤1000000:=ble_of h2
  have main:=loop_ind (E:=eRParse3) (f:=6) (id:=6) (σ:=Nat × Int × Label × Int) (fun x=>{ fr:=[(0,.str s0),(2,.ptr 10000 0 0 0),(4,.int .i64 x.2.1),(7,.ptr 10001 0 0 0),(8,.int .i64 x.2.2.2)],tab:=[(10000,.var [.int .u8 ix0,.int .u32 ix0_1]),(10001,.var [.int .u8 x.2.2.1.level,.int .u32 x.2.2.1.set])] })
   (fun x=>0≤x.2.1∧(s0.length:Int)-x.2.1≤x.1) (fun x=>x.1)
   (fun x K=>cond ((N.rParseLoop s0 x.1 x.2.1 x.2.2.1 x.2.2.2).2 != 0) (K .ret { fr:=[(2,.ptr 10000 0 0 0),(3,.int .i64 (N.rParseLoop s0 x.1 x.2.1 x.2.2.1 x.2.2.2).2)],tab:=[(10000,.var [.int .u8 0,.int .u32 0])] }) (K (.exit 0) { fr:=[(2,.ptr 10000 0 0 0),(7,.ptr 10001 0 0 0)],tab:=[(10000,.var [.int .u8 ix0,.int .u32 ix0_1]),(10001,.var [.int .u8 (N.rParseLoop s0 x.1 x.2.1 x.2.2.1 x.2.2.2).1.level,.int .u32 (N.rParseLoop s0 x.1 x.2.1 x.2.2.1 x.2.2.2).1.set])] }))
   (fun x hx=>?_) (s0.length,i4,⟨ix1,ix1_1⟩,i8) ⟨h1,by show (s0.length:Int)-i4≤s0.length; omega⟩ K q h
  ·exact main
  ·obtain ⟨f,a,lab,last⟩:=x
   obtain ⟨ha,hf⟩:=hx
   have ha:0≤a:=ha
   have hf:(s0.length:Int)-a≤f:=hf
   have hn:=fun K=>q_rParse3R s0 a last ix0 ix0_1 lab.level lab.set K
   cases c0:ilt a (s0.length:Int) with
   | false =>
    have e:N.rParseLoop s0 f a lab last=(lab,0):=by
     cases f with
     | zero=>rfl
     | succ f =>
      show cond (ilt a s0.length) _ _=_
      rw [c0]; rfl
    refine .inr ⟨.exit 0,{ fr:=[(2,.ptr 10000 0 0 0),(7,.ptr 10001 0 0 0)],tab:=[(10000,.var [.int .u8 ix0,.int .u32 ix0_1]),(10001,.var [.int .u8 lab.level,.int .u32 lab.set])] },by simp,fun K=>?_,fun K=>?_⟩
    ·refine (hn K).trans ?_
     rw [c0]; rfl
    ·simp only [e]; rfl
   | true =>
    have c0':=ilt_of c0
    cases f with
    | zero=>exact absurd hf (by omega)
    | succ f =>
    have e:N.rParseLoop s0 (f+1) a lab last=cond (((s0.getD a.toNat 0).toNat:Int) != 58) (⟨0,0⟩,4) (cond ((N.rNumber s0 (a+1) 31).2.2 != 0) (⟨0,0⟩,(N.rNumber s0 (a+1) 31).2.2)
      (cond (ile (N.rNumber s0 (a+1) 31).2.1 last) (⟨0,0⟩,4) (N.rParseLoop s0 f (N.rNumber s0 (a+1) 31).1 ⟨lab.level,IntKind.wrap .u32 (lab.set+shl .u32 1 (N.rNumber s0 (a+1) 31).2.1)⟩ (N.rNumber s0 (a+1) 31).2.1))):=by
     show cond (ilt a s0.length) _ _=_
     rw [c0]; rfl
    have t2:decide ((0:Int)≤a∧a<s0.length)=true:=decide_eq_true (by omega)
    have t3:IntKind.wrap .i64 (a+1)=a+1:=wr_i64 (by omega) (by omega)
    obtain ⟨g0,g1⟩:=rNumber_spec s0 (a+1) 31 (by omega) (by omega)
    simp only [c0,t2,t3,ile_t (show 0≤a+1 by omega),ile_t (show a+1≤s0.length by omega),ble_t h2,cond_true] at hn
    simp only [e]
    generalize N.rNumber s0 (a+1) 31=z at *
    cases c1:((s0.getD a.toNat 0).toNat:Int) != 58 with
    | true=>exact .inr ⟨.ret,_,by simp,fun K=>by rw [hn,c1]; rfl,fun K=>rfl⟩
    | false =>
     cases c2:z.2.2 != 0 with
     | true=>exact .inr ⟨.ret,_,by simp,fun K=>by rw [hn,c1,c2]; rfl,fun K=>by simp only [cond_true,cond_false,c2]⟩
     | false =>
      have hz:z.2.2=0:=by simpa using c2
      obtain ⟨g2,g3,g4⟩:=g1 hz
      cases c3:ile z.2.1 last with
      | true=>exact .inr ⟨.ret,_,by simp,fun K=>by rw [hn,c1,c2,c3]; rfl,fun K=>rfl⟩
      | false =>
       have t4:decide (z.2.1<0)=false:=decide_eq_false (by omega)
       refine .inl ⟨(f,z.1,⟨lab.level,IntKind.wrap .u32 (lab.set+shl .u32 1 z.2.1)⟩,z.2.1),⟨by show 0≤z.1; omega,by show (s0.length:Int)-z.1≤f; omega⟩,by simp only; omega,fun K=>?_,fun K=>rfl⟩
       rw [hn,c1,c2,c3,t4]; rfl
 ·cases h
theorem ok_rParse3:FnOk Tryd.prog 6 dRParse3:=by
 refine den_okF (env_ok ((TOk.nil _).cons ok_rNumber)) (E:=eRParse3) Tryd.func6 [6] (by kernel_rfl) (one1 ok_rParse3_6) fun a b hp=>?_
 have hl:Nat.ble a.length 1000000=true:=hp
 have hl' : a.length≤1000000:=ble_of hl
 refine (q_rParse3 a).trans ?_
 show _=some (⟨.tup [.agg [.int .u8 (N.rParse a).1.level,.int .u32 (N.rParse a).1.set],.int .i64 (N.rParse a).2],[],[]⟩:DRes)
 obtain ⟨g0,g1⟩:=rNumber_spec a 0 15 (Int.le_refl 0) (by omega)
 unfold N.rParse
 generalize N.rNumber a 0 15=z at *
 rw [hl]
 cases c1:z.2.2 != 0 with
 | true=>rfl
 | false =>
  have hz:z.2.2=0:=by simpa using c1
  obtain ⟨g2,g3,g4⟩:=g1 hz
  have w:IntKind.wrap .u8 z.2.1=z.2.1:=wrap_u8 g0 (by omega)
  rw [w,ile_t (show 0≤z.1 by omega)]
  simp only [cond_true,cond_false]
  have herr:=rLoop_err a a.length z.1 ⟨z.2.1,0⟩ (-1)
  generalize N.rParseLoop a a.length z.1 ⟨z.2.1,0⟩ (-1)=y at *
  cases c2:y.2 != 0 with
  | true=>rw [herr c2]; rfl
  | false =>
   have:y.2=0:=by simpa using c2
   rw [this]; rfl
end Go.Ev

/- What the statement on labels' texts reckons: it is true; lemmas; the function that writes numbers is a premise. -/
namespace Go.Ev
open Go Go.Proofs
set_option maxRecDepth 100000
-- FOLD
def dLTexts:Den:=den (aCons (vAgg cLabel) (aOne vStr)) bNil (oV vBool) (fun a _=>okL a.1) fun _ _=>(true,())
theorem textLoop_len (set:Int):∀ (f:Nat) (i:Int),(N.textLoop set f i).length≤4*f
 | 0,_=>Nat.le_refl _
 | f+1,i=>by
  have ih:=textLoop_len set f (i+1)
  have dl:=dig_len i.toNat
  show (cond (N.refHas ⟨0,set⟩ i) (58::(N.digN i.toNat++N.textLoop set f (i+1))) (N.textLoop set f (i+1))).length≤_
  cases N.refHas ⟨0,set⟩ i with
  | true=>simp only [cond_true,List.length_cons,List.length_append]; omega
  | false=>simp only [cond_false]; omega
theorem text_len (a:Label):(N.text a).length≤200:=by
 have h:=textLoop_len a.set 32 0
 have dl:=dig_len a.level.toNat
 unfold N.text
 rw [List.length_append]; omega
theorem okL_wf {a:Label} (h:wfL (cLabel.enc a)=true):okL a=true:=by
 obtain ⟨⟨h1,h2⟩,h3,h4⟩:=label_wf h
 unfold okL
 rw [ile_t h1,ile_t (by omega),ile_t h3,ilt_t (by omega)]; rfl
noncomputable def eLTexts:Env:=env Tryd.prog [(4,dTrue),(5,dParse),(6,dRParse3),(7,dLText),(8,dLText)] [] []
theorem q_lTexts_ (a:Label) (s:Bytes):evFn eLTexts 3 ((aCons (vAgg cLabel) (aOne vStr)).enc (a,s)) ([]) some =(
 let z3:=(Prod.fst (N.parse (N.text a)));let z2:=(some {v:=V.bool false,bx:=[]:DRes});let z0:=(cond (ilt (15:Int) (Label.level a)) (cond (Prod.snd (N.parse (N.text a))==(7:Int)) (some {v:=V.bool (Label.level z3==(0:Int) && (Label.set z3==(0:Int) && true)),bx:=[]:DRes}) z2) (cond (Prod.snd (N.parse (N.text a))==(0:Int)) (some {v:=V.bool (Label.level z3==Label.level a && (Label.set z3==Label.set a && true)),bx:=[]:DRes}) z2));let z1:=(bif bif ile (0:Int) (Label.level a) then ile (Label.level a) (255:Int) else false then bif ile (0:Int) (Label.set a) then ilt (Label.set a) (4294967296:Int) else false else false);cond (ilt (200:Int) (↑(List.length s):Int)) (some {v:=V.bool true,bx:=[]:DRes}) (cond (Nat.ble (List.length s) 9223372036854775806) (cond (Nat.ble (List.length s) 1000000) (cond z1 (cond (Nat.ble (List.length (N.text a)) 9223372036854775806) (cond z1 (cond (!N.text a==N.text a) z2 (cond (!(Label.level (Prod.fst (N.parse s))==Label.level (Prod.fst (N.rParse s)) && (Label.set (Prod.fst (N.parse s))==Label.set (Prod.fst (N.rParse s)) && true))) z2 (cond (Prod.snd (N.parse s) != Prod.snd (N.rParse s)) z2 (cond (Prod.snd (N.parse s)==(0:Int)) (cond (bif bif ile (0:Int) (Label.level (Prod.fst (N.parse s))) then ile (Label.level (Prod.fst (N.parse s))) (255:Int) else false then bif ile (0:Int) (Label.set (Prod.fst (N.parse s))) then ilt (Label.set (Prod.fst (N.parse s))) (4294967296:Int) else false else false) (cond (!N.text (Prod.fst (N.parse s))==s) z2 z0) (none)) z0)))) (none)) (none)) (none)) (none)) (none))):=by kernel_rfl
theorem q_lTexts (a:Label) (s:Bytes):type_of% (by have h:=q_lTexts_ a s; dsimp only at h; exact h):=by
 have h:=q_lTexts_ a s
 dsimp only at h
 exact h
theorem ok_lTexts (hN:FnOk Tryd.prog 18 dOutNum):FnOk Tryd.prog 3 dLTexts:=by
 refine den_okF (env_ok ((((((TOk.nil _).cons ok_rText3).cons ok_lText).cons ok_rParse3).cons ok_parse).cons (ok_aw3 hN))) (E:=eLTexts) Tryd.func3 [] (by kernel_rfl) (none0) fun a b hp=>?_
 obtain ⟨⟨l,S⟩,s⟩:=a
 obtain ⟨p1,p2⟩:=bcond (show cond (cond (ile 0 l) (ile l 255) false) (cond (ile 0 S) (ilt S 4294967296) false) false=true from hp)
 obtain ⟨l0,l1⟩:=bcond p1
 obtain ⟨s0,s1⟩:=bcond p2
 obtain ⟨l,rfl⟩:=Int.eq_ofNat_of_zero_le (ile_of l0)
 obtain ⟨S,rfl⟩:=Int.eq_ofNat_of_zero_le (ile_of s0)
 have l1':=ile_of l1
 have s1':=ilt_of s1
 have tb:=text_back (l:=l) (S:=S) (by omega) (by rw [show (2:Nat) ^ 32=4294967296 from rfl]; omega)
 have tl:=text_len ⟨(l:Int),(S:Int)⟩
 refine (q_lTexts ⟨(l:Int),(S:Int)⟩ s).trans ?_
 rw [rParse_eq,tb]
 cases h2:ilt 200 (s.length:Int) with
 | true=>rfl
 | false =>
  have h2:=ilt_nof h2
  have e1:(N.text ⟨(l:Int),(S:Int)⟩==N.text ⟨(l:Int),(S:Int)⟩)=true:=beq_self_eq_true _
  rw [ble_t (show s.length≤9223372036854775806 by omega),ble_t (show s.length≤1000000 by omega),ble_t (show (N.text ⟨(l:Int),(S:Int)⟩).length≤9223372036854775806 by omega),e1]
  simp only [l0,l1,s0,s1,cond_true,cond_false,Bool.not_true,beq_self_eq_true,Bool.true_and,Bool.and_true,bne_self_eq_false]
  have tail:cond (ilt 15 (l:Int)) (cond ((cond (ilt 15 (l:Int)) ((⟨0,0⟩:Label),(7:Int)) (⟨(l:Int),(S:Int)⟩,0)).2==7) (some (⟨.bool ((cond (ilt 15 (l:Int)) ((⟨0,0⟩:Label),(7:Int)) (⟨(l:Int),(S:Int)⟩,0)).1.level==0 && (cond (ilt 15 (l:Int)) ((⟨0,0⟩:Label),(7:Int)) (⟨(l:Int),(S:Int)⟩,0)).1.set==0),[],[]⟩:DRes)) (some ⟨.bool false,[],[]⟩))
    (cond ((cond (ilt 15 (l:Int)) ((⟨0,0⟩:Label),(7:Int)) (⟨(l:Int),(S:Int)⟩,0)).2==0) (some (⟨.bool ((cond (ilt 15 (l:Int)) ((⟨0,0⟩:Label),(7:Int)) (⟨(l:Int),(S:Int)⟩,0)).1.level==(l:Int) && (cond (ilt 15 (l:Int)) ((⟨0,0⟩:Label),(7:Int)) (⟨(l:Int),(S:Int)⟩,0)).1.set==(S:Int)),[],[]⟩:DRes)) (some ⟨.bool false,[],[]⟩))=some ⟨.bool true,[],[]⟩:=by
   cases ilt 15 (l:Int)<;>simp
  cases c:(N.parse s).2==0 with
  | false=>exact tail
  | true =>
   obtain ⟨l',S',e,g1,g2,g3⟩:=parse_says (ieq_of c)
   rw [e,g3]
   have g2:S' < 4294967296:=g2
   simp only [ile_t (Int.natCast_nonneg _),ile_t (show (l' : Int)≤255 by omega),ilt_t (show (S' : Int)<4294967296 by omega),cond_true,cond_false,beq_self_eq_true,Bool.not_true]
   exact tail
end Go.Ev

/- A listed table of the library's holds at the start: lemmas,no condition. -/
namespace Go.Ev
open Go Go.Proofs Go.RowKit
def glTab (P:Program) (n:String):Bool:=(List.range P.globals.size).all fun i=>match P.globals[i]? with | some g=>(tabNamed g.name).isEmpty || (g.name==n && (P.globalNamed n==some i)) | none=>true
theorem held_tab {P:Program} {n:String} {T:List GQ} {k:IntKind} {zs:List Int} {W:World} (h1:glTab P n=true) (h3:tabNamed n=T) (h4:T=zs.map fun z=>GQ.val (.int k z)) (hT:Lib.TabIs P W n k zs):Held P (oldI W) W:=by
 intro b o x hx
 unfold GLv at hx
 split at hx
 ·rename_i g hg
  have hb:b<P.globals.size:=(Array.getElem?_eq_some_iff.1 hg).1
  have h:=List.all_eq_true.1 h1 b (List.mem_range.2 hb)
  simp only [hg,Bool.or_eq_true,Bool.and_eq_true] at h
  rcases h with h | ⟨h,h'⟩
  ·rw [List.isEmpty_iff.1 h] at hx
   simp at hx
  ·have e1:g.name=n:=by simpa using h
   have e2:P.globalNamed n=some b:=by simpa using h'
   have en:GLn P b=zs.length:=by
    unfold GLn
    rw [hg]
    show (tabNamed g.name).length=_
    rw [e1,h3,h4,List.length_map]
   rw [e1,h3,h4,List.getElem?_map] at hx
   obtain ⟨z,hz,rfl⟩:=Option.map_eq_some_iff.1 hx
   unfold Lib.TabIs World.var? at hT
   rw [e2] at hT
   have hT:(match W.heap[b]? with | some (.cells cs _ _)=>some cs | _=>none)=some (zs.map fun z=>Value.int k z).toArray:=hT
   cases hh:W.heap[b]? with
   | none=>rw [hh] at hT; cases hT
   | some ob =>
    have hlt:b<W.heap.size:=(Array.getElem?_eq_some_iff.1 hh).1
    cases ob with
    | cells c e f =>
     rw [hh] at hT
     obtain rfl:c=(zs.map fun z=>Value.int k z).toArray:=Option.some.inj hT
     refine ⟨hlt,⟨.int k z,rfl,?_⟩,?_⟩
     ·rw [cell_eq,hh]
      show ((zs.map fun z=>Value.int k z).toArray)[o]? = _
      simp [hz]
     ·rw [cell_eq,hh,en]
      show ((zs.map fun z=>Value.int k z).toArray)[zs.length]? = none
      simp
    | _=>rw [hh] at hT; cases hT
 ·cases hx
def tabFits (P:Program) (n:String) (k:IntKind):Bool:=match P.globalNamed n with
 | some g=>match P.globals[g]? with
  | some gl=>match P.underlying gl.type with
   | some (.array m e)=>match P.underlying e with
    | some (.int k')=>decide (k' = k) && (P.cellsOf e==1 && P.cellsOf gl.type==m)
    | _=>false
   | _=>false
  | none=>false
 | none=>false
theorem tabIs_laid {P:Program} {n:String} {k:IntKind} {zs:List Int} {rest:List (String × DataW Unit)} {W:World} (h:tabFits P n k=true) (hL:laidMet P ((n,Lib.tabData k zs)::rest) W):Lib.TabIs P W n k zs:=by
 unfold tabFits at h
 split at h
 ·rename_i g hg
  split at h
  ·rename_i gl hgl
   split at h
   ·rename_i m e ht
    split at h
    ·rename_i k' he
     simp only [Bool.and_eq_true,decide_eq_true_eq,beq_iff_eq] at h
     obtain ⟨rfl,h1,h2⟩:=h
     exact Lib.tabIs_of_head hg (by rw [hgl]; rfl) ht he h1 h2 hL
    ·cases h
   ·cases h
  ·cases h
 ·cases h
end Go.Ev

/- The library's text builder in this program,and the function that writes a number's bytes with it: lemmas,no condition but the text's length. -/
namespace Go.Ev
open Go Go.Proofs Go.RowKit Go.Shelf
theorem bSize:(Tryd.prog.info? 53).map (·.size)=some 2:=by kernel_rfl
theorem bLies:liesAt Tryd.prog Tryd.prog.depth 53 (2 / Tryd.prog.cellsOf 53) 0 53 1=true:=by kernel_rfl
theorem bByte:(Tryd.prog.info? 5).map (fun i=>(i.zero,i.size,i.bytes))=some (some (.int .u8 0),1,1):=by kernel_rfl
set_option maxHeartbeats 1000000 in
set_option maxRecDepth 100000 in
theorem cc_used (b : Nat) (w : World) (h0 : w.cell? ⟨b, 0, none⟩ = some (.pointer (some ⟨b, 0, none⟩))) :
    Calls Tryd.prog 32 #[.pointer (some ⟨b, 0, none⟩)] w fun e w' => e = .returned (.tuple #[]) ∧ w' = w := by
  obtain ⟨j, hj, _⟩ := Option.map_eq_some_iff.1 bSize
  go_enter Tryd.func32, Tryd.ntmps32
  go_wp2
  rw [Lib.run_neq_ptr_same w _ Tryd.underlying50 hj]
  go_wp2
  go_end0
  exact ⟨rfl, rfl⟩
set_option maxHeartbeats 1000000 in
set_option maxRecDepth 100000 in
theorem cc_fresh (b : Nat) (w : World) (h0 : w.cell? ⟨b, 0, none⟩ = some (.pointer none)) (hsh : w.shape? b = some (53, 2)) (hfz : w.frozen? ⟨b, 0, none⟩ = false) :
    Calls Tryd.prog 32 #[.pointer (some ⟨b, 0, none⟩)] w fun e w' => e = .returned (.tuple #[]) ∧ w' = w.setCell ⟨b, 0, none⟩ (.pointer (some ⟨b, 0, none⟩)) := by
  obtain ⟨j, hj, hjs⟩ := Option.map_eq_some_iff.1 bSize
  go_enter Tryd.func32, Tryd.ntmps32
  go_wp2
  rw [Lib.run_to_unsafe w ⟨b, 0, none⟩ Tryd.underlying50 Tryd.underlying72 hj (by rw [hjs]; decide) hsh (Nat.zero_lt_succ 1)]
  simp only [Result.andThen]
  rw [Oper.upon_value]
  go_wp2
  rw [run_callFunc_extern Tryd.func39 (by kernel_rfl) (by kernel_rfl) (by kernel_rfl) (e := Extern.AbiNoEscape.same) (by kernel_rfl)]
  rw [Lib.run_noEscape]
  simp only [Result.andThen]
  rw [Oper.upon_value]
  go_wp2
  rw [Lib.run_from_unsafe w ⟨b, 0, none⟩ Tryd.underlying72 Tryd.underlying50 hj hsh bLies]
  simp only [Result.andThen]
  rw [Oper.upon_value]
  go_wp2
  go_end0
  exact ⟨rfl, rfl⟩
theorem cc (B b:Nat) (bs:List Value) (w:World) (h:Lib.IsBuilder 53 5 B b bs w) :
  Calls Tryd.prog 32 #[.pointer (some ⟨b,0,none⟩)] w fun e w'=>e = .returned (.tuple #[])∧(Lib.BuilderAt 53 5 B b (.pointer (some ⟨b,0,none⟩)) bs w'∧Below B w w'):=by
 rcases h with h | h
 ·refine (cc_fresh b w h.cell0 h.shape h.frozen0).mono ?_
  rintro e w' ⟨rfl,rfl⟩
  exact ⟨rfl,h.used _,(Below.refl B w).setCell (p:=⟨b,0,none⟩) h.1 _⟩
 ·refine (cc_used b w h.cell0).mono ?_
  rintro e w' ⟨rfl,rfl⟩
  exact ⟨rfl,h,Below.refl B _⟩
set_option maxHeartbeats 2000000 in
set_option maxRecDepth 100000 in
theorem writeByte (B b : Nat) (bs : List Value) (c : Int) (w : World) (h : Lib.IsBuilder 53 5 B b bs w) (hlen : bs.length + 1 ≤ 140737488355328) (hBw : B ≤ w.heap.size) :
    Calls Tryd.prog 24 #[.pointer (some ⟨b, 0, none⟩), .int .u8 c] w fun e w' => e = .returned .nilIface ∧ (Lib.BuilderAt 53 5 B b (.pointer (some ⟨b, 0, none⟩)) (bs ++ [.int .u8 c]) w' ∧ Below B w w') := by
  obtain ⟨i0, hi, hz0, hz1, hz2⟩ := info_parts bByte
  go_enter Tryd.func24, Tryd.ntmps24
  go_wp2_with (go_at_call 32; refine (cc B b bs _ h).mono ?_)
  rintro e w1 ⟨rfl, h1, hb1⟩
  obtain ⟨hB, v, hbk, hown, hne⟩ := h1
  have c0 : w1.cell? ⟨b, 0, none⟩ = some (.pointer (some ⟨b, 0, none⟩)) := by rw [Lib.cell_of_heap hbk]; rfl
  have c1 : w1.cell? ⟨b, 1, none⟩ = some v := by rw [Lib.cell_of_heap hbk]; rfl
  go_wp2_with (at_builtin; refine wpList_append_own _ rfl _ _ 51 rfl B 5 i0 (.int .u8 0) 1 1 Tryd.underlying51 hi hz0 hz1 hz2 rfl (by decide) _ _ _ rfl (hown.alloc _) ⟨w1.heap.size, 0, none⟩ 1 1 [.int .u8 c] rfl rfl ?c1 ?c2 ?c3 ?c4 ?c5 ?_)
  case c1 =>
    intro j u hj
    match j, hj with
    | 0, hj => simp at hj; subst hj; simp [Addr.add]
  case c2 => intro u hu; simp at hu; subst hu; rfl
  case c3 => unfold maxLen; omega
  case c4 => omega
  case c5 => have := hb1.size; simp; omega
  intro v' w2 hown' hgrow _
  have hlt : b < w1.heap.size := by
    rcases Nat.lt_or_ge b w1.heap.size with h' | h'
    · exact h'
    · simp [Array.getElem?_eq_none h'] at hbk
  have hb2 : w2.heap[b]? = some (.cells #[.pointer (some ⟨b, 0, none⟩), v] 53 (0, 0)) := by
    rw [hgrow.block b (by simp; omega) (fun e => hne e.symm), Lib.alloc_old w1 _ b hlt]
    exact hbk
  have d0 : w2.cell? ⟨b, 0, none⟩ = some (.pointer (some ⟨b, 0, none⟩)) := by rw [Lib.cell_of_heap hb2]; rfl
  have d1 : w2.cell? ⟨b, 1, none⟩ = some v := by rw [Lib.cell_of_heap hb2]; rfl
  have f1 : w2.frozen? ⟨b, 1, none⟩ = false := Lib.frozen_of_heap hb2 1
  obtain ⟨g, cap, rfl⟩ : ∃ g cap, v' = .slice (some ⟨g, 0, none⟩) (bs.length + 1) cap := by
    rcases hown'.2 with ⟨_, h0⟩ | ⟨g, cap, cur, hv, _⟩
    · omega
    · exact ⟨g, cap, hv⟩
  go_wp2
  go_ret
  refine ⟨rfl, ?_, ?_⟩
  · exact Lib.BuilderAt.put (T := 53) (e := 5) hB hb2 (bs' := bs ++ [.int .u8 c]) (by simpa using hown') (by decide)
  · exact ((hb1.alloc (by have := hb1.size; omega) _).grown hgrow (by have := hb1.size; simp; omega) (fun k hk => (hown.lt k hk).1)).setCell (p := ⟨b, 1, none⟩) hB _
def lays169_ren:Go.Shelf.Ren:=⟨fun | 169=>25 | n=>n,fun | 70=>50 | 9=>9 | 0=>0 | 72=>53 | 37=>51 | 127=>64 | 3=>3 | 5=>5 | n=>n,fun | n=>n⟩
theorem lays169:Go.Proofs.Lays.n169 Tryd.prog lays169_ren:={
 mixed:=by kernel_rfl
 f169:=Tryd.func25.trans (congrArg some (by kernel_rfl))
 t0:=Tryd.underlying0
 a0:=Tryd.isAgg0
 z0:=Tryd.sizeOf0
 v0:=Tryd.zeroValue0
 t3:=Tryd.underlying3
 a3:=Tryd.isAgg3
 z3:=Tryd.sizeOf3
 v3:=Tryd.zeroValue3
 t9:=Tryd.underlying9
 a9:=Tryd.isAgg9
 z9:=Tryd.sizeOf9
 v9:=Tryd.zeroValue9
 t37:=Tryd.underlying51
 a37:=Tryd.isAgg51
 z37:=Tryd.sizeOf51
 v37:=Tryd.zeroValue51
 t70:=Tryd.underlying50
 a70:=Tryd.isAgg50
 z70:=Tryd.sizeOf50
 v70:=Tryd.zeroValue50
 t72:=Tryd.underlying53
 a72:=Tryd.isAgg53
 z72:=Tryd.sizeOf53
 v72:=Tryd.zeroValue53
 t127:=Tryd.underlying64
 a127:=Tryd.isAgg64
 z127:=Tryd.sizeOf64
 v127:=Tryd.zeroValue64 }
theorem extra169:Builder.Extra Tryd.prog lays169_ren:={
 sizeBuilder:=by kernel_rfl
 liesBuilder:=by kernel_rfl
 t5:=Tryd.underlying5
 a5:=Tryd.isAgg5
 z5:=Tryd.sizeOf5
 v5:=Tryd.zeroValue5
 infoByte:=by kernel_rfl
 cellsByte:=by kernel_rfl
 sizeByte:=by kernel_rfl
 neB5:=by decide }
theorem bString (B b:Nat) (l:List UInt8) (w:World) (h:Lib.IsBuilder 53 5 B b (Lib.byteCells l) w) (hBw:B≤w.heap.size) :
  Calls Tryd.prog 25 #[.pointer (some ⟨b,0,none⟩)] w fun e w'=>e = .returned (.string ⟨l.toArray⟩)∧Below B w w':=Any.Builder_String_any lays169 extra169 B b l w h hBw
end Go.Ev

/- The function that writes a number's bytes: its walk. -/
namespace Go.Ev
open Go Go.Proofs Go.RowKit Go.Shelf
theorem clamp_eq {bytes:Int}:min (max bytes 0) 8=(N.clamp bytes:Int)∧N.clamp bytes≤8:=by
 unfold N.clamp
 rw [ilt_eq,ilt_eq]
 by_cases h1:0<bytes
 ·by_cases h2:8<bytes
  ·simp [h1,h2]; omega
  ·simp [h1,h2]; omega
 ·simp [h1]; omega
theorem two_blocks {w wr:World} {o1 o2:Obj} (h:Below (w.heap.size+1+1) ((w.alloc o1).alloc o2) wr):wr.heap[w.heap.size]? = some o1∧wr.heap[w.heap.size+1]? = some o2:=by
 have e:(w.alloc o1).heap.size=w.heap.size+1:=by simp
 refine ⟨?_,?_⟩
 ·rw [h.block _ (by omega),Below.heap_alloc _ _ _ (by omega)]; exact Go.heap_alloc_new w o1
 ·rw [h.block _ (by omega),← e]; exact Go.heap_alloc_new _ o2
set_option maxHeartbeats 4000000 in
set_option maxRecDepth 1000000 in
theorem outNum_walk (s : ByteArray) (er n bytes : Int) (w : World) (hs : (s.size : Int) ≤ 9223372036854775799) :
    Calls Tryd.prog 18 #[.agg #[.string s, .int .i64 er], .int .u64 n, .int .i64 bytes] w fun e w' =>
      e = .returned (.agg #[.string ⟨(s.data.toList ++ N.numB n (N.clamp bytes)).toArray⟩, .int .i64 er]) ∧ Below w.heap.size w w' := by
  go_enter Tryd.func18, Tryd.ntmps18
  go_wp2
  go_loopw [8] (fun i wr => ∃ (k : Int) (acc : List UInt8), i = .int .i64 k ∧ Lib.IsBuilder 53 5 (w.heap.size + 1 + 1) (w.heap.size + 1 + 1) (Lib.byteCells acc) wr ∧
      Below (w.heap.size + 1 + 1) ((w.alloc (Obj.cells #[Value.string s, Value.int IntKind.i64 er] 41)).alloc (Obj.cells #[Value.string { data := #[] }, Value.int IntKind.i64 0] 41)) wr ∧
      -1 ≤ k ∧ acc ++ N.numB n (k + 1).toNat = N.numB n (N.clamp bytes) ∧ acc.length + (k + 1).toNat ≤ 8) (fun i _ => (intOf i + 1).toNat)
  case atStart =>
    obtain ⟨hcl, hc8⟩ := clamp_eq (bytes := bytes)
    have hf := Lib.fresh_isBuilder 53 5 ((w.alloc (Obj.cells #[Value.string s, Value.int IntKind.i64 er] 41)).alloc (Obj.cells #[Value.string { data := #[] }, Value.int IntKind.i64 0] 41))
    have e0 : ((w.alloc (Obj.cells #[Value.string s, Value.int IntKind.i64 er] 41)).alloc (Obj.cells #[Value.string { data := #[] }, Value.int IntKind.i64 0] 41)).heap.size = w.heap.size + 1 + 1 := by simp
    rw [e0] at hf
    refine ⟨(N.clamp bytes : Int) - 1, [], by rw [hcl], hf, (Below.refl _ _).alloc (by simp) _, by omega, ?_, ?_⟩
    · rw [show ((N.clamp bytes : Int) - 1 + 1).toNat = N.clamp bytes by omega]; rfl
    · simp only [List.length_nil]; omega
  case round =>
    obtain ⟨k, acc, rfl, hI, hB, hk, hacc, hal⟩ := hrel
    by_cases hk0 : 0 ≤ k
    · go_wp2_with (go_at_call 24; refine (writeByte (w.heap.size + 1 + 1) (w.heap.size + 1 + 1) _ _ _ hI (by rw [Lib.byteCells_length]; omega) (by have := hB.size; simp at this; omega)).mono ?_)
      rintro e w1 ⟨rfl, h1, b1⟩
      go_wp2
      go_roundw
      case rel =>
        have e1 : N.numB n (k + 1).toNat = UInt8.ofNat ((n / 2 ^ (8 * k.toNat)) % 256).toNat :: N.numB n k.toNat := by
          rw [show (k + 1).toNat = k.toNat + 1 by omega]; rfl
        have e2 : ((UInt8.ofNat ((n / 2 ^ (8 * k.toNat)) % 256).toNat).toNat : Int) = n / 2 ^ (8 * k).toNat % 256 := by
          rw [show (8 * k).toNat = 8 * k.toNat by omega]
          have h0 : 0 ≤ (n / 2 ^ (8 * k.toNat)) % 256 := Int.emod_nonneg _ (by decide)
          have h1 : (n / 2 ^ (8 * k.toNat)) % 256 < 256 := Int.emod_lt_of_pos _ (by decide)
          have h2 : (UInt8.ofNat ((n / 2 ^ (8 * k.toNat)) % 256).toNat).toNat = ((n / 2 ^ (8 * k.toNat)) % 256).toNat := UInt8.toNat_ofNat_of_lt' (by
            show ((n / 2 ^ (8 * k.toNat)) % 256).toNat < 256
            omega)
          rw [h2]; omega
        refine ⟨k - 1, acc ++ [UInt8.ofNat ((n / 2 ^ (8 * k.toNat)) % 256).toNat], rfl, ?_, hB.trans b1, by omega, ?_, ?_⟩
        · rw [Lib.byteCells_append]
          have e3 : Lib.byteCells [UInt8.ofNat ((n / 2 ^ (8 * k.toNat)) % 256).toNat] = [Value.int .u8 (n / 2 ^ (8 * k).toNat % 256)] := by
            rw [← e2]; rfl
          rw [e3]; exact Or.inr h1
        · rw [e1] at hacc
          rw [← hacc, show (k - 1 + 1).toNat = k.toNat by omega, List.append_assoc]; rfl
        · rw [List.length_append]; simp only [List.length_cons, List.length_nil]; omega
      case measure => simp [intOf]; omega
    · have hk1 : k = -1 := by omega
      subst hk1
      have hfin : N.numB n (N.clamp bytes) = acc := by rw [← hacc]; show acc ++ [] = acc; simp
      have hal : acc.length ≤ 8 := by omega
      clear hacc
      rw [hfin]
      obtain ⟨hb0, hb1⟩ := two_blocks hB
      have c0 : wr.cell? ⟨w.heap.size, 0, none⟩ = some (.string s) := by rw [Lib.cell_of_heap hb0]; rfl
      have c1 : wr.cell? ⟨w.heap.size, 1, none⟩ = some (.int .i64 er) := by rw [Lib.cell_of_heap hb0]; rfl
      have c2 : wr.cell? ⟨w.heap.size + 1, 0, none⟩ = some (.string ⟨#[]⟩) := by rw [Lib.cell_of_heap hb1]; rfl
      have c3 : wr.cell? ⟨w.heap.size + 1, 1, none⟩ = some (.int .i64 0) := by rw [Lib.cell_of_heap hb1]; rfl
      have f0 : wr.frozen? ⟨w.heap.size, 0, none⟩ = false := Lib.frozen_of_heap hb0 0
      have f1 : wr.frozen? ⟨w.heap.size, 1, none⟩ = false := Lib.frozen_of_heap hb0 1
      have f2 : wr.frozen? ⟨w.heap.size + 1, 0, none⟩ = false := Lib.frozen_of_heap hb1 0
      have f3 : wr.frozen? ⟨w.heap.size + 1, 1, none⟩ = false := Lib.frozen_of_heap hb1 1
      have hBw : w.heap.size + 1 + 1 ≤ wr.heap.size := by have := hB.size; simp at this; omega
      have hadd : ¬ 9223372036854775807 < s.size + acc.length := by omega
      have hadd2 : ¬ 9223372036854775807 < s.size + (⟨acc.toArray⟩ : ByteArray).size := by
        show ¬ 9223372036854775807 < s.size + acc.toArray.size
        rw [List.size_toArray]; exact hadd
      have hadd3 : ¬ (s.size + (⟨acc.toArray⟩ : ByteArray).size > 9223372036854775807) := hadd2
      have hadd4 : s.size + (⟨acc.toArray⟩ : ByteArray).size ≤ 9223372036854775807 := Nat.not_lt.1 hadd2
      have hadd5 : s.size + acc.length ≤ 9223372036854775807 := Nat.not_lt.1 hadd
      go_wp2
      go_region_with (go_at_call 25; refine (bString (w.heap.size + 1 + 1) (w.heap.size + 1 + 1) acc _ (by exact hI) (by exact hBw)).mono ?_; rintro e w2 ⟨rfl, b2⟩
                      have d0 : w2.cell? ⟨w.heap.size, 0, none⟩ = some (.string s) := by rw [b2.cell (by show w.heap.size < w.heap.size + 1 + 1; omega)]; exact c0
                      have d1 : w2.cell? ⟨w.heap.size, 1, none⟩ = some (.int .i64 er) := by rw [b2.cell (by show w.heap.size < w.heap.size + 1 + 1; omega)]; exact c1
                      have d2 : w2.cell? ⟨w.heap.size + 1, 0, none⟩ = some (.string ⟨#[]⟩) := by rw [b2.cell (by show w.heap.size + 1 < w.heap.size + 1 + 1; omega)]; exact c2
                      have d3 : w2.cell? ⟨w.heap.size + 1, 1, none⟩ = some (.int .i64 0) := by rw [b2.cell (by show w.heap.size + 1 < w.heap.size + 1 + 1; omega)]; exact c3
                      have e0 : w2.frozen? ⟨w.heap.size, 0, none⟩ = false := by rw [b2.frozen (by show w.heap.size < w.heap.size + 1 + 1; omega)]; exact f0
                      have e1 : w2.frozen? ⟨w.heap.size, 1, none⟩ = false := by rw [b2.frozen (by show w.heap.size < w.heap.size + 1 + 1; omega)]; exact f1
                      have e2 : w2.frozen? ⟨w.heap.size + 1, 0, none⟩ = false := by rw [b2.frozen (by show w.heap.size + 1 < w.heap.size + 1 + 1; omega)]; exact f2
                      have e3 : w2.frozen? ⟨w.heap.size + 1, 1, none⟩ = false := by rw [b2.frozen (by show w.heap.size + 1 < w.heap.size + 1 + 1; omega)]; exact f3)
      all_goals go_wp2
      all_goals
        refine ⟨rfl, .agg #[.string (s ++ ⟨acc.toArray⟩), .int .i64 er], ?_, ?_, ?_⟩
        · simp [results, Tryd.results18, go_sem, d2, d3]
        · rw [hfin, ← bytes_append]
        · have b0 : Below w.heap.size w wr := (((Below.refl _ w).alloc (Nat.le_refl _) _).alloc (by simp) _).trans (hB.mono (by omega))
          exact (((b0.drew.trans (b2.mono (by omega))).setCell (p := ⟨w.heap.size, 0, none⟩) (Nat.le_refl _) _).setCell (p := ⟨w.heap.size + 1, 0, none⟩) (Nat.le_succ _) _).setCell (p := ⟨w.heap.size + 1, 1, none⟩) (Nat.le_succ _) _
theorem keeps_below {w w' : World} (X:Nat→Nat→Prop) (h:Below w.heap.size w w'):Keeps X w w' :=
 ⟨h.os,h.tape,h.output,h.size,fun b hb=>ObjOk.same (h.block b hb)⟩
theorem outNum_ok:FnOk Tryd.prog 18 dOutNum:=by
 refine den_of fun a b hp=>?_
 obtain ⟨o,n,bytes⟩:=a
 intro x y hxy w J locs xs hlen hJ hx _ _ _
 have hxy:x=(aCons (vAgg cOut) (aCons (vInt .u64) (aOne (vInt .i64)))).enc (o,n,bytes)∧y=bNil.enc b:=by simpa using hxy
 obtain ⟨rfl,rfl⟩:=hxy
 have hlen:locs=[]:=List.eq_nil_of_length_eq_zero hlen
 subst hlen
 obtain ⟨hp1,hp⟩:=bcond hp
 obtain ⟨hp2,hp3⟩:=bcond hp
 have hp3:o.s.length≤9223372036854775799:=Nat.le_of_ble_eq_true hp3
 obtain ⟨x0,xs1,rfl,hx0,hx⟩:=hx.uncons
 obtain ⟨x1,xs2,rfl,hx1,hx⟩:=hx.uncons
 obtain ⟨x2,rfl,hx2⟩:=hx.one
 obtain ⟨cs,rfl,hc1,hc2⟩:=Rv.agg_inv (show Rv w J _ (.agg [.str o.s,.int .i64 o.err]) x0 from hx0)
 have hx1:=Rv.int_inv (show Rv w J _ (.int .u64 n) x1 from hx1)
 have hx2:=Rv.int_inv (show Rv w J _ (.int .i64 bytes) x2 from hx2)
 subst hx1 hx2
 match cs,hc1,hc2 with
 | [c0,c1],_,hc2 =>
  have h0:=Rv.str_inv (show Rv w J _ (.str o.s) c0 from hc2 0 (by simp))
  have h1:=Rv.int_inv (show Rv w J _ (.int .i64 o.err) c1 from hc2 1 (by simp))
  subst h0 h1
  refine .inl ⟨?_,?_⟩
  ·have hnm : ¬ (Tryd.f18).name = "runtime.NumGoroutine" := by
    intro e
    have : ((Tryd.f18).name == "runtime.NumGoroutine") = false := by kernel_rfl
    rw [e] at this; cases this
   obtain ⟨c,hc⟩:=Option.isSome_iff_exists.1 (show (Tryd.f18).body.isSome=true by kernel_rfl)
   simp [callFunc,Tryd.func18,hnm,hc]
  ·refine (outNum_walk ⟨o.s.toArray⟩ o.err n bytes w (by rw [bytes_size]; omega)).mono fun e w' ⟨he,hb⟩=>⟨_,he,J,?_⟩
   refine ⟨keeps_below _ hb,fun _ _ h=>h,fun b o' h=>Nat.lt_of_lt_of_le (hJ b o' h) hb.size,fun _ _ h _=>h,rfl,(fun j cs cs' p hj=>by cases hj),.inl ⟨rfl,?_⟩⟩
   refine .agg [.str (N.outNum o n bytes).s,.int .i64 (N.outNum o n bytes).err] [.string ⟨(o.s++N.numB n (N.clamp bytes)).toArray⟩,.int .i64 o.err] rfl fun i hi=>?_
   match i,hi with
   | 0,_=>exact .dat (.str _)
   | 1,_=>exact .dat (.int _ _)
end Go.Ev
