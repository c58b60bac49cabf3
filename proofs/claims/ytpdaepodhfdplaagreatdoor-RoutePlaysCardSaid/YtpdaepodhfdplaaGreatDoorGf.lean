/- What the statements on exchanges share: lemmas; the function that writes numbers is a premise. -/
import Derived.Test.YtpdaepodhfdplaaGreatDoorGe
import Derived.Test.YtpdaepodhfdplaaGreatDoorGc
import Derived.Test.YtpdaepodhfdplaaGreatDoorProg
import Derived.KernelRfl
import Derived.Shelf.Strings.Builder1
import Derived.RegionTactic
import Derived.Deep.RegionWith
namespace Go.Ev
open Go Go.Proofs
set_option maxRecDepth 100000
-- FOLD
def dLawTo:Den:=den (aOne (vAgg cBind)) bNil (oV (vAgg cBind)) (fun b _=>smallB b) fun b _=>(b,())
noncomputable def eLawTo:Env:=env Tryz.prog [] [] []
theorem q_lawTo (x:HBind):evFn eLawTo 84 ((aOne (vAgg cBind)).enc x) ([]) some =
 cond (Nat.beq (List.length (List.map (fun p=>[V.str (HPair.key p),V.int .u8 (HPair.kind p),V.int .i64 (HPair.num p),V.str (HPair.text p)]) (HBind.want x))) 0) (some {v:=V.agg [V.str (HBind.shop x),V.str (HBind.to x),V.bool (HBind.up x),V.str (HBind.key x),V.slc [.str,.int .u8,.int .i64,.str] [],V.bool (HBind.all x)],bx:=[]:DRes}) (cond (decide (List.length (List.map (fun p=>[V.str (HPair.key p),V.int .u8 (HPair.kind p),V.int .i64 (HPair.num p),V.str (HPair.text p)]) (HBind.want x))*48≤140737488355328)) (some {v:=V.agg [V.str (HBind.shop x),V.str (HBind.to x),V.bool (HBind.up x),V.str (HBind.key x),V.slc [.str,.int .u8,.int .i64,.str] (List.map (fun p=>[V.str (HPair.key p),V.int .u8 (HPair.kind p),V.int .i64 (HPair.num p),V.str (HPair.text p)]) (HBind.want x)),V.bool (HBind.all x)],bx:=[]:DRes}) (none)):=by kernel_rfl
theorem ok_lawTo:FnOk Tryz.prog 84 dLawTo:=by
 refine den_okF (env_ok (TOk.nil _)) (E:=eLawTo) Tryz.func84 [] (by kernel_rfl) none0 fun x _ hp=>?_
 have hp:smallP x.want=true:=hp
 have hl:x.want.length≤1000000:=ble_of hp
 refine (q_lawTo x).trans ?_
 simp (disch:=omega) only [evs]
 obtain ⟨x0,x1,x2,x3,x4,x5⟩:=x
 cases x4 with
 | nil=>rfl
 | cons a r=>rfl
def N.mapS:List (List V)→List (List V)
 | []=>[] | r::rs=>reS r::N.mapS rs
theorem mapS_cons (r:List V) (rs:List (List V)):N.mapS (r::rs)=reS r::N.mapS rs:=rfl
theorem mapS_enc (l:List HShop):N.mapS (l.map cShop.enc)=l.map cShop.enc:=by
 induction l with
 | nil=>rfl
 | cons x r ih=>rw [List.map_cons,mapS_cons,ih]; rfl
def dLawOfB:Den:=den (aOne (vAgg cBook)) bNil (oV (vAgg cBook)) (fun b _=>smallBook b) fun b _=>(b,())
def schLawOfB3:SSch:={ fr:=[(1,.ptr 10000 0 0),(2,.ptr 10001 0 0),(3,.ptr 10004 0 0),(9,.slc [.str,.int .u8,.str]),(10,.int .i64),(11,.int .i64)],tab:=[(10000,.var [.slc [.str,.int .u8,.str],.slc [.str,.str,.bool,.str,.slc [.str,.int .u8,.int .i64,.str],.bool]]),(10002,.sl [.str,.int .u8,.str]),(10003,.sl [.str,.str,.bool,.str,.slc [.str,.int .u8,.int .i64,.str],.bool]),(10001,.var [.own 10002,.own 10003]),(10005,.sl [.str,.int .u8,.str]),(10006,.sl [.str,.str,.bool,.str,.slc [.str,.int .u8,.int .i64,.str],.bool]),(10004,.var [.own 10005,.own 10006])] }
def gLawOfB3:List Leaf→(Ex→St→Option R)→Option R
 | [.r r,.i n,.i i,.r b0,.r b1,.r c0,.r c1,.r a,.r d1],K=>cond (n==r.length) (cond (i==0) (cond (Nat.ble r.length 1000) (cond (Nat.beq a.length 0) (K (.exit 0) { fr:=[(1,.ptr 10000 0 0 0),(2,.ptr 10001 0 0 0),(3,.ptr 10004 0 0 0)],tab:=[(10000,.var [.slc [.str,.int .u8,.str] b0,.slc [.str,.str,.bool,.str,.slc [.str,.int .u8,.int .i64,.str],.bool] b1]),(10002,.sl [.str,.int .u8,.str] c0 0),(10003,.sl [.str,.str,.bool,.str,.slc [.str,.int .u8,.int .i64,.str],.bool] c1 0),(10001,.var [.own 10002 0,.own 10003 0]),(10005,.sl [.str,.int .u8,.str] (N.mapS r) 0),(10006,.sl [.str,.str,.bool,.str,.slc [.str,.int .u8,.int .i64,.str],.bool] d1 0),(10004,.var [.own 10005 0,.own 10006 0])] }) none) none) none) none
 | _,_=>none
def schLawOfB8:SSch:={ fr:=[(2,.ptr 10000 0 0),(3,.ptr 10003 0 0),(23,.slc [.str,.str,.bool,.str,.slc [.str,.int .u8,.int .i64,.str],.bool]),(24,.int .i64),(25,.int .i64)],tab:=[(10001,.sl [.str,.int .u8,.str]),(10002,.sl [.str,.str,.bool,.str,.slc [.str,.int .u8,.int .i64,.str],.bool]),(10000,.var [.own 10001,.own 10002]),(10004,.sl [.str,.int .u8,.str]),(10005,.sl [.str,.str,.bool,.str,.slc [.str,.int .u8,.int .i64,.str],.bool]),(10003,.var [.own 10004,.own 10005])] }
def gLawOfB8:List Leaf→(Ex→St→Option R)→Option R
 | [.r r,.i n,.i i,.r c0,.r c1,.r d0,.r a],K=>cond (n==r.length) (cond (i==0) (cond (Nat.ble r.length 1000) (cond (Nat.beq a.length 0) (cond ((r.map cBind.dec).all smallB) (K (.exit 2) { fr:=[(2,.ptr 10000 0 0 0),(3,.ptr 10003 0 0 0)],tab:=[(10001,.sl [.str,.int .u8,.str] c0 0),(10002,.sl [.str,.str,.bool,.str,.slc [.str,.int .u8,.int .i64,.str],.bool] c1 0),(10000,.var [.own 10001 0,.own 10002 0]),(10004,.sl [.str,.int .u8,.str] d0 0),(10005,.sl [.str,.str,.bool,.str,.slc [.str,.int .u8,.int .i64,.str],.bool] (N.mapB r) 0),(10003,.var [.own 10004 0,.own 10005 0])] }) none) none) none) none) none
 | _,_=>none
noncomputable def eLawOfB:Env:=env Tryz.prog [(96,dShops),(97,dBinds),(84,dLawTo)] [(8,loopF schLawOfB8 gLawOfB8),(3,loopF schLawOfB3 gLawOfB3)] [(3,[(0,[1,2,3,9,10,11]),(1,[1,2,3]),(1000,[2])]),(8,[(0,[2,3,23,24,25]),(3,[2,3]),(1000,[2])])]
theorem q_lawOfB (b:HBook):evFn eLawOfB 42 ((aOne (vAgg cBook)).enc b) ([]) some =
 cond (smallBook {shops:=List.map (RCod.dec cShop) (List.map (RCod.enc cShop) (HBook.shops b)),binds:=List.map (RCod.dec cBind) (List.map (RCod.enc cBind) (HBook.binds b)):HBook}) (cond ((↑(List.length (List.map (RCod.enc cShop) (List.map (RCod.dec cShop) (List.map (RCod.enc cShop) (HBook.shops b))))):Int)==(↑(List.length (List.map (RCod.enc cShop) (List.map (RCod.dec cShop) (List.map (RCod.enc cShop) (HBook.shops b))))):Int)) (cond (Nat.ble (List.length (List.map (RCod.enc cShop) (List.map (RCod.dec cShop) (List.map (RCod.enc cShop) (HBook.shops b))))) 1000) (cond (smallBs (List.map (RCod.dec cBind) (List.map (RCod.enc cBind) (HBook.binds b)))) (cond ((↑(List.length (List.map (RCod.enc cBind) (List.map (RCod.dec cBind) (List.map (RCod.enc cBind) (HBook.binds b))))):Int)==(↑(List.length (List.map (RCod.enc cBind) (List.map (RCod.dec cBind) (List.map (RCod.enc cBind) (HBook.binds b))))):Int)) (cond (Nat.ble (List.length (List.map (RCod.enc cBind) (List.map (RCod.dec cBind) (List.map (RCod.enc cBind) (HBook.binds b))))) 1000) (cond (List.all (List.map (RCod.dec cBind) (List.map (RCod.enc cBind) (List.map (RCod.dec cBind) (List.map (RCod.enc cBind) (HBook.binds b))))) smallB) (some {v:=V.agg [V.slc [.str,.int .u8,.str] (N.mapS (List.map (RCod.enc cShop) (List.map (RCod.dec cShop) (List.map (RCod.enc cShop) (HBook.shops b))))),V.slc [.str,.str,.bool,.str,.slc [.str,.int .u8,.int .i64,.str],.bool] (N.mapB (List.map (RCod.enc cBind) (List.map (RCod.dec cBind) (List.map (RCod.enc cBind) (HBook.binds b)))))],bx:=[]:DRes}) (none)) (none)) (none)) (none)) (none)) (none)) (none):=by kernel_rfl
theorem q_lawOfBR3 (r:List (List V)) (n:Int) (i:Int) (b0:List (List V)) (b1:List (List V)) (c0:List (List V)) (c1:List (List V)) (a:List (List V)) (d1:List (List V)) (K:Ex→St→Option R):evRound eLawOfB 42 3 { fr:=[(1,.ptr 10000 0 0 0),(2,.ptr 10001 0 0 0),(3,.ptr 10004 0 0 0),(9,.slc [.str,.int .u8,.str] r),(10,.int .i64 n),(11,.int .i64 i)],tab:=[(10000,.var [.slc [.str,.int .u8,.str] b0,.slc [.str,.str,.bool,.str,.slc [.str,.int .u8,.int .i64,.str],.bool] b1]),(10002,.sl [.str,.int .u8,.str] c0 0),(10003,.sl [.str,.str,.bool,.str,.slc [.str,.int .u8,.int .i64,.str],.bool] c1 0),(10001,.var [.own 10002 0,.own 10003 0]),(10005,.sl [.str,.int .u8,.str] a 0),(10006,.sl [.str,.str,.bool,.str,.slc [.str,.int .u8,.int .i64,.str],.bool] d1 0),(10004,.var [.own 10005 0,.own 10006 0])] } K =
 cond (ilt i n) (cond (decide ((0:Int)≤i∧i<(↑(List.length r):Int))) (cond (decide ((List.length a+1)*40≤140737488355328)) (K Ex.normal {fr:=[(1,V.ptr 10000 0 0 0),(2,V.ptr 10001 0 0 0),(3,V.ptr 10004 0 0 0),(9,V.slc [.str,.int .u8,.str] r),(10,V.int .i64 n),(11,V.int .i64 (IntKind.wrap .i64 (i+(1:Int))))],tab:=[(10000,Box.var [V.slc [.str,.int .u8,.str] b0,V.slc [.str,.str,.bool,.str,.slc [.str,.int .u8,.int .i64,.str],.bool] b1]),(10002,Box.sl [.str,.int .u8,.str] c0 0),(10003,Box.sl [.str,.str,.bool,.str,.slc [.str,.int .u8,.int .i64,.str],.bool] c1 0),(10001,Box.var [V.own 10002 0,V.own 10003 0]),(10005,Box.sl [.str,.int .u8,.str] (a++[[V.str (V.toStr (List.getD (List.getD r (Int.toNat i) []) 0 V.undef)),V.int .u8 (V.toInt (List.getD (List.getD r (Int.toNat i) []) 1 V.undef)),V.str (V.toStr (List.getD (List.getD r (Int.toNat i) []) 2 V.undef))]]) 0),(10006,Box.sl [.str,.str,.bool,.str,.slc [.str,.int .u8,.int .i64,.str],.bool] d1 0),(10004,Box.var [V.own 10005 0,V.own 10006 0])]:St}) (none)) (none)) (K (Ex.exit 0) {fr:=[(1,V.ptr 10000 0 0 0),(2,V.ptr 10001 0 0 0),(3,V.ptr 10004 0 0 0)],tab:=[(10000,Box.var [V.slc [.str,.int .u8,.str] b0,V.slc [.str,.str,.bool,.str,.slc [.str,.int .u8,.int .i64,.str],.bool] b1]),(10002,Box.sl [.str,.int .u8,.str] c0 0),(10003,Box.sl [.str,.str,.bool,.str,.slc [.str,.int .u8,.int .i64,.str],.bool] c1 0),(10001,Box.var [V.own 10002 0,V.own 10003 0]),(10005,Box.sl [.str,.int .u8,.str] a 0),(10006,Box.sl [.str,.str,.bool,.str,.slc [.str,.int .u8,.int .i64,.str],.bool] d1 0),(10004,Box.var [V.own 10005 0,V.own 10006 0])]:St}):=by kernel_rfl
theorem ok_lawOfB_3:RoundsOk eLawOfB 42 3:=by
 refine rounds_of rfl fun l K q h=>?_
 unfold gLawOfB3 at h
 split at h
 ·rename_i r n i b0 b1 c0 c1 a d1
  have h1:=(cond_none h).1; replace h:=(cond_none h).2; have h2:=(cond_none h).1; replace h:=(cond_none h).2; have h3:=(cond_none h).1; replace h:=(cond_none h).2; have h4:=(cond_none h).1; replace h:=(cond_none h).2
  have e1:=ieq_of h1
  have e2:=ieq_of h2
  have e3:=List.eq_nil_of_length_eq_zero (nbeq_of h4)
  subst e1 e2 e3
  have h3:r.length≤1000:=ble_of h3
  have main:=range_ind (E:=eLawOfB) (f:=42) (id:=3) (A:=List (List V)) r (fun acc i=>{ fr:=[(1,.ptr 10000 0 0 0),(2,.ptr 10001 0 0 0),(3,.ptr 10004 0 0 0),(9,.slc [.str,.int .u8,.str] r),(10,.int .i64 r.length),(11,.int .i64 i)],tab:=[(10000,.var [.slc [.str,.int .u8,.str] b0,.slc [.str,.str,.bool,.str,.slc [.str,.int .u8,.int .i64,.str],.bool] b1]),(10002,.sl [.str,.int .u8,.str] c0 0),(10003,.sl [.str,.str,.bool,.str,.slc [.str,.int .u8,.int .i64,.str],.bool] c1 0),(10001,.var [.own 10002 0,.own 10003 0]),(10005,.sl [.str,.int .u8,.str] acc 0),(10006,.sl [.str,.str,.bool,.str,.slc [.str,.int .u8,.int .i64,.str],.bool] d1 0),(10004,.var [.own 10005 0,.own 10006 0])] }) (fun acc i=>acc.length≤i)
   (fun acc rows K=>K (.exit 0) { fr:=[(1,.ptr 10000 0 0 0),(2,.ptr 10001 0 0 0),(3,.ptr 10004 0 0 0)],tab:=[(10000,.var [.slc [.str,.int .u8,.str] b0,.slc [.str,.str,.bool,.str,.slc [.str,.int .u8,.int .i64,.str],.bool] b1]),(10002,.sl [.str,.int .u8,.str] c0 0),(10003,.sl [.str,.str,.bool,.str,.slc [.str,.int .u8,.int .i64,.str],.bool] c1 0),(10001,.var [.own 10002 0,.own 10003 0]),(10005,.sl [.str,.int .u8,.str] (acc++N.mapS rows) 0),(10006,.sl [.str,.str,.bool,.str,.slc [.str,.int .u8,.int .i64,.str],.bool] d1 0),(10004,.var [.own 10005 0,.own 10006 0])] }) (fun acc i ha hi=>?_) (fun acc ha=>?_) [] 0 (Int.le_refl _) (by omega) (Nat.zero_le _) K q (by assumption)
  ·exact main
  ·have hq:=fun K=>q_lawOfBR3 r r.length i b0 b1 c0 c1 acc d1 K
   have t1:ilt (i:Int) r.length=true:=ilt_t (by omega)
   have t2:decide ((0:Int)≤i∧(i:Int)<r.length)=true:=decide_eq_true (by omega)
   have t3:IntKind.wrap .i64 ((i:Int)+1)=(i:Int)+1:=wr_i64 (by omega) (by omega)
   simp only [Int.toNat_natCast,fold_reS] at hq
   simp only [t1,t2,t3,cond_true] at hq
   refine .inl ⟨acc++[reS (r.getD i [])],by rw [List.length_append]; simp only [List.length_cons,List.length_nil]; omega,fun K=>?_,fun K=>?_⟩
   ·rw [hq]
    have t5:decide ((acc.length+1)*40≤140737488355328)=true:=decide_eq_true (by omega)
    simp only [cond_true,t5]
    try rfl
   ·simp only [mapS_cons,List.append_assoc,List.singleton_append]
  ·refine ⟨.exit 0,{ fr:=[(1,.ptr 10000 0 0 0),(2,.ptr 10001 0 0 0),(3,.ptr 10004 0 0 0)],tab:=[(10000,.var [.slc [.str,.int .u8,.str] b0,.slc [.str,.str,.bool,.str,.slc [.str,.int .u8,.int .i64,.str],.bool] b1]),(10002,.sl [.str,.int .u8,.str] c0 0),(10003,.sl [.str,.str,.bool,.str,.slc [.str,.int .u8,.int .i64,.str],.bool] c1 0),(10001,.var [.own 10002 0,.own 10003 0]),(10005,.sl [.str,.int .u8,.str] (acc) 0),(10006,.sl [.str,.str,.bool,.str,.slc [.str,.int .u8,.int .i64,.str],.bool] d1 0),(10004,.var [.own 10005 0,.own 10006 0])] },by simp,fun K=>?_,fun K=>by show K _ _=K _ _; rw [show N.mapS []=[] from rfl,List.append_nil]⟩
   rw [q_lawOfBR3]
   simp (disch:=omega) only [evs]
   try rfl
 ·cases h
theorem q_lawOfBR8 (r:List (List V)) (n:Int) (i:Int) (c0:List (List V)) (c1:List (List V)) (d0:List (List V)) (a:List (List V)) (K:Ex→St→Option R):evRound eLawOfB 42 8 { fr:=[(2,.ptr 10000 0 0 0),(3,.ptr 10003 0 0 0),(23,.slc [.str,.str,.bool,.str,.slc [.str,.int .u8,.int .i64,.str],.bool] r),(24,.int .i64 n),(25,.int .i64 i)],tab:=[(10001,.sl [.str,.int .u8,.str] c0 0),(10002,.sl [.str,.str,.bool,.str,.slc [.str,.int .u8,.int .i64,.str],.bool] c1 0),(10000,.var [.own 10001 0,.own 10002 0]),(10004,.sl [.str,.int .u8,.str] d0 0),(10005,.sl [.str,.str,.bool,.str,.slc [.str,.int .u8,.int .i64,.str],.bool] a 0),(10003,.var [.own 10004 0,.own 10005 0])] } K =
 cond (ilt i n) (cond (decide ((0:Int)≤i∧i<(↑(List.length r):Int))) (cond (smallB {shop:=V.toStr (List.getD (List.getD r (Int.toNat i) []) 0 V.undef),to:=V.toStr (List.getD (List.getD r (Int.toNat i) []) 1 V.undef),up:=V.toBool (List.getD (List.getD r (Int.toNat i) []) 2 V.undef),key:=V.toStr (List.getD (List.getD r (Int.toNat i) []) 3 V.undef),want:=List.map (fun r=>{key:=V.toStr (List.getD r 0 .undef),kind:=V.toInt (List.getD r 1 .undef),num:=V.toInt (List.getD r 2 .undef),text:=V.toStr (List.getD r 3 .undef):HPair}) (V.toRows (List.getD (List.getD r (Int.toNat i) []) 4 V.undef)),all:=V.toBool (List.getD (List.getD r (Int.toNat i) []) 5 V.undef):HBind}) (cond (decide ((List.length a+1)*88≤140737488355328)) (K Ex.normal {fr:=[(2,V.ptr 10000 0 0 0),(3,V.ptr 10003 0 0 0),(23,V.slc [.str,.str,.bool,.str,.slc [.str,.int .u8,.int .i64,.str],.bool] r),(24,V.int .i64 n),(25,V.int .i64 (IntKind.wrap .i64 (i+(1:Int))))],tab:=[(10001,Box.sl [.str,.int .u8,.str] c0 0),(10002,Box.sl [.str,.str,.bool,.str,.slc [.str,.int .u8,.int .i64,.str],.bool] c1 0),(10000,Box.var [V.own 10001 0,V.own 10002 0]),(10004,Box.sl [.str,.int .u8,.str] d0 0),(10005,Box.sl [.str,.str,.bool,.str,.slc [.str,.int .u8,.int .i64,.str],.bool] (a++[[V.str (V.toStr (List.getD (List.getD r (Int.toNat i) []) 0 V.undef)),V.str (V.toStr (List.getD (List.getD r (Int.toNat i) []) 1 V.undef)),V.bool (V.toBool (List.getD (List.getD r (Int.toNat i) []) 2 V.undef)),V.str (V.toStr (List.getD (List.getD r (Int.toNat i) []) 3 V.undef)),V.slc [.str,.int .u8,.int .i64,.str] (List.map (fun p=>[V.str (HPair.key p),V.int .u8 (HPair.kind p),V.int .i64 (HPair.num p),V.str (HPair.text p)]) (List.map (fun r=>{key:=V.toStr (List.getD r 0 .undef),kind:=V.toInt (List.getD r 1 .undef),num:=V.toInt (List.getD r 2 .undef),text:=V.toStr (List.getD r 3 .undef):HPair}) (V.toRows (List.getD (List.getD r (Int.toNat i) []) 4 V.undef)))),V.bool (V.toBool (List.getD (List.getD r (Int.toNat i) []) 5 V.undef))]]) 0),(10003,Box.var [V.own 10004 0,V.own 10005 0])]:St}) (none)) (none)) (none)) (K (Ex.exit 2) {fr:=[(2,V.ptr 10000 0 0 0),(3,V.ptr 10003 0 0 0)],tab:=[(10001,Box.sl [.str,.int .u8,.str] c0 0),(10002,Box.sl [.str,.str,.bool,.str,.slc [.str,.int .u8,.int .i64,.str],.bool] c1 0),(10000,Box.var [V.own 10001 0,V.own 10002 0]),(10004,Box.sl [.str,.int .u8,.str] d0 0),(10005,Box.sl [.str,.str,.bool,.str,.slc [.str,.int .u8,.int .i64,.str],.bool] a 0),(10003,Box.var [V.own 10004 0,V.own 10005 0])]:St}):=by kernel_rfl
theorem ok_lawOfB_8:RoundsOk eLawOfB 42 8:=by
 refine rounds_of rfl fun l K q h=>?_
 unfold gLawOfB8 at h
 split at h
 ·rename_i r n i c0 c1 d0 a
  have h1:=(cond_none h).1; replace h:=(cond_none h).2; have h2:=(cond_none h).1; replace h:=(cond_none h).2; have h3:=(cond_none h).1; replace h:=(cond_none h).2; have h4:=(cond_none h).1; replace h:=(cond_none h).2; have h5:=(cond_none h).1; replace h:=(cond_none h).2
  have e1:=ieq_of h1
  have e2:=ieq_of h2
  have e3:=List.eq_nil_of_length_eq_zero (nbeq_of h4)
  subst e1 e2 e3
  have h3:r.length≤1000:=ble_of h3
  have main:=range_ind (E:=eLawOfB) (f:=42) (id:=8) (A:=List (List V)) r (fun acc i=>{ fr:=[(2,.ptr 10000 0 0 0),(3,.ptr 10003 0 0 0),(23,.slc [.str,.str,.bool,.str,.slc [.str,.int .u8,.int .i64,.str],.bool] r),(24,.int .i64 r.length),(25,.int .i64 i)],tab:=[(10001,.sl [.str,.int .u8,.str] c0 0),(10002,.sl [.str,.str,.bool,.str,.slc [.str,.int .u8,.int .i64,.str],.bool] c1 0),(10000,.var [.own 10001 0,.own 10002 0]),(10004,.sl [.str,.int .u8,.str] d0 0),(10005,.sl [.str,.str,.bool,.str,.slc [.str,.int .u8,.int .i64,.str],.bool] acc 0),(10003,.var [.own 10004 0,.own 10005 0])] }) (fun acc i=>acc.length≤i)
   (fun acc rows K=>K (.exit 2) { fr:=[(2,.ptr 10000 0 0 0),(3,.ptr 10003 0 0 0)],tab:=[(10001,.sl [.str,.int .u8,.str] c0 0),(10002,.sl [.str,.str,.bool,.str,.slc [.str,.int .u8,.int .i64,.str],.bool] c1 0),(10000,.var [.own 10001 0,.own 10002 0]),(10004,.sl [.str,.int .u8,.str] d0 0),(10005,.sl [.str,.str,.bool,.str,.slc [.str,.int .u8,.int .i64,.str],.bool] (acc++N.mapB rows) 0),(10003,.var [.own 10004 0,.own 10005 0])] }) (fun acc i ha hi=>?_) (fun acc ha=>?_) [] 0 (Int.le_refl _) (by omega) (Nat.zero_le _) K q (by assumption)
  ·exact main
  ·have hq:=fun K=>q_lawOfBR8 r r.length i c0 c1 d0 acc K
   have t1:ilt (i:Int) r.length=true:=ilt_t (by omega)
   have t2:decide ((0:Int)≤i∧(i:Int)<r.length)=true:=decide_eq_true (by omega)
   have t3:IntKind.wrap .i64 ((i:Int)+1)=(i:Int)+1:=wr_i64 (by omega) (by omega)
   have hs:smallB (cBind.dec (r.getD i []))=true:=List.all_eq_true.1 h5 _ (List.mem_map_of_mem (by rw [List.getD_eq_getElem?_getD,List.getElem?_eq_getElem hi]; exact List.getElem_mem hi))
   simp only [Int.toNat_natCast,fold_bind,hs] at hq
   simp only [t1,t2,t3,cond_true] at hq
   refine .inl ⟨acc++[cBind.enc (cBind.dec (r.getD i []))],by rw [List.length_append]; simp only [List.length_cons,List.length_nil]; omega,fun K=>?_,fun K=>?_⟩
   ·rw [hq]
    have t5:decide ((acc.length+1)*88≤140737488355328)=true:=decide_eq_true (by omega)
    simp only [cond_true,t5]
    try rfl
   ·simp only [mapB_cons,List.append_assoc,List.singleton_append]
  ·refine ⟨.exit 2,{ fr:=[(2,.ptr 10000 0 0 0),(3,.ptr 10003 0 0 0)],tab:=[(10001,.sl [.str,.int .u8,.str] c0 0),(10002,.sl [.str,.str,.bool,.str,.slc [.str,.int .u8,.int .i64,.str],.bool] c1 0),(10000,.var [.own 10001 0,.own 10002 0]),(10004,.sl [.str,.int .u8,.str] d0 0),(10005,.sl [.str,.str,.bool,.str,.slc [.str,.int .u8,.int .i64,.str],.bool] (acc) 0),(10003,.var [.own 10004 0,.own 10005 0])] },by simp,fun K=>?_,fun K=>by show K _ _=K _ _; rw [show N.mapB []=[] from rfl,List.append_nil]⟩
   rw [q_lawOfBR8]
   simp (disch:=omega) only [evs]
   try rfl
 ·cases h
theorem ok_lawOfB:FnOk Tryz.prog 42 dLawOfB:=by
 refine den_okF (env_ok ((((TOk.nil _).cons ok_lawTo).cons ok_binds).cons ok_shops)) (E:=eLawOfB) Tryz.func42 [3,8] (by kernel_rfl) (two2 ok_lawOfB_3 ok_lawOfB_8) fun b _ hp=>?_
 have h0:smallBook b=true:=hp
 obtain ⟨h1,h2⟩:=bcond hp
 have h2:smallBs b.binds=true:=h2
 obtain ⟨h3,h4⟩:=bcond h2
 refine (q_lawOfB b).trans ?_
 simp only [List.length_map,dec_encs,h0,h1,h2,h3,h4,beq_self_eq_true,cond_true,mapS_enc,mapB_enc]
 try rfl
namespace N
def lightRA (a:HRAct):Bool:=cond (ile a.shop.name.length 40) (cond (ile a.shop.to.length 40) (cond (ile a.bind.shop.length 40) (cond (ile a.bind.to.length 40) (cond (ile a.bind.key.length 100) (light a.bind.want) false) false) false) false) false
def lightRAs:List HRAct→Bool
 | []=>true | a::r=>cond (lightRA a) (lightRAs r) false
end N
def dLight14:Den:=den (aOne (vSl cRA)) bNil (oV vBool) (fun l _=>Nat.ble l.length 9223372036854775807) fun l _=>(cond (ile l.length 40) (N.lightRAs l) false,())
def schLight14:SSch:={ fr:=[(8,.slc [.int .u8,.str,.int .u8,.str,.str,.str,.bool,.str,.slc [.str,.int .u8,.int .i64,.str],.bool]),(9,.int .i64),(10,.int .i64)],tab:=[] }
def gLight14:List Leaf→(Ex→St→Option R)→Option R
 | [.r r,.i n,.i i],K=>cond (n==r.length) (cond (i==0) (cond (Nat.ble r.length 40) (cond (N.lightRAs (r.map cRA.dec)) (K (.exit 0) { fr:=[],tab:=[] }) (K .ret { fr:=[(2,.bool false)],tab:=[] })) none) none) none
 | _,_=>none
noncomputable def eLight14:Env:=env Tryz.prog [(33,dLight)] [(4,loopF schLight14 gLight14)] [(4,[(0,[8,9,10]),(1,[]),(1000,[2])])]
theorem q_light14 (l:List HRAct):evFn eLight14 31 ((aOne (vSl cRA)).enc l) ([]) some =
 cond (ilt (40:Int) (↑(List.length (List.map (RCod.enc cRA) l)):Int)) (some {v:=V.bool false,bx:=[]:DRes}) (cond ((↑(List.length (List.map (RCod.enc cRA) l)):Int)==(↑(List.length (List.map (RCod.enc cRA) l)):Int)) (cond (Nat.ble (List.length (List.map (RCod.enc cRA) l)) 40) (cond (N.lightRAs (List.map (RCod.dec cRA) (List.map (RCod.enc cRA) l))) (some {v:=V.bool true,bx:=[]:DRes}) (some {v:=V.bool false,bx:=[]:DRes})) (none)) (none)):=by kernel_rfl
theorem q_light14R (r:List (List V)) (n i:Int) (K:Ex→St→Option R):evRound eLight14 31 4 { fr:=[(8,.slc [.int .u8,.str,.int .u8,.str,.str,.str,.bool,.str,.slc [.str,.int .u8,.int .i64,.str],.bool] r),(9,.int .i64 n),(10,.int .i64 i)],tab:=[] } K =
 cond (ilt i n) (cond (decide ((0:Int)≤i∧i<(↑(List.length r):Int))) (cond (ilt (40:Int) (bif ilt (bif ilt (bif ilt (↑(List.length (V.toStr (List.getD (List.getD r (Int.toNat i) []) 1 V.undef))):Int) (↑(List.length (V.toStr (List.getD (List.getD r (Int.toNat i) []) 3 V.undef))):Int) then (↑(List.length (V.toStr (List.getD (List.getD r (Int.toNat i) []) 3 V.undef))):Int) else (↑(List.length (V.toStr (List.getD (List.getD r (Int.toNat i) []) 1 V.undef))):Int)) (↑(List.length (V.toStr (List.getD (List.getD r (Int.toNat i) []) 4 V.undef))):Int) then (↑(List.length (V.toStr (List.getD (List.getD r (Int.toNat i) []) 4 V.undef))):Int) else bif ilt (↑(List.length (V.toStr (List.getD (List.getD r (Int.toNat i) []) 1 V.undef))):Int) (↑(List.length (V.toStr (List.getD (List.getD r (Int.toNat i) []) 3 V.undef))):Int) then (↑(List.length (V.toStr (List.getD (List.getD r (Int.toNat i) []) 3 V.undef))):Int) else (↑(List.length (V.toStr (List.getD (List.getD r (Int.toNat i) []) 1 V.undef))):Int)) (↑(List.length (V.toStr (List.getD (List.getD r (Int.toNat i) []) 5 V.undef))):Int) then (↑(List.length (V.toStr (List.getD (List.getD r (Int.toNat i) []) 5 V.undef))):Int) else bif ilt (bif ilt (↑(List.length (V.toStr (List.getD (List.getD r (Int.toNat i) []) 1 V.undef))):Int) (↑(List.length (V.toStr (List.getD (List.getD r (Int.toNat i) []) 3 V.undef))):Int) then (↑(List.length (V.toStr (List.getD (List.getD r (Int.toNat i) []) 3 V.undef))):Int) else (↑(List.length (V.toStr (List.getD (List.getD r (Int.toNat i) []) 1 V.undef))):Int)) (↑(List.length (V.toStr (List.getD (List.getD r (Int.toNat i) []) 4 V.undef))):Int) then (↑(List.length (V.toStr (List.getD (List.getD r (Int.toNat i) []) 4 V.undef))):Int) else bif ilt (↑(List.length (V.toStr (List.getD (List.getD r (Int.toNat i) []) 1 V.undef))):Int) (↑(List.length (V.toStr (List.getD (List.getD r (Int.toNat i) []) 3 V.undef))):Int) then (↑(List.length (V.toStr (List.getD (List.getD r (Int.toNat i) []) 3 V.undef))):Int) else (↑(List.length (V.toStr (List.getD (List.getD r (Int.toNat i) []) 1 V.undef))):Int))) (K Ex.ret {fr:=[(2,V.bool false)],tab:=[]:St}) (cond (ilt (100:Int) (↑(List.length (V.toStr (List.getD (List.getD r (Int.toNat i) []) 7 V.undef))):Int)) (K Ex.ret {fr:=[(2,V.bool false)],tab:=[]:St}) (cond (!N.light (List.map (RCod.dec cPair) (V.toRows (List.getD (List.getD r (Int.toNat i) []) 8 V.undef)))) (K Ex.ret {fr:=[(2,V.bool false)],tab:=[]:St}) (K Ex.normal {fr:=[(8,V.slc [.int .u8,.str,.int .u8,.str,.str,.str,.bool,.str,.slc [.str,.int .u8,.int .i64,.str],.bool] r),(9,V.int .i64 n),(10,V.int .i64 (IntKind.wrap .i64 (i+(1:Int))))],tab:=[]:St})))) (none)) (K (Ex.exit 0) {fr:=[],tab:=[]:St}):=by kernel_rfl
end Go.Ev

/- What acts on exchanges do: program and document alike: lemmas; a condition on kinds is a premise. -/
namespace Go.Ev
open Go
set_option maxRecDepth 100000
namespace N
def pStep (b:HBook) (a:HRAct):HBook × Int :=
 cond (Int.tmod a.op 5==0) (bMake b a.shop) (cond (Int.tmod a.op 5==1) (bDrop b a.shop.name) (cond (Int.tmod a.op 5==2) (bBind b a.bind) (cond (Int.tmod a.op 5==3) (bUnbind b a.bind) (bForget b a.bind.to,0))))
def dStep (b:HBook) (a:HRAct):HBook × Int :=
 cond (Int.tmod a.op 5==0) (bMake b a.shop) (cond (Int.tmod a.op 5==1) (rDrop b a.shop.name) (cond (Int.tmod a.op 5==2) (rBind b a.bind) (cond (Int.tmod a.op 5==3) (rUnbind b a.bind) (bForget b a.bind.to,0))))
end N
def LightB (y:HBind):Prop:=y.key.length≤100∧y.want.length≤12
structure BInv (b:HBook):Prop where
 names:b.shops.Pairwise fun x y=>x.name ≠ y.name
 few:b.shops.length≤8
 sort:∀ x∈b.shops,0≤x.sort∧x.sort≤4
 nd:b.binds.Nodup
 fewB:b.binds.length≤32
 light:∀ y∈b.binds,LightB y
theorem BInv.nil:BInv ⟨[],[]⟩:=⟨.nil,by simp,by simp,by simp,by simp,by simp⟩
theorem lightB_small {y:HBind} (h:LightB y):smallB y=true:=by
 show Nat.ble y.want.length 1000000=true
 exact Nat.ble_eq_true_of_le (by have:=h.2; omega)
theorem BInv.small {b:HBook} (h:BInv b):smallBook b=true:=by
 have h1:Nat.ble b.shops.length 1000=true:=Nat.ble_eq_true_of_le (by have:=h.few; omega)
 have h2:Nat.ble b.binds.length 1000=true:=Nat.ble_eq_true_of_le (by have:=h.fewB; omega)
 have h3:b.binds.all smallB=true:=List.all_eq_true.2 fun y hy=>lightB_small (h.light y hy)
 show cond _ (cond _ _ false) false=true
 rw [h1,h2,h3]; rfl
theorem isShop_iff {n:Bytes} {x:HShop}:N.isShop n x=true↔x.name=n:=beq_iff_eq
theorem cut_at {α:Type} (a:List α) (x:α) (b:List α):N.cutG (a++x::b) (0+(a.length:Int)).toNat=a++b:=by
 have e:(0+(a.length:Int)).toNat=a.length:=by omega
 unfold N.cutG
 rw [e,List.take_left' rfl,List.drop_append]
 simp
theorem any_f {α:Type} {p:α→Bool} {l:List α} (h:l.any p=false):∀ x∈l,p x=false:=by
 intro x hx
 cases e:p x with
 | false=>rfl
 | true=>rw [List.any_eq_true.2 ⟨x,hx,e⟩] at h; cases h
theorem drop_shops {l:List HShop} {n:Bytes} (h:l.Pairwise fun x y=>x.name ≠ y.name) (hi:ilt (N.ixG (N.isShop n) l 0) 0=false):N.cutG l (N.ixG (N.isShop n) l 0).toNat=l.filter (N.offS n):=by
 rcases ixG_spec (N.isShop n) l 0 with ⟨e,_⟩ | ⟨a,x,b,e1,e2,e3,e4,_⟩
 ·rw [e] at hi; cases hi
 ·rw [e2,e1,cut_at]
  rw [e1] at h
  obtain ⟨_,h2,_⟩:=List.pairwise_append.1 h
  have hx:=isShop_iff.1 e3
  have ha:a.filter (N.offS n)=a:=List.filter_eq_self.2 fun y hy=>by unfold N.offS; rw [any_f e4 y hy]; rfl
  have hb:b.filter (N.offS n)=b:=List.filter_eq_self.2 fun y hy=>by
   unfold N.offS
   cases e:N.isShop n y with
   | false=>rfl
   | true=>exact absurd ((isShop_iff.1 e).trans hx.symm).symm ((List.pairwise_cons.1 h2).1 y hy)
  have hc:N.offS n x=false:=by unfold N.offS; rw [e3]; rfl
  rw [List.filter_append,ha,List.filter_cons_of_neg (by rw [hc]; simp),hb]
theorem unbind_binds {l:List HBind} {x:HBind} (h:l.Nodup) (hi:ilt (N.ixG (N.bindSame x) l 0) 0=false):N.cutG l (N.ixG (N.bindSame x) l 0).toNat=l.filter (N.offBind x):=by
 rcases ixG_spec (N.bindSame x) l 0 with ⟨e,_⟩ | ⟨a,y,b,e1,e2,e3,e4,_⟩
 ·rw [e] at hi; cases hi
 ·rw [e2,e1,cut_at]
  rw [e1] at h
  obtain ⟨_,h2,_⟩:=List.nodup_append.1 h
  have hx:=bindSame_eq.1 e3
  have ha:a.filter (N.offBind x)=a:=List.filter_eq_self.2 fun z hz=>by unfold N.offBind; rw [any_f e4 z hz]; rfl
  have hb:b.filter (N.offBind x)=b:=List.filter_eq_self.2 fun z hz=>by
   unfold N.offBind
   cases e:N.bindSame x z with
   | false=>rfl
   | true =>
    have:y=z:=hx.symm.trans (bindSame_eq.1 e)
    exact absurd (this ▸ hz) (List.nodup_cons.1 h2).1
  have hc:N.offBind x y=false:=by unfold N.offBind; rw [e3]; rfl
  rw [List.filter_append,ha,List.filter_cons_of_neg (by rw [hc]; simp),hb]
theorem bDrop_eq {b:HBook} (h:BInv b) (n:Bytes):N.bDrop b n=N.rDrop b n:=by
 unfold N.bDrop N.rDrop
 cases e:ilt (N.ixG (N.isShop n) b.shops 0) 0 with
 | true=>rfl
 | false=>rw [drop_shops h.names e]
theorem bUnbind_eq {b:HBook} (h:BInv b) (x:HBind):N.bUnbind b x=N.rUnbind b x:=by
 unfold N.bUnbind N.rUnbind
 rw [← ixG_ge]
 cases e:ilt (N.ixG (N.bindSame x) b.binds 0) 0 with
 | true =>
  have e2:ile 0 (N.ixG (N.bindSame x) b.binds 0)=false:=by
   have:(!ile 0 (N.ixG (N.bindSame x) b.binds 0))=true:=e
   cases h:ile 0 (N.ixG (N.bindSame x) b.binds 0) with
   | false=>rfl
   | true=>rw [h] at this; cases this
  rw [e2]; rfl
 | false =>
  have e2:ile 0 (N.ixG (N.bindSame x) b.binds 0)=true:=by
   have:(!ile 0 (N.ixG (N.bindSame x) b.binds 0))=false:=e
   cases h:ile 0 (N.ixG (N.bindSame x) b.binds 0) with
   | true=>rfl
   | false=>rw [h] at this; cases this
  rw [e2,unbind_binds h.nd e]; rfl
theorem shopOf_mem {n:Bytes}:∀ {l:List HShop},(N.shopOf n l).2=true→(N.shopOf n l).1∈l∧(N.shopOf n l).1.name=n
 | [],h=>by cases h
 | x::r,h=>by
  unfold N.shopOf at h ⊢
  cases e:N.isShop n x with
  | true=>exact ⟨List.mem_cons_self,isShop_iff.1 e⟩
  | false =>
   rw [e] at h
   obtain ⟨h1,h2⟩:=shopOf_mem (l:=r) h
   exact ⟨List.mem_cons_of_mem _ h1,h2⟩
theorem bBind_eq {b:HBook} (h:BInv b) (x:HBind):N.bBind b x=N.rBind b x:=by
 unfold N.bBind N.rBind
 cases e:(N.shopOf x.shop b.shops).2 with
 | false=>rfl
 | true=>rw [ruleCheck_eq (r:=N.bindRule x (N.shopOf x.shop b.shops).1.sort) (h.sort _ (shopOf_mem e).1).1]
theorem step_eq {b:HBook} (h:BInv b) (a:HRAct):N.pStep b a=N.dStep b a:=by
 unfold N.pStep N.dStep
 rw [bDrop_eq h,bUnbind_eq h,bBind_eq h]
theorem name_any {n:Bytes} {l:List HShop} (h:l.any (N.isShop n)=false):∀ x∈l,x.name ≠ n:=fun x hx e=>by
 rw [List.any_eq_true.2 ⟨x,hx,isShop_iff.2 e⟩] at h; cases h
theorem BInv.make {b:HBook} (h:BInv b) {x:HShop} (hx:0≤x.sort):BInv (N.bMake b x).1:=by
 unfold N.bMake
 cases e1:N.shopCheck x != 0 with
 | true=>exact h
 | false =>
  cases e2:(N.shopOf x.name b.shops).2 with
  | true=>cases N.eqShop x (N.shopOf x.name b.shops).1<;>exact h
  | false =>
   cases e3:ile 8 b.shops.length with
   | true=>exact h
   | false =>
    rw [shopOf_ix] at e2
    have h8:(b.shops.length:Int)<8:=ile_nof e3
    have hc:ilt 4 x.sort=false:=by
     cases e:ilt 4 x.sort with
     | false=>rfl
     | true =>
      unfold N.shopCheck at e1
      cases e4:N.name x.name != 0 with
      | true=>rw [e4] at e1; rw [cond_true,e4] at e1; cases e1
      | false=>rw [e4,e] at e1; cases e1
    refine ⟨List.pairwise_append.2 ⟨h.names,List.pairwise_singleton _ _,fun y hy z hz=>?_⟩,?_,fun y hy=>?_,h.nd,h.fewB,h.light⟩
    ·rw [List.mem_singleton.1 hz]; exact name_any e2 y hy
    ·show (b.shops++[x]).length≤8
     rw [List.length_append]; simp; omega
    ·rcases List.mem_append.1 hy with hy | hy
     ·exact h.sort y hy
     ·rw [List.mem_singleton.1 hy]; exact ⟨hx,ilt_nof hc⟩
theorem BInv.keep {b:HBook} (h:BInv b) (p:HShop→Bool) (q:HBind→Bool):BInv ⟨b.shops.filter p,b.binds.filter q⟩ :=
 ⟨h.names.filter _,Nat.le_trans (List.length_filter_le _ _) h.few,fun x hx=>h.sort x (List.mem_filter.1 hx).1,h.nd.filter _,Nat.le_trans (List.length_filter_le _ _) h.fewB,fun y hy=>h.light y (List.mem_filter.1 hy).1⟩
theorem BInv.keepB {b:HBook} (h:BInv b) (q:HBind→Bool):BInv ⟨b.shops,b.binds.filter q⟩ :=
 ⟨h.names,h.few,h.sort,h.nd.filter _,Nat.le_trans (List.length_filter_le _ _) h.fewB,fun y hy=>h.light y (List.mem_filter.1 hy).1⟩
theorem BInv.bind {b:HBook} (h:BInv b) {x:HBind} (hx:LightB x):BInv (N.bBind b x).1:=by
 unfold N.bBind
 cases (N.shopOf x.shop b.shops).2 with
 | false=>exact h
 | true =>
  cases (N.shopOf x.shop b.shops).1.sort==4 with
  | true=>exact h
  | false =>
   cases N.name x.to != 0 with
   | true=>exact h
   | false =>
    cases N.ruleCheck (N.bindRule x (N.shopOf x.shop b.shops).1.sort) != 0 with
    | true=>exact h
    | false =>
     cases e1:b.binds.any (N.bindSame x) with
     | true=>exact h
     | false =>
      cases e2:ile 32 b.binds.length with
      | true=>exact h
      | false =>
       have h3:(b.binds.length:Int)<32:=ile_nof e2
       refine ⟨h.names,h.few,h.sort,List.nodup_append.2 ⟨h.nd,by simp,fun y hy z hz=>?_⟩,?_,fun y hy=>?_⟩
       ·rw [List.mem_singleton.1 hz]
        intro e
        have:=any_f e1 y hy
        rw [bindSame_eq.2 e.symm] at this; cases this
       ·show (b.binds++[x]).length≤32
        rw [List.length_append]; simp; omega
       ·rcases List.mem_append.1 hy with hy | hy
        ·exact h.light y hy
        ·rw [List.mem_singleton.1 hy]; exact hx
theorem BInv.step {b:HBook} (h:BInv b) {a:HRAct} (hs:0≤a.shop.sort) (hl:LightB a.bind):BInv (N.pStep b a).1:=by
 unfold N.pStep
 cases Int.tmod a.op 5==0 with
 | true=>exact h.make hs
 | false =>
  cases Int.tmod a.op 5==1 with
  | true =>
   show BInv (N.bDrop b a.shop.name).1
   rw [bDrop_eq h]
   unfold N.rDrop
   cases ilt (N.ixG (N.isShop a.shop.name) b.shops 0) 0 with
   | true=>exact h
   | false=>exact h.keep _ _
  | false =>
   cases Int.tmod a.op 5==2 with
   | true=>exact h.bind hl
   | false =>
    cases Int.tmod a.op 5==3 with
    | true =>
     show BInv (N.bUnbind b a.bind).1
     rw [bUnbind_eq h]
     unfold N.rUnbind
     cases b.binds.any (N.bindSame a.bind) with
     | true=>exact h.keepB _
     | false=>exact h
    | false=>exact h.keepB _
theorem lightRA_bind {a:HRAct} (h:N.lightRA a=true):LightB a.bind:=by
 obtain ⟨_,h⟩:=bcond h
 obtain ⟨_,h⟩:=bcond h
 obtain ⟨_,h⟩:=bcond h
 obtain ⟨_,h⟩:=bcond h
 obtain ⟨h1,h2⟩:=bcond h
 exact ⟨by have:=ile_of h1; omega,light_small h2⟩
end Go.Ev

/- What the statements on exchanges share,the second part: lemmas; the function that writes numbers is a premise. -/
namespace Go.Ev
open Go Go.Proofs
set_option maxRecDepth 100000
-- FOLD
theorem ile_not (x y:Int):ile x y = !ilt y x:=by
 show ile x y = !!ile x y
 rw [Bool.not_not]
theorem ilt_max (k x y:Int):ilt k (cond (ilt x y) y x)=cond (ilt k x) true (ilt k y):=by
 cases h:ilt x y with
 | true =>
  have h:=ilt_of h
  cases h1:ilt k x with
  | true=>exact (ilt_t (by have:=ilt_of h1; omega):ilt k y=true)
  | false=>rfl
 | false =>
  have h:=ilt_nof h
  cases h1:ilt k x with
  | true=>exact h1
  | false =>
   have h1':=ilt_nof h1
   show ilt k x=ilt k y
   rw [h1,ilt_f (by omega)]
theorem light_cond {α:Type} (a b c d e:Int) (g:Bool) (x y:α):cond (ilt 40 (cond (ilt (cond (ilt (cond (ilt a b) b a) c) c (cond (ilt a b) b a)) d) d (cond (ilt (cond (ilt a b) b a) c) c (cond (ilt a b) b a)))) x (cond (ilt 100 e) x (cond (!g) x y)) =
  cond (cond (ile a 40) (cond (ile b 40) (cond (ile c 40) (cond (ile d 40) (cond (ile e 100) g false) false) false) false) false) y x:=by
 simp only [ilt_max,ile_not]
 cases ilt 40 a<;>cases ilt 40 b<;>cases ilt 40 c<;>cases ilt 40 d<;>cases ilt 100 e<;>cases g<;>rfl
theorem light14_round (r:List (List V)) (n i:Int) (K:Ex→St→Option R):evRound eLight14 31 4 { fr:=[(8,.slc [.int .u8,.str,.int .u8,.str,.str,.str,.bool,.str,.slc [.str,.int .u8,.int .i64,.str],.bool] r),(9,.int .i64 n),(10,.int .i64 i)],tab:=[] } K =
  cond (ilt i n) (cond (decide ((0:Int)≤i∧i<r.length)) (cond (N.lightRA (cRA.dec (r.getD i.toNat [])))
   (K .normal { fr:=[(8,.slc [.int .u8,.str,.int .u8,.str,.str,.str,.bool,.str,.slc [.str,.int .u8,.int .i64,.str],.bool] r),(9,.int .i64 n),(10,.int .i64 (IntKind.wrap .i64 (i+1)))],tab:=[] }) (K .ret { fr:=[(2,.bool false)],tab:=[] })) none) (K (.exit 0) { fr:=[],tab:=[] }):=by
 rw [q_light14R,light_cond]
 try rfl
theorem ok_light14:FnOk Tryz.prog 31 dLight14:=by
 refine den_okF (env_ok ((TOk.nil _).cons ok_light)) (E:=eLight14) Tryz.func31 [4] (by kernel_rfl) (one1 (rounds_of rfl fun l K q h=>?_)) fun l _ hp=>?_
 ·unfold gLight14 at h
  split at h
  ·rename_i r n i
   have h1:=(cond_none h).1; replace h:=(cond_none h).2; have h2:=(cond_none h).1; replace h:=(cond_none h).2; have h3:=(cond_none h).1; replace h:=(cond_none h).2
   have e1:=ieq_of h1
   have e2:=ieq_of h2
   subst e1 e2
   have h3:r.length≤40:=ble_of h3
   have main:=range_ind (E:=eLight14) (f:=31) (id:=4) (A:=Unit) r (fun _ i=>{ fr:=[(8,.slc [.int .u8,.str,.int .u8,.str,.str,.str,.bool,.str,.slc [.str,.int .u8,.int .i64,.str],.bool] r),(9,.int .i64 r.length),(10,.int .i64 i)],tab:=[] }) (fun _ _=>True)
    (fun _ rows K=>cond (N.lightRAs (rows.map cRA.dec)) (K (.exit 0) { fr:=[],tab:=[] }) (K .ret { fr:=[(2,.bool false)],tab:=[] })) (fun _ i _ hi=>?_) (fun _ _=>?_) () 0 (Int.le_refl _) (by omega) trivial K q (by assumption)
   ·exact main
   ·rw [List.map_cons]
    have t1:ilt (i:Int) r.length=true:=ilt_t (by omega)
    have t2:decide ((0:Int)≤i∧(i:Int)<r.length)=true:=decide_eq_true (by omega)
    have t3:IntKind.wrap .i64 ((i:Int)+1)=(i:Int)+1:=wr_i64 (by omega) (by omega)
    cases hc:N.lightRA (cRA.dec (r.getD i [])) with
    | true =>
     refine .inl ⟨(),trivial,fun K=>?_,fun K=>?_⟩
     ·rw [light14_round]
      simp only [Int.toNat_natCast,hc,t1,t2,t3,cond_true]
     ·show cond (cond (N.lightRA (cRA.dec (r.getD i []))) _ false) _ _=_
      rw [hc]; rfl
    | false =>
     refine .inr ⟨.ret,{ fr:=[(2,.bool false)],tab:=[] },by simp,fun K=>?_,fun K=>?_⟩
     ·rw [light14_round]
      simp only [Int.toNat_natCast,hc,t1,t2,cond_true,cond_false]
     ·show cond (cond (N.lightRA (cRA.dec (r.getD i []))) _ false) _ _=_
      rw [hc]; rfl
   ·refine ⟨.exit 0,{ fr:=[],tab:=[] },by simp,fun K=>?_,fun K=>rfl⟩
    rw [light14_round,ilt_f (by omega)]
    try rfl
  ·cases h
 ·refine (q_light14 l).trans ?_
  show _=some (⟨.bool (cond (ile l.length 40) (N.lightRAs l) false),[],[]⟩:DRes)
  simp only [List.length_map,dec_encs,beq_self_eq_true,cond_true,ile_not]
  cases e:ilt 40 (l.length:Int) with
  | true=>rfl
  | false =>
   have e1:Nat.ble l.length 40=true:=Nat.ble_eq_true_of_le (by have:=ilt_nof e; omega)
   rw [e1]
   cases N.lightRAs l<;>rfl
noncomputable def eAw10' : Env:=env Tryz.prog [(124,dTrue)] [] []
theorem q_aw10'  : evFn eAw10' 76 [] [] some =
 some {v:=V.bool true,bx:=[]:DRes}:=by kernel_rfl
theorem ok_aw10' (hN:FnOk Tryz.prog 158 dOutNum):FnOk Tryz.prog 76 dTrue :=
 den_okF (env_ok ((TOk.nil _).cons (ok_aw10 hN))) (E:=eAw10') Tryz.func76 [] (by kernel_rfl) none0 fun _ _ _=>q_aw10'
noncomputable def eAw14:Env:=env Tryz.prog [(73,dBMake),(74,dBBind),(36,dBLeads),(75,dTrue),(76,dTrue),(40,dEqS)] [] []
theorem q_aw14  : evFn eAw14 30 [] [] some =
 some {v:=V.bool true,bx:=[]:DRes}:=by kernel_rfl
theorem ok_aw14 (hN:FnOk Tryz.prog 158 dOutNum):FnOk Tryz.prog 30 dTrue :=
 den_okF (env_ok (((((((TOk.nil _).cons ok_eqS).cons (ok_aw10' hN)).cons ok_aw4').cons ok_bLeads).cons ok_bBind).cons ok_bMake)) (E:=eAw14) Tryz.func30 [] (by kernel_rfl) none0 fun _ _ _=>q_aw14
def dDone14:Den:=den (aCons (vAgg cBook) (aCons (vAgg cBook) (aOne (vAgg cRA)))) bNil (oTup (aCons (vAgg cBook) (aCons (vAgg cBook) (aOne vBool)))) (fun a _=>cond (smallBook a.1) (cond (smallBook a.2.1) (smallB a.2.2.bind) false) false)
 fun a _=>(((N.pStep a.1 a.2.2).1,(N.dStep a.2.1 a.2.2).1,(N.pStep a.1 a.2.2).2==(N.dStep a.2.1 a.2.2).2),())
noncomputable def eDone14:Env:=env Tryz.prog [(73,dBMake),(80,dRMakeB),(81,dBDrop),(82,dRDropB),(74,dBBind),(84,dLawTo),(83,dRBindB),(85,dBUnbind),(86,dRUnbindB),(87,dBForget),(88,dRForgetB)] [] []
theorem q_done14 (b q:HBook) (a:HRAct):evFn eDone14 35 (((aCons (vAgg cBook) (aCons (vAgg cBook) (aOne (vAgg cRA)))).enc (b,q,a))) ([]) some =
 cond (Int.tmod (HRAct.op a) (5:Int)==(0:Int)) (cond (smallBook {shops:=List.map (RCod.dec cShop) (List.map (RCod.enc cShop) (HBook.shops b)),binds:=List.map (RCod.dec cBind) (List.map (RCod.enc cBind) (HBook.binds b)):HBook}) (cond (smallBook {shops:=List.map (RCod.dec cShop) (List.map (RCod.enc cShop) (HBook.shops q)),binds:=List.map (RCod.dec cBind) (List.map (RCod.enc cBind) (HBook.binds q)):HBook}) (some {v:=V.tup [V.agg [V.slc [.str,.int .u8,.str] (List.map (RCod.enc cShop) (HBook.shops (Prod.fst (N.bMake {shops:=List.map (RCod.dec cShop) (List.map (RCod.enc cShop) (HBook.shops b)),binds:=List.map (RCod.dec cBind) (List.map (RCod.enc cBind) (HBook.binds b)):HBook} (HRAct.shop a))))),V.slc [.str,.str,.bool,.str,.slc [.str,.int .u8,.int .i64,.str],.bool] (List.map (RCod.enc cBind) (HBook.binds (Prod.fst (N.bMake {shops:=List.map (RCod.dec cShop) (List.map (RCod.enc cShop) (HBook.shops b)),binds:=List.map (RCod.dec cBind) (List.map (RCod.enc cBind) (HBook.binds b)):HBook} (HRAct.shop a)))))],V.agg [V.slc [.str,.int .u8,.str] (List.map (RCod.enc cShop) (HBook.shops (Prod.fst (N.bMake {shops:=List.map (RCod.dec cShop) (List.map (RCod.enc cShop) (HBook.shops q)),binds:=List.map (RCod.dec cBind) (List.map (RCod.enc cBind) (HBook.binds q)):HBook} (HRAct.shop a))))),V.slc [.str,.str,.bool,.str,.slc [.str,.int .u8,.int .i64,.str],.bool] (List.map (RCod.enc cBind) (HBook.binds (Prod.fst (N.bMake {shops:=List.map (RCod.dec cShop) (List.map (RCod.enc cShop) (HBook.shops q)),binds:=List.map (RCod.dec cBind) (List.map (RCod.enc cBind) (HBook.binds q)):HBook} (HRAct.shop a)))))],V.bool (Prod.snd (N.bMake {shops:=List.map (RCod.dec cShop) (List.map (RCod.enc cShop) (HBook.shops b)),binds:=List.map (RCod.dec cBind) (List.map (RCod.enc cBind) (HBook.binds b)):HBook} (HRAct.shop a))==Prod.snd (N.bMake {shops:=List.map (RCod.dec cShop) (List.map (RCod.enc cShop) (HBook.shops q)),binds:=List.map (RCod.dec cBind) (List.map (RCod.enc cBind) (HBook.binds q)):HBook} (HRAct.shop a)))],bx:=[]:DRes}) (none)) (none)) (cond (Int.tmod (HRAct.op a) (5:Int)==(1:Int)) (cond (smallBook {shops:=List.map (RCod.dec cShop) (List.map (RCod.enc cShop) (HBook.shops b)),binds:=List.map (RCod.dec cBind) (List.map (RCod.enc cBind) (HBook.binds b)):HBook}) (cond (smallBook {shops:=List.map (RCod.dec cShop) (List.map (RCod.enc cShop) (HBook.shops q)),binds:=List.map (RCod.dec cBind) (List.map (RCod.enc cBind) (HBook.binds q)):HBook}) (some {v:=V.tup [V.agg [V.slc [.str,.int .u8,.str] (List.map (RCod.enc cShop) (HBook.shops (Prod.fst (N.bDrop {shops:=List.map (RCod.dec cShop) (List.map (RCod.enc cShop) (HBook.shops b)),binds:=List.map (RCod.dec cBind) (List.map (RCod.enc cBind) (HBook.binds b)):HBook} (HShop.name (HRAct.shop a)))))),V.slc [.str,.str,.bool,.str,.slc [.str,.int .u8,.int .i64,.str],.bool] (List.map (RCod.enc cBind) (HBook.binds (Prod.fst (N.bDrop {shops:=List.map (RCod.dec cShop) (List.map (RCod.enc cShop) (HBook.shops b)),binds:=List.map (RCod.dec cBind) (List.map (RCod.enc cBind) (HBook.binds b)):HBook} (HShop.name (HRAct.shop a))))))],V.agg [V.slc [.str,.int .u8,.str] (List.map (RCod.enc cShop) (HBook.shops (Prod.fst (N.rDrop {shops:=List.map (RCod.dec cShop) (List.map (RCod.enc cShop) (HBook.shops q)),binds:=List.map (RCod.dec cBind) (List.map (RCod.enc cBind) (HBook.binds q)):HBook} (HShop.name (HRAct.shop a)))))),V.slc [.str,.str,.bool,.str,.slc [.str,.int .u8,.int .i64,.str],.bool] (List.map (RCod.enc cBind) (HBook.binds (Prod.fst (N.rDrop {shops:=List.map (RCod.dec cShop) (List.map (RCod.enc cShop) (HBook.shops q)),binds:=List.map (RCod.dec cBind) (List.map (RCod.enc cBind) (HBook.binds q)):HBook} (HShop.name (HRAct.shop a))))))],V.bool (Prod.snd (N.bDrop {shops:=List.map (RCod.dec cShop) (List.map (RCod.enc cShop) (HBook.shops b)),binds:=List.map (RCod.dec cBind) (List.map (RCod.enc cBind) (HBook.binds b)):HBook} (HShop.name (HRAct.shop a)))==Prod.snd (N.rDrop {shops:=List.map (RCod.dec cShop) (List.map (RCod.enc cShop) (HBook.shops q)),binds:=List.map (RCod.dec cBind) (List.map (RCod.enc cBind) (HBook.binds q)):HBook} (HShop.name (HRAct.shop a))))],bx:=[]:DRes}) (none)) (none)) (cond (Int.tmod (HRAct.op a) (5:Int)==(2:Int)) (cond (bif smallBook {shops:=List.map (RCod.dec cShop) (List.map (RCod.enc cShop) (HBook.shops b)),binds:=List.map (RCod.dec cBind) (List.map (RCod.enc cBind) (HBook.binds b)):HBook} then smallB {shop:=HBind.shop (HRAct.bind a),to:=HBind.to (HRAct.bind a),up:=HBind.up (HRAct.bind a),key:=HBind.key (HRAct.bind a),want:=List.map (fun r=>{key:=V.toStr (List.getD r 0 .undef),kind:=V.toInt (List.getD r 1 .undef),num:=V.toInt (List.getD r 2 .undef),text:=V.toStr (List.getD r 3 .undef):HPair}) (List.map (fun p=>[V.str (HPair.key p),V.int .u8 (HPair.kind p),V.int .i64 (HPair.num p),V.str (HPair.text p)]) (HBind.want (HRAct.bind a))),all:=HBind.all (HRAct.bind a):HBind} else false) (cond (smallB {shop:=HBind.shop (HRAct.bind a),to:=HBind.to (HRAct.bind a),up:=HBind.up (HRAct.bind a),key:=HBind.key (HRAct.bind a),want:=List.map (fun r=>{key:=V.toStr (List.getD r 0 .undef),kind:=V.toInt (List.getD r 1 .undef),num:=V.toInt (List.getD r 2 .undef),text:=V.toStr (List.getD r 3 .undef):HPair}) (List.map (fun p=>[V.str (HPair.key p),V.int .u8 (HPair.kind p),V.int .i64 (HPair.num p),V.str (HPair.text p)]) (HBind.want (HRAct.bind a))),all:=HBind.all (HRAct.bind a):HBind}) (cond (bif smallBook {shops:=List.map (RCod.dec cShop) (List.map (RCod.enc cShop) (HBook.shops q)),binds:=List.map (RCod.dec cBind) (List.map (RCod.enc cBind) (HBook.binds q)):HBook} then smallB {shop:=HBind.shop (HRAct.bind a),to:=HBind.to (HRAct.bind a),up:=HBind.up (HRAct.bind a),key:=HBind.key (HRAct.bind a),want:=List.map (fun r=>{key:=V.toStr (List.getD r 0 .undef),kind:=V.toInt (List.getD r 1 .undef),num:=V.toInt (List.getD r 2 .undef),text:=V.toStr (List.getD r 3 .undef):HPair}) (List.map (fun p=>[V.str (HPair.key p),V.int .u8 (HPair.kind p),V.int .i64 (HPair.num p),V.str (HPair.text p)]) (List.map (fun r=>{key:=V.toStr (List.getD r 0 .undef),kind:=V.toInt (List.getD r 1 .undef),num:=V.toInt (List.getD r 2 .undef),text:=V.toStr (List.getD r 3 .undef):HPair}) (List.map (fun p=>[V.str (HPair.key p),V.int .u8 (HPair.kind p),V.int .i64 (HPair.num p),V.str (HPair.text p)]) (HBind.want (HRAct.bind a))))),all:=HBind.all (HRAct.bind a):HBind} else false) (some {v:=V.tup [V.agg [V.slc [.str,.int .u8,.str] (List.map (RCod.enc cShop) (HBook.shops (Prod.fst (N.bBind {shops:=List.map (RCod.dec cShop) (List.map (RCod.enc cShop) (HBook.shops b)),binds:=List.map (RCod.dec cBind) (List.map (RCod.enc cBind) (HBook.binds b)):HBook} {shop:=HBind.shop (HRAct.bind a),to:=HBind.to (HRAct.bind a),up:=HBind.up (HRAct.bind a),key:=HBind.key (HRAct.bind a),want:=List.map (fun r=>{key:=V.toStr (List.getD r 0 .undef),kind:=V.toInt (List.getD r 1 .undef),num:=V.toInt (List.getD r 2 .undef),text:=V.toStr (List.getD r 3 .undef):HPair}) (List.map (fun p=>[V.str (HPair.key p),V.int .u8 (HPair.kind p),V.int .i64 (HPair.num p),V.str (HPair.text p)]) (HBind.want (HRAct.bind a))),all:=HBind.all (HRAct.bind a):HBind})))),V.slc [.str,.str,.bool,.str,.slc [.str,.int .u8,.int .i64,.str],.bool] (List.map (RCod.enc cBind) (HBook.binds (Prod.fst (N.bBind {shops:=List.map (RCod.dec cShop) (List.map (RCod.enc cShop) (HBook.shops b)),binds:=List.map (RCod.dec cBind) (List.map (RCod.enc cBind) (HBook.binds b)):HBook} {shop:=HBind.shop (HRAct.bind a),to:=HBind.to (HRAct.bind a),up:=HBind.up (HRAct.bind a),key:=HBind.key (HRAct.bind a),want:=List.map (fun r=>{key:=V.toStr (List.getD r 0 .undef),kind:=V.toInt (List.getD r 1 .undef),num:=V.toInt (List.getD r 2 .undef),text:=V.toStr (List.getD r 3 .undef):HPair}) (List.map (fun p=>[V.str (HPair.key p),V.int .u8 (HPair.kind p),V.int .i64 (HPair.num p),V.str (HPair.text p)]) (HBind.want (HRAct.bind a))),all:=HBind.all (HRAct.bind a):HBind}))))],V.agg [V.slc [.str,.int .u8,.str] (List.map (RCod.enc cShop) (HBook.shops (Prod.fst (N.rBind {shops:=List.map (RCod.dec cShop) (List.map (RCod.enc cShop) (HBook.shops q)),binds:=List.map (RCod.dec cBind) (List.map (RCod.enc cBind) (HBook.binds q)):HBook} {shop:=HBind.shop (HRAct.bind a),to:=HBind.to (HRAct.bind a),up:=HBind.up (HRAct.bind a),key:=HBind.key (HRAct.bind a),want:=List.map (fun r=>{key:=V.toStr (List.getD r 0 .undef),kind:=V.toInt (List.getD r 1 .undef),num:=V.toInt (List.getD r 2 .undef),text:=V.toStr (List.getD r 3 .undef):HPair}) (List.map (fun p=>[V.str (HPair.key p),V.int .u8 (HPair.kind p),V.int .i64 (HPair.num p),V.str (HPair.text p)]) (List.map (fun r=>{key:=V.toStr (List.getD r 0 .undef),kind:=V.toInt (List.getD r 1 .undef),num:=V.toInt (List.getD r 2 .undef),text:=V.toStr (List.getD r 3 .undef):HPair}) (List.map (fun p=>[V.str (HPair.key p),V.int .u8 (HPair.kind p),V.int .i64 (HPair.num p),V.str (HPair.text p)]) (HBind.want (HRAct.bind a))))),all:=HBind.all (HRAct.bind a):HBind})))),V.slc [.str,.str,.bool,.str,.slc [.str,.int .u8,.int .i64,.str],.bool] (List.map (RCod.enc cBind) (HBook.binds (Prod.fst (N.rBind {shops:=List.map (RCod.dec cShop) (List.map (RCod.enc cShop) (HBook.shops q)),binds:=List.map (RCod.dec cBind) (List.map (RCod.enc cBind) (HBook.binds q)):HBook} {shop:=HBind.shop (HRAct.bind a),to:=HBind.to (HRAct.bind a),up:=HBind.up (HRAct.bind a),key:=HBind.key (HRAct.bind a),want:=List.map (fun r=>{key:=V.toStr (List.getD r 0 .undef),kind:=V.toInt (List.getD r 1 .undef),num:=V.toInt (List.getD r 2 .undef),text:=V.toStr (List.getD r 3 .undef):HPair}) (List.map (fun p=>[V.str (HPair.key p),V.int .u8 (HPair.kind p),V.int .i64 (HPair.num p),V.str (HPair.text p)]) (List.map (fun r=>{key:=V.toStr (List.getD r 0 .undef),kind:=V.toInt (List.getD r 1 .undef),num:=V.toInt (List.getD r 2 .undef),text:=V.toStr (List.getD r 3 .undef):HPair}) (List.map (fun p=>[V.str (HPair.key p),V.int .u8 (HPair.kind p),V.int .i64 (HPair.num p),V.str (HPair.text p)]) (HBind.want (HRAct.bind a))))),all:=HBind.all (HRAct.bind a):HBind}))))],V.bool (Prod.snd (N.bBind {shops:=List.map (RCod.dec cShop) (List.map (RCod.enc cShop) (HBook.shops b)),binds:=List.map (RCod.dec cBind) (List.map (RCod.enc cBind) (HBook.binds b)):HBook} {shop:=HBind.shop (HRAct.bind a),to:=HBind.to (HRAct.bind a),up:=HBind.up (HRAct.bind a),key:=HBind.key (HRAct.bind a),want:=List.map (fun r=>{key:=V.toStr (List.getD r 0 .undef),kind:=V.toInt (List.getD r 1 .undef),num:=V.toInt (List.getD r 2 .undef),text:=V.toStr (List.getD r 3 .undef):HPair}) (List.map (fun p=>[V.str (HPair.key p),V.int .u8 (HPair.kind p),V.int .i64 (HPair.num p),V.str (HPair.text p)]) (HBind.want (HRAct.bind a))),all:=HBind.all (HRAct.bind a):HBind})==Prod.snd (N.rBind {shops:=List.map (RCod.dec cShop) (List.map (RCod.enc cShop) (HBook.shops q)),binds:=List.map (RCod.dec cBind) (List.map (RCod.enc cBind) (HBook.binds q)):HBook} {shop:=HBind.shop (HRAct.bind a),to:=HBind.to (HRAct.bind a),up:=HBind.up (HRAct.bind a),key:=HBind.key (HRAct.bind a),want:=List.map (fun r=>{key:=V.toStr (List.getD r 0 .undef),kind:=V.toInt (List.getD r 1 .undef),num:=V.toInt (List.getD r 2 .undef),text:=V.toStr (List.getD r 3 .undef):HPair}) (List.map (fun p=>[V.str (HPair.key p),V.int .u8 (HPair.kind p),V.int .i64 (HPair.num p),V.str (HPair.text p)]) (List.map (fun r=>{key:=V.toStr (List.getD r 0 .undef),kind:=V.toInt (List.getD r 1 .undef),num:=V.toInt (List.getD r 2 .undef),text:=V.toStr (List.getD r 3 .undef):HPair}) (List.map (fun p=>[V.str (HPair.key p),V.int .u8 (HPair.kind p),V.int .i64 (HPair.num p),V.str (HPair.text p)]) (HBind.want (HRAct.bind a))))),all:=HBind.all (HRAct.bind a):HBind}))],bx:=[]:DRes}) (none)) (none)) (none)) (cond (Int.tmod (HRAct.op a) (5:Int)==(3:Int)) (cond (bif smallBook {shops:=List.map (RCod.dec cShop) (List.map (RCod.enc cShop) (HBook.shops b)),binds:=List.map (RCod.dec cBind) (List.map (RCod.enc cBind) (HBook.binds b)):HBook} then smallB {shop:=HBind.shop (HRAct.bind a),to:=HBind.to (HRAct.bind a),up:=HBind.up (HRAct.bind a),key:=HBind.key (HRAct.bind a),want:=List.map (fun r=>{key:=V.toStr (List.getD r 0 .undef),kind:=V.toInt (List.getD r 1 .undef),num:=V.toInt (List.getD r 2 .undef),text:=V.toStr (List.getD r 3 .undef):HPair}) (List.map (fun p=>[V.str (HPair.key p),V.int .u8 (HPair.kind p),V.int .i64 (HPair.num p),V.str (HPair.text p)]) (HBind.want (HRAct.bind a))),all:=HBind.all (HRAct.bind a):HBind} else false) (cond (smallB {shop:=HBind.shop (HRAct.bind a),to:=HBind.to (HRAct.bind a),up:=HBind.up (HRAct.bind a),key:=HBind.key (HRAct.bind a),want:=List.map (fun r=>{key:=V.toStr (List.getD r 0 .undef),kind:=V.toInt (List.getD r 1 .undef),num:=V.toInt (List.getD r 2 .undef),text:=V.toStr (List.getD r 3 .undef):HPair}) (List.map (fun p=>[V.str (HPair.key p),V.int .u8 (HPair.kind p),V.int .i64 (HPair.num p),V.str (HPair.text p)]) (HBind.want (HRAct.bind a))),all:=HBind.all (HRAct.bind a):HBind}) (cond (bif smallBook {shops:=List.map (RCod.dec cShop) (List.map (RCod.enc cShop) (HBook.shops q)),binds:=List.map (RCod.dec cBind) (List.map (RCod.enc cBind) (HBook.binds q)):HBook} then smallB {shop:=HBind.shop (HRAct.bind a),to:=HBind.to (HRAct.bind a),up:=HBind.up (HRAct.bind a),key:=HBind.key (HRAct.bind a),want:=List.map (fun r=>{key:=V.toStr (List.getD r 0 .undef),kind:=V.toInt (List.getD r 1 .undef),num:=V.toInt (List.getD r 2 .undef),text:=V.toStr (List.getD r 3 .undef):HPair}) (List.map (fun p=>[V.str (HPair.key p),V.int .u8 (HPair.kind p),V.int .i64 (HPair.num p),V.str (HPair.text p)]) (List.map (fun r=>{key:=V.toStr (List.getD r 0 .undef),kind:=V.toInt (List.getD r 1 .undef),num:=V.toInt (List.getD r 2 .undef),text:=V.toStr (List.getD r 3 .undef):HPair}) (List.map (fun p=>[V.str (HPair.key p),V.int .u8 (HPair.kind p),V.int .i64 (HPair.num p),V.str (HPair.text p)]) (HBind.want (HRAct.bind a))))),all:=HBind.all (HRAct.bind a):HBind} else false) (some {v:=V.tup [V.agg [V.slc [.str,.int .u8,.str] (List.map (RCod.enc cShop) (HBook.shops (Prod.fst (N.bUnbind {shops:=List.map (RCod.dec cShop) (List.map (RCod.enc cShop) (HBook.shops b)),binds:=List.map (RCod.dec cBind) (List.map (RCod.enc cBind) (HBook.binds b)):HBook} {shop:=HBind.shop (HRAct.bind a),to:=HBind.to (HRAct.bind a),up:=HBind.up (HRAct.bind a),key:=HBind.key (HRAct.bind a),want:=List.map (fun r=>{key:=V.toStr (List.getD r 0 .undef),kind:=V.toInt (List.getD r 1 .undef),num:=V.toInt (List.getD r 2 .undef),text:=V.toStr (List.getD r 3 .undef):HPair}) (List.map (fun p=>[V.str (HPair.key p),V.int .u8 (HPair.kind p),V.int .i64 (HPair.num p),V.str (HPair.text p)]) (HBind.want (HRAct.bind a))),all:=HBind.all (HRAct.bind a):HBind})))),V.slc [.str,.str,.bool,.str,.slc [.str,.int .u8,.int .i64,.str],.bool] (List.map (RCod.enc cBind) (HBook.binds (Prod.fst (N.bUnbind {shops:=List.map (RCod.dec cShop) (List.map (RCod.enc cShop) (HBook.shops b)),binds:=List.map (RCod.dec cBind) (List.map (RCod.enc cBind) (HBook.binds b)):HBook} {shop:=HBind.shop (HRAct.bind a),to:=HBind.to (HRAct.bind a),up:=HBind.up (HRAct.bind a),key:=HBind.key (HRAct.bind a),want:=List.map (fun r=>{key:=V.toStr (List.getD r 0 .undef),kind:=V.toInt (List.getD r 1 .undef),num:=V.toInt (List.getD r 2 .undef),text:=V.toStr (List.getD r 3 .undef):HPair}) (List.map (fun p=>[V.str (HPair.key p),V.int .u8 (HPair.kind p),V.int .i64 (HPair.num p),V.str (HPair.text p)]) (HBind.want (HRAct.bind a))),all:=HBind.all (HRAct.bind a):HBind}))))],V.agg [V.slc [.str,.int .u8,.str] (List.map (RCod.enc cShop) (HBook.shops (Prod.fst (N.rUnbind {shops:=List.map (RCod.dec cShop) (List.map (RCod.enc cShop) (HBook.shops q)),binds:=List.map (RCod.dec cBind) (List.map (RCod.enc cBind) (HBook.binds q)):HBook} {shop:=HBind.shop (HRAct.bind a),to:=HBind.to (HRAct.bind a),up:=HBind.up (HRAct.bind a),key:=HBind.key (HRAct.bind a),want:=List.map (fun r=>{key:=V.toStr (List.getD r 0 .undef),kind:=V.toInt (List.getD r 1 .undef),num:=V.toInt (List.getD r 2 .undef),text:=V.toStr (List.getD r 3 .undef):HPair}) (List.map (fun p=>[V.str (HPair.key p),V.int .u8 (HPair.kind p),V.int .i64 (HPair.num p),V.str (HPair.text p)]) (List.map (fun r=>{key:=V.toStr (List.getD r 0 .undef),kind:=V.toInt (List.getD r 1 .undef),num:=V.toInt (List.getD r 2 .undef),text:=V.toStr (List.getD r 3 .undef):HPair}) (List.map (fun p=>[V.str (HPair.key p),V.int .u8 (HPair.kind p),V.int .i64 (HPair.num p),V.str (HPair.text p)]) (HBind.want (HRAct.bind a))))),all:=HBind.all (HRAct.bind a):HBind})))),V.slc [.str,.str,.bool,.str,.slc [.str,.int .u8,.int .i64,.str],.bool] (List.map (RCod.enc cBind) (HBook.binds (Prod.fst (N.rUnbind {shops:=List.map (RCod.dec cShop) (List.map (RCod.enc cShop) (HBook.shops q)),binds:=List.map (RCod.dec cBind) (List.map (RCod.enc cBind) (HBook.binds q)):HBook} {shop:=HBind.shop (HRAct.bind a),to:=HBind.to (HRAct.bind a),up:=HBind.up (HRAct.bind a),key:=HBind.key (HRAct.bind a),want:=List.map (fun r=>{key:=V.toStr (List.getD r 0 .undef),kind:=V.toInt (List.getD r 1 .undef),num:=V.toInt (List.getD r 2 .undef),text:=V.toStr (List.getD r 3 .undef):HPair}) (List.map (fun p=>[V.str (HPair.key p),V.int .u8 (HPair.kind p),V.int .i64 (HPair.num p),V.str (HPair.text p)]) (List.map (fun r=>{key:=V.toStr (List.getD r 0 .undef),kind:=V.toInt (List.getD r 1 .undef),num:=V.toInt (List.getD r 2 .undef),text:=V.toStr (List.getD r 3 .undef):HPair}) (List.map (fun p=>[V.str (HPair.key p),V.int .u8 (HPair.kind p),V.int .i64 (HPair.num p),V.str (HPair.text p)]) (HBind.want (HRAct.bind a))))),all:=HBind.all (HRAct.bind a):HBind}))))],V.bool (Prod.snd (N.bUnbind {shops:=List.map (RCod.dec cShop) (List.map (RCod.enc cShop) (HBook.shops b)),binds:=List.map (RCod.dec cBind) (List.map (RCod.enc cBind) (HBook.binds b)):HBook} {shop:=HBind.shop (HRAct.bind a),to:=HBind.to (HRAct.bind a),up:=HBind.up (HRAct.bind a),key:=HBind.key (HRAct.bind a),want:=List.map (fun r=>{key:=V.toStr (List.getD r 0 .undef),kind:=V.toInt (List.getD r 1 .undef),num:=V.toInt (List.getD r 2 .undef),text:=V.toStr (List.getD r 3 .undef):HPair}) (List.map (fun p=>[V.str (HPair.key p),V.int .u8 (HPair.kind p),V.int .i64 (HPair.num p),V.str (HPair.text p)]) (HBind.want (HRAct.bind a))),all:=HBind.all (HRAct.bind a):HBind})==Prod.snd (N.rUnbind {shops:=List.map (RCod.dec cShop) (List.map (RCod.enc cShop) (HBook.shops q)),binds:=List.map (RCod.dec cBind) (List.map (RCod.enc cBind) (HBook.binds q)):HBook} {shop:=HBind.shop (HRAct.bind a),to:=HBind.to (HRAct.bind a),up:=HBind.up (HRAct.bind a),key:=HBind.key (HRAct.bind a),want:=List.map (fun r=>{key:=V.toStr (List.getD r 0 .undef),kind:=V.toInt (List.getD r 1 .undef),num:=V.toInt (List.getD r 2 .undef),text:=V.toStr (List.getD r 3 .undef):HPair}) (List.map (fun p=>[V.str (HPair.key p),V.int .u8 (HPair.kind p),V.int .i64 (HPair.num p),V.str (HPair.text p)]) (List.map (fun r=>{key:=V.toStr (List.getD r 0 .undef),kind:=V.toInt (List.getD r 1 .undef),num:=V.toInt (List.getD r 2 .undef),text:=V.toStr (List.getD r 3 .undef):HPair}) (List.map (fun p=>[V.str (HPair.key p),V.int .u8 (HPair.kind p),V.int .i64 (HPair.num p),V.str (HPair.text p)]) (HBind.want (HRAct.bind a))))),all:=HBind.all (HRAct.bind a):HBind}))],bx:=[]:DRes}) (none)) (none)) (none)) (cond (smallBook {shops:=List.map (RCod.dec cShop) (List.map (RCod.enc cShop) (HBook.shops b)),binds:=List.map (RCod.dec cBind) (List.map (RCod.enc cBind) (HBook.binds b)):HBook}) (cond (smallBook {shops:=List.map (RCod.dec cShop) (List.map (RCod.enc cShop) (HBook.shops q)),binds:=List.map (RCod.dec cBind) (List.map (RCod.enc cBind) (HBook.binds q)):HBook}) (some {v:=V.tup [V.agg [V.slc [.str,.int .u8,.str] (List.map (RCod.enc cShop) (HBook.shops (N.bForget {shops:=List.map (RCod.dec cShop) (List.map (RCod.enc cShop) (HBook.shops b)),binds:=List.map (RCod.dec cBind) (List.map (RCod.enc cBind) (HBook.binds b)):HBook} (HBind.to (HRAct.bind a))))),V.slc [.str,.str,.bool,.str,.slc [.str,.int .u8,.int .i64,.str],.bool] (List.map (RCod.enc cBind) (HBook.binds (N.bForget {shops:=List.map (RCod.dec cShop) (List.map (RCod.enc cShop) (HBook.shops b)),binds:=List.map (RCod.dec cBind) (List.map (RCod.enc cBind) (HBook.binds b)):HBook} (HBind.to (HRAct.bind a)))))],V.agg [V.slc [.str,.int .u8,.str] (List.map (RCod.enc cShop) (HBook.shops (N.bForget {shops:=List.map (RCod.dec cShop) (List.map (RCod.enc cShop) (HBook.shops q)),binds:=List.map (RCod.dec cBind) (List.map (RCod.enc cBind) (HBook.binds q)):HBook} (HBind.to (HRAct.bind a))))),V.slc [.str,.str,.bool,.str,.slc [.str,.int .u8,.int .i64,.str],.bool] (List.map (RCod.enc cBind) (HBook.binds (N.bForget {shops:=List.map (RCod.dec cShop) (List.map (RCod.enc cShop) (HBook.shops q)),binds:=List.map (RCod.dec cBind) (List.map (RCod.enc cBind) (HBook.binds q)):HBook} (HBind.to (HRAct.bind a)))))],V.bool true],bx:=[]:DRes}) (none)) (none))))):=by kernel_rfl
theorem fold_bindY (x:HBind):(⟨x.shop,x.to,x.up,x.key,x.want,x.all⟩:HBind)=x:=rfl
theorem fold_book (b:HBook):(⟨b.shops,b.binds⟩:HBook)=b:=rfl
theorem ok_done14:FnOk Tryz.prog 35 dDone14:=by
 refine den_okF (env_ok ((((((((((((TOk.nil _).cons ok_rForgetB).cons ok_bForget).cons ok_rUnbindB).cons ok_bUnbind).cons ok_rBindB).cons ok_lawTo).cons ok_bBind).cons ok_rDropB).cons ok_bDrop).cons ok_rMakeB).cons ok_bMake)) (E:=eDone14) Tryz.func35 [] (by kernel_rfl) none0 fun a _ hp=>?_
 obtain ⟨b,q,a⟩:=a
 obtain ⟨h1,hp⟩:=bcond hp
 obtain ⟨h2,h3⟩:=bcond hp
 have h1:smallBook b=true:=h1
 have h2:smallBook q=true:=h2
 have h3:smallB a.bind=true:=h3
 refine (q_done14 b q a).trans ?_
 show _=some (⟨.tup [.agg (cBook.enc (N.pStep b a).1),.agg (cBook.enc (N.dStep q a).1),.bool ((N.pStep b a).2==(N.dStep q a).2)],[],[]⟩:DRes)
 unfold N.pStep N.dStep
 simp only [pairs_enc,fold_bindY,dec_encs,fold_book,h1,h2,h3,cond_true]
 cases Int.tmod a.op 5==0 with
 | true=>rfl
 | false =>
  cases Int.tmod a.op 5==1 with
  | true=>rfl
  | false =>
   cases Int.tmod a.op 5==2 with
   | true=>rfl
   | false=>cases Int.tmod a.op 5==3<;>rfl
end Go.Ev

/- Behind any acts each is answered,and the book is,what the document says: lemmas; the function that writes numbers is a premise. -/
namespace Go.Ev
open Go Go.Proofs
set_option maxRecDepth 100000
-- FOLD
def N.okRA (a:HRAct):Bool:=cond (ile 0 a.op) (ile 0 a.shop.sort) false
def schRoutePlays:SSch:={ fr:=[(3,.ptr 10000 0 0),(4,.ptr 10001 0 0),(16,.slc [.int .u8,.str,.int .u8,.str,.str,.str,.bool,.str,.slc [.str,.int .u8,.int .i64,.str],.bool]),(17,.int .i64),(18,.int .i64)],tab:=[(10000,.var [.slc [.str,.int .u8,.str],.slc [.str,.str,.bool,.str,.slc [.str,.int .u8,.int .i64,.str],.bool]]),(10001,.var [.slc [.str,.int .u8,.str],.slc [.str,.str,.bool,.str,.slc [.str,.int .u8,.int .i64,.str],.bool]])] }
def gRoutePlays:List Leaf→(Ex→St→Option R)→Option R
 | [.r r,.i n,.i i,.r b0,.r b1,.r c0,.r c1],K=>cond (n==r.length) (cond (i==0) (cond (Nat.ble r.length 40) (cond (N.lightRAs (r.map cRA.dec)) (cond ((r.map cRA.dec).all N.okRA) (cond (Nat.beq b0.length 0) (cond (Nat.beq b1.length 0) (cond (Nat.beq c0.length 0) (cond (Nat.beq c1.length 0) (K (.exit 0) { fr:=[],tab:=[] }) none) none) none) none) none) none) none) none) none
 | _,_=>none
noncomputable def eRoutePlays:Env:={ env Tryz.prog [(30,dTrue),(31,dLight14),(35,dDone14),(42,dLawOfB),(41,dRSameB),(43,dSameBook)] [(8,loopF schRoutePlays gRoutePlays)] [(8,[(0,[3,4,16,17,18]),(1,[]),(1000,[2])])] with fz:=true }
theorem q_routePlays (l:List HRAct):evFn eRoutePlays 10 (((aOne (vSl cRA)).enc l)) ([]) some =
 cond (Nat.ble (List.length (List.map (RCod.dec cRA) (List.map (RCod.enc cRA) l))) 9223372036854775807) (cond (!bif ile (↑(List.length (List.map (RCod.dec cRA) (List.map (RCod.enc cRA) l))):Int) (40:Int) then N.lightRAs (List.map (RCod.dec cRA) (List.map (RCod.enc cRA) l)) else false) (some {v:=V.bool true,bx:=[]:DRes}) (cond ((↑(List.length (List.map (RCod.enc cRA) l)):Int)==(↑(List.length (List.map (RCod.enc cRA) l)):Int)) (cond (Nat.ble (List.length (List.map (RCod.enc cRA) l)) 40) (cond (N.lightRAs (List.map (RCod.dec cRA) (List.map (RCod.enc cRA) l))) (cond (List.all (List.map (RCod.dec cRA) (List.map (RCod.enc cRA) l)) N.okRA) (some {v:=V.bool true,bx:=[]:DRes}) (none)) (none)) (none)) (none))) (none):=by kernel_rfl
theorem q_routePlaysR (r16:List (List V)) (i17:Int) (i18:Int) (rx0:List (List V)) (rx0_1:List (List V)) (rx1:List (List V)) (rx1_1:List (List V)) (K:Ex→St→Option R):evRound eRoutePlays 10 8 { fr:=[(3,.ptr 10000 0 0 0),(4,.ptr 10001 0 0 0),(16,.slc [.int .u8,.str,.int .u8,.str,.str,.str,.bool,.str,.slc [.str,.int .u8,.int .i64,.str],.bool] r16),(17,.int .i64 i17),(18,.int .i64 i18)],tab:=[(10000,.var [.slc [.str,.int .u8,.str] rx0,.slc [.str,.str,.bool,.str,.slc [.str,.int .u8,.int .i64,.str],.bool] rx0_1]),(10001,.var [.slc [.str,.int .u8,.str] rx1,.slc [.str,.str,.bool,.str,.slc [.str,.int .u8,.int .i64,.str],.bool] rx1_1])] } K =
 cond (ilt i18 i17) (cond (decide ((0:Int)≤i18∧i18<(↑(List.length r16):Int))) (cond (bif smallBook {shops:=List.map (RCod.dec cShop) rx0,binds:=List.map (RCod.dec cBind) rx0_1:HBook} then bif smallBook {shops:=List.map (RCod.dec cShop) rx1,binds:=List.map (RCod.dec cBind) rx1_1:HBook} then smallB {shop:=V.toStr (List.getD (List.getD r16 (Int.toNat i18) []) 4 V.undef),to:=V.toStr (List.getD (List.getD r16 (Int.toNat i18) []) 5 V.undef),up:=V.toBool (List.getD (List.getD r16 (Int.toNat i18) []) 6 V.undef),key:=V.toStr (List.getD (List.getD r16 (Int.toNat i18) []) 7 V.undef),want:=List.map (fun r=>{key:=V.toStr (List.getD r 0 .undef),kind:=V.toInt (List.getD r 1 .undef),num:=V.toInt (List.getD r 2 .undef),text:=V.toStr (List.getD r 3 .undef):HPair}) (V.toRows (List.getD (List.getD r16 (Int.toNat i18) []) 8 V.undef)),all:=V.toBool (List.getD (List.getD r16 (Int.toNat i18) []) 9 V.undef):HBind} else false else false) (cond (!Prod.snd (N.pStep {shops:=List.map (RCod.dec cShop) rx0,binds:=List.map (RCod.dec cBind) rx0_1:HBook} {op:=V.toInt (List.getD (List.getD r16 (Int.toNat i18) []) 0 V.undef),shop:={name:=V.toStr (List.getD (List.getD r16 (Int.toNat i18) []) 1 V.undef),sort:=V.toInt (List.getD (List.getD r16 (Int.toNat i18) []) 2 V.undef),to:=V.toStr (List.getD (List.getD r16 (Int.toNat i18) []) 3 V.undef):HShop},bind:={shop:=V.toStr (List.getD (List.getD r16 (Int.toNat i18) []) 4 V.undef),to:=V.toStr (List.getD (List.getD r16 (Int.toNat i18) []) 5 V.undef),up:=V.toBool (List.getD (List.getD r16 (Int.toNat i18) []) 6 V.undef),key:=V.toStr (List.getD (List.getD r16 (Int.toNat i18) []) 7 V.undef),want:=List.map (fun r=>{key:=V.toStr (List.getD r 0 .undef),kind:=V.toInt (List.getD r 1 .undef),num:=V.toInt (List.getD r 2 .undef),text:=V.toStr (List.getD r 3 .undef):HPair}) (V.toRows (List.getD (List.getD r16 (Int.toNat i18) []) 8 V.undef)),all:=V.toBool (List.getD (List.getD r16 (Int.toNat i18) []) 9 V.undef):HBind}:HRAct})==Prod.snd (N.dStep {shops:=List.map (RCod.dec cShop) rx1,binds:=List.map (RCod.dec cBind) rx1_1:HBook} {op:=V.toInt (List.getD (List.getD r16 (Int.toNat i18) []) 0 V.undef),shop:={name:=V.toStr (List.getD (List.getD r16 (Int.toNat i18) []) 1 V.undef),sort:=V.toInt (List.getD (List.getD r16 (Int.toNat i18) []) 2 V.undef),to:=V.toStr (List.getD (List.getD r16 (Int.toNat i18) []) 3 V.undef):HShop},bind:={shop:=V.toStr (List.getD (List.getD r16 (Int.toNat i18) []) 4 V.undef),to:=V.toStr (List.getD (List.getD r16 (Int.toNat i18) []) 5 V.undef),up:=V.toBool (List.getD (List.getD r16 (Int.toNat i18) []) 6 V.undef),key:=V.toStr (List.getD (List.getD r16 (Int.toNat i18) []) 7 V.undef),want:=List.map (fun r=>{key:=V.toStr (List.getD r 0 .undef),kind:=V.toInt (List.getD r 1 .undef),num:=V.toInt (List.getD r 2 .undef),text:=V.toStr (List.getD r 3 .undef):HPair}) (V.toRows (List.getD (List.getD r16 (Int.toNat i18) []) 8 V.undef)),all:=V.toBool (List.getD (List.getD r16 (Int.toNat i18) []) 9 V.undef):HBind}:HRAct})) (K Ex.ret {fr:=[(2,V.bool false)],tab:=[]:St}) (cond (smallBook {shops:=List.map (RCod.dec cShop) (List.map (RCod.enc cShop) (HBook.shops (Prod.fst (N.pStep {shops:=List.map (RCod.dec cShop) rx0,binds:=List.map (RCod.dec cBind) rx0_1:HBook} {op:=V.toInt (List.getD (List.getD r16 (Int.toNat i18) []) 0 V.undef),shop:={name:=V.toStr (List.getD (List.getD r16 (Int.toNat i18) []) 1 V.undef),sort:=V.toInt (List.getD (List.getD r16 (Int.toNat i18) []) 2 V.undef),to:=V.toStr (List.getD (List.getD r16 (Int.toNat i18) []) 3 V.undef):HShop},bind:={shop:=V.toStr (List.getD (List.getD r16 (Int.toNat i18) []) 4 V.undef),to:=V.toStr (List.getD (List.getD r16 (Int.toNat i18) []) 5 V.undef),up:=V.toBool (List.getD (List.getD r16 (Int.toNat i18) []) 6 V.undef),key:=V.toStr (List.getD (List.getD r16 (Int.toNat i18) []) 7 V.undef),want:=List.map (fun r=>{key:=V.toStr (List.getD r 0 .undef),kind:=V.toInt (List.getD r 1 .undef),num:=V.toInt (List.getD r 2 .undef),text:=V.toStr (List.getD r 3 .undef):HPair}) (V.toRows (List.getD (List.getD r16 (Int.toNat i18) []) 8 V.undef)),all:=V.toBool (List.getD (List.getD r16 (Int.toNat i18) []) 9 V.undef):HBind}:HRAct})))),binds:=List.map (RCod.dec cBind) (List.map (RCod.enc cBind) (HBook.binds (Prod.fst (N.pStep {shops:=List.map (RCod.dec cShop) rx0,binds:=List.map (RCod.dec cBind) rx0_1:HBook} {op:=V.toInt (List.getD (List.getD r16 (Int.toNat i18) []) 0 V.undef),shop:={name:=V.toStr (List.getD (List.getD r16 (Int.toNat i18) []) 1 V.undef),sort:=V.toInt (List.getD (List.getD r16 (Int.toNat i18) []) 2 V.undef),to:=V.toStr (List.getD (List.getD r16 (Int.toNat i18) []) 3 V.undef):HShop},bind:={shop:=V.toStr (List.getD (List.getD r16 (Int.toNat i18) []) 4 V.undef),to:=V.toStr (List.getD (List.getD r16 (Int.toNat i18) []) 5 V.undef),up:=V.toBool (List.getD (List.getD r16 (Int.toNat i18) []) 6 V.undef),key:=V.toStr (List.getD (List.getD r16 (Int.toNat i18) []) 7 V.undef),want:=List.map (fun r=>{key:=V.toStr (List.getD r 0 .undef),kind:=V.toInt (List.getD r 1 .undef),num:=V.toInt (List.getD r 2 .undef),text:=V.toStr (List.getD r 3 .undef):HPair}) (V.toRows (List.getD (List.getD r16 (Int.toNat i18) []) 8 V.undef)),all:=V.toBool (List.getD (List.getD r16 (Int.toNat i18) []) 9 V.undef):HBind}:HRAct})))):HBook}) (cond (smallBook {shops:=List.map (RCod.dec cShop) (List.map (RCod.enc cShop) (List.map (RCod.dec cShop) (List.map (RCod.enc cShop) (HBook.shops (Prod.fst (N.pStep {shops:=List.map (RCod.dec cShop) rx0,binds:=List.map (RCod.dec cBind) rx0_1:HBook} {op:=V.toInt (List.getD (List.getD r16 (Int.toNat i18) []) 0 V.undef),shop:={name:=V.toStr (List.getD (List.getD r16 (Int.toNat i18) []) 1 V.undef),sort:=V.toInt (List.getD (List.getD r16 (Int.toNat i18) []) 2 V.undef),to:=V.toStr (List.getD (List.getD r16 (Int.toNat i18) []) 3 V.undef):HShop},bind:={shop:=V.toStr (List.getD (List.getD r16 (Int.toNat i18) []) 4 V.undef),to:=V.toStr (List.getD (List.getD r16 (Int.toNat i18) []) 5 V.undef),up:=V.toBool (List.getD (List.getD r16 (Int.toNat i18) []) 6 V.undef),key:=V.toStr (List.getD (List.getD r16 (Int.toNat i18) []) 7 V.undef),want:=List.map (fun r=>{key:=V.toStr (List.getD r 0 .undef),kind:=V.toInt (List.getD r 1 .undef),num:=V.toInt (List.getD r 2 .undef),text:=V.toStr (List.getD r 3 .undef):HPair}) (V.toRows (List.getD (List.getD r16 (Int.toNat i18) []) 8 V.undef)),all:=V.toBool (List.getD (List.getD r16 (Int.toNat i18) []) 9 V.undef):HBind}:HRAct})))))),binds:=List.map (RCod.dec cBind) (List.map (RCod.enc cBind) (List.map (RCod.dec cBind) (List.map (RCod.enc cBind) (HBook.binds (Prod.fst (N.pStep {shops:=List.map (RCod.dec cShop) rx0,binds:=List.map (RCod.dec cBind) rx0_1:HBook} {op:=V.toInt (List.getD (List.getD r16 (Int.toNat i18) []) 0 V.undef),shop:={name:=V.toStr (List.getD (List.getD r16 (Int.toNat i18) []) 1 V.undef),sort:=V.toInt (List.getD (List.getD r16 (Int.toNat i18) []) 2 V.undef),to:=V.toStr (List.getD (List.getD r16 (Int.toNat i18) []) 3 V.undef):HShop},bind:={shop:=V.toStr (List.getD (List.getD r16 (Int.toNat i18) []) 4 V.undef),to:=V.toStr (List.getD (List.getD r16 (Int.toNat i18) []) 5 V.undef),up:=V.toBool (List.getD (List.getD r16 (Int.toNat i18) []) 6 V.undef),key:=V.toStr (List.getD (List.getD r16 (Int.toNat i18) []) 7 V.undef),want:=List.map (fun r=>{key:=V.toStr (List.getD r 0 .undef),kind:=V.toInt (List.getD r 1 .undef),num:=V.toInt (List.getD r 2 .undef),text:=V.toStr (List.getD r 3 .undef):HPair}) (V.toRows (List.getD (List.getD r16 (Int.toNat i18) []) 8 V.undef)),all:=V.toBool (List.getD (List.getD r16 (Int.toNat i18) []) 9 V.undef):HBind}:HRAct})))))):HBook}) (cond (!N.sameBook {shops:=List.map (RCod.dec cShop) (List.map (RCod.enc cShop) (List.map (RCod.dec cShop) (List.map (RCod.enc cShop) (HBook.shops (Prod.fst (N.pStep {shops:=List.map (RCod.dec cShop) rx0,binds:=List.map (RCod.dec cBind) rx0_1:HBook} {op:=V.toInt (List.getD (List.getD r16 (Int.toNat i18) []) 0 V.undef),shop:={name:=V.toStr (List.getD (List.getD r16 (Int.toNat i18) []) 1 V.undef),sort:=V.toInt (List.getD (List.getD r16 (Int.toNat i18) []) 2 V.undef),to:=V.toStr (List.getD (List.getD r16 (Int.toNat i18) []) 3 V.undef):HShop},bind:={shop:=V.toStr (List.getD (List.getD r16 (Int.toNat i18) []) 4 V.undef),to:=V.toStr (List.getD (List.getD r16 (Int.toNat i18) []) 5 V.undef),up:=V.toBool (List.getD (List.getD r16 (Int.toNat i18) []) 6 V.undef),key:=V.toStr (List.getD (List.getD r16 (Int.toNat i18) []) 7 V.undef),want:=List.map (fun r=>{key:=V.toStr (List.getD r 0 .undef),kind:=V.toInt (List.getD r 1 .undef),num:=V.toInt (List.getD r 2 .undef),text:=V.toStr (List.getD r 3 .undef):HPair}) (V.toRows (List.getD (List.getD r16 (Int.toNat i18) []) 8 V.undef)),all:=V.toBool (List.getD (List.getD r16 (Int.toNat i18) []) 9 V.undef):HBind}:HRAct})))))),binds:=List.map (RCod.dec cBind) (List.map (RCod.enc cBind) (List.map (RCod.dec cBind) (List.map (RCod.enc cBind) (HBook.binds (Prod.fst (N.pStep {shops:=List.map (RCod.dec cShop) rx0,binds:=List.map (RCod.dec cBind) rx0_1:HBook} {op:=V.toInt (List.getD (List.getD r16 (Int.toNat i18) []) 0 V.undef),shop:={name:=V.toStr (List.getD (List.getD r16 (Int.toNat i18) []) 1 V.undef),sort:=V.toInt (List.getD (List.getD r16 (Int.toNat i18) []) 2 V.undef),to:=V.toStr (List.getD (List.getD r16 (Int.toNat i18) []) 3 V.undef):HShop},bind:={shop:=V.toStr (List.getD (List.getD r16 (Int.toNat i18) []) 4 V.undef),to:=V.toStr (List.getD (List.getD r16 (Int.toNat i18) []) 5 V.undef),up:=V.toBool (List.getD (List.getD r16 (Int.toNat i18) []) 6 V.undef),key:=V.toStr (List.getD (List.getD r16 (Int.toNat i18) []) 7 V.undef),want:=List.map (fun r=>{key:=V.toStr (List.getD r 0 .undef),kind:=V.toInt (List.getD r 1 .undef),num:=V.toInt (List.getD r 2 .undef),text:=V.toStr (List.getD r 3 .undef):HPair}) (V.toRows (List.getD (List.getD r16 (Int.toNat i18) []) 8 V.undef)),all:=V.toBool (List.getD (List.getD r16 (Int.toNat i18) []) 9 V.undef):HBind}:HRAct})))))):HBook} {shops:=List.map (RCod.dec cShop) (List.map (RCod.enc cShop) (HBook.shops (Prod.fst (N.dStep {shops:=List.map (RCod.dec cShop) rx1,binds:=List.map (RCod.dec cBind) rx1_1:HBook} {op:=V.toInt (List.getD (List.getD r16 (Int.toNat i18) []) 0 V.undef),shop:={name:=V.toStr (List.getD (List.getD r16 (Int.toNat i18) []) 1 V.undef),sort:=V.toInt (List.getD (List.getD r16 (Int.toNat i18) []) 2 V.undef),to:=V.toStr (List.getD (List.getD r16 (Int.toNat i18) []) 3 V.undef):HShop},bind:={shop:=V.toStr (List.getD (List.getD r16 (Int.toNat i18) []) 4 V.undef),to:=V.toStr (List.getD (List.getD r16 (Int.toNat i18) []) 5 V.undef),up:=V.toBool (List.getD (List.getD r16 (Int.toNat i18) []) 6 V.undef),key:=V.toStr (List.getD (List.getD r16 (Int.toNat i18) []) 7 V.undef),want:=List.map (fun r=>{key:=V.toStr (List.getD r 0 .undef),kind:=V.toInt (List.getD r 1 .undef),num:=V.toInt (List.getD r 2 .undef),text:=V.toStr (List.getD r 3 .undef):HPair}) (V.toRows (List.getD (List.getD r16 (Int.toNat i18) []) 8 V.undef)),all:=V.toBool (List.getD (List.getD r16 (Int.toNat i18) []) 9 V.undef):HBind}:HRAct})))),binds:=List.map (RCod.dec cBind) (List.map (RCod.enc cBind) (HBook.binds (Prod.fst (N.dStep {shops:=List.map (RCod.dec cShop) rx1,binds:=List.map (RCod.dec cBind) rx1_1:HBook} {op:=V.toInt (List.getD (List.getD r16 (Int.toNat i18) []) 0 V.undef),shop:={name:=V.toStr (List.getD (List.getD r16 (Int.toNat i18) []) 1 V.undef),sort:=V.toInt (List.getD (List.getD r16 (Int.toNat i18) []) 2 V.undef),to:=V.toStr (List.getD (List.getD r16 (Int.toNat i18) []) 3 V.undef):HShop},bind:={shop:=V.toStr (List.getD (List.getD r16 (Int.toNat i18) []) 4 V.undef),to:=V.toStr (List.getD (List.getD r16 (Int.toNat i18) []) 5 V.undef),up:=V.toBool (List.getD (List.getD r16 (Int.toNat i18) []) 6 V.undef),key:=V.toStr (List.getD (List.getD r16 (Int.toNat i18) []) 7 V.undef),want:=List.map (fun r=>{key:=V.toStr (List.getD r 0 .undef),kind:=V.toInt (List.getD r 1 .undef),num:=V.toInt (List.getD r 2 .undef),text:=V.toStr (List.getD r 3 .undef):HPair}) (V.toRows (List.getD (List.getD r16 (Int.toNat i18) []) 8 V.undef)),all:=V.toBool (List.getD (List.getD r16 (Int.toNat i18) []) 9 V.undef):HBind}:HRAct})))):HBook}) (K Ex.ret {fr:=[(2,V.bool false)],tab:=[]:St}) (cond (smallBook {shops:=List.map (RCod.dec cShop) rx0,binds:=List.map (RCod.dec cBind) rx0_1:HBook}) (cond (smallBook {shops:=List.map (RCod.dec cShop) (List.map (RCod.enc cShop) (List.map (RCod.dec cShop) rx0)),binds:=List.map (RCod.dec cBind) (List.map (RCod.enc cBind) (List.map (RCod.dec cBind) rx0_1)):HBook}) (cond (!N.sameBook {shops:=List.map (RCod.dec cShop) (List.map (RCod.enc cShop) (List.map (RCod.dec cShop) rx0)),binds:=List.map (RCod.dec cBind) (List.map (RCod.enc cBind) (List.map (RCod.dec cBind) rx0_1)):HBook} {shops:=List.map (RCod.dec cShop) rx1,binds:=List.map (RCod.dec cBind) rx1_1:HBook}) (K Ex.ret {fr:=[(2,V.bool false)],tab:=[]:St}) (cond (smallBook {shops:=List.map (RCod.dec cShop) (List.map (RCod.enc cShop) (HBook.shops (Prod.fst (N.pStep {shops:=List.map (RCod.dec cShop) rx0,binds:=List.map (RCod.dec cBind) rx0_1:HBook} {op:=V.toInt (List.getD (List.getD r16 (Int.toNat i18) []) 0 V.undef),shop:={name:=V.toStr (List.getD (List.getD r16 (Int.toNat i18) []) 1 V.undef),sort:=V.toInt (List.getD (List.getD r16 (Int.toNat i18) []) 2 V.undef),to:=V.toStr (List.getD (List.getD r16 (Int.toNat i18) []) 3 V.undef):HShop},bind:={shop:=V.toStr (List.getD (List.getD r16 (Int.toNat i18) []) 4 V.undef),to:=V.toStr (List.getD (List.getD r16 (Int.toNat i18) []) 5 V.undef),up:=V.toBool (List.getD (List.getD r16 (Int.toNat i18) []) 6 V.undef),key:=V.toStr (List.getD (List.getD r16 (Int.toNat i18) []) 7 V.undef),want:=List.map (fun r=>{key:=V.toStr (List.getD r 0 .undef),kind:=V.toInt (List.getD r 1 .undef),num:=V.toInt (List.getD r 2 .undef),text:=V.toStr (List.getD r 3 .undef):HPair}) (V.toRows (List.getD (List.getD r16 (Int.toNat i18) []) 8 V.undef)),all:=V.toBool (List.getD (List.getD r16 (Int.toNat i18) []) 9 V.undef):HBind}:HRAct})))),binds:=List.map (RCod.dec cBind) (List.map (RCod.enc cBind) (HBook.binds (Prod.fst (N.pStep {shops:=List.map (RCod.dec cShop) rx0,binds:=List.map (RCod.dec cBind) rx0_1:HBook} {op:=V.toInt (List.getD (List.getD r16 (Int.toNat i18) []) 0 V.undef),shop:={name:=V.toStr (List.getD (List.getD r16 (Int.toNat i18) []) 1 V.undef),sort:=V.toInt (List.getD (List.getD r16 (Int.toNat i18) []) 2 V.undef),to:=V.toStr (List.getD (List.getD r16 (Int.toNat i18) []) 3 V.undef):HShop},bind:={shop:=V.toStr (List.getD (List.getD r16 (Int.toNat i18) []) 4 V.undef),to:=V.toStr (List.getD (List.getD r16 (Int.toNat i18) []) 5 V.undef),up:=V.toBool (List.getD (List.getD r16 (Int.toNat i18) []) 6 V.undef),key:=V.toStr (List.getD (List.getD r16 (Int.toNat i18) []) 7 V.undef),want:=List.map (fun r=>{key:=V.toStr (List.getD r 0 .undef),kind:=V.toInt (List.getD r 1 .undef),num:=V.toInt (List.getD r 2 .undef),text:=V.toStr (List.getD r 3 .undef):HPair}) (V.toRows (List.getD (List.getD r16 (Int.toNat i18) []) 8 V.undef)),all:=V.toBool (List.getD (List.getD r16 (Int.toNat i18) []) 9 V.undef):HBind}:HRAct})))):HBook}) (cond (!N.sameBook {shops:=List.map (RCod.dec cShop) (List.map (RCod.enc cShop) (HBook.shops (Prod.fst (N.pStep {shops:=List.map (RCod.dec cShop) rx0,binds:=List.map (RCod.dec cBind) rx0_1:HBook} {op:=V.toInt (List.getD (List.getD r16 (Int.toNat i18) []) 0 V.undef),shop:={name:=V.toStr (List.getD (List.getD r16 (Int.toNat i18) []) 1 V.undef),sort:=V.toInt (List.getD (List.getD r16 (Int.toNat i18) []) 2 V.undef),to:=V.toStr (List.getD (List.getD r16 (Int.toNat i18) []) 3 V.undef):HShop},bind:={shop:=V.toStr (List.getD (List.getD r16 (Int.toNat i18) []) 4 V.undef),to:=V.toStr (List.getD (List.getD r16 (Int.toNat i18) []) 5 V.undef),up:=V.toBool (List.getD (List.getD r16 (Int.toNat i18) []) 6 V.undef),key:=V.toStr (List.getD (List.getD r16 (Int.toNat i18) []) 7 V.undef),want:=List.map (fun r=>{key:=V.toStr (List.getD r 0 .undef),kind:=V.toInt (List.getD r 1 .undef),num:=V.toInt (List.getD r 2 .undef),text:=V.toStr (List.getD r 3 .undef):HPair}) (V.toRows (List.getD (List.getD r16 (Int.toNat i18) []) 8 V.undef)),all:=V.toBool (List.getD (List.getD r16 (Int.toNat i18) []) 9 V.undef):HBind}:HRAct})))),binds:=List.map (RCod.dec cBind) (List.map (RCod.enc cBind) (HBook.binds (Prod.fst (N.pStep {shops:=List.map (RCod.dec cShop) rx0,binds:=List.map (RCod.dec cBind) rx0_1:HBook} {op:=V.toInt (List.getD (List.getD r16 (Int.toNat i18) []) 0 V.undef),shop:={name:=V.toStr (List.getD (List.getD r16 (Int.toNat i18) []) 1 V.undef),sort:=V.toInt (List.getD (List.getD r16 (Int.toNat i18) []) 2 V.undef),to:=V.toStr (List.getD (List.getD r16 (Int.toNat i18) []) 3 V.undef):HShop},bind:={shop:=V.toStr (List.getD (List.getD r16 (Int.toNat i18) []) 4 V.undef),to:=V.toStr (List.getD (List.getD r16 (Int.toNat i18) []) 5 V.undef),up:=V.toBool (List.getD (List.getD r16 (Int.toNat i18) []) 6 V.undef),key:=V.toStr (List.getD (List.getD r16 (Int.toNat i18) []) 7 V.undef),want:=List.map (fun r=>{key:=V.toStr (List.getD r 0 .undef),kind:=V.toInt (List.getD r 1 .undef),num:=V.toInt (List.getD r 2 .undef),text:=V.toStr (List.getD r 3 .undef):HPair}) (V.toRows (List.getD (List.getD r16 (Int.toNat i18) []) 8 V.undef)),all:=V.toBool (List.getD (List.getD r16 (Int.toNat i18) []) 9 V.undef):HBind}:HRAct})))):HBook} {shops:=List.map (RCod.dec cShop) (List.map (RCod.enc cShop) (HBook.shops (Prod.fst (N.pStep {shops:=List.map (RCod.dec cShop) rx0,binds:=List.map (RCod.dec cBind) rx0_1:HBook} {op:=V.toInt (List.getD (List.getD r16 (Int.toNat i18) []) 0 V.undef),shop:={name:=V.toStr (List.getD (List.getD r16 (Int.toNat i18) []) 1 V.undef),sort:=V.toInt (List.getD (List.getD r16 (Int.toNat i18) []) 2 V.undef),to:=V.toStr (List.getD (List.getD r16 (Int.toNat i18) []) 3 V.undef):HShop},bind:={shop:=V.toStr (List.getD (List.getD r16 (Int.toNat i18) []) 4 V.undef),to:=V.toStr (List.getD (List.getD r16 (Int.toNat i18) []) 5 V.undef),up:=V.toBool (List.getD (List.getD r16 (Int.toNat i18) []) 6 V.undef),key:=V.toStr (List.getD (List.getD r16 (Int.toNat i18) []) 7 V.undef),want:=List.map (fun r=>{key:=V.toStr (List.getD r 0 .undef),kind:=V.toInt (List.getD r 1 .undef),num:=V.toInt (List.getD r 2 .undef),text:=V.toStr (List.getD r 3 .undef):HPair}) (V.toRows (List.getD (List.getD r16 (Int.toNat i18) []) 8 V.undef)),all:=V.toBool (List.getD (List.getD r16 (Int.toNat i18) []) 9 V.undef):HBind}:HRAct})))),binds:=List.map (RCod.dec cBind) (List.map (RCod.enc cBind) (HBook.binds (Prod.fst (N.pStep {shops:=List.map (RCod.dec cShop) rx0,binds:=List.map (RCod.dec cBind) rx0_1:HBook} {op:=V.toInt (List.getD (List.getD r16 (Int.toNat i18) []) 0 V.undef),shop:={name:=V.toStr (List.getD (List.getD r16 (Int.toNat i18) []) 1 V.undef),sort:=V.toInt (List.getD (List.getD r16 (Int.toNat i18) []) 2 V.undef),to:=V.toStr (List.getD (List.getD r16 (Int.toNat i18) []) 3 V.undef):HShop},bind:={shop:=V.toStr (List.getD (List.getD r16 (Int.toNat i18) []) 4 V.undef),to:=V.toStr (List.getD (List.getD r16 (Int.toNat i18) []) 5 V.undef),up:=V.toBool (List.getD (List.getD r16 (Int.toNat i18) []) 6 V.undef),key:=V.toStr (List.getD (List.getD r16 (Int.toNat i18) []) 7 V.undef),want:=List.map (fun r=>{key:=V.toStr (List.getD r 0 .undef),kind:=V.toInt (List.getD r 1 .undef),num:=V.toInt (List.getD r 2 .undef),text:=V.toStr (List.getD r 3 .undef):HPair}) (V.toRows (List.getD (List.getD r16 (Int.toNat i18) []) 8 V.undef)),all:=V.toBool (List.getD (List.getD r16 (Int.toNat i18) []) 9 V.undef):HBind}:HRAct})))):HBook}) (K Ex.ret {fr:=[(2,V.bool false)],tab:=[]:St}) (cond (smallBook {shops:=List.map (RCod.dec cShop) rx0,binds:=List.map (RCod.dec cBind) rx0_1:HBook}) (cond (smallBook {shops:=List.map (RCod.dec cShop) rx1,binds:=List.map (RCod.dec cBind) rx1_1:HBook}) (cond (!N.sameBook {shops:=List.map (RCod.dec cShop) rx0,binds:=List.map (RCod.dec cBind) rx0_1:HBook} {shops:=List.map (RCod.dec cShop) (List.map (RCod.enc cShop) (HBook.shops (Prod.fst (N.pStep {shops:=List.map (RCod.dec cShop) rx0,binds:=List.map (RCod.dec cBind) rx0_1:HBook} {op:=V.toInt (List.getD (List.getD r16 (Int.toNat i18) []) 0 V.undef),shop:={name:=V.toStr (List.getD (List.getD r16 (Int.toNat i18) []) 1 V.undef),sort:=V.toInt (List.getD (List.getD r16 (Int.toNat i18) []) 2 V.undef),to:=V.toStr (List.getD (List.getD r16 (Int.toNat i18) []) 3 V.undef):HShop},bind:={shop:=V.toStr (List.getD (List.getD r16 (Int.toNat i18) []) 4 V.undef),to:=V.toStr (List.getD (List.getD r16 (Int.toNat i18) []) 5 V.undef),up:=V.toBool (List.getD (List.getD r16 (Int.toNat i18) []) 6 V.undef),key:=V.toStr (List.getD (List.getD r16 (Int.toNat i18) []) 7 V.undef),want:=List.map (fun r=>{key:=V.toStr (List.getD r 0 .undef),kind:=V.toInt (List.getD r 1 .undef),num:=V.toInt (List.getD r 2 .undef),text:=V.toStr (List.getD r 3 .undef):HPair}) (V.toRows (List.getD (List.getD r16 (Int.toNat i18) []) 8 V.undef)),all:=V.toBool (List.getD (List.getD r16 (Int.toNat i18) []) 9 V.undef):HBind}:HRAct})))),binds:=List.map (RCod.dec cBind) (List.map (RCod.enc cBind) (HBook.binds (Prod.fst (N.pStep {shops:=List.map (RCod.dec cShop) rx0,binds:=List.map (RCod.dec cBind) rx0_1:HBook} {op:=V.toInt (List.getD (List.getD r16 (Int.toNat i18) []) 0 V.undef),shop:={name:=V.toStr (List.getD (List.getD r16 (Int.toNat i18) []) 1 V.undef),sort:=V.toInt (List.getD (List.getD r16 (Int.toNat i18) []) 2 V.undef),to:=V.toStr (List.getD (List.getD r16 (Int.toNat i18) []) 3 V.undef):HShop},bind:={shop:=V.toStr (List.getD (List.getD r16 (Int.toNat i18) []) 4 V.undef),to:=V.toStr (List.getD (List.getD r16 (Int.toNat i18) []) 5 V.undef),up:=V.toBool (List.getD (List.getD r16 (Int.toNat i18) []) 6 V.undef),key:=V.toStr (List.getD (List.getD r16 (Int.toNat i18) []) 7 V.undef),want:=List.map (fun r=>{key:=V.toStr (List.getD r 0 .undef),kind:=V.toInt (List.getD r 1 .undef),num:=V.toInt (List.getD r 2 .undef),text:=V.toStr (List.getD r 3 .undef):HPair}) (V.toRows (List.getD (List.getD r16 (Int.toNat i18) []) 8 V.undef)),all:=V.toBool (List.getD (List.getD r16 (Int.toNat i18) []) 9 V.undef):HBind}:HRAct})))):HBook}==N.sameBook {shops:=List.map (RCod.dec cShop) rx1,binds:=List.map (RCod.dec cBind) rx1_1:HBook} {shops:=List.map (RCod.dec cShop) (List.map (RCod.enc cShop) (HBook.shops (Prod.fst (N.dStep {shops:=List.map (RCod.dec cShop) rx1,binds:=List.map (RCod.dec cBind) rx1_1:HBook} {op:=V.toInt (List.getD (List.getD r16 (Int.toNat i18) []) 0 V.undef),shop:={name:=V.toStr (List.getD (List.getD r16 (Int.toNat i18) []) 1 V.undef),sort:=V.toInt (List.getD (List.getD r16 (Int.toNat i18) []) 2 V.undef),to:=V.toStr (List.getD (List.getD r16 (Int.toNat i18) []) 3 V.undef):HShop},bind:={shop:=V.toStr (List.getD (List.getD r16 (Int.toNat i18) []) 4 V.undef),to:=V.toStr (List.getD (List.getD r16 (Int.toNat i18) []) 5 V.undef),up:=V.toBool (List.getD (List.getD r16 (Int.toNat i18) []) 6 V.undef),key:=V.toStr (List.getD (List.getD r16 (Int.toNat i18) []) 7 V.undef),want:=List.map (fun r=>{key:=V.toStr (List.getD r 0 .undef),kind:=V.toInt (List.getD r 1 .undef),num:=V.toInt (List.getD r 2 .undef),text:=V.toStr (List.getD r 3 .undef):HPair}) (V.toRows (List.getD (List.getD r16 (Int.toNat i18) []) 8 V.undef)),all:=V.toBool (List.getD (List.getD r16 (Int.toNat i18) []) 9 V.undef):HBind}:HRAct})))),binds:=List.map (RCod.dec cBind) (List.map (RCod.enc cBind) (HBook.binds (Prod.fst (N.dStep {shops:=List.map (RCod.dec cShop) rx1,binds:=List.map (RCod.dec cBind) rx1_1:HBook} {op:=V.toInt (List.getD (List.getD r16 (Int.toNat i18) []) 0 V.undef),shop:={name:=V.toStr (List.getD (List.getD r16 (Int.toNat i18) []) 1 V.undef),sort:=V.toInt (List.getD (List.getD r16 (Int.toNat i18) []) 2 V.undef),to:=V.toStr (List.getD (List.getD r16 (Int.toNat i18) []) 3 V.undef):HShop},bind:={shop:=V.toStr (List.getD (List.getD r16 (Int.toNat i18) []) 4 V.undef),to:=V.toStr (List.getD (List.getD r16 (Int.toNat i18) []) 5 V.undef),up:=V.toBool (List.getD (List.getD r16 (Int.toNat i18) []) 6 V.undef),key:=V.toStr (List.getD (List.getD r16 (Int.toNat i18) []) 7 V.undef),want:=List.map (fun r=>{key:=V.toStr (List.getD r 0 .undef),kind:=V.toInt (List.getD r 1 .undef),num:=V.toInt (List.getD r 2 .undef),text:=V.toStr (List.getD r 3 .undef):HPair}) (V.toRows (List.getD (List.getD r16 (Int.toNat i18) []) 8 V.undef)),all:=V.toBool (List.getD (List.getD r16 (Int.toNat i18) []) 9 V.undef):HBind}:HRAct})))):HBook}) (K Ex.ret {fr:=[(2,V.bool false)],tab:=[]:St}) (K Ex.normal {fr:=[(3,V.ptr 10000 0 0 0),(4,V.ptr 10001 0 0 0),(16,V.slc [.int .u8,.str,.int .u8,.str,.str,.str,.bool,.str,.slc [.str,.int .u8,.int .i64,.str],.bool] r16),(17,V.int .i64 i17),(18,V.int .i64 (IntKind.wrap .i64 (i18+(1:Int))))],tab:=[(10000,Box.var [V.slc [.str,.int .u8,.str] (List.map (RCod.enc cShop) (HBook.shops (Prod.fst (N.pStep {shops:=List.map (RCod.dec cShop) rx0,binds:=List.map (RCod.dec cBind) rx0_1:HBook} {op:=V.toInt (List.getD (List.getD r16 (Int.toNat i18) []) 0 V.undef),shop:={name:=V.toStr (List.getD (List.getD r16 (Int.toNat i18) []) 1 V.undef),sort:=V.toInt (List.getD (List.getD r16 (Int.toNat i18) []) 2 V.undef),to:=V.toStr (List.getD (List.getD r16 (Int.toNat i18) []) 3 V.undef):HShop},bind:={shop:=V.toStr (List.getD (List.getD r16 (Int.toNat i18) []) 4 V.undef),to:=V.toStr (List.getD (List.getD r16 (Int.toNat i18) []) 5 V.undef),up:=V.toBool (List.getD (List.getD r16 (Int.toNat i18) []) 6 V.undef),key:=V.toStr (List.getD (List.getD r16 (Int.toNat i18) []) 7 V.undef),want:=List.map (fun r=>{key:=V.toStr (List.getD r 0 .undef),kind:=V.toInt (List.getD r 1 .undef),num:=V.toInt (List.getD r 2 .undef),text:=V.toStr (List.getD r 3 .undef):HPair}) (V.toRows (List.getD (List.getD r16 (Int.toNat i18) []) 8 V.undef)),all:=V.toBool (List.getD (List.getD r16 (Int.toNat i18) []) 9 V.undef):HBind}:HRAct})))),V.slc [.str,.str,.bool,.str,.slc [.str,.int .u8,.int .i64,.str],.bool] (List.map (RCod.enc cBind) (HBook.binds (Prod.fst (N.pStep {shops:=List.map (RCod.dec cShop) rx0,binds:=List.map (RCod.dec cBind) rx0_1:HBook} {op:=V.toInt (List.getD (List.getD r16 (Int.toNat i18) []) 0 V.undef),shop:={name:=V.toStr (List.getD (List.getD r16 (Int.toNat i18) []) 1 V.undef),sort:=V.toInt (List.getD (List.getD r16 (Int.toNat i18) []) 2 V.undef),to:=V.toStr (List.getD (List.getD r16 (Int.toNat i18) []) 3 V.undef):HShop},bind:={shop:=V.toStr (List.getD (List.getD r16 (Int.toNat i18) []) 4 V.undef),to:=V.toStr (List.getD (List.getD r16 (Int.toNat i18) []) 5 V.undef),up:=V.toBool (List.getD (List.getD r16 (Int.toNat i18) []) 6 V.undef),key:=V.toStr (List.getD (List.getD r16 (Int.toNat i18) []) 7 V.undef),want:=List.map (fun r=>{key:=V.toStr (List.getD r 0 .undef),kind:=V.toInt (List.getD r 1 .undef),num:=V.toInt (List.getD r 2 .undef),text:=V.toStr (List.getD r 3 .undef):HPair}) (V.toRows (List.getD (List.getD r16 (Int.toNat i18) []) 8 V.undef)),all:=V.toBool (List.getD (List.getD r16 (Int.toNat i18) []) 9 V.undef):HBind}:HRAct}))))]),(10001,Box.var [V.slc [.str,.int .u8,.str] (List.map (RCod.enc cShop) (HBook.shops (Prod.fst (N.dStep {shops:=List.map (RCod.dec cShop) rx1,binds:=List.map (RCod.dec cBind) rx1_1:HBook} {op:=V.toInt (List.getD (List.getD r16 (Int.toNat i18) []) 0 V.undef),shop:={name:=V.toStr (List.getD (List.getD r16 (Int.toNat i18) []) 1 V.undef),sort:=V.toInt (List.getD (List.getD r16 (Int.toNat i18) []) 2 V.undef),to:=V.toStr (List.getD (List.getD r16 (Int.toNat i18) []) 3 V.undef):HShop},bind:={shop:=V.toStr (List.getD (List.getD r16 (Int.toNat i18) []) 4 V.undef),to:=V.toStr (List.getD (List.getD r16 (Int.toNat i18) []) 5 V.undef),up:=V.toBool (List.getD (List.getD r16 (Int.toNat i18) []) 6 V.undef),key:=V.toStr (List.getD (List.getD r16 (Int.toNat i18) []) 7 V.undef),want:=List.map (fun r=>{key:=V.toStr (List.getD r 0 .undef),kind:=V.toInt (List.getD r 1 .undef),num:=V.toInt (List.getD r 2 .undef),text:=V.toStr (List.getD r 3 .undef):HPair}) (V.toRows (List.getD (List.getD r16 (Int.toNat i18) []) 8 V.undef)),all:=V.toBool (List.getD (List.getD r16 (Int.toNat i18) []) 9 V.undef):HBind}:HRAct})))),V.slc [.str,.str,.bool,.str,.slc [.str,.int .u8,.int .i64,.str],.bool] (List.map (RCod.enc cBind) (HBook.binds (Prod.fst (N.dStep {shops:=List.map (RCod.dec cShop) rx1,binds:=List.map (RCod.dec cBind) rx1_1:HBook} {op:=V.toInt (List.getD (List.getD r16 (Int.toNat i18) []) 0 V.undef),shop:={name:=V.toStr (List.getD (List.getD r16 (Int.toNat i18) []) 1 V.undef),sort:=V.toInt (List.getD (List.getD r16 (Int.toNat i18) []) 2 V.undef),to:=V.toStr (List.getD (List.getD r16 (Int.toNat i18) []) 3 V.undef):HShop},bind:={shop:=V.toStr (List.getD (List.getD r16 (Int.toNat i18) []) 4 V.undef),to:=V.toStr (List.getD (List.getD r16 (Int.toNat i18) []) 5 V.undef),up:=V.toBool (List.getD (List.getD r16 (Int.toNat i18) []) 6 V.undef),key:=V.toStr (List.getD (List.getD r16 (Int.toNat i18) []) 7 V.undef),want:=List.map (fun r=>{key:=V.toStr (List.getD r 0 .undef),kind:=V.toInt (List.getD r 1 .undef),num:=V.toInt (List.getD r 2 .undef),text:=V.toStr (List.getD r 3 .undef):HPair}) (V.toRows (List.getD (List.getD r16 (Int.toNat i18) []) 8 V.undef)),all:=V.toBool (List.getD (List.getD r16 (Int.toNat i18) []) 9 V.undef):HBind}:HRAct}))))])]:St})) (none)) (none))) (none))) (none)) (none))) (none)) (none))) (none)) (none)) (K (Ex.exit 0) {fr:=[],tab:=[]:St}):=by kernel_rfl
theorem fold_raB (r:List V):(⟨(r.getD 4 .undef).toStr,(r.getD 5 .undef).toStr,(r.getD 6 .undef).toBool,(r.getD 7 .undef).toStr,(r.getD 8 .undef).toRows.map (fun r=>({ key:=V.toStr (List.getD r 0 .undef),kind:=V.toInt (List.getD r 1 .undef),num:=V.toInt (List.getD r 2 .undef),text:=V.toStr (List.getD r 3 .undef) }:HPair)),(r.getD 9 .undef).toBool⟩:HBind)=(cRA.dec r).bind:=rfl
theorem fold_ra2 (r:List V):(⟨(r.getD 0 .undef).toInt,⟨(r.getD 1 .undef).toStr,(r.getD 2 .undef).toInt,(r.getD 3 .undef).toStr⟩,(cRA.dec r).bind⟩:HRAct)=cRA.dec r:=rfl
theorem sameBook_refl (a:HBook):N.sameBook a a=true:=by
 unfold N.sameBook
 rw [sameShops_eq.2 rfl,sameBinds_eq.2 rfl]; rfl
theorem lightRAs_at:∀ {l:List HRAct},N.lightRAs l=true→∀ a∈l,N.lightRA a=true
 | [],_,a,ha=>by cases ha
 | x::r,h,a,ha=>by
  obtain ⟨h1,h2⟩:=bcond h
  rcases List.mem_cons.1 ha with rfl | ha
  ·exact h1
  ·exact lightRAs_at h2 a ha
theorem dec_at {r:List (List V)} {i:Nat} (hi:i<r.length):cRA.dec (r.getD i [])∈r.map cRA.dec :=
 List.mem_map_of_mem (by rw [List.getD_eq_getElem?_getD,List.getElem?_eq_getElem hi]; exact List.getElem_mem hi)
theorem okRA_of {a:HRAct} (h:N.okRA a=true):0≤a.op∧0≤a.shop.sort:=by
 obtain ⟨h1,h2⟩:=bcond h
 exact ⟨ile_of h1,ile_of h2⟩
theorem ok_routePlays_8:RoundsOk eRoutePlays 10 8:=by
 refine rounds_of rfl fun l K q h=>?_
 unfold gRoutePlays at h
 split at h
 ·rename_i r n i b0 b1 c0 c1
  have h1:=(cond_none h).1; replace h:=(cond_none h).2; have h2:=(cond_none h).1; replace h:=(cond_none h).2; have h3:=(cond_none h).1; replace h:=(cond_none h).2; have h4:=(cond_none h).1; replace h:=(cond_none h).2; have h5:=(cond_none h).1; replace h:=(cond_none h).2; have h6:=(cond_none h).1; replace h:=(cond_none h).2; have h7:=(cond_none h).1; replace h:=(cond_none h).2; have h8:=(cond_none h).1; replace h:=(cond_none h).2; have h9:=(cond_none h).1; replace h:=(cond_none h).2
  have e1:=ieq_of h1
  have e2:=ieq_of h2
  have e3:=List.eq_nil_of_length_eq_zero (nbeq_of h6)
  have e4:=List.eq_nil_of_length_eq_zero (nbeq_of h7)
  have e5:=List.eq_nil_of_length_eq_zero (nbeq_of h8)
  have e6:=List.eq_nil_of_length_eq_zero (nbeq_of h9)
  subst e1 e2 e3 e4 e5 e6
  have h3:r.length≤40:=ble_of h3
  have main:=range_ind (E:=eRoutePlays) (f:=10) (id:=8) (A:=HBook) r (fun a i=>{ fr:=[(3,.ptr 10000 0 0 0),(4,.ptr 10001 0 0 0),(16,.slc [.int .u8,.str,.int .u8,.str,.str,.str,.bool,.str,.slc [.str,.int .u8,.int .i64,.str],.bool] r),(17,.int .i64 r.length),(18,.int .i64 i)],tab:=[(10000,.var [.slc [.str,.int .u8,.str] (a.shops.map cShop.enc),.slc [.str,.str,.bool,.str,.slc [.str,.int .u8,.int .i64,.str],.bool] (a.binds.map cBind.enc)]),(10001,.var [.slc [.str,.int .u8,.str] (a.shops.map cShop.enc),.slc [.str,.str,.bool,.str,.slc [.str,.int .u8,.int .i64,.str],.bool] (a.binds.map cBind.enc)])] }) (fun a _=>BInv a)
   (fun _ _ K=>K (.exit 0) { fr:=[],tab:=[] }) (fun a i ha hi=>?_) (fun a ha=>?_) ⟨[],[]⟩ 0 (Int.le_refl _) (by omega) BInv.nil K q (by assumption)
  ·exact main
  ·have hq:=fun K=>q_routePlaysR r r.length i (a.shops.map cShop.enc) (a.binds.map cBind.enc) (a.shops.map cShop.enc) (a.binds.map cBind.enc) K
   have t1:ilt (i:Int) r.length=true:=ilt_t (by omega)
   have t2:decide ((0:Int)≤i∧(i:Int)<r.length)=true:=decide_eq_true (by omega)
   have t3:IntKind.wrap .i64 ((i:Int)+1)=(i:Int)+1:=wr_i64 (by omega) (by omega)
   have m:=dec_at hi
   have hl:=lightRA_bind (lightRAs_at h4 _ m)
   have ho:=(okRA_of (List.all_eq_true.1 h5 _ m)).2
   have hn:=ha.step ho hl
   simp only [Int.toNat_natCast,fold_raB,fold_ra2,dec_encs,fold_book] at hq
   simp only [← step_eq ha (cRA.dec (r.getD i []))] at hq
   refine .inl ⟨_,hn,fun K=>?_,fun K=>rfl⟩
   rw [hq]
   simp only [t1,t2,t3,ha.small,hn.small,lightB_small hl,beq_self_eq_true,sameBook_refl,Bool.not_true,cond_true,cond_false]
  ·refine ⟨.exit 0,{ fr:=[],tab:=[] },by simp,fun K=>?_,fun K=>rfl⟩
   rw [q_routePlaysR,ilt_f (by omega),cond_false]
 ·cases h
theorem ok_routePlays (hN:FnOk Tryz.prog 158 dOutNum):FnOk Tryz.prog 10 (den (aOne (vSl cRA)) bNil (oV vBool) (fun l _=>cond (Nat.ble l.length 9223372036854775807) (l.all N.okRA) false) fun _ _=>(true,())):=by
 refine den_okF (env_ok (((((((TOk.nil _).cons ok_sameBook).cons ok_rSameB).cons ok_lawOfB).cons ok_done14).cons ok_light14).cons (ok_aw14 hN))) (E:=eRoutePlays) Tryz.func10 [8] (by kernel_rfl) (one1 ok_routePlays_8) fun l _ hp=>?_
 obtain ⟨p1,p2⟩:=bcond hp
 have p1:Nat.ble l.length 9223372036854775807=true:=p1
 have p2:l.all N.okRA=true:=p2
 refine (q_routePlays l).trans ?_
 simp only [dec_encs,List.length_map,p1,p2,beq_self_eq_true,cond_true]
 cases e1:ile (l.length:Int) 40 with
 | false=>rfl
 | true =>
  have e2:Nat.ble l.length 40=true:=Nat.ble_eq_true_of_le (by have:=ile_of e1; omega)
  rw [e2]
  cases N.lightRAs l<;>rfl
theorem ra_wf {a:HRAct} (h:wfL (cRA.enc a)=true):N.okRA a=true:=by
 have h:cond (wfV (.int .u8 a.op)) (cond (wfV (.str a.shop.name)) (cond (wfV (.int .u8 a.shop.sort)) _ false) false) false=true:=h
 obtain ⟨h1,h⟩:=bcond h
 obtain ⟨_,h⟩:=bcond h
 obtain ⟨h2,_⟩:=bcond h
 have a1:0≤a.op:=(int_wf' h1).1
 have a2:0≤a.shop.sort:=(int_wf' h2).1
 show cond (ile 0 a.op) (ile 0 a.shop.sort) false=true
 rw [ile_t a1,ile_t a2]; rfl
theorem ras_wfR:∀ l:List HRAct,wfRs (l.map cRA.enc)=true→l.all N.okRA=true
 | [],_=>rfl
 | m::r,h=>by
  have h:cond (wfL (cRA.enc m)) (wfRs (r.map cRA.enc)) false=true:=h
  obtain ⟨h1,h2⟩:=bcond h
  rw [List.all_cons,ras_wfR r h2,ra_wf h1]; rfl
theorem ras_wf {l:List HRAct} (h:wfL ((rSl cRA).enc l)=true):l.all N.okRA=true:=by
 have h:cond (cond (Nat.ble (l.map cRA.enc).length 9223372036854775807) (cond (fitsRows cRA.sh (l.map cRA.enc)) (wfRs (l.map cRA.enc)) false) false) true false=true:=h
 exact ras_wfR l (bcond (bcond (bcond h).1).2).2
end Go.Ev

/- The library's text builder in this program,and the function that writes a number's bytes with it: lemmas,no condition but the text's length. -/
namespace Go.Ev
open Go Go.Proofs Go.RowKit Go.Shelf
theorem bSize:(Tryz.prog.info? 216).map (·.size)=some 2:=by kernel_rfl
theorem bLies:liesAt Tryz.prog Tryz.prog.depth 216 (2 / Tryz.prog.cellsOf 216) 0 216 1=true:=by kernel_rfl
theorem bByte:(Tryz.prog.info? 5).map (fun i=>(i.zero,i.size,i.bytes))=some (some (.int .u8 0),1,1):=by kernel_rfl
set_option maxHeartbeats 1000000 in
set_option maxRecDepth 100000 in
theorem cc_used (b : Nat) (w : World) (h0 : w.cell? ⟨b, 0, none⟩ = some (.pointer (some ⟨b, 0, none⟩))) :
    Calls Tryz.prog 175 #[.pointer (some ⟨b, 0, none⟩)] w fun e w' => e = .returned (.tuple #[]) ∧ w' = w := by
  obtain ⟨j, hj, _⟩ := Option.map_eq_some_iff.1 bSize
  go_enter Tryz.func175, Tryz.ntmps175
  go_wp2
  rw [Lib.run_neq_ptr_same w _ Tryz.underlying213 hj]
  go_wp2
  go_end0
  exact ⟨rfl, rfl⟩
set_option maxHeartbeats 1000000 in
set_option maxRecDepth 100000 in
theorem cc_fresh (b : Nat) (w : World) (h0 : w.cell? ⟨b, 0, none⟩ = some (.pointer none)) (hsh : w.shape? b = some (216, 2)) (hfz : w.frozen? ⟨b, 0, none⟩ = false) :
    Calls Tryz.prog 175 #[.pointer (some ⟨b, 0, none⟩)] w fun e w' => e = .returned (.tuple #[]) ∧ w' = w.setCell ⟨b, 0, none⟩ (.pointer (some ⟨b, 0, none⟩)) := by
  obtain ⟨j, hj, hjs⟩ := Option.map_eq_some_iff.1 bSize
  go_enter Tryz.func175, Tryz.ntmps175
  go_wp2
  rw [Lib.run_to_unsafe w ⟨b, 0, none⟩ Tryz.underlying213 Tryz.underlying224 hj (by rw [hjs]; decide) hsh (Nat.zero_lt_succ 1)]
  simp only [Result.andThen]
  rw [Oper.upon_value]
  go_wp2
  rw [run_callFunc_extern Tryz.func180 (by kernel_rfl) (by kernel_rfl) (by kernel_rfl) (e := Extern.AbiNoEscape.same) (by kernel_rfl)]
  rw [Lib.run_noEscape]
  simp only [Result.andThen]
  rw [Oper.upon_value]
  go_wp2
  rw [Lib.run_from_unsafe w ⟨b, 0, none⟩ Tryz.underlying224 Tryz.underlying213 hj hsh bLies]
  simp only [Result.andThen]
  rw [Oper.upon_value]
  go_wp2
  go_end0
  exact ⟨rfl, rfl⟩
theorem cc (B b:Nat) (bs:List Value) (w:World) (h:Lib.IsBuilder 216 5 B b bs w) :
  Calls Tryz.prog 175 #[.pointer (some ⟨b,0,none⟩)] w fun e w'=>e = .returned (.tuple #[])∧(Lib.BuilderAt 216 5 B b (.pointer (some ⟨b,0,none⟩)) bs w'∧Below B w w'):=by
 rcases h with h | h
 ·refine (cc_fresh b w h.cell0 h.shape h.frozen0).mono ?_
  rintro e w' ⟨rfl,rfl⟩
  exact ⟨rfl,h.used _,(Below.refl B w).setCell (p:=⟨b,0,none⟩) h.1 _⟩
 ·refine (cc_used b w h.cell0).mono ?_
  rintro e w' ⟨rfl,rfl⟩
  exact ⟨rfl,h,Below.refl B _⟩
set_option maxHeartbeats 2000000 in
set_option maxRecDepth 100000 in
theorem writeByte (B b : Nat) (bs : List Value) (c : Int) (w : World) (h : Lib.IsBuilder 216 5 B b bs w) (hlen : bs.length + 1 ≤ 140737488355328) (hBw : B ≤ w.heap.size) :
    Calls Tryz.prog 171 #[.pointer (some ⟨b, 0, none⟩), .int .u8 c] w fun e w' => e = .returned .nilIface ∧ (Lib.BuilderAt 216 5 B b (.pointer (some ⟨b, 0, none⟩)) (bs ++ [.int .u8 c]) w' ∧ Below B w w') := by
  obtain ⟨i0, hi, hz0, hz1, hz2⟩ := info_parts bByte
  go_enter Tryz.func171, Tryz.ntmps171
  go_wp2_with (go_at_call 175; refine (cc B b bs _ h).mono ?_)
  rintro e w1 ⟨rfl, h1, hb1⟩
  obtain ⟨hB, v, hbk, hown, hne⟩ := h1
  have c0 : w1.cell? ⟨b, 0, none⟩ = some (.pointer (some ⟨b, 0, none⟩)) := by rw [Lib.cell_of_heap hbk]; rfl
  have c1 : w1.cell? ⟨b, 1, none⟩ = some v := by rw [Lib.cell_of_heap hbk]; rfl
  go_wp2_with (at_builtin; refine wpList_append_own _ rfl _ _ 214 rfl B 5 i0 (.int .u8 0) 1 1 Tryz.underlying214 hi hz0 hz1 hz2 rfl (by decide) _ _ _ rfl (hown.alloc _) ⟨w1.heap.size, 0, none⟩ 1 1 [.int .u8 c] rfl rfl ?c1 ?c2 ?c3 ?c4 ?c5 ?_)
  case c1 =>
    intro j u hj
    match j, hj with
    | 0, hj => simp at hj; subst hj; simp [Addr.add]
  case c2 => intro u hu; simp at hu; subst hu; rfl
  case c3 => unfold maxLen; omega
  case c4 => omega
  case c5 => have := hb1.size; simp; omega
  intro v' w2 hown' hgrow _
  have hlt : b < w1.heap.size := by
    rcases Nat.lt_or_ge b w1.heap.size with h' | h'
    · exact h'
    · simp [Array.getElem?_eq_none h'] at hbk
  have hb2 : w2.heap[b]? = some (.cells #[.pointer (some ⟨b, 0, none⟩), v] 216 (0, 0)) := by
    rw [hgrow.block b (by simp; omega) (fun e => hne e.symm), Lib.alloc_old w1 _ b hlt]
    exact hbk
  have d0 : w2.cell? ⟨b, 0, none⟩ = some (.pointer (some ⟨b, 0, none⟩)) := by rw [Lib.cell_of_heap hb2]; rfl
  have d1 : w2.cell? ⟨b, 1, none⟩ = some v := by rw [Lib.cell_of_heap hb2]; rfl
  have f1 : w2.frozen? ⟨b, 1, none⟩ = false := Lib.frozen_of_heap hb2 1
  obtain ⟨g, cap, rfl⟩ : ∃ g cap, v' = .slice (some ⟨g, 0, none⟩) (bs.length + 1) cap := by
    rcases hown'.2 with ⟨_, h0⟩ | ⟨g, cap, cur, hv, _⟩
    · omega
    · exact ⟨g, cap, hv⟩
  go_wp2
  go_ret
  refine ⟨rfl, ?_, ?_⟩
  · exact Lib.BuilderAt.put (T := 216) (e := 5) hB hb2 (bs' := bs ++ [.int .u8 c]) (by simpa using hown') (by decide)
  · exact ((hb1.alloc (by have := hb1.size; omega) _).grown hgrow (by have := hb1.size; simp; omega) (fun k hk => (hown.lt k hk).1)).setCell (p := ⟨b, 1, none⟩) hB _
def lays169_ren:Go.Shelf.Ren:=⟨fun | 169=>172 | n=>n,fun | 70=>213 | 9=>9 | 0=>0 | 72=>216 | 37=>214 | 127=>221 | 3=>3 | 5=>5 | n=>n,fun | n=>n⟩
theorem lays169:Go.Proofs.Lays.n169 Tryz.prog lays169_ren:={
 mixed:=by kernel_rfl
 f169:=Tryz.func172.trans (congrArg some (by kernel_rfl))
 t0:=Tryz.underlying0
 a0:=Tryz.isAgg0
 z0:=Tryz.sizeOf0
 v0:=Tryz.zeroValue0
 t3:=Tryz.underlying3
 a3:=Tryz.isAgg3
 z3:=Tryz.sizeOf3
 v3:=Tryz.zeroValue3
 t9:=Tryz.underlying9
 a9:=Tryz.isAgg9
 z9:=Tryz.sizeOf9
 v9:=Tryz.zeroValue9
 t37:=Tryz.underlying214
 a37:=Tryz.isAgg214
 z37:=Tryz.sizeOf214
 v37:=Tryz.zeroValue214
 t70:=Tryz.underlying213
 a70:=Tryz.isAgg213
 z70:=Tryz.sizeOf213
 v70:=Tryz.zeroValue213
 t72:=Tryz.underlying216
 a72:=Tryz.isAgg216
 z72:=Tryz.sizeOf216
 v72:=Tryz.zeroValue216
 t127:=Tryz.underlying221
 a127:=Tryz.isAgg221
 z127:=Tryz.sizeOf221
 v127:=Tryz.zeroValue221 }
theorem extra169:Builder.Extra Tryz.prog lays169_ren:={
 sizeBuilder:=by kernel_rfl
 liesBuilder:=by kernel_rfl
 t5:=Tryz.underlying5
 a5:=Tryz.isAgg5
 z5:=Tryz.sizeOf5
 v5:=Tryz.zeroValue5
 infoByte:=by kernel_rfl
 cellsByte:=by kernel_rfl
 sizeByte:=by kernel_rfl
 neB5:=by decide }
theorem bString (B b:Nat) (l:List UInt8) (w:World) (h:Lib.IsBuilder 216 5 B b (Lib.byteCells l) w) (hBw:B≤w.heap.size) :
  Calls Tryz.prog 172 #[.pointer (some ⟨b,0,none⟩)] w fun e w'=>e = .returned (.string ⟨l.toArray⟩)∧Below B w w':=Any.Builder_String_any lays169 extra169 B b l w h hBw
end Go.Ev

/- The function that writes a number's bytes: its walk. -/
namespace Go.Ev
open Go Go.Proofs Go.RowKit Go.Shelf
theorem clamp_eq {bytes:Int}:min (max bytes 0) 8=(N.clamp bytes:Int)∧N.clamp bytes≤8:=by
 unfold N.clamp
 rw [ilt_eq,ilt_eq]
 by_cases h1:0<bytes
 ·by_cases h2:8<bytes
  ·simp [h1,h2]; omega
  ·simp [h1,h2]; omega
 ·simp [h1]; omega
theorem two_blocks {w wr:World} {o1 o2:Obj} (h:Below (w.heap.size+1+1) ((w.alloc o1).alloc o2) wr):wr.heap[w.heap.size]? = some o1∧wr.heap[w.heap.size+1]? = some o2:=by
 have e:(w.alloc o1).heap.size=w.heap.size+1:=by simp
 refine ⟨?_,?_⟩
 ·rw [h.block _ (by omega),Below.heap_alloc _ _ _ (by omega)]; exact Go.heap_alloc_new w o1
 ·rw [h.block _ (by omega),← e]; exact Go.heap_alloc_new _ o2
set_option maxHeartbeats 4000000 in
set_option maxRecDepth 1000000 in
theorem outNum_walk (s : ByteArray) (er n bytes : Int) (w : World) (hs : (s.size : Int) ≤ 9223372036854775799) :
    Calls Tryz.prog 158 #[.agg #[.string s, .int .i64 er], .int .u64 n, .int .i64 bytes] w fun e w' =>
      e = .returned (.agg #[.string ⟨(s.data.toList ++ N.numB n (N.clamp bytes)).toArray⟩, .int .i64 er]) ∧ Below w.heap.size w w' := by
  go_enter Tryz.func158, Tryz.ntmps158
  go_wp2
  go_loopw [8] (fun i wr => ∃ (k : Int) (acc : List UInt8), i = .int .i64 k ∧ Lib.IsBuilder 216 5 (w.heap.size + 1 + 1) (w.heap.size + 1 + 1) (Lib.byteCells acc) wr ∧
      Below (w.heap.size + 1 + 1) ((w.alloc (Obj.cells #[Value.string s, Value.int IntKind.i64 er] 201)).alloc (Obj.cells #[Value.string { data := #[] }, Value.int IntKind.i64 0] 201)) wr ∧
      -1 ≤ k ∧ acc ++ N.numB n (k + 1).toNat = N.numB n (N.clamp bytes) ∧ acc.length + (k + 1).toNat ≤ 8) (fun i _ => (intOf i + 1).toNat)
  case atStart =>
    obtain ⟨hcl, hc8⟩ := clamp_eq (bytes := bytes)
    have hf := Lib.fresh_isBuilder 216 5 ((w.alloc (Obj.cells #[Value.string s, Value.int IntKind.i64 er] 201)).alloc (Obj.cells #[Value.string { data := #[] }, Value.int IntKind.i64 0] 201))
    have e0 : ((w.alloc (Obj.cells #[Value.string s, Value.int IntKind.i64 er] 201)).alloc (Obj.cells #[Value.string { data := #[] }, Value.int IntKind.i64 0] 201)).heap.size = w.heap.size + 1 + 1 := by simp
    rw [e0] at hf
    refine ⟨(N.clamp bytes : Int) - 1, [], by rw [hcl], hf, (Below.refl _ _).alloc (by simp) _, by omega, ?_, ?_⟩
    · rw [show ((N.clamp bytes : Int) - 1 + 1).toNat = N.clamp bytes by omega]; rfl
    · simp only [List.length_nil]; omega
  case round =>
    obtain ⟨k, acc, rfl, hI, hB, hk, hacc, hal⟩ := hrel
    by_cases hk0 : 0 ≤ k
    · go_wp2_with (go_at_call 171; refine (writeByte (w.heap.size + 1 + 1) (w.heap.size + 1 + 1) _ _ _ hI (by rw [Lib.byteCells_length]; omega) (by have := hB.size; simp at this; omega)).mono ?_)
      rintro e w1 ⟨rfl, h1, b1⟩
      go_wp2
      go_roundw
      case rel =>
        have e1 : N.numB n (k + 1).toNat = UInt8.ofNat ((n / 2 ^ (8 * k.toNat)) % 256).toNat :: N.numB n k.toNat := by
          rw [show (k + 1).toNat = k.toNat + 1 by omega]; rfl
        have e2 : ((UInt8.ofNat ((n / 2 ^ (8 * k.toNat)) % 256).toNat).toNat : Int) = n / 2 ^ (8 * k).toNat % 256 := by
          rw [show (8 * k).toNat = 8 * k.toNat by omega]
          have h0 : 0 ≤ (n / 2 ^ (8 * k.toNat)) % 256 := Int.emod_nonneg _ (by decide)
          have h1 : (n / 2 ^ (8 * k.toNat)) % 256 < 256 := Int.emod_lt_of_pos _ (by decide)
          have h2 : (UInt8.ofNat ((n / 2 ^ (8 * k.toNat)) % 256).toNat).toNat = ((n / 2 ^ (8 * k.toNat)) % 256).toNat := UInt8.toNat_ofNat_of_lt' (by
            show ((n / 2 ^ (8 * k.toNat)) % 256).toNat < 256
            omega)
          rw [h2]; omega
        refine ⟨k - 1, acc ++ [UInt8.ofNat ((n / 2 ^ (8 * k.toNat)) % 256).toNat], rfl, ?_, hB.trans b1, by omega, ?_, ?_⟩
        · rw [Lib.byteCells_append]
          have e3 : Lib.byteCells [UInt8.ofNat ((n / 2 ^ (8 * k.toNat)) % 256).toNat] = [Value.int .u8 (n / 2 ^ (8 * k).toNat % 256)] := by
            rw [← e2]; rfl
          rw [e3]; exact Or.inr h1
        · rw [e1] at hacc
          rw [← hacc, show (k - 1 + 1).toNat = k.toNat by omega, List.append_assoc]; rfl
        · rw [List.length_append]; simp only [List.length_cons, List.length_nil]; omega
      case measure => simp [intOf]; omega
    · have hk1 : k = -1 := by omega
      subst hk1
      have hfin : N.numB n (N.clamp bytes) = acc := by rw [← hacc]; show acc ++ [] = acc; simp
      have hal : acc.length ≤ 8 := by omega
      clear hacc
      rw [hfin]
      obtain ⟨hb0, hb1⟩ := two_blocks hB
      have c0 : wr.cell? ⟨w.heap.size, 0, none⟩ = some (.string s) := by rw [Lib.cell_of_heap hb0]; rfl
      have c1 : wr.cell? ⟨w.heap.size, 1, none⟩ = some (.int .i64 er) := by rw [Lib.cell_of_heap hb0]; rfl
      have c2 : wr.cell? ⟨w.heap.size + 1, 0, none⟩ = some (.string ⟨#[]⟩) := by rw [Lib.cell_of_heap hb1]; rfl
      have c3 : wr.cell? ⟨w.heap.size + 1, 1, none⟩ = some (.int .i64 0) := by rw [Lib.cell_of_heap hb1]; rfl
      have f0 : wr.frozen? ⟨w.heap.size, 0, none⟩ = false := Lib.frozen_of_heap hb0 0
      have f1 : wr.frozen? ⟨w.heap.size, 1, none⟩ = false := Lib.frozen_of_heap hb0 1
      have f2 : wr.frozen? ⟨w.heap.size + 1, 0, none⟩ = false := Lib.frozen_of_heap hb1 0
      have f3 : wr.frozen? ⟨w.heap.size + 1, 1, none⟩ = false := Lib.frozen_of_heap hb1 1
      have hBw : w.heap.size + 1 + 1 ≤ wr.heap.size := by have := hB.size; simp at this; omega
      have hadd : ¬ 9223372036854775807 < s.size + acc.length := by omega
      have hadd2 : ¬ 9223372036854775807 < s.size + (⟨acc.toArray⟩ : ByteArray).size := by
        show ¬ 9223372036854775807 < s.size + acc.toArray.size
        rw [List.size_toArray]; exact hadd
      have hadd3 : ¬ (s.size + (⟨acc.toArray⟩ : ByteArray).size > 9223372036854775807) := hadd2
      have hadd4 : s.size + (⟨acc.toArray⟩ : ByteArray).size ≤ 9223372036854775807 := Nat.not_lt.1 hadd2
      have hadd5 : s.size + acc.length ≤ 9223372036854775807 := Nat.not_lt.1 hadd
      go_wp2
      go_region_with (go_at_call 172; refine (bString (w.heap.size + 1 + 1) (w.heap.size + 1 + 1) acc _ (by exact hI) (by exact hBw)).mono ?_; rintro e w2 ⟨rfl, b2⟩
                      have d0 : w2.cell? ⟨w.heap.size, 0, none⟩ = some (.string s) := by rw [b2.cell (by show w.heap.size < w.heap.size + 1 + 1; omega)]; exact c0
                      have d1 : w2.cell? ⟨w.heap.size, 1, none⟩ = some (.int .i64 er) := by rw [b2.cell (by show w.heap.size < w.heap.size + 1 + 1; omega)]; exact c1
                      have d2 : w2.cell? ⟨w.heap.size + 1, 0, none⟩ = some (.string ⟨#[]⟩) := by rw [b2.cell (by show w.heap.size + 1 < w.heap.size + 1 + 1; omega)]; exact c2
                      have d3 : w2.cell? ⟨w.heap.size + 1, 1, none⟩ = some (.int .i64 0) := by rw [b2.cell (by show w.heap.size + 1 < w.heap.size + 1 + 1; omega)]; exact c3
                      have e0 : w2.frozen? ⟨w.heap.size, 0, none⟩ = false := by rw [b2.frozen (by show w.heap.size < w.heap.size + 1 + 1; omega)]; exact f0
                      have e1 : w2.frozen? ⟨w.heap.size, 1, none⟩ = false := by rw [b2.frozen (by show w.heap.size < w.heap.size + 1 + 1; omega)]; exact f1
                      have e2 : w2.frozen? ⟨w.heap.size + 1, 0, none⟩ = false := by rw [b2.frozen (by show w.heap.size + 1 < w.heap.size + 1 + 1; omega)]; exact f2
                      have e3 : w2.frozen? ⟨w.heap.size + 1, 1, none⟩ = false := by rw [b2.frozen (by show w.heap.size + 1 < w.heap.size + 1 + 1; omega)]; exact f3)
      all_goals go_wp2
      all_goals
        refine ⟨rfl, .agg #[.string (s ++ ⟨acc.toArray⟩), .int .i64 er], ?_, ?_, ?_⟩
        · simp [results, Tryz.results158, go_sem, d2, d3]
        · rw [hfin, ← bytes_append]
        · have b0 : Below w.heap.size w wr := (((Below.refl _ w).alloc (Nat.le_refl _) _).alloc (by simp) _).trans (hB.mono (by omega))
          exact (((b0.drew.trans (b2.mono (by omega))).setCell (p := ⟨w.heap.size, 0, none⟩) (Nat.le_refl _) _).setCell (p := ⟨w.heap.size + 1, 0, none⟩) (Nat.le_succ _) _).setCell (p := ⟨w.heap.size + 1, 1, none⟩) (Nat.le_succ _) _
theorem keeps_below {w w' : World} (X:Nat→Nat→Prop) (h:Below w.heap.size w w'):Keeps X w w' :=
 ⟨h.os,h.tape,h.output,h.size,fun b hb=>ObjOk.same (h.block b hb)⟩
theorem outNum_ok:FnOk Tryz.prog 158 dOutNum:=by
 refine den_of fun a b hp=>?_
 obtain ⟨o,n,bytes⟩:=a
 intro x y hxy w J locs xs hlen hJ hx _ _ _
 have hxy:x=(aCons (vAgg cOut) (aCons (vInt .u64) (aOne (vInt .i64)))).enc (o,n,bytes)∧y=bNil.enc b:=by simpa using hxy
 obtain ⟨rfl,rfl⟩:=hxy
 have hlen:locs=[]:=List.eq_nil_of_length_eq_zero hlen
 subst hlen
 obtain ⟨hp1,hp⟩:=bcond hp
 obtain ⟨hp2,hp3⟩:=bcond hp
 have hp3:o.s.length≤9223372036854775799:=Nat.le_of_ble_eq_true hp3
 obtain ⟨x0,xs1,rfl,hx0,hx⟩:=hx.uncons
 obtain ⟨x1,xs2,rfl,hx1,hx⟩:=hx.uncons
 obtain ⟨x2,rfl,hx2⟩:=hx.one
 obtain ⟨cs,rfl,hc1,hc2⟩:=Rv.agg_inv (show Rv w J _ (.agg [.str o.s,.int .i64 o.err]) x0 from hx0)
 have hx1:=Rv.int_inv (show Rv w J _ (.int .u64 n) x1 from hx1)
 have hx2:=Rv.int_inv (show Rv w J _ (.int .i64 bytes) x2 from hx2)
 subst hx1 hx2
 match cs,hc1,hc2 with
 | [c0,c1],_,hc2 =>
  have h0:=Rv.str_inv (show Rv w J _ (.str o.s) c0 from hc2 0 (by simp))
  have h1:=Rv.int_inv (show Rv w J _ (.int .i64 o.err) c1 from hc2 1 (by simp))
  subst h0 h1
  refine .inl ⟨?_,?_⟩
  ·have hnm : ¬ (Tryz.f158).name = "runtime.NumGoroutine" := by
    intro e
    have : ((Tryz.f158).name == "runtime.NumGoroutine") = false := by kernel_rfl
    rw [e] at this; cases this
   obtain ⟨c,hc⟩:=Option.isSome_iff_exists.1 (show (Tryz.f158).body.isSome=true by kernel_rfl)
   simp [callFunc,Tryz.func158,hnm,hc]
  ·refine (outNum_walk ⟨o.s.toArray⟩ o.err n bytes w (by rw [bytes_size]; omega)).mono fun e w' ⟨he,hb⟩=>⟨_,he,J,?_⟩
   refine ⟨keeps_below _ hb,fun _ _ h=>h,fun b o' h=>Nat.lt_of_lt_of_le (hJ b o' h) hb.size,fun _ _ h _=>h,rfl,(fun j cs cs' p hj=>by cases hj),.inl ⟨rfl,?_⟩⟩
   refine .agg [.str (N.outNum o n bytes).s,.int .i64 (N.outNum o n bytes).err] [.string ⟨(o.s++N.numB n (N.clamp bytes)).toArray⟩,.int .i64 o.err] rfl fun i hi=>?_
   match i,hi with
   | 0,_=>exact .dat (.str _)
   | 1,_=>exact .dat (.int _ _)
end Go.Ev
