/- What a claim needs: definitions and lemmas, no condition. -/
import Derived.Test.YtojpdhfnmodinaaGreatDoorGd
import Derived.Test.YtojpdhfnmodinaaGreatDoorGc
import Derived.Test.YtojpdhfnmodinaaGreatDoorProg
import Derived.KernelRfl
import Derived.Shelf.Strings.Builder1
import Derived.RegionTactic
import Derived.Deep.RegionWith
namespace Go.Ev
open Go Go.Proofs
set_option maxRecDepth 100000
-- FOLD2
theorem kE {α:Type} {f:List V->α} {p:α->Bool} {r:List (List V)} (h:(r.map f).all p=true) {i:Nat} (hi:i<r.length):p (f (r.getD i []))=true :=
 List.all_eq_true.1 h _ (List.mem_map_of_mem (by rw [List.getD_eq_getElem?_getD,List.getElem?_eq_getElem hi]; exact List.getElem_mem hi))
theorem mM (r:List V):List.map ak.dec (V.toRows (List.getD r 4 V.undef))=(bf.dec r).line:=rfl
theorem Jp (r:List V):List.map ah.dec (V.toRows (List.getD r 1 V.undef))=(bC.dec r).kept:=rfl
theorem wz {l:List aO} (h:qJ l=true):l.length<=300∧l.all eX=true∧(l.all fun x=>N.yF x.aY)=true:=by
 obtain ⟨h1,h2⟩:=aX h
 obtain ⟨h2,h3⟩:=aX h2
 exact ⟨aV h1,h2,h3⟩
theorem uV:∀ l:List aO,0<=N.jX l∧N.jX l<=1570*l.length
 | []=>⟨Int.le_refl _,Int.le_refl _⟩
 | x::r=>by
  have h1:=lF x.aY
  have h2:=uV r
  simp only [N.jX,List.length_cons]
  omega
theorem sS:∀ l:List fE,l.all oK=true->0<=N.eU l∧N.eU l<=471000*l.length
 | [],_=>⟨Int.le_refl _,Int.le_refl _⟩
 | x::r,h=>by
  rw [List.all_cons,Bool.and_eq_true] at h
  have h1:=uV x.line
  have h2:=sS r h.2
  have h3:=(wz h.1).1
  simp only [N.eU,List.length_cons]
  omega
theorem Gq {x:aG} (h:fH x=true):x.kept.length<=16:=by
 obtain ⟨_,h2⟩:=aX h
 obtain ⟨h2,_⟩:=aX h2
 exact aV h2
theorem uq:∀ l:List aG,l.all fH=true->0<=N.jm l∧N.jm l<=25120*l.length
 | [],_=>⟨Int.le_refl _,Int.le_refl _⟩
 | x::r,h=>by
  rw [List.all_cons,Bool.and_eq_true] at h
  have h1:=wu x.kept
  have h2:=uq r h.2
  have h3:=Gq h.1
  simp only [N.jm,List.length_cons]
  omega
def Y8:fK:={ fr:=[(3,.own 10000),(7,.slc yR),(8,.int .i64),(9,.int .i64)],tab:=[(10000,.sl yQ)] }
def WB:List Leaf->(Ex->St->Option R)->Option R
 | [.r r7,.i i8,.i i9,.r mG],K=>cond (i8==r7.length) (cond (i9==0) (cond (Nat.ble r7.length 1000) (cond (Nat.beq mG.length 0) (K (.exit 0) { fr:=[(3,.own 10000 0)],tab:=[(10000,.sl yQ ([]++(r7).map (aF nS 0)) 0)] }) none) none) none) none
 | _,_=>none
noncomputable def BA:Env:=env Tryz.prog [] [(3,dO Y8 WB)] [(3,[(0,[3,7,8,9]),(1,[3]),(1000,[2])])]
theorem acW (s:aI):bV BA 22 ((aT (bJ aH)).enc s) ([]) some =
 cond ((↑(List.length (List.map (aj.enc bf) s.rows)):Int)==(↑(List.length (List.map (aj.enc bf) s.rows)):Int)) (cond (Nat.ble (List.length (List.map (aj.enc bf) s.rows)) 1000) (some {v:=.slc yQ ([]++List.map (aF yQ 0) (List.map (aj.enc bf) s.rows)),bx:=[]:aJ}) none) none:=by kernel_rfl
theorem N7 (r7:List (List V)) (i8:Int) (i9:Int) (mG:List (List V)) (K:Ex->St->Option R):bI BA 22 3 { fr:=[(3,.own 10000 0),(7,.slc yR r7),(8,.int .i64 i8),(9,.int .i64 i9)],tab:=[(10000,.sl yQ mG 0)] } K =
 cond (aU i9 i8) (cond (decide (0<=i9∧i9<(↑(List.length r7):Int))) (cond (decide ((List.length mG+1)*48<=140737488355328)) (K .normal {fr:=[(3,.own 10000 0),(7,.slc yR r7),(8,.int .i64 i8),(9,.int .i64 (IntKind.wrap .i64 (i9+1)))],tab:=[(10000,.sl yQ (mG++[aF nS 0 (List.getD r7 (Int.toNat i9) [])]) 0)]:St}) none) none) (K (.exit 0) {fr:=[(3,.own 10000 0)],tab:=[(10000,.sl yQ mG 0)]:St}):=by kernel_rfl
theorem TK:dM BA 22 3:=by
 refine bn rfl fun l K q h=>?_
 unfold WB at h
 split at h
 .rename_i r7 i8 i9 mG
  replace h:=Z4 h;obtain ⟨h1,h2,h3,h4,h⟩:=h
  have e1:=aZ h1
  have e2:=aZ h2
  subst e1 e2
  have h3:r7.length<=1000:=aV h3
  have e3:=List.eq_nil_of_length_eq_zero (kT h4)
  subst e3
  have main:=dH (E:=BA) (f:=22) (id:=3) (A:=List (List V)) (r7) (fun a i=>{ fr:=[(3,.own 10000 0),(7,.slc yR r7),(8,.int .i64 r7.length),(9,.int .i64 i)],tab:=[(10000,.sl yQ a 0)] }) (fun a i=>a.length<=i)
   (fun a rows K=>K (.exit 0) { fr:=[(3,.own 10000 0)],tab:=[(10000,.sl yQ (a++(rows).map (aF nS 0)) 0)] }) (fun a i ha hi=>?_) (fun a ha=>?_) ([]) 0 (Int.le_refl _) (by omega) (Nat.zero_le _) K q (by assumption)
  .exact main
  .have hq:=fun K=>N7 (r7) (r7.length) ((i:Int)) (a) K
   have t1:aU (i:Int) r7.length=true:=eF (by omega)
   have t2:decide ((0:Int)<=i∧(i:Int)<r7.length)=true:=decide_eq_true (by omega)
   have t3:IntKind.wrap .i64 ((i:Int)+1)=(i:Int)+1:=dQ (by omega) (by omega)
   simp only [Int.toNat_natCast] at hq
   simp only [t1,t2,t3,cond_true] at hq
   refine .inl ⟨a++[aF nS 0 (r7.getD i [])],by rw [List.length_append]; simp only [List.length_cons,List.length_nil]; omega,fun K=>?_,fun K=>?_⟩
   .rw [hq]
    have t5:decide ((a.length+1)*48<=140737488355328)=true:=decide_eq_true (by omega)
    simp only [cond_true,t5]
    try rfl
   .simp only [List.map_cons,List.append_assoc,List.singleton_append]
  .refine ⟨.exit 0,_,by simp,fun K=>?_,fun K=>by simp only [List.map_nil,List.append_nil]; rfl⟩
   rw [N7]
   simp (disch:=omega) only [evs]
   try rfl
 .cases h
theorem Y9:bH Tryz.prog 22 WA:=by
 refine aN (aQ (gu.nil _)) (E:=BA) Tryz.func22 [3] (by kernel_rfl) (one1 TK) fun a b hp=>?_
 have hp:a.rows.length<=100:=Io hp
 refine (acW a).trans ?_
 simp only [List.length_map,fA (show a.rows.length<=1000 by omega),beq_self_eq_true,cond_true,List.nil_append]
 show _=some (⟨.slc lX.sh ((a.rows.map fE.q).map lX.enc),[],[]⟩:aJ)
 rw [List.map_map,List.map_map]
 try rfl
def ny (s:aI):Bool:=cond (yu s) (QJ s) false
def Za:Den:=den (aT (bJ aH)) dV (oV (dA .i64)) (fun s _=>ny s) fun s _=>(N.sQ s,())
def acX:fK:={ fr:=[(1,.ptr 10000 0 0),(3,.int .i64),(9,.slc yR),(10,.int .i64),(11,.int .i64)],tab:=[(10000,.row [] aA)] }
def abl:List Leaf->(Ex->St->Option R)->Option R
 | [.i i3,.r r9,.i i10,.i i11,.c cO],K=>cond (i10==r9.length) (cond (i11==0) (cond (Nat.ble r9.length 100) (cond (i3==0) (cond ((r9.map bf.dec).all oK) (K (.exit 0) { fr:=[(1,.ptr 10000 0 0 0),(3,.int .i64 (0+N.eU ((r9).map bf.dec)))],tab:=[(10000,.var (aF aA 0 cO))] }) none) none) none) none) none
 | _,_=>none
def acY:fK:={ fr:=[(3,.int .i64),(22,.rowA iD),(23,.int .i64)],tab:=[] }
def abm:List Leaf->(Ex->St->Option R)->Option R
 | [.i i3,.c zW,.i i23],K=>cond (i23==0) (cond (bW 0 i3) (cond (bW i3 100000000) (cond (((bG zW 0).map bC.dec).all rZ) (K (.exit 2) { fr:=[(3,.int .i64 (i3+N.jm (((bG zW 0)).map bC.dec)))],tab:=[] }) none) none) none) none
 | _,_=>none
noncomputable def BD:Env:=env Tryz.prog [(65,aa8),(66,Qu)] [(8,dO acY abm),(3,dO acX abl)] [(3,[(0,[1,3,9,10,11]),(1,[1,3]),(1000,[2])]),(8,[(0,[3,22,23]),(3,[3]),(1000,[2])])]
theorem ajo (s:aI):bV BD 21 ((aT (bJ aH)).enc s) ([]) some =
 cond ((↑(List.length (List.map (aj.enc bf) s.rows)):Int)==(↑(List.length (List.map (aj.enc bf) s.rows)):Int)) (cond (Nat.ble (List.length (List.map (aj.enc bf) s.rows)) 100) (cond (List.all (List.map (aj.dec bf) (List.map (aj.enc bf) s.rows)) oK) (cond (bW 0 (0+N.eU (List.map (aj.dec bf) (List.map (aj.enc bf) s.rows)))) (cond (bW (0+N.eU (List.map (aj.dec bf) (List.map (aj.enc bf) s.rows))) 100000000) (cond (List.all (List.map (aj.dec bC) (lq s.rises)) rZ) (some {v:=.int .i64 (0+N.eU (List.map (aj.dec bf) (List.map (aj.enc bf) s.rows))+N.jm (List.map (aj.dec bC) (lq s.rises))),bx:=[]:aJ}) none) none) none) none) none) none:=by kernel_rfl
theorem QK (i3:Int) (r9:List (List V)) (i10:Int) (i11:Int) (cO:List V) (K:Ex->St->Option R):bI BD 21 3 { fr:=[(1,.ptr 10000 0 0 0),(3,.int .i64 i3),(9,.slc yR r9),(10,.int .i64 i10),(11,.int .i64 i11)],tab:=[(10000,.var (aF aA 0 cO))] } K =
 cond (aU i11 i10) (cond (decide (0<=i11∧i11<(↑(List.length r9):Int))) (cond (bif Nat.ble (List.length (List.map (aj.dec ak) (V.toRows (List.getD (List.getD r9 (Int.toNat i11) []) 4 V.undef)))) 1000 then List.all (List.map (aj.dec ak) (V.toRows (List.getD (List.getD r9 (Int.toNat i11) []) 4 V.undef))) fun x=>N.yF x.aY else false) (K .normal {fr:=[(1,.ptr 10000 0 0 0),(3,.int .i64 (IntKind.wrap .i64 (i3+N.jX (List.map (aj.dec ak) (V.toRows (List.getD (List.getD r9 (Int.toNat i11) []) 4 V.undef)))))),(9,.slc yR r9),(10,.int .i64 i10),(11,.int .i64 (IntKind.wrap .i64 (i11+1)))],tab:=[(10000,.var (aF aA 0 cO))]:St}) none) none) (K (.exit 0) {fr:=[(1,.ptr 10000 0 0 0),(3,.int .i64 i3)],tab:=[(10000,.var (aF aA 0 cO))]:St}):=by kernel_rfl
theorem QL (i3:Int) (zW:List V) (i23:Int) (K:Ex->St->Option R):bI BD 21 8 { fr:=[(3,.int .i64 i3),(22,.agg (aF iD 0 zW)),(23,.int .i64 i23)],tab:=[] } K =
 cond (aU i23 16) (cond (decide (0<=i23∧i23<(↑(16:Nat):Int))) (cond (rZ (aj.dec bC (List.getD (bG zW 0) (Int.toNat i23) []))) (K .normal {fr:=[(3,.int .i64 (IntKind.wrap .i64 (i3+N.gJ (List.map (aj.dec ah) (V.toRows (List.getD (List.getD (bG zW 0) (Int.toNat i23) []) 1 V.undef)))))),(22,.agg (aF iD 0 zW)),(23,.int .i64 (IntKind.wrap .i64 (i23+1)))],tab:=[]:St}) none) none) (K (.exit 2) {fr:=[(3,.int .i64 i3)],tab:=[]:St}):=by kernel_rfl
theorem Zb:dM BD 21 3:=by
 refine bn rfl fun l K q h=>?_
 unfold abl at h
 split at h
 .rename_i i3 r9 i10 i11 cO
  replace h:=EY h;obtain ⟨h1,h2,h3,h4,h5,h⟩:=h
  have e1:=aZ h1
  have e2:=aZ h2
  subst e1 e2
  have h3:r9.length<=100:=aV h3
  have e3:=aZ h4
  subst e3
  have main:=dH (E:=BD) (f:=21) (id:=3) (A:=Int) (r9) (fun a i=>{ fr:=[(1,.ptr 10000 0 0 0),(3,.int .i64 a),(9,.slc yR r9),(10,.int .i64 r9.length),(11,.int .i64 i)],tab:=[(10000,.var (aF aA 0 cO))] }) (fun a i=>0<=a∧a<=471000*i)
   (fun a rows K=>K (.exit 0) { fr:=[(1,.ptr 10000 0 0 0),(3,.int .i64 (a+N.eU ((rows).map bf.dec)))],tab:=[(10000,.var (aF aA 0 cO))] }) (fun a i ha hi=>?_) (fun a ha=>?_) (0) 0 (Int.le_refl _) (by omega) ⟨Int.le_refl _,by decide⟩ K q (by assumption)
  .exact main
  .have hq:=fun K=>QK (a) (r9) (r9.length) ((i:Int)) (cO) K
   have t1:aU (i:Int) r9.length=true:=eF (by omega)
   have t2:decide ((0:Int)<=i∧(i:Int)<r9.length)=true:=decide_eq_true (by omega)
   have t3:IntKind.wrap .i64 ((i:Int)+1)=(i:Int)+1:=dQ (by omega) (by omega)
   have hr:qJ (bf.dec (r9.getD i [])).line=true:=kE h5 hi
   obtain ⟨hr1,_,hr3⟩:=wz hr
   have hb:=uV (bf.dec (r9.getD i [])).line
   have hb2:1570*((bf.dec (r9.getD i [])).line.length:Int)<=471000:=by omega
   simp only [Int.toNat_natCast,mM] at hq
   simp only [t1,t2,t3,cond_true] at hq
   refine .inl ⟨a+N.jX (bf.dec (r9.getD i [])).line,⟨by omega,by omega⟩,fun K=>?_,fun K=>?_⟩
   .rw [hq,fA (show (bf.dec (r9.getD i [])).line.length<=1000 by omega),hr3,dQ (n:=a+_) (by omega) (by omega)]
    try rfl
   .show K _ { fr:=[(1,.ptr 10000 0 0 0),(3,.int .i64 (a+(N.jX (bf.dec (r9.getD i [])).line+N.eU ((r9.drop (i+1)).map bf.dec))))],tab:=_ }=_
    rw [Int.add_assoc]
  .refine ⟨.exit 0,_,by simp,fun K=>?_,fun K=>rfl⟩
   rw [QK]
   simp (disch:=omega) only [evs,List.map_nil]
   show _=K _ { fr:=[(1,.ptr 10000 0 0 0),(3,.int .i64 (a+0))],tab:=_ }
   rw [Int.add_zero]
   try rfl
 .cases h
theorem Zc:dM BD 21 8:=by
 refine bn rfl fun l K q h=>?_
 unfold abm at h
 split at h
 .rename_i i3 zW i23
  replace h:=Z4 h;obtain ⟨h2,h4,h5,h6,h⟩:=h
  have e2:=aZ h2
  subst e2
  have main:=dH (E:=BD) (f:=21) (id:=8) (A:=Int) ((bG zW 0)) (fun a i=>{ fr:=[(3,.int .i64 a),(22,.agg (aF iD 0 zW)),(23,.int .i64 i)],tab:=[] }) (fun a i=>0<=a∧a<=100000000+25120*i)
   (fun a rows K=>K (.exit 2) { fr:=[(3,.int .i64 (a+N.jm ((rows).map bC.dec)))],tab:=[] }) (fun a i ha hi=>?_) (fun a ha=>?_) (i3) 0 (Int.le_refl _) (by omega) ⟨bK h4,by have:=bK h5; omega⟩ K q (by assumption)
  .exact main
  .have hq:=fun K=>QL (a) (zW) ((i:Int)) K
   have hi:i<16:=hi
   have t1:aU (i:Int) (16:Int)=true:=eF (by omega)
   have t2:decide ((0:Int)<=i∧(i:Int)<((16:Nat):Int))=true:=decide_eq_true (by omega)
   have t3:IntKind.wrap .i64 ((i:Int)+1)=(i:Int)+1:=dQ (by omega) (by omega)
   have hr:rZ (bC.dec ((bG zW 0).getD i []))=true:=kE h6 hi
   have hr2:=Gq (aX hr).1
   have hb:=wu (bC.dec ((bG zW 0).getD i [])).kept
   simp only [Int.toNat_natCast,Jp] at hq
   simp only [t1,t2,t3,cond_true] at hq
   refine .inl ⟨a+N.gJ (bC.dec ((bG zW 0).getD i [])).kept,⟨by omega,by omega⟩,fun K=>?_,fun K=>?_⟩
   .rw [hq]
    show cond (rZ (bC.dec ((bG zW 0).getD i []))) _ _=_
    rw [hr,dQ (n:=a+_) (by omega) (by omega)]
    try rfl
   .show K _ { fr:=[(3,.int .i64 (a+(N.gJ (bC.dec ((bG zW 0).getD i [])).kept+N.jm (((bG zW 0).drop (i+1)).map bC.dec))))],tab:=[] }=_
    rw [Int.add_assoc]
  .refine ⟨.exit 2,{ fr:=[(3,.int .i64 a)],tab:=[] },by simp,fun K=>QL a zW 16 K,fun K=>?_⟩
   show K _ { fr:=[(3,.int .i64 (a+0))],tab:=[] }=_
   rw [Int.add_zero]
 .cases h
theorem WC (hN:bH Tryz.prog 95 fP):bH Tryz.prog 21 Za:=by
 refine aN (aQ (((gu.nil _).cons (VQ hN)).cons (acS hN))) (E:=BD) Tryz.func21 [3,8] (by kernel_rfl) (FH Zb Zc) fun a b hp=>?_
 obtain ⟨hp,h3⟩:=aX hp
 obtain ⟨h1,h2⟩:=aX hp
 have h3:a.rises.list.all rZ=true:=h3
 have h4:=sS a.rows h2
 have h5:=aV h1
 refine (ajo a).trans ?_
 simp only [bT,oL,List.length_map,Int.zero_add,beq_self_eq_true,cond_true,h1,h2,h3,dY h4.1,dY (show N.eU a.rows<=100000000 by omega)]
 try rfl
theorem N8 {s:aI} (h:ny s=true):0<=N.sQ s∧N.sQ s<=60000000:=by
 obtain ⟨hp,h3⟩:=aX h
 obtain ⟨h1,h2⟩:=aX hp
 have h4:=sS s.rows h2
 have h5:=aV h1
 have h6:=uq s.rises.list (List.all_eq_true.2 fun x hx=>(aX (List.all_eq_true.1 h3 x hx)).1)
 rw [dW.lG] at h6
 unfold N.sQ
 omega
def yx (s:aI):Bool:=cond (ny s) (cond (bW 0 s.bytes) (bW s.bytes 9223372036854775807) false) false
theorem WE {s:aI} (h:yx s=true):ny s=true∧0<=s.bytes∧s.bytes<=9223372036854775807:=by
 obtain ⟨h1,h2⟩:=aX h
 obtain ⟨h2,h3⟩:=aX h2
 exact ⟨h1,bK h2,bK h3⟩
def TL:Den:=den (aT (bJ aH)) dV (oV (dA .i64)) (fun s _=>yx s) fun s _=>(N.og s,())
noncomputable def ag6:Env:=env Tryz.prog [(21,Za)] [] []
theorem ajp (s:aI):bV ag6 20 ((aT (bJ aH)).enc s) ([]) some =
 cond (ny (aj.dec aH (aj.enc aH s))) (some {v:=.int .i64 (IntKind.wrap .i64 (aI.bytes s-N.sQ (aj.dec aH (aj.enc aH s)))),bx:=[]:aJ}) none:=by kernel_rfl
theorem N9 (hN:bH Tryz.prog 95 fP):bH Tryz.prog 20 TL:=by
 refine aN (aQ ((gu.nil _).cons (WC hN))) (E:=ag6) Tryz.func20 [] (by kernel_rfl) none0 fun s _ hp=>?_
 obtain ⟨h1,h2,h3⟩:=WE hp
 have h4:=N8 h1
 refine (ajp s).trans ?_
 simp only [aH.de,h1,cond_true]
 rw [dQ (by omega) (by omega)]
 try rfl
end Go.Ev

namespace Go.Ev
open Go Go.Proofs
set_option maxRecDepth 100000
-- FOLD2
theorem getD_mem {α:Type} {l:List α} {k:Nat} (d:α) (h:k<l.length):l.getD k d∈l:=by
 rw [List.getD_eq_getElem?_getD,List.getElem?_eq_getElem h]; exact List.getElem_mem h
theorem acZ {s:aI} (h:s.rows.all oK=true) {k:Nat} (hk:k<s.rows.length):qJ (s.rows.getD k row0).line=true:=List.all_eq_true.1 h _ (getD_mem row0 hk)
theorem Jq {l:List aO} (h:qJ l=true):jD l=true:=by
 obtain ⟨h1,h2,_⟩:=wz h
 unfold jD
 rw [fA (show l.length<=1000 by omega),h2]; rfl
theorem ajq {s:aI} {k:Int} (h:s.rows.length<=100) (h1:0<=k) (h2:k<s.rows.length):yw s k=true:=by
 unfold yw qK
 rw [fA h,dY h1,eF h2]; rfl
theorem aop {k:Int} {n:Nat} (h1:0<=k) (h2:k<n):decide (0<=k∧k<(n:Int))=true:=decide_eq_true ⟨h1,h2⟩
theorem ag7 (b:Bool) (x y:aG):cond b (aG.total x) (aG.total y)=aG.total (cond b x y):=by cases b<;>rfl
theorem ac0 (b:Bool) (x y:aG):cond b (List.map (aj.enc ah) (aG.kept x)) (List.map (aj.enc ah) (aG.kept y))=List.map (aj.enc ah) (aG.kept (cond b x y)):=by cases b<;>rfl
theorem setCells_eq (a:dW aG) (i:Nat) (v:aG):setCells a i v=dn (a.set i v):=by
 unfold setCells dn dW.set
 simp only [ag7,ac0]
 try rfl
theorem QM (l:List aO):(N.kD l).1=kY∨∃ x∈l,(N.kD l).1=x.aY:=by
 unfold N.kD N.ND
 rcases zF N.isReady l 0 (Int.le_refl _) with ⟨h1,_⟩ | ⟨k,h1,h2,_⟩
 .rw [h1]; exact .inl rfl
 .rw [h1,gZ (by omega)]
  exact .inr ⟨_,getD_mem kK (show (0+(k:Int)).toNat<l.length by omega),rfl⟩
theorem ag8 {l:List aO} (h:(l.all fun x=>N.yF x.aY)=true):N.yF (N.kD l).1=true:=by
 rcases QM l with e | ⟨x,hx,e⟩
 .rw [e]; rfl
 .rw [e]; exact List.all_eq_true.1 h x hx
theorem Gs:∀ {l:List aO} {x:aO},x∈l->N.dB x.aY<=N.jX l
 | y::r,x,h=>by
  have h1:=uV r
  have h2:=lF y.aY
  simp only [N.jX]
  rcases List.mem_cons.1 h with rfl | h
  .omega
  .have:=Gs h
   omega
theorem Gt:∀ {l:List fE} {x:fE},x∈l->N.jX x.line<=N.eU l
 | y::r,x,h=>by
  have h0:∀ l:List fE,0<=N.eU l:=fun l=>by
   induction l with
   | nil=>exact Int.le_refl _
   | cons z t ih=>have:=uV z.line; simp only [N.eU]; omega
  have h1:=h0 r
  have h2:=uV y.line
  simp only [N.eU]
  rcases List.mem_cons.1 h with rfl | h
  .omega
  .have:=Gt h
   omega
theorem ag9 {s:aI} {k:Nat} (hk:k<s.rows.length) (hg:ny s=true):N.dB (N.kD (s.rows.getD k row0).line).1<=N.sQ s:=by
 obtain ⟨hp,h3⟩:=aX hg
 have h6:=uq s.rises.list (List.all_eq_true.2 fun x hx=>(aX (List.all_eq_true.1 h3 x hx)).1)
 have h7:=(N8 hg).1
 rcases QM (s.rows.getD k row0).line with e | ⟨x,hx,e⟩
 .rw [e]; exact h7
 .rw [e]
  have h1:=Gs hx
  have h2:=Gt (getD_mem row0 hk)
  unfold N.sQ
  omega
theorem Zd (l:List aO) (id:Int):(N.oJ l id).1.length<=l.length:=by
 unfold N.oJ
 cases aU (N.ix (N.isId id) l 0) 0 with
 | true=>exact Nat.le_refl _
 | false =>
  show (N.cutAt l _).length<=_
  unfold N.cutAt
  rw [List.length_append,List.length_take,List.length_drop]
  omega
theorem ajr {m:au} {n:Int} (h:N.yF m=true) (h1:0<=n) (h2:n<18446744073709551616):N.yF (N.EC m n)=true:=by
 unfold N.yF at h ⊢
 obtain ⟨_,h⟩:=aX h
 show cond (cond (bW 0 n) (aU n _) false) _ false=true
 rw [dY h1,eF h2]; exact h
def QN (s:aI):Bool:=cond (yx s) (cond (bW 0 s.next) (aU s.next 18446744073709551616) false) false
def aku:Den:=den (bg (bJ aH) (bg gy (aT (bJ ah)))) dV (vF (bg (bJ aH) (bg (dA .u64) (bg (bJ ah) (aT (dA .i64)))))) (fun a _=>cond (QN a.1) (cond (N.yF a.2.2) (iQ a.2.2) false) false) fun a _=>(N.acT a.1 a.2.1 a.2.2,())
noncomputable def akv:Env:=env Tryz.prog [(40,Y4),(45,lH),(15,aaW),(46,TB),(47,V9),(48,CU),(20,TL),(49,afX),(50,Y5)] [] []
theorem amg (s:aI) (n:Bytes) (m:au):type_of% (by
  have h:bV akv 13 ((bg (bJ aH) (bg gy (aT (bJ ah)))).enc (s,n,m)) ([]) some =(
   let z10:=(List.map (aj.enc bf) s.rows);let z3:=(aj.dec aH (aj.enc aH s));let z2:=(List.map (aj.dec ak) (V.toRows (List.getD (List.getD z10 (Int.toNat (N.iK z3 n)) []) 4 V.undef)));let z13:=(List.map (aj.dec ak) (List.map (aj.enc ak) (Prod.fst (N.oJ z2 (au.id (Prod.fst (N.kD z2)))))));let z4:=(List.map yE m.head);let z0:=(N.kU z13 {aY:={id:=aI.next s,bZ:=au.bZ m,key:=au.key m,head:=List.map yD z4,body:=au.body m,due:=au.due m,hops:=au.hops m:au},iT:=false,again:=false:aO});let z1:=(N.kU z2 {aY:={id:=aI.next s,bZ:=au.bZ m,key:=au.key m,head:=List.map yD z4,body:=au.body m,due:=au.due m,hops:=au.hops m:au},iT:=false,again:=false:aO});let z5:=(some {v:=.jc [V.agg (aj.enc aH s),.int .u64 0,.agg [V.int .u64 0,.str [],.str [],.slc yP [],.str [],.int .u64 0,.int .u8 0],.int .i64 12],bx:=[]:aJ});let z6:=(N.dB {id:=aI.next s,bZ:=au.bZ m,key:=au.key m,head:=List.map yD z4,body:=au.body m,due:=au.due m,hops:=au.hops m:au});let z7:=(N.yF {id:=aI.next s,bZ:=au.bZ m,key:=au.key m,head:=List.map yD z4,body:=au.body m,due:=au.due m,hops:=au.hops m:au});let z8:=(N.zT z3 (N.iK z3 n) (List.map (aj.dec ak) (List.map (aj.enc ak) z0.1)));let z9:=(N.zT z3 (N.iK z3 n) (List.map (aj.dec ak) (List.map (aj.enc ak) z1.1)));let z11:=(aj.enc ah (Prod.fst (N.kD z2)));let z12:=(decide (0<=N.iK z3 n∧N.iK z3 n<(↑(List.length z10):Int)));cond (Nat.ble (List.length (List.map (aj.dec bf) z10)) 100) (cond (aU (N.iK z3 n) 0) (some {v:=.jc [V.agg (aj.enc aH s),.int .u64 0,.agg [V.int .u64 0,.str [],.str [],.slc yP [],.str [],.int .u64 0,.int .u8 0],.int .i64 10],bx:=[]:aJ}) (cond (N.aP (aj.dec ah (aj.enc ah m)) != 0) (some {v:=.jc [V.agg (aj.enc aH s),.int .u64 0,.agg [V.int .u64 0,.str [],.str [],.slc yP [],.str [],.int .u64 0,.int .u8 0],.int .i64 (N.aP (aj.dec ah (aj.enc ah m)))],bx:=[]:aJ}) (cond (aI.next s==0) (some {v:=.jc [V.agg (aj.enc aH s),.int .u64 0,.agg [V.int .u64 0,.str [],.str [],.slc yP [],.str [],.int .u64 0,.int .u8 0],.int .i64 18],bx:=[]:aJ}) (cond z12 (cond z12 (cond (bW (V.toInt (List.getD (List.getD z10 (Int.toNat (N.iK z3 n)) []) 1 V.undef)) (IntKind.wrap .u64 (↑(List.length z2):Int))) (cond (jD z2) (cond (!Prod.snd (N.kD z2)) z5 (cond (jD z2) (cond z7 (cond (yx z3) (cond (N.yF (aj.dec ah z11)) (cond (aU (IntKind.wrap .i64 (N.og z3+N.dB (aj.dec ah z11))) z6) z5 (cond (bif Nat.ble (List.length z13) 1000 then iQ {id:=aI.next s,bZ:=au.bZ m,key:=au.key m,head:=List.map yD z4,body:=au.body m,due:=au.due m,hops:=au.hops m:au} else false) (cond (Prod.snd z0 != 0) (some {v:=.jc [V.agg (aj.enc aH s),.int .u64 0,.agg [V.int .u64 0,.str [],.str [],.slc yP [],.str [],.int .u64 0,.int .u8 0],.int .i64 z0.2],bx:=[]:aJ}) (cond (yw z3 (N.iK z3 n)) (some {v:=.jc [V.agg (V.int .u64 (IntKind.wrap .u64 (aI.next z8+1))::V.int .i64 z8.bytes::V.slc yR (List.map (aj.enc bf) z8.rows)::dn z8.rises),.int .u64 s.next,.agg z11,.int .i64 0],bx:=[]:aJ}) none)) none)) none) none) none) none)) none) (cond z7 (cond (yx z3) (cond (aU (IntKind.wrap .i64 (N.og z3+N.dB {id:=0,bZ:=[],key:=[],head:=List.map yD [],body:=[],due:=0,hops:=0:au})) z6) z5 (cond (bif Nat.ble (List.length z2) 1000 then iQ {id:=aI.next s,bZ:=au.bZ m,key:=au.key m,head:=List.map yD z4,body:=au.body m,due:=au.due m,hops:=au.hops m:au} else false) (cond (Prod.snd z1 != 0) (some {v:=.jc [V.agg (aj.enc aH s),.int .u64 0,.agg [V.int .u64 0,.str [],.str [],.slc yP [],.str [],.int .u64 0,.int .u8 0],.int .i64 z1.2],bx:=[]:aJ}) (cond (yw z3 (N.iK z3 n)) (some {v:=.jc [V.agg (V.int .u64 (IntKind.wrap .u64 (aI.next z9+1))::V.int .i64 z9.bytes::V.slc yR (List.map (aj.enc bf) z9.rows)::dn z9.rises),.int .u64 s.next,.agg [V.int .u64 0,.str [],.str [],.slc yP [],.str [],.int .u64 0,.int .u8 0],.int .i64 0],bx:=[]:aJ}) none)) none)) none) none)) none) none)))) none):=by kernel_rfl
  dsimp only at h;exact h):=by kernel_rfl
theorem ajs (hN:bH Tryz.prog 95 fP):bH Tryz.prog 13 aku:=by
 refine aN (aQ ((((((((((gu.nil _).cons Wx).cons aaZ).cons (N9 hN)).cons (Bc hN)).cons YV).cons QF).cons TD).cons qG).cons TJ)) (E:=akv) Tryz.func13 [] (by kernel_rfl) (none0) fun a b hp=>?_
 obtain ⟨s,n,m⟩:=a
 obtain ⟨hg,hm⟩:=aX (show cond (QN s) (cond (N.yF m) (iQ m) false) false=true from hp)
 obtain ⟨hg,hn⟩:=aX hg
 obtain ⟨hn1,hn2⟩:=aX hn
 have hn1:=bK hn1
 have hn2:=jv hn2
 obtain ⟨hm1,hm2⟩:=aX hm
 obtain ⟨hs,hb1,hb2⟩:=WE hg
 have hz:=N8 hs
 obtain ⟨hp1,hr⟩:=aX (aX hs).1
 have hp':=aV hp1
 have hmn:=ajr hm1 hn1 hn2
 have hsm:iQ (N.EC m s.next)=true:=hm2
 refine (amg s n m).trans ?_
 simp only [mM,gB,bT,aH.de,ah.de,List.length_map,hp1,cond_true,agN,hmn,hsm,hg]
 show _=some (⟨.jc [.agg (aH.enc (N.acT s n m).1),.int .u64 (N.acT s n m).2.1,.agg (ah.enc (N.acT s n m).2.2.1),.int .i64 (N.acT s n m).2.2.2],[],[]⟩:aJ)
 unfold N.acT
 cases h1:aU (N.iK s n) 0 with
 | true=>rfl
 | false =>
 cases h2:N.aP m != 0 with
 | true=>rfl
 | false =>
 cases h3:s.next==0 with
 | true=>rfl
 | false =>
  obtain ⟨g1,g2,g3,g4⟩:=Ip (Y6 h1)
  have hl:=acZ hr g4
  obtain ⟨hl1,hl2,hl3⟩:=wz hl
  have hw:=ajq hp' g1 g2
  have hf:=ag9 g4 hs
  have hfo:=ag8 hl3
  have hf0:=(lF (N.kD (s.rows.getD (N.iK s n).toNat row0).line).1).1
  have hlen:=Zd (s.rows.getD (N.iK s n).toNat row0).line (N.kD (s.rows.getD (N.iK s n).toNat row0).line).1.id
  have wl:IntKind.wrap .u64 ((s.rows.getD (N.iK s n).toNat row0).line.length:Int)=(s.rows.getD (N.iK s n).toNat row0).line.length:=jU (by omega) (by omega)
  have wr:∀ z:Int,0<=z->z<=N.sQ s->IntKind.wrap .i64 (N.og s+z)=N.og s+z:=fun z z1 z2=>by
   unfold N.og; exact dQ (by omega) (by omega)
  simp only [aop g1 g2,Ku s _ g4,bf.de,Jq hl,wl,hfo,hw,fA (show (s.rows.getD (N.iK s n).toNat row0).line.length<=1000 by omega),fA (show (N.oJ (s.rows.getD (N.iK s n).toNat row0).line (N.kD (s.rows.getD (N.iK s n).toNat row0).line).1.id).1.length<=1000 by omega),wr _ hf0 hf,cond_true,cond_false]
  show cond (bW (N.kV s (N.iK s n)).q.most (N.kV s (N.iK s n)).line.length) _ _=_
  cases h4:bW (N.kV s (N.iK s n)).q.most (N.kV s (N.iK s n)).line.length with
  | true =>
   simp only [cond_true]
   show cond (!(N.kD (N.kV s (N.iK s n)).line).2) _ _=_
   cases h5:(N.kD (N.kV s (N.iK s n)).line).2 with
   | false=>rfl
   | true =>
    simp only [Bool.not_true,cond_true,cond_false]
    unfold N.abe
    show cond (aU (N.og s+N.dB (N.kD (N.kV s (N.iK s n)).line).1) (N.dB (N.EC m s.next))) _ _=_
    cases h6:aU (N.og s+N.dB (N.kD (N.kV s (N.iK s n)).line).1) (N.dB (N.EC m s.next)) with
    | true=>rfl
    | false =>
     simp only [cond_false]
     show cond ((N.kU (N.oJ (N.kV s (N.iK s n)).line (N.kD (N.kV s (N.iK s n)).line).1.id).1 ⟨N.EC m s.next,false,false⟩).2 != 0) _ _=_
     cases h7:(N.kU (N.oJ (N.kV s (N.iK s n)).line (N.kD (N.kV s (N.iK s n)).line).1.id).1 ⟨N.EC m s.next,false,false⟩).2 != 0 with
     | true=>rfl
     | false=>rfl
  | false =>
   simp only [cond_false]
   unfold N.abe
   have e0:N.dB kY=0:=rfl
   have w0:=wr 0 (by omega) (by omega)
   show cond (aU (IntKind.wrap .i64 (N.og s+N.dB kY)) (N.dB (N.EC m s.next))) _ _=_
   rw [e0,w0]
   cases h6:aU (N.og s+0) (N.dB (N.EC m s.next)) with
   | true=>rfl
   | false =>
    simp only [cond_false]
    show cond ((N.kU (N.kV s (N.iK s n)).line ⟨N.EC m s.next,false,false⟩).2 != 0) _ _=_
    cases h7:(N.kU (N.kV s (N.iK s n)).line ⟨N.EC m s.next,false,false⟩).2 != 0 with
    | true=>rfl
    | false=>rfl
end Go.Ev

namespace Go.Ev
open Go Go.Proofs
set_option maxRecDepth 100000
-- FOLD2
end Go.Ev

namespace Go.Ev
open Go Go.Proofs
set_option maxRecDepth 100000
-- FOLD2
theorem DL (a b:fE) (x y:List fE):N.oh (a::x) (b::y)=cond (N.sameRow a b) (N.oh x y) false:=rfl
theorem WG (a b:aG) (x y:List aG):N.xk (a::x) (b::y)=cond (N.DF a b) (N.xk x y) false:=rfl
def aha:Den:=den (aT (bJ ak)) dV (oV (dA .u64)) (fun _ _=>true) fun x _=>(N.o7 x,())
theorem ajt (x:aO):bV xq 99 ((aT (bJ ak)).enc x) ([]) some =
 cond x.iT (cond x.again (some {v:=.int .u64 (IntKind.wrap .u64 ((1 : Int)+2)),bx:=[]:aJ}) (some {v:=.int .u64 1,bx:=[]:aJ})) (cond x.again (some {v:=.int .u64 (IntKind.wrap .u64 ((0 : Int)+2)),bx:=[]:aJ}) (some {v:=.int .u64 0,bx:=[]:aJ})):=by kernel_rfl
theorem ahb:bH Tryz.prog 99 aha:=by
 refine aN (aQ (gu.nil _)) (E:=xq) Tryz.func99 [] (by kernel_rfl) none0 fun x b hp=>?_
 refine (ajt x).trans ?_
 show _=some (⟨.int .u64 (N.o7 x),[],[]⟩:aJ)
 unfold N.o7
 cases x.again<;>cases x.iT<;>rfl
end Go.Ev

namespace Go.Ev
open Go Go.Proofs
set_option maxRecDepth 100000
-- FOLD2
def ahc:Den:=den (bg (bJ aH) (aT (bJ aH))) dV (oV lC) (fun a _=>cond (ny a.1) (ny a.2) false) fun a _=>(N.NY a.1 a.2,())
end Go.Ev

namespace Go.Ev
open Go Go.Proofs
set_option maxRecDepth 100000
-- FOLD2
namespace N
end N
noncomputable def WH:Env:=env Tryz.prog [(42,FP)] [] []
theorem ac1 (q:fV):bV WH 131 ((aT (bJ lX)).enc q) ([]) some =
 cond (N.name q.name==0) (cond (aU q.most 1) (some {v:=.int .i64 7,bx:=[]:aJ}) (cond (aU 64 q.most) (some {v:=.int .i64 7,bx:=[]:aJ}) (cond (N.name q.name==0) (cond (!fV.dead q==[]) (some {v:=.int .i64 (N.name q.dead),bx:=[]:aJ}) (some {v:=.int .i64 (N.name q.name),bx:=[]:aJ})) (some {v:=.int .i64 (N.name q.name),bx:=[]:aJ})))) (cond (N.name q.name==0) (cond (!fV.dead q==[]) (some {v:=.int .i64 (N.name q.dead),bx:=[]:aJ}) (some {v:=.int .i64 (N.name q.name),bx:=[]:aJ})) (some {v:=.int .i64 (N.name q.name),bx:=[]:aJ})):=by kernel_rfl
theorem Ze:bH Tryz.prog 131 Kt:=by
 refine aN (aQ ((gu.nil _).cons Em)) (E:=WH) Tryz.func131 [] (by kernel_rfl) (none0) fun a b hp=>?_
 refine (ac1 a).trans ?_
 show _=some (⟨.int .i64 (N.iW a),[],[]⟩:aJ)
 unfold N.iW
 cases h1:N.name a.name==0 with
 | false=>rw [bne,h1]; rfl
 | true =>
  rw [bne,h1]
  have e:=aZ h1
  cases aU a.most 1<;>cases aU 64 a.most<;>first | rfl | (cases a.dead==[]<;>first | rfl | (simp only [cond_true,cond_false,Bool.not_true]; rw [e]))
def ac2:fK:={ fr:=[(1,.str),(8,.slc yR),(9,.int .i64),(10,.int .i64)],tab:=[] }
def abn:List Leaf->(Ex->St->Option R)->Option R
 | [.s s1,.r r8,.i i9,.i i10],K=>cond (i9==r8.length) (cond (i10==0) (cond (Nat.ble r8.length 1000) (cond (bW 0 (N.EH (N.isRow s1) ((r8).map bf.dec) ((r8.length:Int)-((r8).length:Int)))) (K .ret { fr:=[(4,.int .i64 (N.EH (N.isRow s1) ((r8).map bf.dec) ((r8.length:Int)-((r8).length:Int))))],tab:=[] }) (K (.exit 0) { fr:=[],tab:=[] })) none) none) none
 | _,_=>none
noncomputable def Gu:Env:=env Tryz.prog [] [(2,dO ac2 abn)] [(2,[(0,[1,8,9,10]),(1,[]),(1000,[4])])]
theorem ahd (s:aI) (n:Bytes):bV Gu 93 ((bg (bJ aH) (aT gy)).enc (s,n)) ([]) some =
 cond ((↑(List.length (List.map (aj.enc bf) s.rows)):Int)==(↑(List.length (List.map (aj.enc bf) s.rows)):Int)) (cond (Nat.ble (List.length (List.map (aj.enc bf) s.rows)) 1000) (cond (bW 0 (N.EH (N.isRow n) (List.map (aj.dec bf) (List.map (aj.enc bf) s.rows)) ((↑(List.length (List.map (aj.enc bf) s.rows)):Int)-(↑(List.length (List.map (aj.enc bf) s.rows)):Int)))) (some {v:=.int .i64 (N.EH (N.isRow n) (List.map (aj.dec bf) (List.map (aj.enc bf) s.rows)) ((↑(List.length (List.map (aj.enc bf) s.rows)):Int)-(↑(List.length (List.map (aj.enc bf) s.rows)):Int))),bx:=[]:aJ}) (some {v:=.int .i64 (-1:Int),bx:=[]:aJ})) none) none:=by kernel_rfl
theorem QO (s1:Bytes) (r8:List (List V)) (i9:Int) (i10:Int) (K:Ex->St->Option R):bI Gu 93 2 { fr:=[(1,.str s1),(8,.slc yR r8),(9,.int .i64 i9),(10,.int .i64 i10)],tab:=[] } K =
 cond (aU i10 i9) (cond (decide (0<=i10∧i10<(↑(List.length r8):Int))) (cond (V.toStr (List.getD (List.getD r8 (Int.toNat i10) []) 0 V.undef)==s1) (K .ret {fr:=[(4,.int .i64 i10)],tab:=[]:St}) (K .normal {fr:=[(1,.str s1),(8,.slc yR r8),(9,.int .i64 i9),(10,.int .i64 (IntKind.wrap .i64 (i10+1)))],tab:=[]:St})) none) (K (.exit 0) {fr:=[],tab:=[]:St}):=by kernel_rfl
theorem WI:dM Gu 93 2:=by
 refine bn rfl fun l K q h=>?_
 unfold abn at h
 split at h
 .rename_i s1 r8 i9 i10
  replace h:=RH h;obtain ⟨h1,h2,h3,h⟩:=h
  have e1:=aZ h1
  have e2:=aZ h2
  subst e1 e2
  have h3:r8.length<=1000:=aV h3
  have main:=dH (E:=Gu) (f:=93) (id:=2) (A:=Unit) (r8) (fun a i=>{ fr:=[(1,.str s1),(8,.slc yR r8),(9,.int .i64 r8.length),(10,.int .i64 i)],tab:=[] }) (fun a i=>True)
   (fun a rows K=>cond (bW 0 (N.EH (N.isRow s1) ((rows).map bf.dec) ((r8.length:Int)-((rows).length:Int)))) (K .ret { fr:=[(4,.int .i64 (N.EH (N.isRow s1) ((rows).map bf.dec) ((r8.length:Int)-((rows).length:Int))))],tab:=[] }) (K (.exit 0) { fr:=[],tab:=[] })) (fun a i ha hi=>?_) (fun a ha=>?_) (()) 0 (Int.le_refl _) (by omega) trivial K q (by assumption)
  .exact main
  .have hq:=fun K=>QO (s1) (r8) (r8.length) ((i:Int)) K
   have t1:aU (i:Int) r8.length=true:=eF (by omega)
   have t2:decide ((0:Int)<=i∧(i:Int)<r8.length)=true:=decide_eq_true (by omega)
   have t3:IntKind.wrap .i64 ((i:Int)+1)=(i:Int)+1:=dQ (by omega) (by omega)
   have hle:((r8.getD i []::r8.drop (i+1)).length:Int)=r8.length-i:=by rw [List.length_cons,List.length_drop]; omega
   have hle2:((r8.drop (i+1)).length:Int)=r8.length-(i+1):=by rw [List.length_drop]; omega
   simp only [Int.toNat_natCast] at hq
   simp only [t1,t2,t3,cond_true] at hq
   simp only [hle,hle2,List.map_cons,Ws,show (r8.length:Int)-(r8.length-i)=i from by omega,show (r8.length:Int)-(r8.length-(i+1))=i+1 from by omega]
   cases hc:N.isRow s1 (bf.dec (r8.getD i [])) with
   | true =>
    have hc' : (V.toStr (List.getD (List.getD r8 i []) 0 V.undef)==s1)=true:=hc
    refine .inr ⟨.ret,{ fr:=[(4,.int .i64 (i:Int))],tab:=[] },by simp,fun K=>?_,fun K=>?_⟩
    .rw [hq,hc']; rfl
    .simp only [cond_true]
     rw [dY (by omega)]; rfl
   | false =>
    have hc' : (V.toStr (List.getD (List.getD r8 i []) 0 V.undef)==s1)=false:=hc
    refine .inl ⟨(),trivial,fun K=>?_,fun K=>rfl⟩
    rw [hq,hc']
    try rfl
  .refine ⟨.exit 0,_,by simp,fun K=>?_,fun K=>rfl⟩
   rw [QO]
   simp (disch:=omega) only [evs]
   try rfl
 .cases h
theorem ac3:bH Tryz.prog 93 Y4:=by
 refine aN (aQ (gu.nil _)) (E:=Gu) Tryz.func93 [2] (by kernel_rfl) (one1 WI) fun a b hp=>?_
 obtain ⟨s,n⟩:=a
 have hp:s.rows.length<=100:=Io hp
 refine (ahd s n).trans ?_
 simp only [bT,List.length_map,beq_self_eq_true,cond_true,fA (show s.rows.length<=1000 by omega),Int.sub_self]
 show _=some (⟨.int .i64 (N.EH (N.isRow n) s.rows 0),[],[]⟩:aJ)
 cases hc:bW 0 (N.EH (N.isRow n) s.rows 0) with
 | true=>rfl
 | false=>rw [abb hc]; rfl
end Go.Ev

namespace Go.Ev
open Go Go.Proofs
set_option maxRecDepth 100000
-- FOLD2
namespace N
def uX (x:aO):Bytes:=bQ (o7 x) 1++lT x.aY
def lY:List aO->Bytes
 | []=>[]
 | x::r=>uX x++lY r
def rowB (x:fE):Bytes:=dD x.q.name++bQ x.q.most 8++bQ x.q.life 8++dD x.q.dead++bQ x.line.length 1++lY x.line
def kX:List fE->Bytes
 | []=>[]
 | x::r=>rowB x++kX r
def ED:Int->List aG->Bytes
 | _,[]=>[]
 | k,x::r=>cond (aU 0 x.total) (bQ k 1++lW x++ED (k+1) r) (ED (k+1) r)
def jF:List aG->Int
 | []=>0
 | x::r=>cond (aU 0 x.total) (1+jF r) (jF r)
def nM (s:aI):Bytes:=bQ s.next 8++bQ s.rows.length 1++kX s.rows++bQ (jF s.rises.list) 1++ED 0 s.rises.list
def u64 (n:Int):Bool:=cond (bW 0 n) (aU n 18446744073709551616) false
end N
def yA (l:List aO):Bool:=cond (Nat.ble l.length 100) (cond (l.all eX) (l.all fun x=>N.fC x.aY) false) false
def sU (x:fE):Bool:=cond (cond (Nat.ble x.q.name.length 1000) (Nat.ble x.q.dead.length 1000) false) (cond (cond (N.u64 x.q.most) (N.u64 x.q.life) false) (yA x.line) false) false
def lI (s:aI):Bool:=cond (cond (Nat.ble s.rows.length 100) (s.rows.all sU) false) (cond (s.rises.list.all dX) (N.u64 s.next) false) false
theorem Iq {n:Int} (h:N.u64 n=true):0<=n∧n<18446744073709551616:=by
 obtain ⟨h1,h2⟩:=aX h
 exact ⟨bK h1,jv h2⟩
theorem zG {l:List aO} (h:yA l=true):l.length<=100∧jD l=true∧(l.all fun x=>N.fC x.aY)=true:=by
 obtain ⟨h1,h2⟩:=aX h
 obtain ⟨h2,h3⟩:=aX h2
 have h1:=aV h1
 refine ⟨h1,?_,h3⟩
 unfold jD
 rw [fA (show l.length<=1000 by omega),h2]; rfl
theorem BF {x:fE} (h:sU x=true):(x.q.name.length<=1000∧x.q.dead.length<=1000)∧(0<=x.q.most∧x.q.most<18446744073709551616)∧(0<=x.q.life∧x.q.life<18446744073709551616)∧yA x.line=true:=by
 obtain ⟨h1,h2⟩:=aX h
 obtain ⟨h1,h3⟩:=aX h1
 obtain ⟨h2,h4⟩:=aX h2
 obtain ⟨h2,h5⟩:=aX h2
 exact ⟨⟨aV h1,aV h3⟩,Iq h2,Iq h5,h4⟩
theorem WJ (x:aO):0<=N.o7 x∧N.o7 x<=3:=by
 unfold N.o7
 cases x.again<;>cases x.iT<;>decide
theorem Ir {x:aO} (h:N.fC x.aY=true):(N.uX x).length<=1571:=by
 have:=rJ (nI h).2.1
 unfold N.uX
 rw [List.length_append,dU]; omega
theorem Oa:∀ {l:List aO},(l.all fun x=>N.fC x.aY)=true->(N.lY l).length<=1571*l.length
 | [],_=>Nat.le_refl _
 | x::r,h=>by
  rw [List.all_cons,Bool.and_eq_true] at h
  have h1:=Ir h.1
  have h2:=Oa h.2
  show (N.uX x++N.lY r).length<=1571*(r.length+1)
  rw [List.length_append]; omega
theorem Ob {x:fE} (h:sU x=true):(N.rowB x).length<=160000:=by
 obtain ⟨⟨h1,h2⟩,_,_,h3⟩:=BF h
 obtain ⟨h4,_,h5⟩:=zG h3
 have h6:=Oa h5
 unfold N.rowB
 simp only [List.length_append,dU,jP]
 omega
theorem Iu {x:aG} (h:dX x=true):(N.lW x).length<=26000:=by
 obtain ⟨h1,h2⟩:=aX h
 have h3:=Gq h1
 have h4:=Nv h2
 unfold N.lW
 simp only [List.length_append,dU]
 omega
def Kv:Den:=den (aT (bJ aH)) dV (oV gy) (fun s _=>lI s) fun s _=>(N.nM s,())
def Zf:fK:={ fr:=[(1,.ptr 10000 0 0),(3,.ptr 10001 0 0),(24,.slc yR),(25,.int .i64),(26,.int .i64)],tab:=[(10000,.row [] aA),(10001,.var [.str,.int .i64])] }
def WL:List Leaf->(Ex->St->Option R)->Option R
 | [.r xC,.i i25,.i i26,.c cO,.s qL,.i nT],K=>cond (i25==xC.length) (cond (i26==0) (cond (Nat.ble xC.length 100) (cond (nT==0) (cond (Nat.ble qL.length 1000) (cond ((xC.map bf.dec).all sU) (K (.exit 0) { fr:=[(1,.ptr 10000 0 0 0),(3,.ptr 10001 0 0 0)],tab:=[(10000,.var (aF aA 0 cO)),(10001,.var [.str (qL++N.kX ((xC).map bf.dec)),.int .i64 0])] }) none) none) none) none) none) none
 | _,_=>none
def Zg:fK:={ fr:=[(1,.ptr 10000 0 0),(3,.ptr 10001 0 0),(24,.slc yR),(25,.int .i64),(26,.int .i64),(54,.slc yI),(55,.int .i64),(56,.int .i64)],tab:=[(10000,.row [] aA),(10001,.var [.str,.int .i64])] }
def WM:List Leaf->(Ex->St->Option R)->Option R
 | [.r xC,.i i25,.i i26,.r Iw,.i i55,.i i56,.c cO,.s qL,.i nT],K=>cond (i55==Iw.length) (cond (i56==0) (cond (Nat.ble Iw.length 100) (cond (nT==0) (cond (Nat.ble qL.length 100000000) (cond ((Iw.map ak.dec).all fun x=>N.fC x.aY) (K (.exit 2) { fr:=[(1,.ptr 10000 0 0 0),(3,.ptr 10001 0 0 0),(24,.slc yR xC),(25,.int .i64 i25),(26,.int .i64 i26)],tab:=[(10000,.var (aF aA 0 cO)),(10001,.var [.str (qL++N.lY ((Iw).map ak.dec)),.int .i64 0])] }) none) none) none) none) none) none
 | _,_=>none
def WO:fK:={ fr:=[(3,.ptr 10000 0 0),(10,.ptr 10001 0 0),(11,.int .u64),(75,.rowA iD),(76,.int .i64)],tab:=[(10000,.var [.str,.int .i64]),(10001,.var [.str,.int .i64])] }
def QS:List Leaf->(Ex->St->Option R)->Option R
 | [.i i11,.c c75,.i i76,.s pU,.i l7,.s qL,.i nT],K=>cond (i76==0) (cond (nT==0) (cond (i11==0) (cond (Nat.beq qL.length 0) (cond (((bG c75 0).map bC.dec).all dX) (K (.exit 4) { fr:=[(3,.ptr 10000 0 0 0),(10,.ptr 10001 0 0 0),(11,.int .u64 (((0,[]):Int × Bytes).1+N.jF (((bG c75 0)).map bC.dec)))],tab:=[(10000,.var [.str pU,.int .i64 l7]),(10001,.var [.str (((0,[]):Int × Bytes).2++N.ED (16-(((bG c75 0)).length:Int)) (((bG c75 0)).map bC.dec)),.int .i64 0])] }) none) none) none) none) none
 | _,_=>none
noncomputable def qM:Env:={ env Tryz.prog [(95,fP),(96,AO),(15,aaW),(97,agd),(98,uP),(99,aha),(100,FM),(101,YG),(102,Ti),(103,rF)] [(16,dO WO QS),(7,dO Zg WM),(3,dO Zf WL)] [(3,[(0,[1,3,24,25,26]),(1,[1,3]),(1000,[2])]),(7,[(0,[1,3,24,25,26,54,55,56]),(3,[1,3,24,25,26]),(1000,[2])]),(16,[(0,[3,10,11,75,76]),(5,[3,10,11]),(1000,[2])])] with fz:=true }
theorem ahe (s:aI):type_of% (by
  have h:bV qM 33 ((aT (bJ aH)).enc s) ([]) some =(
   let z1:=(List.map (aj.enc bf) s.rows);let z3:=(↑(List.length z1):Int);let z4:=(N.iO (N.iO {s:=[],err:=0:gV} s.next 8) (IntKind.wrap .u64 z3) 1);let z2:=(List.map (aj.dec bC) (lq s.rises));let z0:=(N.iO {s:=gV.s z4++N.kX (List.map (aj.dec bf) z1),err:=0:gV} (0+N.jF z2) 1);cond (bif bW 0 s.next then bif aU s.next 18446744073709551616 then true else false else false) (cond (bif aU (IntKind.wrap .u64 z3) 18446744073709551616 then true else false) (cond (z3==z3) (cond (Nat.ble (List.length z1) 100) (cond (List.all (List.map (aj.dec bf) z1) sU) (cond (List.all z2 dX) (cond (bif bW 0 (0+N.jF z2) then bif aU (0+N.jF z2) 18446744073709551616 then Nat.ble (List.length (gV.s z4++N.kX (List.map (aj.dec bf) z1))) 9223372036854775799 else false else false) (cond (Nat.ble (List.length (gV.s z0)+List.length ([]++N.ED (16-(↑(16:Nat):Int)) z2)) 9223372036854775807) (some {v:=.str (gV.s (N.rE z0 ([]++N.ED (16-(↑(16:Nat):Int)) z2))),bx:=[]:aJ}) none) none) none) none) none) none) none) none):=by kernel_rfl
  dsimp only at h;exact h):=by kernel_rfl
theorem Oc (xC:List (List V)) (i25:Int) (i26:Int) (cO:List V) (qL:Bytes) (nT:Int) (K:Ex->St->Option R):type_of% (by
  have h:bI qM 33 3 { fr:=[(1,.ptr 10000 0 0 0),(3,.ptr 10001 0 0 0),(24,.slc yR xC),(25,.int .i64 i25),(26,.int .i64 i26)],tab:=[(10000,.var (aF aA 0 cO)),(10001,.var [.str qL,.int .i64 nT])] } K =(
   let z0:=(List.getD xC (Int.toNat i26) []);let z5:=(N.jO {s:=qL,err:=nT:gV} (V.toStr (z0.getD 0 .undef)));let z6:=(V.toInt (z0.getD 1 .undef));let z7:=(V.toInt (z0.getD 2 .undef));let z1:=(N.iO (N.iO z5 z6 8) z7 8);let z2:=(List.map (aj.dec ak) (V.toRows (z0.getD 4 .undef)));let z8:=(V.toStr (z0.getD 3 .undef));let z3:=(N.iO (N.jO z1 z8) (IntKind.wrap .u64 (↑(List.length z2):Int)) 1);let z4:=(List.map (aj.enc ak) z2);cond (aU i26 i25) (cond (decide (0<=i26∧i26<(↑(List.length xC):Int))) (cond (Nat.ble (List.length qL+List.length (V.toStr (z0.getD 0 .undef))) 9223372036854775790) (cond (bif bW 0 z6 then bif aU z6 18446744073709551616 then Nat.ble (List.length (gV.s z5)) 9223372036854775799 else false else false) (cond (bif bW 0 z7 then bif aU z7 18446744073709551616 then Nat.ble (List.length (gV.s (N.iO z5 z6 8))) 9223372036854775799 else false else false) (cond (Nat.ble (List.length (gV.s z1)+List.length z8) 9223372036854775790) (cond (bif aU (IntKind.wrap .u64 (↑(List.length z2):Int)) 18446744073709551616 then Nat.ble (List.length (gV.s (N.jO z1 z8))) 9223372036854775799 else false) (cond (jD z2) (cond ((↑(List.length z4):Int)==(↑(List.length z4):Int)) (cond (Nat.ble (List.length z4) 100) (cond (gV.err z3==0) (cond (Nat.ble (List.length (gV.s z3)) 100000000) (cond (List.all (List.map (aj.dec ak) z4) fun x=>N.fC x.aY) (K .normal {fr:=[(1,.ptr 10000 0 0 0),(3,.ptr 10001 0 0 0),(24,.slc yR xC),(25,.int .i64 i25),(26,.int .i64 (IntKind.wrap .i64 (i26+1)))],tab:=[(10000,.var (aF aA 0 cO)),(10001,.var [V.str (gV.s z3++N.lY (List.map (aj.dec ak) z4)),.int .i64 0])]:St}) none) none) none) none) none) none) none) none) none) none) none) none) (K (.exit 0) {fr:=[(1,.ptr 10000 0 0 0),(3,.ptr 10001 0 0 0)],tab:=[(10000,.var (aF aA 0 cO)),(10001,.var [V.str qL,.int .i64 nT])]:St})):=by kernel_rfl
  dsimp only at h;exact h):=by kernel_rfl
theorem Oe (xC:List (List V)) (i25:Int) (i26:Int) (Iw:List (List V)) (i55:Int) (i56:Int) (cO:List V) (qL:Bytes) (nT:Int) (K:Ex->St->Option R):type_of% (by
  have h:bI qM 33 7 { fr:=[(1,.ptr 10000 0 0 0),(3,.ptr 10001 0 0 0),(24,.slc yR xC),(25,.int .i64 i25),(26,.int .i64 i26),(54,.slc yI Iw),(55,.int .i64 i55),(56,.int .i64 i56)],tab:=[(10000,.var (aF aA 0 cO)),(10001,.var [.str qL,.int .i64 nT])] } K =(
   let z3:=(aj.dec ah (List.getD Iw (Int.toNat i56) []));let z0:=(Prod.fst (bif N.aP z3 != 0 then ([],N.aP z3) else (N.lT z3,0)));let z1:=(N.o7 (aj.dec ak (List.getD Iw (Int.toNat i56) [])));let z2:=(N.iO {s:=qL,err:=nT:gV} z1 1);cond (aU i56 i55) (cond (decide (0<=i56∧i56<(↑(List.length Iw):Int))) (cond (N.yF z3) (cond (bif bW 0 z1 then bif aU z1 18446744073709551616 then Nat.ble (List.length qL) 9223372036854775799 else false else false) (cond (Nat.ble (List.length (gV.s z2)+List.length z0) 9223372036854775807) (K .normal {fr:=[(1,.ptr 10000 0 0 0),(3,.ptr 10001 0 0 0),(24,.slc yR xC),(25,.int .i64 i25),(26,.int .i64 i26),(54,.slc yI Iw),(55,.int .i64 i55),(56,.int .i64 (IntKind.wrap .i64 (i56+1)))],tab:=[(10000,.var (aF aA 0 cO)),(10001,.var [V.str (gV.s (N.rE z2 z0)),.int .i64 (gV.err (N.rE z2 z0))])]:St}) none) none) none) none) (K (.exit 2) {fr:=[(1,.ptr 10000 0 0 0),(3,.ptr 10001 0 0 0),(24,.slc yR xC),(25,.int .i64 i25),(26,.int .i64 i26)],tab:=[(10000,.var (aF aA 0 cO)),(10001,.var [V.str qL,.int .i64 nT])]:St})):=by kernel_rfl
  dsimp only at h;exact h):=by kernel_rfl
theorem Jr (i11:Int) (c75:List V) (i76:Int) (pU:Bytes) (l7:Int) (qL:Bytes) (nT:Int) (K:Ex->St->Option R):type_of% (by
  have h:bI qM 33 16 { fr:=[(3,.ptr 10000 0 0 0),(10,.ptr 10001 0 0 0),(11,.int .u64 i11),(75,.agg (aF iD 0 c75)),(76,.int .i64 i76)],tab:=[(10000,.var [.str pU,.int .i64 l7]),(10001,.var [.str qL,.int .i64 nT])] } K =(
   let z0:=(aj.dec bC (List.getD (bG c75 0) (Int.toNat i76) []));let z1:=(N.iO {s:=qL,err:=nT:gV} (IntKind.wrap .u64 i76) 1);cond (aU i76 16) (cond (decide (0<=i76∧i76<(↑(16:Nat):Int))) (cond (aU 0 (V.toInt (List.getD (List.getD (bG c75 0) (Int.toNat i76) []) 0 V.undef))) (cond (bif bW 0 (IntKind.wrap .u64 i76) then bif aU (IntKind.wrap .u64 i76) 18446744073709551616 then Nat.ble (List.length qL) 9223372036854775799 else false else false) (cond (dX z0) (cond (Nat.ble (List.length (gV.s z1)+List.length (N.lW z0)) 9223372036854775807) (K .normal {fr:=[(3,.ptr 10000 0 0 0),(10,.ptr 10001 0 0 0),(11,.int .u64 (IntKind.wrap .u64 (i11+1))),(75,.agg (aF iD 0 c75)),(76,.int .i64 (IntKind.wrap .i64 (i76+1)))],tab:=[(10000,.var [V.str pU,.int .i64 l7]),(10001,.var [V.str (gV.s (N.rE z1 (N.lW z0))),.int .i64 (gV.err (N.rE z1 (N.lW z0)))])]:St}) none) none) none) (K .normal {fr:=[(3,.ptr 10000 0 0 0),(10,.ptr 10001 0 0 0),(11,.int .u64 i11),(75,.agg (aF iD 0 c75)),(76,.int .i64 (IntKind.wrap .i64 (i76+1)))],tab:=[(10000,.var [V.str pU,.int .i64 l7]),(10001,.var [V.str qL,.int .i64 nT])]:St})) none) (K (.exit 4) {fr:=[(3,.ptr 10000 0 0 0),(10,.ptr 10001 0 0 0),(11,.int .u64 i11)],tab:=[(10000,.var [V.str pU,.int .i64 l7]),(10001,.var [V.str qL,.int .i64 nT])]:St})):=by kernel_rfl
  dsimp only at h;exact h):=by kernel_rfl
theorem WQ:dM qM 33 3:=by
 refine bn rfl fun l K q h=>?_
 unfold WL at h
 split at h
 .rename_i xC i25 i26 cO qL nT
  replace h:=cN6 h;obtain ⟨h1,h2,h3,h4,h5,h6,h⟩:=h
  have e1:=aZ h1
  have e2:=aZ h2
  subst e1 e2
  have h3:xC.length<=100:=aV h3
  have e4:=aZ h4
  subst e4
  have h5:qL.length<=1000:=aV h5
  have main:=dH (E:=qM) (f:=33) (id:=3) (A:=Bytes) (xC) (fun a i=>{ fr:=[(1,.ptr 10000 0 0 0),(3,.ptr 10001 0 0 0),(24,.slc yR xC),(25,.int .i64 xC.length),(26,.int .i64 i)],tab:=[(10000,.var (aF aA 0 cO)),(10001,.var [.str a,.int .i64 0])] }) (fun a i=>a.length<=1000+160000*i)
   (fun a rows K=>K (.exit 0) { fr:=[(1,.ptr 10000 0 0 0),(3,.ptr 10001 0 0 0)],tab:=[(10000,.var (aF aA 0 cO)),(10001,.var [.str (a++N.kX ((rows).map bf.dec)),.int .i64 0])] }) (fun a i ha hi=>?_) (fun a ha=>?_) (qL) 0 (Int.le_refl _) (by omega) (by show qL.length<=1000+160000*0; omega) K q (by assumption)
  .exact main
  .have hq:=fun K=>Oc (xC) (xC.length) ((i:Int)) (cO) (a) (0) K
   have t1:aU (i:Int) xC.length=true:=eF (by omega)
   have t2:decide ((0:Int)<=i∧(i:Int)<xC.length)=true:=decide_eq_true (by omega)
   have t3:IntKind.wrap .i64 ((i:Int)+1)=(i:Int)+1:=dQ (by omega) (by omega)
   have hr:=BF (kE h6 hi)
   have hl:=zG hr.2.2.2
   have hbl:=Ob (kE h6 hi)
   have n0:V.toStr (List.getD (List.getD xC i []) 0 V.undef)=(bf.dec (xC.getD i [])).q.name:=rfl
   have n1:V.toInt (List.getD (List.getD xC i []) 1 V.undef)=(bf.dec (xC.getD i [])).q.most:=rfl
   have n2:V.toInt (List.getD (List.getD xC i []) 2 V.undef)=(bf.dec (xC.getD i [])).q.life:=rfl
   have n3:V.toStr (List.getD (List.getD xC i []) 3 V.undef)=(bf.dec (xC.getD i [])).q.dead:=rfl
   have w:=jU (n:=((bf.dec (xC.getD i [])).line.length:Int)) (by omega) (by omega)
   simp only [Int.toNat_natCast,mM,bT,n0,n1,n2,n3] at hq
   simp only [t1,t2,t3,cond_true,hl.2.1,hl.2.2,List.length_map,w] at hq
   obtain ⟨⟨b1,b2⟩,⟨b3,b4⟩,⟨b5,b6⟩,_⟩:=hr
   obtain ⟨b7,_,_⟩:=hl
   refine .inl ⟨a++N.rowB (bf.dec (xC.getD i [])),by rw [List.length_append]; omega,fun K=>?_,fun K=>?_⟩
   .rw [hq]
    simp (disch:=omega) only [evs,zy,sK,AX,dU,jP]
    unfold N.rowB
    simp only [List.append_assoc]
    try rfl
   .show K _ { fr:=[(1,.ptr 10000 0 0 0),(3,.ptr 10001 0 0 0)],tab:=[(10000,.var (aF aA 0 cO)),(10001,.var [.str (a++(N.rowB (bf.dec (xC.getD i []))++N.kX ((xC.drop (i+1)).map bf.dec))),.int .i64 0])] }=_
    rw [List.append_assoc]
  .refine ⟨.exit 0,{ fr:=[(1,.ptr 10000 0 0 0),(3,.ptr 10001 0 0 0)],tab:=[(10000,.var (aF aA 0 cO)),(10001,.var [.str (a++[]),.int .i64 0])] },by simp,fun K=>?_,fun K=>rfl⟩
   rw [Oc,List.append_nil]
   simp (disch:=omega) only [evs]
   try rfl
 .cases h
theorem WR:dM qM 33 7:=by
 refine bn rfl fun l K q h=>?_
 unfold WM at h
 split at h
 .rename_i xC i25 i26 Iw i55 i56 cO qL nT
  replace h:=cN6 h;obtain ⟨h1,h2,h3,h4,h5,h6,h⟩:=h
  have e1:=aZ h1
  have e2:=aZ h2
  subst e1 e2
  have h3:Iw.length<=100:=aV h3
  have e4:=aZ h4
  subst e4
  have h5:qL.length<=100000000:=aV h5
  have main:=dH (E:=qM) (f:=33) (id:=7) (A:=Bytes) (Iw) (fun a i=>{ fr:=[(1,.ptr 10000 0 0 0),(3,.ptr 10001 0 0 0),(24,.slc yR xC),(25,.int .i64 i25),(26,.int .i64 i26),(54,.slc yI Iw),(55,.int .i64 Iw.length),(56,.int .i64 i)],tab:=[(10000,.var (aF aA 0 cO)),(10001,.var [.str a,.int .i64 0])] }) (fun a i=>a.length<=100000000+1571*i)
   (fun a rows K=>K (.exit 2) { fr:=[(1,.ptr 10000 0 0 0),(3,.ptr 10001 0 0 0),(24,.slc yR xC),(25,.int .i64 i25),(26,.int .i64 i26)],tab:=[(10000,.var (aF aA 0 cO)),(10001,.var [.str (a++N.lY ((rows).map ak.dec)),.int .i64 0])] }) (fun a i ha hi=>?_) (fun a ha=>?_) (qL) 0 (Int.le_refl _) (by omega) (by show qL.length<=100000000+1571*0; omega) K q (by assumption)
  .exact main
  .have hq:=fun K=>Oe (xC) (i25) (i26) (Iw) (Iw.length) ((i:Int)) (cO) (a) (0) K
   have t1:aU (i:Int) Iw.length=true:=eF (by omega)
   have t2:decide ((0:Int)<=i∧(i:Int)<Iw.length)=true:=decide_eq_true (by omega)
   have t3:IntKind.wrap .i64 ((i:Int)+1)=(i:Int)+1:=dQ (by omega) (by omega)
   have hs:=nI (show N.fC (ak.dec (Iw.getD i [])).aY=true from kE (p:=fun x:aO=>N.fC x.aY) h6 hi)
   have hbl:=Ir (show N.fC (ak.dec (Iw.getD i [])).aY=true from kE (p:=fun x:aO=>N.fC x.aY) h6 hi)
   have hm:ah.dec (Iw.getD i [])=(ak.dec (Iw.getD i [])).aY:=rfl
   have hf:=WJ (ak.dec (Iw.getD i []))
   have hb:=rJ hs.2.1
   simp only [Int.toNat_natCast,hm] at hq
   simp only [t1,t2,t3,cond_true,hs.1,hs.2.1,bne_self_eq_false,cond_false] at hq
   refine .inl ⟨a++N.uX (ak.dec (Iw.getD i [])),by rw [List.length_append]; omega,fun K=>?_,fun K=>?_⟩
   .rw [hq]
    simp (disch:=omega) only [evs,sK,Nb,dU]
    unfold N.uX
    simp only [List.append_assoc]
    try rfl
   .show K _ { fr:=[(1,.ptr 10000 0 0 0),(3,.ptr 10001 0 0 0),(24,.slc yR xC),(25,.int .i64 i25),(26,.int .i64 i26)],tab:=[(10000,.var (aF aA 0 cO)),(10001,.var [.str (a++(N.uX (ak.dec (Iw.getD i []))++N.lY ((Iw.drop (i+1)).map ak.dec))),.int .i64 0])] }=_
    rw [List.append_assoc]
  .refine ⟨.exit 2,{ fr:=[(1,.ptr 10000 0 0 0),(3,.ptr 10001 0 0 0),(24,.slc yR xC),(25,.int .i64 i25),(26,.int .i64 i26)],tab:=[(10000,.var (aF aA 0 cO)),(10001,.var [.str (a++[]),.int .i64 0])] },by simp,fun K=>?_,fun K=>rfl⟩
   rw [Oe,List.append_nil]
   simp (disch:=omega) only [evs]
   try rfl
 .cases h
theorem TM:dM qM 33 16:=by
 refine bn rfl fun l K q h=>?_
 unfold QS at h
 split at h
 .rename_i i11 c75 i76 pU l7 qL nT
  replace h:=EY h;obtain ⟨h1,h2,h3,h4,h5,h⟩:=h
  have e1:=aZ h1
  have e2:=aZ h2
  have e3:=aZ h3
  have e4:=List.eq_nil_of_length_eq_zero (kT h4)
  subst e1 e2 e3 e4
  have main:=dH (E:=qM) (f:=33) (id:=16) (A:=Int × Bytes) ((bG c75 0)) (fun a i=>{ fr:=[(3,.ptr 10000 0 0 0),(10,.ptr 10001 0 0 0),(11,.int .u64 a.1),(75,.agg (aF iD 0 c75)),(76,.int .i64 i)],tab:=[(10000,.var [.str pU,.int .i64 l7]),(10001,.var [.str a.2,.int .i64 0])] }) (fun a i=>a.2.length<=26001*i∧0<=a.1∧a.1<=i)
   (fun a rows K=>K (.exit 4) { fr:=[(3,.ptr 10000 0 0 0),(10,.ptr 10001 0 0 0),(11,.int .u64 (a.1+N.jF ((rows).map bC.dec)))],tab:=[(10000,.var [.str pU,.int .i64 l7]),(10001,.var [.str (a.2++N.ED (16-((rows).length:Int)) ((rows).map bC.dec)),.int .i64 0])] }) (fun a i ha hi=>?_) (fun a ha=>?_) (((0,[]):Int × Bytes)) 0 (Int.le_refl _) (by omega) ⟨Nat.zero_le _,Int.le_refl _,Int.le_refl _⟩ K q (by assumption)
  .exact main
  .have hq:=fun K=>Jr (a.1) (c75) ((i:Int)) (pU) (l7) (a.2) (0) K
   have hi:i<16:=hi
   have t1:aU (i:Int) (16:Int)=true:=eF (by omega)
   have t2:decide ((0:Int)<=i∧(i:Int)<((16:Nat):Int))=true:=decide_eq_true (by omega)
   have t3:IntKind.wrap .i64 ((i:Int)+1)=(i:Int)+1:=dQ (by omega) (by omega)
   have hg:dX (bC.dec ((bG c75 0).getD i []))=true:=kE h5 hi
   have hbl:=Iu hg
   have w:=jU (n:=(i:Int)) (by omega) (by omega)
   have hle:((((bG c75 0).getD i []::(bG c75 0).drop (i+1)).length:Nat):Int)=16-i:=by
    rw [List.length_cons,List.length_drop]
    show (((16-(i+1)+1:Nat)):Int)=_
    omega
   have hle2:((((bG c75 0).drop (i+1)).length:Nat):Int)=16-(i+1):=by
    rw [List.length_drop]
    show (((16-(i+1):Nat)):Int)=_
    omega
   have n0:V.toInt (List.getD (List.getD (bG c75 0) i []) 0 V.undef)=(bC.dec ((bG c75 0).getD i [])).total:=rfl
   have ha2:IntKind.wrap .u64 (a.1+1)=a.1+1:=jU (by omega) (by omega)
   simp only [Int.toNat_natCast,n0,w] at hq
   simp only [t1,t2,t3,cond_true,hg,ha2] at hq
   simp only [hle,hle2,List.map_cons,N.jF,N.ED,show (16:Int)-(16-i)=i from by omega,show (16:Int)-(16-(i+1))=i+1 from by omega]
   cases hc:aU 0 (bC.dec ((bG c75 0).getD i [])).total with
   | true =>
    refine .inl ⟨(a.1+1,a.2++(N.bQ i 1++N.lW (bC.dec ((bG c75 0).getD i [])))),⟨?_,by show 0<=a.1+1; omega,by show a.1+1<=((i+1:Nat):Int); omega⟩,fun K=>?_,fun K=>?_⟩
    .show (a.2++_).length<=_
     rw [List.length_append,List.length_append,dU]; omega
    .rw [hq,hc]
     simp (disch:=omega) only [evs,sK,Nb,dU]
     simp only [List.append_assoc]
     try rfl
    .simp only [cond_true,Int.add_assoc,List.append_assoc]
   | false =>
    refine .inl ⟨a,⟨by omega,by omega,by omega⟩,fun K=>?_,fun K=>?_⟩
    .rw [hq,hc]
     try rfl
    .simp only [cond_false]
  .refine ⟨.exit 4,{ fr:=[(3,.ptr 10000 0 0 0),(10,.ptr 10001 0 0 0),(11,.int .u64 a.1)],tab:=[(10000,.var [.str pU,.int .i64 l7]),(10001,.var [.str a.2,.int .i64 0])] },by simp,fun K=>Jr a.1 c75 16 pU l7 a.2 0 K,fun K=>?_⟩
   show K _ { fr:=[(3,.ptr 10000 0 0 0),(10,.ptr 10001 0 0 0),(11,.int .u64 (a.1+0))],tab:=[(10000,.var [.str pU,.int .i64 l7]),(10001,.var [.str (a.2++[]),.int .i64 0])] }=_
   rw [Int.add_zero,List.append_nil]
 .cases h
end Go.Ev

namespace Go.Ev
open Go Go.Proofs
set_option maxRecDepth 100000
-- FOLD2
end Go.Ev

namespace Go.Ev
open Go Go.Proofs
set_option maxRecDepth 100000
-- FOLD2
def rO (l:List aO):Bool:=cond (Nat.ble l.length 300) (cond (l.all eX) (l.all fun x=>N.lJ x.aY) false) false
def uY (x:fE):Bool:=rO x.line
def rP (s:aI):Bool:=cond (Nat.ble s.rows.length 100) (s.rows.all uY) false
def xu (s:aI):Bool:=cond (rP s) (s.rises.list.all lg) false
theorem uw {l:List aO} (h:rO l=true):l.length<=300∧l.all eX=true∧(l.all fun x=>N.lJ x.aY)=true:=by
 obtain ⟨h1,h2⟩:=aX h
 obtain ⟨h2,h3⟩:=aX h2
 exact ⟨aV h1,h2,h3⟩
theorem abo {m:au} (h:N.lJ m=true):N.yF m=true:=(aX h).1
theorem Og {l:List aO} (h:rO l=true):qJ l=true:=by
 obtain ⟨h1,h2,h3⟩:=uw h
 unfold qJ allM
 rw [fA h1,h2,List.all_eq_true.2 fun x hx=>abo (List.all_eq_true.1 h3 x hx)]; rfl
theorem ahf {s:aI} (h:rP s=true):yu s=true:=by
 obtain ⟨h1,h2⟩:=aX h
 unfold yu
 rw [h1,show s.rows.all oK=true from List.all_eq_true.2 fun x hx=>(Og (List.all_eq_true.1 h2 x hx):oK x=true)]; rfl
theorem ahg {x:aG} (h:lg x=true):rZ x=true:=by
 obtain ⟨h1,h2⟩:=aX h
 unfold rZ
 rw [h1,List.all_eq_true.2 fun x hx=>abo (List.all_eq_true.1 h2 x hx)]; rfl
theorem akw {s:aI} (h:xu s=true):ny s=true:=by
 obtain ⟨h1,h2⟩:=aX h
 unfold ny QJ
 rw [ahf h1,List.all_eq_true.2 fun x hx=>ahg (List.all_eq_true.1 h2 x hx)]; rfl
def abp:Den:=den (aT (bJ aH)) dV (oV (dA .i64)) (fun s _=>xu s) fun s _=>(N.sQ s,())
def Zh:fK:={ fr:=[(1,.ptr 10000 0 0),(3,.int .i64),(9,.slc yR),(10,.int .i64),(11,.int .i64)],tab:=[(10000,.row [] aA)] }
def WS:List Leaf->(Ex->St->Option R)->Option R
 | [.i i3,.r r9,.i i10,.i i11,.c cO],K=>cond (i10==r9.length) (cond (i11==0) (cond (Nat.ble r9.length 100) (cond (i3==0) (cond ((r9.map bf.dec).all uY) (K (.exit 0) { fr:=[(1,.ptr 10000 0 0 0),(3,.int .i64 (0+N.eU ((r9).map bf.dec)))],tab:=[(10000,.var (aF aA 0 cO))] }) none) none) none) none) none
 | _,_=>none
def Zi:fK:={ fr:=[(3,.int .i64),(22,.rowA iD),(23,.int .i64)],tab:=[] }
def WT:List Leaf->(Ex->St->Option R)->Option R
 | [.i i3,.c zW,.i i23],K=>cond (i23==0) (cond (bW 0 i3) (cond (bW i3 100000000) (cond (((bG zW 0).map bC.dec).all lg) (K (.exit 2) { fr:=[(3,.int .i64 (i3+N.jm (((bG zW 0)).map bC.dec)))],tab:=[] }) none) none) none) none
 | _,_=>none
noncomputable def wB:Env:=env Tryz.prog [(159,aa6),(160,Gh)] [(8,dO Zi WT),(3,dO Zh WS)] [(3,[(0,[1,3,9,10,11]),(1,[1,3]),(1000,[2])]),(8,[(0,[3,22,23]),(3,[3]),(1000,[2])])]
theorem ahh (s:aI):bV wB 94 ((aT (bJ aH)).enc s) ([]) some =
 cond ((↑(List.length (List.map (aj.enc bf) s.rows)):Int)==(↑(List.length (List.map (aj.enc bf) s.rows)):Int)) (cond (Nat.ble (List.length (List.map (aj.enc bf) s.rows)) 100) (cond (List.all (List.map (aj.dec bf) (List.map (aj.enc bf) s.rows)) uY) (cond (bW 0 (0+N.eU (List.map (aj.dec bf) (List.map (aj.enc bf) s.rows)))) (cond (bW (0+N.eU (List.map (aj.dec bf) (List.map (aj.enc bf) s.rows))) 100000000) (cond (List.all (List.map (aj.dec bC) (lq s.rises)) lg) (some {v:=.int .i64 (0+N.eU (List.map (aj.dec bf) (List.map (aj.enc bf) s.rows))+N.jm (List.map (aj.dec bC) (lq s.rises))),bx:=[]:aJ}) none) none) none) none) none) none:=by kernel_rfl
theorem Oh (i3:Int) (r9:List (List V)) (i10:Int) (i11:Int) (cO:List V) (K:Ex->St->Option R):bI wB 94 3 { fr:=[(1,.ptr 10000 0 0 0),(3,.int .i64 i3),(9,.slc yR r9),(10,.int .i64 i10),(11,.int .i64 i11)],tab:=[(10000,.var (aF aA 0 cO))] } K =
 cond (aU i11 i10) (cond (decide (0<=i11∧i11<(↑(List.length r9):Int))) (cond (bif Nat.ble (List.length (List.map (aj.dec ak) (V.toRows (List.getD (List.getD r9 (Int.toNat i11) []) 4 V.undef)))) 1000 then List.all (List.map (aj.dec ak) (V.toRows (List.getD (List.getD r9 (Int.toNat i11) []) 4 V.undef))) fun x=>N.lJ x.aY else false) (K .normal {fr:=[(1,.ptr 10000 0 0 0),(3,.int .i64 (IntKind.wrap .i64 (i3+N.jX (List.map (aj.dec ak) (V.toRows (List.getD (List.getD r9 (Int.toNat i11) []) 4 V.undef)))))),(9,.slc yR r9),(10,.int .i64 i10),(11,.int .i64 (IntKind.wrap .i64 (i11+1)))],tab:=[(10000,.var (aF aA 0 cO))]:St}) none) none) (K (.exit 0) {fr:=[(1,.ptr 10000 0 0 0),(3,.int .i64 i3)],tab:=[(10000,.var (aF aA 0 cO))]:St}):=by kernel_rfl
theorem Oi (i3:Int) (zW:List V) (i23:Int) (K:Ex->St->Option R):bI wB 94 8 { fr:=[(3,.int .i64 i3),(22,.agg (aF iD 0 zW)),(23,.int .i64 i23)],tab:=[] } K =
 cond (aU i23 16) (cond (decide (0<=i23∧i23<(↑(16:Nat):Int))) (cond (lg (aj.dec bC (List.getD (bG zW 0) (Int.toNat i23) []))) (K .normal {fr:=[(3,.int .i64 (IntKind.wrap .i64 (i3+N.gJ (List.map (aj.dec ah) (V.toRows (List.getD (List.getD (bG zW 0) (Int.toNat i23) []) 1 V.undef)))))),(22,.agg (aF iD 0 zW)),(23,.int .i64 (IntKind.wrap .i64 (i23+1)))],tab:=[]:St}) none) none) (K (.exit 2) {fr:=[(3,.int .i64 i3)],tab:=[]:St}):=by kernel_rfl
theorem WU:dM wB 94 3:=by
 refine bn rfl fun l K q h=>?_
 unfold WS at h
 split at h
 .rename_i i3 r9 i10 i11 cO
  replace h:=EY h;obtain ⟨h1,h2,h3,h4,h5,h⟩:=h
  have e1:=aZ h1
  have e2:=aZ h2
  subst e1 e2
  have h3:r9.length<=100:=aV h3
  have e3:=aZ h4
  subst e3
  have main:=dH (E:=wB) (f:=94) (id:=3) (A:=Int) (r9) (fun a i=>{ fr:=[(1,.ptr 10000 0 0 0),(3,.int .i64 a),(9,.slc yR r9),(10,.int .i64 r9.length),(11,.int .i64 i)],tab:=[(10000,.var (aF aA 0 cO))] }) (fun a i=>0<=a∧a<=471000*i)
   (fun a rows K=>K (.exit 0) { fr:=[(1,.ptr 10000 0 0 0),(3,.int .i64 (a+N.eU ((rows).map bf.dec)))],tab:=[(10000,.var (aF aA 0 cO))] }) (fun a i ha hi=>?_) (fun a ha=>?_) (0) 0 (Int.le_refl _) (by omega) ⟨Int.le_refl _,by decide⟩ K q (by assumption)
  .exact main
  .have hq:=fun K=>Oh (a) (r9) (r9.length) ((i:Int)) (cO) K
   have t1:aU (i:Int) r9.length=true:=eF (by omega)
   have t2:decide ((0:Int)<=i∧(i:Int)<r9.length)=true:=decide_eq_true (by omega)
   have t3:IntKind.wrap .i64 ((i:Int)+1)=(i:Int)+1:=dQ (by omega) (by omega)
   have hr:rO (bf.dec (r9.getD i [])).line=true:=kE h5 hi
   obtain ⟨hr1,_,hr3⟩:=uw hr
   have hb:=uV (bf.dec (r9.getD i [])).line
   have hb2:1570*((bf.dec (r9.getD i [])).line.length:Int)<=471000:=by omega
   simp only [Int.toNat_natCast,mM] at hq
   simp only [t1,t2,t3,cond_true] at hq
   refine .inl ⟨a+N.jX (bf.dec (r9.getD i [])).line,⟨by omega,by omega⟩,fun K=>?_,fun K=>?_⟩
   .rw [hq,fA (show (bf.dec (r9.getD i [])).line.length<=1000 by omega),hr3,dQ (n:=a+_) (by omega) (by omega)]
    try rfl
   .show K _ { fr:=[(1,.ptr 10000 0 0 0),(3,.int .i64 (a+(N.jX (bf.dec (r9.getD i [])).line+N.eU ((r9.drop (i+1)).map bf.dec))))],tab:=_ }=_
    rw [Int.add_assoc]
  .refine ⟨.exit 0,_,by simp,fun K=>?_,fun K=>rfl⟩
   rw [Oh]
   simp (disch:=omega) only [evs,List.map_nil]
   show _=K _ { fr:=[(1,.ptr 10000 0 0 0),(3,.int .i64 (a+0))],tab:=_ }
   rw [Int.add_zero]
   try rfl
 .cases h
theorem WV:dM wB 94 8:=by
 refine bn rfl fun l K q h=>?_
 unfold WT at h
 split at h
 .rename_i i3 zW i23
  replace h:=Z4 h;obtain ⟨h2,h4,h5,h6,h⟩:=h
  have e2:=aZ h2
  subst e2
  have main:=dH (E:=wB) (f:=94) (id:=8) (A:=Int) ((bG zW 0)) (fun a i=>{ fr:=[(3,.int .i64 a),(22,.agg (aF iD 0 zW)),(23,.int .i64 i)],tab:=[] }) (fun a i=>0<=a∧a<=100000000+25120*i)
   (fun a rows K=>K (.exit 2) { fr:=[(3,.int .i64 (a+N.jm ((rows).map bC.dec)))],tab:=[] }) (fun a i ha hi=>?_) (fun a ha=>?_) (i3) 0 (Int.le_refl _) (by omega) ⟨bK h4,by have:=bK h5; omega⟩ K q (by assumption)
  .exact main
  .have hq:=fun K=>Oi (a) (zW) ((i:Int)) K
   have hi:i<16:=hi
   have t1:aU (i:Int) (16:Int)=true:=eF (by omega)
   have t2:decide ((0:Int)<=i∧(i:Int)<((16:Nat):Int))=true:=decide_eq_true (by omega)
   have t3:IntKind.wrap .i64 ((i:Int)+1)=(i:Int)+1:=dQ (by omega) (by omega)
   have hr:lg (bC.dec ((bG zW 0).getD i []))=true:=kE h6 hi
   have hr2:=Gq (aX hr).1
   have hb:=wu (bC.dec ((bG zW 0).getD i [])).kept
   simp only [Int.toNat_natCast,Jp] at hq
   simp only [t1,t2,t3,cond_true] at hq
   refine .inl ⟨a+N.gJ (bC.dec ((bG zW 0).getD i [])).kept,⟨by omega,by omega⟩,fun K=>?_,fun K=>?_⟩
   .rw [hq]
    show cond (lg (bC.dec ((bG zW 0).getD i []))) _ _=_
    rw [hr,dQ (n:=a+_) (by omega) (by omega)]
    try rfl
   .show K _ { fr:=[(3,.int .i64 (a+(N.gJ (bC.dec ((bG zW 0).getD i [])).kept+N.jm (((bG zW 0).drop (i+1)).map bC.dec))))],tab:=[] }=_
    rw [Int.add_assoc]
  .refine ⟨.exit 2,{ fr:=[(3,.int .i64 a)],tab:=[] },by simp,fun K=>Oi a zW 16 K,fun K=>?_⟩
   show K _ { fr:=[(3,.int .i64 (a+0))],tab:=[] }=_
   rw [Int.add_zero]
 .cases h
theorem ac4:bH Tryz.prog 94 abp:=by
 refine aN (aQ (((gu.nil _).cons Ns).cons acQ)) (E:=wB) Tryz.func94 [3,8] (by kernel_rfl) (FH WU WV) fun a b hp=>?_
 obtain ⟨hp,h3⟩:=aX hp
 obtain ⟨h1,h2⟩:=aX hp
 have h3:a.rises.list.all lg=true:=h3
 have h4:=sS a.rows (List.all_eq_true.2 fun x hx=>(Og (List.all_eq_true.1 h2 x hx):oK x=true))
 have h5:=aV h1
 refine (ahh a).trans ?_
 simp only [bT,oL,List.length_map,Int.zero_add,beq_self_eq_true,cond_true,h1,h2,h3,dY h4.1,dY (show N.eU a.rows<=100000000 by omega)]
 try rfl
namespace N
end N
def Oj (s:aI):Bool:=cond (xu s) (cond (bW 0 s.next) (aU s.next 18446744073709551616) false) false
theorem sSF {rows:List fE} {rises:dW aG} {n b:Int} (h1:rows.length<=100) (h2:rows.all uY=true) (h3:rises.list.all lg=true):xu ⟨n,b,rows,rises⟩=true:=by
 unfold xu rP
 rw [fA h1,h2,h3]; rfl
end Go.Ev

namespace Go.Ev
open Go Go.Proofs
set_option maxRecDepth 100000
-- FOLD2
namespace N
end N
end Go.Ev

namespace Go.Ev
open Go
set_option maxRecDepth 100000
theorem EF (x:aO) (r:List aO):N.jX (x::r)=N.dB x.aY+N.jX r:=rfl
theorem ac5 {l l' : List aO} (h:l'.Sublist l):N.jX l'<=N.jX l:=by
 induction h with
 | slnil=>exact Int.le_refl _
 | cons x _ ih=>have:=(lF x.aY).1; rw [EF]; omega
 | cons_cons x _ ih=>rw [EF,EF]; omega
structure WW (l l' : List aO):Prop where
 inv:Eu l->Eu l'
 fine:∀ p,allM p l=true->allM p l' = true
 len:l'.length<=l.length
 size:N.jX l'<=N.jX l
 low:∀ n:Int,(∀ y∈l,y.aY.id<n)->∀ y∈l',y.aY.id<n
theorem WW.sub {l l' : List aO} (h:l'.Sublist l):WW l l' where
 inv:=afV h
 fine _ ha:=List.all_eq_true.2 fun x hx=>List.all_eq_true.1 ha x (h.subset hx)
 len:=h.length_le
 size:=ac5 h
 low _ hn y hy:=hn y (h.subset hy)
structure BG (n:Int) (x:fE):Prop where
 line:Eu x.line
 fine:allM N.fC x.line=true
 most:(x.line.length:Int)<=x.q.most
 q:N.iW x.q=0
 life:N.u64 x.q.life=true
 low:n=0∨∀ y∈x.line,y.aY.id<n
structure jo (s:aI):Prop where
 BH:0<=s.next
 DN:s.next<18446744073709551616
 Ol:0<=s.bytes
 Om:s.bytes<=9223372036854775807
 few:s.rows.length<=8
 row:∀ x∈s.rows,BG s.next x
 names:(s.rows.map fun x=>x.q.name).Nodup
 rise:s.rises.list.all dX=true
 size:N.sQ s<=s.bytes
theorem Iy {q:fV} (h:N.iW q=0):N.name q.name=0∧1<=q.most∧q.most<=64∧(q.dead=[]∨N.name q.dead=0):=by
 unfold N.iW at h
 cases h1:N.name q.name != 0 with
 | true=>rw [h1] at h; have h:N.name q.name=0:=h; rw [h] at h1; cases h1
 | false =>
  rw [h1] at h
  refine ⟨by simpa using h1,?_⟩
  cases h2:aU q.most 1 with
  | true=>rw [h2] at h; cases h
  | false =>
   cases h3:aU 64 q.most with
   | true=>rw [h2,h3] at h; cases h
   | false =>
    refine ⟨dP h2,dP h3,?_⟩
    cases h4:q.dead==[] with
    | true=>exact .inl (by simpa using h4)
    | false=>rw [h2,h3,h4] at h; exact .inr h
theorem Gv {b:Bytes} (h:N.name b=0):b.length<=16:=by
 unfold N.name at h
 cases h1:b==[] with
 | true=>rw [h1] at h; cases h
 | false =>
  cases h2:aU 16 b.length with
  | true=>rw [h1,h2] at h; cases h
  | false=>have:=dP h2; omega
theorem Js {m:au} (h:N.fC m=true):N.lJ m=true∧N.aP m=0:=by
 obtain ⟨h1,h2⟩:=aX h
 exact ⟨h1,aZ h2⟩
theorem Oo {l:List aO} (h:Eu l) (hf:allM N.fC l=true):rO l=true:=by
 have:=h.few
 unfold rO
 rw [fA (show l.length<=300 by omega),h.small,List.all_eq_true.2 fun x hx=>(Js (List.all_eq_true.1 hf x hx)).1]; rfl
theorem Jt {x:aG} (h:dX x=true):lg x=true:=by
 obtain ⟨h1,h2⟩:=aX h
 unfold lg
 rw [h1,List.all_eq_true.2 fun m hm=>(Js (List.all_eq_true.1 h2 m hm)).1]; rfl
theorem jo.rP {s:aI} (h:jo s):rP s=true:=by
 have:=h.few
 unfold Go.Ev.rP
 rw [fA (show s.rows.length<=100 by omega),show s.rows.all uY=true from List.all_eq_true.2 fun x hx=>Oo (h.row x hx).line (h.row x hx).fine]; rfl
theorem jo.Oj {s:aI} (h:jo s):Oj s=true:=by
 unfold Go.Ev.Oj xu
 rw [h.rP,List.all_eq_true.2 fun x hx=>Jt (List.all_eq_true.1 h.rise x hx),dY h.BH,eF h.DN]; rfl
theorem jo.QN {s:aI} (h:jo s):QN s=true:=by
 unfold Go.Ev.QN yx
 rw [akw (aX h.Oj).1,dY h.BH,eF h.DN,dY h.Ol,dY h.Om]; rfl
theorem jo.ny {s:aI} (h:jo s):ny s=true:=akw (aX h.Oj).1
theorem jo.yu {s:aI} (h:jo s):yu s=true:=(aX h.ny).1
theorem jo.qK {s:aI} (h:jo s):qK s=true:=(aX h.yu).1
theorem jo.yx {s:aI} (h:jo s):yx s=true:=(aX h.QN).1
theorem jo.QT {s:aI} (h:jo s):lI s=true:=by
 have:=h.few
 unfold lI N.u64
 rw [fA (show s.rows.length<=100 by omega),h.rise,dY h.BH,eF h.DN,List.all_eq_true.2 fun x hx=>?_]
 .rfl
 .have hr:=h.row x hx
  obtain ⟨h1,h2,h3,h4⟩:=Iy hr.q
  have h5:=Gv h1
  have h6:x.q.dead.length<=16:=by
   rcases h4 with h4 | h4
   .rw [h4]; decide
   .exact Gv h4
  have h7:=hr.line.few
  show cond (cond (Nat.ble x.q.name.length 1000) (Nat.ble x.q.dead.length 1000) false) (cond (cond (N.u64 x.q.most) (N.u64 x.q.life) false) (yA x.line) false) false=true
  unfold yA
  rw [fA (show x.q.name.length<=1000 by omega),fA (show x.q.dead.length<=1000 by omega),hr.life,fA (show x.line.length<=100 by omega),hr.line.small,show (x.line.all fun x=>N.fC x.aY)=true from hr.fine]
  unfold N.u64
  rw [dY (show 0<=x.q.most by omega),eF (show x.q.most<18446744073709551616 by omega)]; rfl
theorem DR (x:fE) (r:List fE):N.eU (x::r)=N.jX x.line+N.eU r:=rfl
theorem Gw:∀ (a b:List fE),N.eU (a++b)=N.eU a+N.eU b
 | [],b=>(Int.zero_add _).symm
 | x::r,b=>by rw [List.cons_append,DR,Gw r b,DR,Int.add_assoc]
theorem abq {s:aI} {n:Bytes} (h:bW 0 (N.iK s n)=false):∀ x∈s.rows,x.q.name ≠ n:=fun x hx e=>by
 rw [show bW 0 (N.iK s n)=s.rows.any (N.isRow n) from agM _ _] at h
 rw [List.any_eq_true.2 ⟨x,hx,show (x.q.name==n)=true by rw [e]; exact beq_self_eq_true _⟩] at h
 cases h
theorem ahi {s:aI} (h:jo s) {q:fV} (hq:N.u64 q.life=true):jo (N.iE s q).1:=by
 unfold N.iE
 cases h1:N.iW q != 0 with
 | true=>exact h
 | false =>
  have hc:N.iW q=0:=by simpa using h1
  obtain ⟨_,h5,_,_⟩:=Iy hc
  cases h2:bW 0 (N.iK s q.name) with
  | true=>cases N.eqQ (N.kV s (N.iK s q.name)).q q<;>exact h
  | false =>
   cases h3:bW 8 s.rows.length with
   | true=>exact h
   | false =>
    have h4:=nP h3
    simp only [cond_false]
    refine ⟨h.BH,h.DN,h.Ol,h.Om,?_,fun y hy=>?_,?_,h.rise,?_⟩
    .show (s.rows++[_]).length<=8
     rw [List.length_append]; simp only [List.length_cons,List.length_nil]; omega
    .rcases List.mem_append.1 (show y∈s.rows++[(⟨q,[]⟩:fE)] from hy) with hy | hy
     .exact h.row y hy
     .rw [List.mem_singleton.1 hy]
      exact ⟨NI,rfl,by show ((0:Nat):Int)<=q.most; omega,hc,hq,.inr fun y hy=>by cases hy⟩
    .show ((s.rows++[(⟨q,[]⟩:fE)]).map fun x=>x.q.name).Nodup
     rw [List.map_append,List.map_cons,List.map_nil,List.nodup_append]
     refine ⟨h.names,List.nodup_cons.2 ⟨List.not_mem_nil,List.nodup_nil⟩,fun a ha b hb=>?_⟩
     obtain ⟨x,hx,rfl⟩:=List.mem_map.1 ha
     rw [List.mem_singleton.1 hb]
     exact abq h2 x hx
    .show N.eU (s.rows++[(⟨q,[]⟩:fE)])+N.jm s.rises.list<=s.bytes
     rw [Gw]
     show N.eU s.rows+0+N.jm s.rises.list<=s.bytes
     rw [Int.add_zero]; exact h.size
theorem aju {l:List aO} (hl:l.length<64) {m:au} (hm:N.aP m=0) (h:∀ y∈l,y.aY.id<m.id):N.rRc l m=0:=by
 unfold N.rRc
 rw [hm,show (l.any fun y=>bW m.id y.aY.id)=false from by
  rw [Bool.eq_false_iff]
  intro ha
  obtain ⟨y,hy,hyi⟩:=List.any_eq_true.1 ha
  have h1:=bK hyi
  have h2:=h y hy
  omega,zS (show (l.length:Int)<64 by omega)]; rfl
theorem ac6 {l:List aO} (hs:Sorted l) (hl:l.length<64) {x:aO} (hm:N.aP x.aY=0) (h:∀ y∈l,y.aY.id<x.aY.id):N.kU l x=(l++[x],0)∧N.uU l x=(l++[x],0):=by
 have e:N.uU l x=(l++[x],0):=by
  unfold N.uU
  rw [aju hl hm h]; rfl
 exact ⟨by rw [<- aaM hs]; exact e,e⟩
theorem ajv (base bytes:Int) (h0:0<=base) (h1:base<18446744073709551616) (h2:bytes<=9223372036854775807):jo (N.sNew base bytes):=by
 have hb:0<=cond (aU 0 bytes) bytes 0∧cond (aU 0 bytes) bytes 0<=9223372036854775807:=by
  cases hc:aU 0 bytes with
  | true=>have:=jv hc; exact ⟨by show 0<=bytes; omega,h2⟩
  | false=>exact ⟨Int.le_refl 0,show (0:Int)<=9223372036854775807 by omega⟩
 exact { BH:=h0,DN:=h1,Ol:=hb.1,Om:=hb.2,few:=Nat.zero_le 8,row:=fun x hx=>(List.not_mem_nil hx).elim,names:=List.nodup_nil,rise:=rfl,size:=hb.1 }
end Go.Ev

namespace Go.Ev
open Go Go.Proofs
set_option maxRecDepth 100000
-- FOLD2
noncomputable def ahj:Env:=env Tryz.prog [(109,mJ)] [] []
theorem ajw  : bV ahj 36 [] [] some =
 some {v:=.bool true,bx:=[]:aJ}:=by kernel_rfl
theorem ahk (hN:bH Tryz.prog 95 fP):bH Tryz.prog 36 mJ :=
 aN (aQ ((gu.nil _).cons (ajg hN))) (E:=ahj) Tryz.func36 [] (by kernel_rfl) none0 fun _ _ _=>ajw
noncomputable def ahl:Env:=env Tryz.prog [(110,mJ)] [] []
theorem ajx  : bV ahl 37 [] [] some =
 some {v:=.bool true,bx:=[]:aJ}:=by kernel_rfl
theorem ahm (hN:bH Tryz.prog 95 fP):bH Tryz.prog 37 mJ :=
 aN (aQ ((gu.nil _).cons (aiS hN))) (E:=ahl) Tryz.func37 [] (by kernel_rfl) none0 fun _ _ _=>ajx
noncomputable def akx:Env:=env Tryz.prog [(10,agP),(11,Y7),(13,aku),(35,mJ),(36,mJ),(37,mJ)] [] []
theorem amh  : bV akx 8 [] [] some =
 some {v:=.bool true,bx:=[]:aJ}:=by kernel_rfl
theorem ajy (hN:bH Tryz.prog 95 fP):bH Tryz.prog 8 mJ :=
 aN (aQ (((((((gu.nil _).cons (ahm hN)).cons (ahk hN)).cons aaC).cons (ajs hN)).cons Wy).cons abf)) (E:=akx) Tryz.func8 [] (by kernel_rfl) none0 fun _ _ _=>amh
end Go.Ev

namespace Go.Ev
open Go Go.Proofs
set_option maxRecDepth 100000
-- FOLD2
open Classical in
open Classical in
open Classical in
theorem QU (c:List V):List.map bf.dec (V.toRows (List.getD c 2 V.undef))=(aH.dec c).rows:=rfl
theorem ahn {s:aI} (h:(s.rows.map fun x=>x.q.name).Nodup) {x:fE} (hx:x∈s.rows):0<=N.iK s x.q.name∧N.kV s (N.iK s x.q.name)=x:=by
 rcases Bv (N.isRow x.q.name) s.rows 0 with ⟨_,h2⟩ | ⟨a,y,b,h1,h2,h3,h4,_⟩
 .rw [List.any_eq_true.2 ⟨x,hx,show (x.q.name==x.q.name)=true from beq_self_eq_true _⟩] at h2; cases h2
 .have h2:N.iK s x.q.name=0+(a.length:Int):=h2
  have hy:y.q.name=x.q.name:=by simpa [N.isRow] using h3
  refine ⟨by omega,?_⟩
  unfold N.kV
  rw [h2,show (0+(a.length:Int)).toNat=a.length from by omega,h1,List.getD_eq_getElem?_getD,List.getElem?_append_right (Nat.le_refl _),Nat.sub_self]
  show y=x
  rw [h1] at hx h
  rw [List.map_append,List.map_cons,List.nodup_append,List.nodup_cons] at h
  rcases List.mem_append.1 hx with hx | hx
  .have:=List.any_eq_false.1 h4 x hx
   exact (this (show (x.q.name==x.q.name)=true from beq_self_eq_true _)).elim
  .rcases List.mem_cons.1 hx with hx | hx
   .exact hx.symm
   .exact (h.2.1.1 (List.mem_map.2 ⟨x,hx,hy.symm⟩)).elim
theorem aho {s:aI} (h:(s.rows.map fun x=>x.q.name).Nodup) {x:fE} (hx:x∈s.rows):N.Bz s x.q.name=x.line:=by
 obtain ⟨h1,h2⟩:=ahn h hx
 unfold N.Bz
 rw [gZ h1,h2]; rfl
end Go.Ev

namespace Go.Ev
open Go Go.Proofs
set_option maxRecDepth 100000
-- FOLD2
open Classical in
noncomputable def uZ (c:List V):Bool:=decide (∃ s:aI,jo s∧aH.enc s=aF aA 0 c)
open Classical in
theorem Ju {c:List V} (h:uZ c=true):∃ s:aI,jo s∧aH.enc s=aF aA 0 c:=of_decide_eq_true h
open Classical in
theorem Zj {s:aI} (h:jo s):uZ (aH.enc s)=true:=decide_eq_true ⟨s,h,rfl⟩
theorem zH {c:List V} {s:aI} (h:aH.enc s=aF aA 0 c):aH.dec c=s:=by
 rw [<- aH.de s,h]; rfl
theorem Oq:∀ l:List fE,N.oh l l=true
 | []=>rfl
 | x::r=>by
  show cond (cond (N.eqQ x.q x.q) (N.sO x.line x.line) false) (N.oh r r) false=true
  rw [NJ,Oq r]
  unfold N.eqQ
  simp only [beq_self_eq_true,cond_true]
theorem Ot:∀ l:List aG,N.xk l l=true
 | []=>rfl
 | x::r=>by
  show cond (N.DF x x) (N.xk r r) false=true
  rw [YO,Ot r]; rfl
theorem Zk (s:aI):N.NY s s=true:=by
 unfold N.NY
 simp only [beq_self_eq_true,Oq,Ot,cond_true]
end Go.Ev

namespace Go.Ev
open Go Go.Proofs
set_option maxRecDepth 100000
theorem Iz:∀ {l:List fE},l.all sU=true->(N.kX l).length<=160000*l.length
 | [],_=>Nat.le_refl _
 | x::r,h=>by
  rw [List.all_cons,Bool.and_eq_true] at h
  have h1:=Ob h.1
  have h2:=Iz h.2
  show (N.rowB x++N.kX r).length<=160000*(r.length+1)
  rw [List.length_append]; omega
theorem BI:∀ l:List aG,0<=N.jF l∧N.jF l<=l.length
 | []=>⟨Int.le_refl _,Int.le_refl _⟩
 | x::r=>by
  have h:=BI r
  unfold N.jF
  rw [List.length_cons]
  cases aU 0 x.total with
  | true=>simp only [cond_true]; omega
  | false=>simp only [cond_false]; omega
theorem TN:∀ {l:List aG} (k:Int),l.all dX=true->(N.ED k l).length<=26001*l.length
 | [],_,_=>Nat.le_refl _
 | x::r,k,h=>by
  rw [List.all_cons,Bool.and_eq_true] at h
  have h1:=Iu h.1
  have h2:=TN (k+1) h.2
  unfold N.ED
  rw [List.length_cons]
  cases aU 0 x.total with
  | true=>simp only [cond_true,List.length_append,dU]; omega
  | false=>simp only [cond_false]; omega
theorem ac7 (hN:bH Tryz.prog 95 fP):bH Tryz.prog 33 Kv:=by
 refine aN (aQ (((((((((((gu.nil _).cons qF).cons (acA hN)).cons VF).cons CW).cons ahb).cons (uo hN)).cons aa2).cons TD).cons (zo hN)).cons hN)) (E:=qM) Tryz.func33 [3,7,16] (by kernel_rfl) (aey WQ WR TM) fun a b hp=>?_
 obtain ⟨h1,h2⟩:=aX (show lI a=true from hp)
 obtain ⟨h1,h3⟩:=aX h1
 obtain ⟨h4,h5⟩:=aX h2
 obtain ⟨n1,n2⟩:=Iq h5
 have h1':=aV h1
 have l1:=Iz h3
 have l2:=BI a.rises.list
 have l3:=TN 0 h4
 rw [dW.lG] at l2 l3
 have wl:IntKind.wrap .u64 (a.rows.length:Int)=a.rows.length:=jU (by omega) (by omega)
 refine (ahe a).trans ?_
 simp only [bT,oL,List.length_map,wl,beq_self_eq_true,h1,h3,h4,Int.zero_add,cond_true]
 have e:(16:Int)-((16:Nat):Int)=0:=rfl
 simp only [sK,AX,Nb,List.nil_append,e]
 have b1:Nat.ble (N.bQ a.next 8++N.bQ (a.rows.length:Int) 1++N.kX a.rows).length 9223372036854775799=true:=fA (by simp only [List.length_append,dU]; omega)
 have b2:Nat.ble ((N.bQ a.next 8++N.bQ (a.rows.length:Int) 1++N.kX a.rows++N.bQ (N.jF a.rises.list) 1).length+(N.ED 0 a.rises.list).length) 9223372036854775807=true:=fA (by simp only [List.length_append,dU]; omega)
 rw [dY n1,eF n2,eF (show (a.rows.length:Int)<18446744073709551616 by omega),dY l2.1,eF (show N.jF a.rises.list<18446744073709551616 by omega),b1,b2]
 try rfl
end Go.Ev

namespace Go.Ev
open Go Go.Proofs
set_option maxRecDepth 100000
namespace N
def wC (nx f:Int) (m:au):Bool:=cond (aU 3 f) true (cond (nx != 0) (bW nx m.id) false)
def Ou (m:au) (f:Int):aO:=⟨m,Int.tmod f 2==1,IntKind.wrap .u64 (Int.tdiv f 2)==1⟩
def gQ (nx:Int) (i:dw):aO × dw :=
 (Ou (cu (ay i 1).2).1 (ay i 1).1,cond (wC nx (ay i 1).1 (cu (ay i 1).2).1) (bP (cu (ay i 1).2).2 4) (cu (ay i 1).2).2)
def dR (nx:Int):Nat->dw->List aO->List aO × dw
 | 0,i,acc=>(acc,i)
 | k+1,i,acc=>cond (i.err==0) (dR nx k (gQ nx i).2 (acc++[(gQ nx i).1])) (acc,i)
def yH (i:dw):fV × dw :=
 (⟨(bM i 16).1,(ay (bM i 16).2 8).1,(ay (ay (bM i 16).2 8).2 8).1,(bM (ay (ay (bM i 16).2 8).2 8).2 16).1⟩,(bM (ay (ay (bM i 16).2 8).2 8).2 16).2)
def rQ (s:aI) (q:fV) (l:List aO × Int) (i:dw):dw :=
 cond (cond (aU q.most l.1.length) true (bW 0 (iK s q.name))) (bP (bP i l.2) 4) (bP i l.2)
def wE (s:aI) (q:fV) (l:List aO) (i:dw):aI × dw :=
 (cond ((bP i (iE s q).2).err==0) (zT (iE s q).1 ((iE s q).1.rows.length-1) l) (iE s q).1,bP i (iE s q).2)
def WX (s:aI) (q:fV) (w:List aO × dw):aI × dw:=wE s q (tN [] w.1).1 (rQ s q (tN [] w.1) w.2)
def jR (s:aI) (i:dw):aI × dw:=WX s (yH i).1 (dR s.next (ay (yH i).2 1).1.toNat (ay (yH i).2 1).2 [])
def eY:Nat->aI->dw->aI × dw
 | 0,s,i=>(s,i)
 | k+1,s,i=>cond (i.err==0) (eY k (jR s i).1 (jR s i).2) (s,i)
def zI (s:aI) (p:Int) (x:aG):aI:=⟨s.next,s.bytes,s.rows,s.rises.set p.toNat x⟩
def eG:Nat->aI->dw->aI × dw
 | 0,s,i=>(s,i)
 | k+1,s,i=>cond (i.err==0) (cond (bW 16 (ay i 1).1) (s,bP (dZ (ay i 1).2).2 4) (eG k (zI s (ay i 1).1 (dZ (ay i 1).2).1) (dZ (ay i 1).2).2)) (s,i)
def ac8 (w:aI × dw):aI × dw:=eG (ay w.2 1).1.toNat w.1 (ay w.2 1).2
def iF (t:Bytes) (b:Int):aI × dw:=ac8 (eY (ay (ay ⟨t,0⟩ 8).2 1).1.toNat (sNew (ay ⟨t,0⟩ 8).1 b) (ay (ay ⟨t,0⟩ 8).2 1).2)
def yB (i:dw):Int:=cond (i.err==0) (cond (aU 0 i.s.length) 4 0) i.err
def ig (t:Bytes) (b:Int):aI × Int :=
 cond (yB (iF t b).2 != 0) (fD,4) (cond (aU (og (iF t b).1) 0) (fD,4) (cond (nM (iF t b).1==t) ((iF t b).1,0) (fD,4)))
def mix (new old:dW aG):Nat->dW aG
 | 0=>old
 | i+1=>(mix new old i).set i (new.list.getD i jQ)
end N
theorem dW.WY {a b:dW aG} (h:a.list=b.list):a=b:=by
 cases a; cases b
 simp only [dW.list,List.cons.injEq,and_true] at h
 simp only [dW.mk.injEq]
 exact h
theorem Ov (new old:dW aG):∀ i,i<=16->(N.mix new old i).list=new.list.take i++old.list.drop i
 | 0,_=>rfl
 | i+1,h=>by
  show ((N.mix new old i).set i (new.list.getD i jQ)).list=_
  have hn:i<new.list.length:=by rw [dW.lG]; omega
  have ho:i<old.list.length:=by rw [dW.lG]; omega
  have e:new.list.take (i+1)=new.list.take i++[new.list[i]]:=by rw [List.take_add_one,List.getElem?_eq_getElem hn]; rfl
  rw [dW.NU,Ov new old i (by omega),List.set_append_right _ _ (by rw [List.length_take]; omega),List.length_take,Nat.min_eq_left (by omega),Nat.sub_self,List.drop_eq_getElem_cons ho,List.set_cons_zero,List.getD_eq_getElem?_getD,List.getElem?_eq_getElem hn,e,List.append_assoc]
  try rfl
theorem TP (new old:dW aG):N.mix new old 16=new:=dW.WY (by
 rw [Ov new old 16 (Nat.le_refl _),List.take_of_length_le (by rw [dW.lG]; omega),List.drop_eq_nil_of_le (by rw [dW.lG]; omega),List.append_nil])
def N.Gx (x:aG):Bool:=(x.kept.length:Int)==cond (aU 16 x.total) 16 x.total
def N.Jv (s:aI):Bool:=s.rises.list.all N.Gx
theorem Zl (x:aO):N.Ou x.aY (N.o7 x)=x:=by
 obtain ⟨m,l,a⟩:=x
 cases l<;>cases a<;>rfl
theorem ac9 (x:aO):0<=N.o7 x∧N.o7 x<=3:=by
 unfold N.o7
 cases x.again<;>cases x.iT<;>decide
theorem ada {nx f:Int} {m:au} (hf:f<=3) (h:nx=0∨m.id<nx):N.wC nx f m=false:=by
 unfold N.wC
 rw [gZ hf,cond_false]
 rcases h with h | h
 .rw [I8 h]; rfl
 .cases nx != 0 with
  | true=>exact zS h
  | false=>rfl
theorem adb {nx:Int} {x:aO} (hx:N.fC x.aY=true) (hl:nx=0∨x.aY.id<nx) (z:Bytes):N.gQ nx ⟨N.uX x++z,0⟩=(x,⟨z,0⟩):=by
 have hf:=ac9 x
 have hm:=nI hx
 have a1:N.ay ⟨N.uX x++z,0⟩ 1=(N.o7 x,⟨N.lT x.aY++z,0⟩):=by
  unfold N.uX
  rw [List.append_assoc]
  exact kS 1 (by decide) (N.o7 x) hf.1 (by rw [show (256:Int) ^ 1=256 by decide]; omega) _
 have a2:=Qr z x.aY hm.1 hm.2.2.1 hm.2.1
 unfold N.gQ
 rw [a1,a2,ada hf.2 hl]
 show (N.Ou x.aY (N.o7 x),_)=_
 rw [Zl]; rfl
theorem Ox {nx:Int}:∀ (l acc:List aO) (z:Bytes),(∀ x∈l,N.fC x.aY=true∧(nx=0∨x.aY.id<nx))->N.dR nx l.length ⟨N.lY l++z,0⟩ acc=(acc++l,⟨z,0⟩)
 | [],acc,z,_=>by
  show (acc,(⟨[]++z,0⟩:dw))=_
  rw [List.append_nil]; rfl
 | x::r,acc,z,h=>by
  have hx:=h x List.mem_cons_self
  show cond ((0:Int)==0) (N.dR nx r.length (N.gQ nx ⟨(N.uX x++N.lY r)++z,0⟩).2 (acc++[(N.gQ nx ⟨(N.uX x++N.lY r)++z,0⟩).1])) _=_
  rw [List.append_assoc,adb hx.1 hx.2]
  show N.dR nx r.length ⟨N.lY r++z,0⟩ (acc++[x])=_
  rw [Ox r _ z fun y hy=>h y (List.mem_cons_of_mem _ hy),List.append_assoc]; rfl
theorem Oy:∀ (r acc:List aO),Sorted (acc++r)->(acc++r).length<=64->(∀ x∈r,N.aP x.aY=0)->N.tN acc r=(acc++r,0)
 | [],acc,_,_,_=>by rw [List.append_nil]; rfl
 | x::r,acc,hs,hl,hc=>by
  have hl' : acc.length<64:=by simp only [List.length_append,List.length_cons] at hl; omega
  have hs' : Sorted ((acc++[x])++r):=by rw [List.append_assoc]; exact hs
  have h1:=(ac6 (List.pairwise_append.1 hs).1 hl' (hc x List.mem_cons_self) fun y hy=>(List.pairwise_append.1 hs).2.2 y hy x List.mem_cons_self).1
  unfold N.tN
  rw [h1]
  show N.tN (acc++[x]) r=_
  rw [Oy r (acc++[x]) hs' (by rw [List.append_assoc]; exact hl) fun y hy=>hc y (List.mem_cons_of_mem _ hy),List.append_assoc]; rfl
theorem ami {q:fV} (hq:N.iW q=0) (hl:N.u64 q.life=true) (z:Bytes):N.yH ⟨N.dD q.name++(N.bQ q.most 8++(N.bQ q.life 8++(N.dD q.dead++z))),0⟩=(q,⟨z,0⟩):=by
 obtain ⟨h1,h2,h3,h4⟩:=Iy hq
 obtain ⟨l1,l2⟩:=Iq hl
 have n1:=Gv h1
 have n2:q.dead.length<=16:=by
  rcases h4 with h4 | h4
  .rw [h4]; exact Nat.zero_le _
  .exact Gv h4
 have p8:(256:Int) ^ 8=18446744073709551616:=by decide
 have a1:=uQ q.name 16 (by omega) (by decide) (N.bQ q.most 8++(N.bQ q.life 8++(N.dD q.dead++z)))
 have a2:=kS 8 (Nat.le_refl 8) q.most (by omega) (by rw [p8]; omega) (N.bQ q.life 8++(N.dD q.dead++z))
 have a3:=kS 8 (Nat.le_refl 8) q.life l1 (by rw [p8]; exact l2) (N.dD q.dead++z)
 have a4:=uQ q.dead 16 (by omega) (by decide) z
 have a2:N.ay ⟨N.bQ q.most 8++(N.bQ q.life 8++(N.dD q.dead++z)),0⟩ 8=_:=a2
 have a3:N.ay ⟨N.bQ q.life 8++(N.dD q.dead++z),0⟩ 8=_:=a3
 unfold N.yH
 rw [a1]
 simp only
 rw [a2]
 simp only
 rw [a3]
 simp only
 rw [a4]
theorem QV {s:aI} {q:fV} (hq:N.iW q=0) (hn:N.iK s q.name<0) (hf:s.rows.length<8):N.iE s q=(⟨s.next,s.bytes,s.rows++[⟨q,[]⟩],s.rises⟩,0):=by
 unfold N.iE
 rw [I8 hq,zS hn,zS (show (s.rows.length:Int)<8 by omega)]
 try rfl
theorem ahp {s:aI} {x:fE} (h:BG s.next x) (hn:N.iK s x.q.name<0) (hf:s.rows.length<8) (z:Bytes):N.jR s ⟨N.rowB x++z,0⟩=(⟨s.next,s.bytes,s.rows++[x],s.rises⟩,⟨z,0⟩):=by
 have hfew:=h.line.few
 have e:N.rowB x++z=N.dD x.q.name++(N.bQ x.q.most 8++(N.bQ x.q.life 8++(N.dD x.q.dead++(N.bQ x.line.length 1++(N.lY x.line++z))))):=by
  unfold N.rowB
  simp only [List.append_assoc]
 have a1:=ami h.q h.life (N.bQ x.line.length 1++(N.lY x.line++z))
 have a2:N.ay ⟨N.bQ x.line.length 1++(N.lY x.line++z),0⟩ 1=((x.line.length:Int),⟨N.lY x.line++z,0⟩):=kS 1 (by decide) (x.line.length:Int) (by omega) (by rw [show (256:Int) ^ 1=256 by decide]; omega) _
 have hck:∀ y∈x.line,N.fC y.aY=true:=List.all_eq_true.1 h.fine
 have a3:=Ox (nx:=s.next) x.line [] z fun y hy=>⟨hck y hy,h.low.imp id fun hl=>hl y hy⟩
 have a4:=Oy x.line [] h.line.sorted h.line.few fun y hy=>(nI (hck y hy)).2.1
 rw [e]
 unfold N.jR
 rw [a1]
 simp only
 rw [a2]
 simp only [Int.toNat_natCast]
 rw [a3]
 simp only [List.nil_append] at a4 ⊢
 unfold N.WX
 rw [a4]
 unfold N.rQ
 simp only
 rw [gZ h.most,zS hn]
 unfold N.wE
 rw [QV h.q hn hf]
 show (cond ((0:Int)==0) (N.zT ⟨s.next,s.bytes,s.rows++[⟨x.q,[]⟩],s.rises⟩ (((s.rows++[(⟨x.q,[]⟩:fE)]).length:Nat)-1) x.line) _,(⟨z,0⟩:dw))=_
 have ek:((((s.rows++[(⟨x.q,[]⟩:fE)]).length:Nat):Int)-1).toNat=s.rows.length:=by
  rw [List.length_append,List.length_singleton]; omega
 show ((⟨s.next,s.bytes,(s.rows++[(⟨x.q,[]⟩:fE)]).set ((((s.rows++[(⟨x.q,[]⟩:fE)]).length:Nat):Int)-1).toNat ⟨((s.rows++[(⟨x.q,[]⟩:fE)]).getD ((((s.rows++[(⟨x.q,[]⟩:fE)]).length:Nat):Int)-1).toNat row0).q,x.line⟩,s.rises⟩:aI),(⟨z,0⟩:dw))=_
 rw [ek,List.set_append_right _ _ (Nat.le_refl _),Nat.sub_self,List.getD_eq_getElem?_getD,List.getElem?_append_right (Nat.le_refl _),Nat.sub_self]
 try rfl
theorem ajz {s:aI} {n:Bytes} (h:∀ x∈s.rows,x.q.name ≠ n):N.iK s n<0:=by
 have e:=amc (N.isRow n) s.rows
 have:s.rows.any (N.isRow n)=false:=by
  rw [List.any_eq_false]
  intro x hx
  unfold N.isRow
  simpa using h x hx
 rw [this] at e
 exact jv e
theorem QW (nx b:Int) (rs:dW aG):∀ (r acc:List fE) (z:Bytes),(∀ x∈r,BG nx x)->((acc++r).map fun x=>x.q.name).Nodup->(acc++r).length<=8 ->
  N.eY r.length ⟨nx,b,acc,rs⟩ ⟨N.kX r++z,0⟩=(⟨nx,b,acc++r,rs⟩,⟨z,0⟩)
 | [],acc,z,_,_,_=>by
  rw [List.append_nil]; rfl
 | x::r,acc,z,h,hn,hl=>by
  have hl' : acc.length<8:=by simp only [List.length_append,List.length_cons] at hl; omega
  have hn' : N.iK ⟨nx,b,acc,rs⟩ x.q.name<0:=ajz fun y hy e=>by
   rw [List.map_append,List.nodup_append] at hn
   exact hn.2.2 _ (List.mem_map_of_mem hy) _ (List.mem_map_of_mem List.mem_cons_self) e
  have a:=ahp (s:=⟨nx,b,acc,rs⟩) (h x List.mem_cons_self) hn' hl' (N.kX r++z)
  show cond ((0:Int)==0) (N.eY r.length (N.jR ⟨nx,b,acc,rs⟩ ⟨(N.rowB x++N.kX r)++z,0⟩).1 (N.jR ⟨nx,b,acc,rs⟩ ⟨(N.rowB x++N.kX r)++z,0⟩).2) _=_
  rw [List.append_assoc,a]
  show N.eY r.length ⟨nx,b,acc++[x],rs⟩ ⟨N.kX r++z,0⟩=_
  rw [QW nx b rs r (acc++[x]) z (fun y hy=>h y (List.mem_cons_of_mem _ hy)) (by rw [List.append_assoc]; exact hn) (by rw [List.append_assoc]; exact hl),List.append_assoc]; rfl
theorem WZ:∀ (l:List au) (acc:List au) (z:Bytes),l.all N.fC=true->N.dI l.length ⟨N.kC l++z,0⟩ acc=(acc++l,⟨z,0⟩)
 | [],acc,z,_=>by
  show (acc,(⟨[]++z,0⟩:dw))=_
  rw [List.append_nil]; rfl
 | m::r,acc,z,h=>by
  rw [List.all_cons,Bool.and_eq_true] at h
  have hm:=nI h.1
  show cond ((0:Int)==0) (N.dI r.length (N.cu ⟨(N.lT m++N.kC r)++z,0⟩).2 (acc++[(N.cu ⟨(N.lT m++N.kC r)++z,0⟩).1])) _=_
  rw [List.append_assoc,Qr (N.kC r++z) m hm.1 hm.2.2.1 hm.2.1]
  show N.dI r.length ⟨N.kC r++z,0⟩ (acc++[m])=_
  rw [WZ r _ z h.2,List.append_assoc]
  try rfl
theorem Zm {x:aG} (hg:dX x=true) (hf:N.Gx x=true) (z:Bytes):N.dZ ⟨N.lW x++z,0⟩=(x,⟨z,0⟩):=by
 obtain ⟨h1,hc⟩:=aX hg
 obtain ⟨h1,h2⟩:=aX h1
 obtain ⟨h1,h3⟩:=aX h1
 obtain ⟨h2,_⟩:=aX h2
 have h1:0<=x.total:=bK h1
 have h3:x.total<=18446744073709551615:=bK h3
 have h2:x.kept.length<=16:=aV h2
 have hf:(x.kept.length:Int)=cond (aU 16 x.total) 16 x.total:=aZ hf
 have a1:=kS 8 (Nat.le_refl 8) x.total h1 (by rw [show (256:Int) ^ 8=18446744073709551616 by decide]; omega) (N.bQ x.kept.length 1++(N.kC x.kept++z))
 have a2:=kS 1 (by decide) (x.kept.length:Int) (by omega) (by rw [show (256:Int) ^ 1=256 by decide]; omega) (N.kC x.kept++z)
 have e:N.lW x++z=N.bQ x.total 8++(N.bQ x.kept.length 1++(N.kC x.kept++z)):=by
  unfold N.lW; simp only [List.append_assoc]
 have b1:N.ay ⟨N.lW x++z,0⟩ 8=(x.total,⟨N.bQ x.kept.length 1++(N.kC x.kept++z),0⟩):=by rw [e]; exact a1
 have b2:N.zD ⟨N.lW x++z,0⟩=((x.kept.length:Int),⟨N.kC x.kept++z,0⟩):=by
  show N.ay (N.ay ⟨N.lW x++z,0⟩ 8).2 1=_
  rw [b1]; exact a2
 have b3:N.JM ⟨N.lW x++z,0⟩=⟨N.kC x.kept++z,0⟩:=by
  unfold N.JM
  rw [b2,b1]
  have e1:aU 16 (x.kept.length:Int)=false:=gZ (by omega)
  have e2:((x.kept.length:Int) != cond (aU 16 x.total) 16 x.total)=false:=I8 hf
  show cond ((0:Int) != 0) _ (cond (aU 16 (x.kept.length:Int)) _ (cond ((x.kept.length:Int) != cond (aU 16 x.total) 16 x.total) _ _))=_
  rw [e1,e2]; rfl
 show N.rrE (N.ay ⟨N.lW x++z,0⟩ 8).1 (N.dI (N.zD ⟨N.lW x++z,0⟩).1.toNat (N.JM ⟨N.lW x++z,0⟩) [])=_
 rw [b1,b2,b3]
 show N.rrE x.total (N.dI x.kept.length ⟨N.kC x.kept++z,0⟩ [])=_
 rw [WZ _ _ _ hc]
 try rfl
theorem ade (k:Nat):fD.rises.list.getD k jQ=jQ:=by
 rcases Nat.lt_or_ge k 16 with h | h
 .match k,h with
  | 0,_ | 1,_ | 2,_ | 3,_ | 4,_ | 5,_ | 6,_ | 7,_ | 8,_ | 9,_ | 10,_ | 11,_ | 12,_ | 13,_ | 14,_ | 15,_=>rfl
  | n+16,h=>exact absurd h (by omega)
 .rw [List.getD_eq_getElem?_getD,List.getElem?_eq_none (by rw [dW.lG]; exact h)]; rfl
theorem adf {x:aG} (hf:N.Gx x=true) (h0:0<=x.total) (ht:aU 0 x.total=false):x=jQ:=by
 obtain ⟨t,k⟩:=x
 have ht:t<=0:=dP ht
 have h0:0<=t:=h0
 obtain rfl:t=0:=by omega
 have hf:((k.length:Nat):Int)=0:=aZ hf
 have hk:k=[]:=List.eq_nil_of_length_eq_zero (by omega)
 rw [hk]
 try rfl
theorem abr (nx b:Int) (rows:List fE) (rs:dW aG) (hg:rs.list.all dX=true) (hf:rs.list.all N.Gx=true) (z:Bytes):∀ (n k:Nat),k+n=16 ->
  N.eG (N.jF (rs.list.drop k)).toNat ⟨nx,b,rows,N.mix rs fD.rises k⟩ ⟨N.ED k (rs.list.drop k)++z,0⟩=(⟨nx,b,rows,rs⟩,⟨z,0⟩)
 | 0,k,hk=>by
  obtain rfl:k=16:=by omega
  rw [List.drop_eq_nil_of_le (by rw [dW.lG]; omega),TP]; rfl
 | n+1,k,hk=>by
  have hl:k<rs.list.length:=by rw [dW.lG]; omega
  have ih:=abr nx b rows rs hg hf z n (k+1) (by omega)
  have hx:=List.all_eq_true.1 hg _ (List.getElem_mem hl)
  have hfx:=List.all_eq_true.1 hf _ (List.getElem_mem hl)
  have hm:N.mix rs fD.rises (k+1)=(N.mix rs fD.rises k).set k (rs.list[k]'hl):=by
   show (N.mix rs fD.rises k).set k (rs.list.getD k jQ)=_
   rw [List.getD_eq_getElem?_getD,List.getElem?_eq_getElem hl]; rfl
  rw [List.drop_eq_getElem_cons hl]
  generalize hxx:rs.list[k]'hl=x at *
  have hmb:=BI (rs.list.drop (k+1))
  unfold N.jF N.ED
  cases ht:aU 0 x.total with
  | true =>
   simp only [cond_true]
   have e:(1+N.jF (rs.list.drop (k+1))).toNat=(N.jF (rs.list.drop (k+1))).toNat+1:=by omega
   rw [e]
   have a1:N.ay ⟨N.bQ k 1++N.lW x++N.ED (k+1) (rs.list.drop (k+1))++z,0⟩ 1=((k:Int),⟨N.lW x++(N.ED (k+1) (rs.list.drop (k+1))++z),0⟩):=by
    simp only [List.append_assoc]
    exact kS 1 (by decide) (k:Int) (by omega) (by rw [show (256:Int) ^ 1=256 by decide]; omega) _
   have a2:=Zm hx hfx (N.ED (k+1) (rs.list.drop (k+1))++z)
   show cond ((0:Int)==0) _ _=_
   rw [a1]
   simp only
   rw [a2,zS (show (k:Int)<16 by omega)]
   simp only [beq_self_eq_true,cond_true,cond_false]
   unfold N.zI
   simp only [Int.toNat_natCast]
   rw [<- hm]
   exact ih
  | false =>
   simp only [cond_false]
   have h0:0<=x.total:=by
    obtain ⟨h1,_⟩:=aX hx
    obtain ⟨h1,_⟩:=aX h1
    exact bK (aX h1).1
   have e0:=adf hfx h0 ht
   have hmm:N.mix rs fD.rises (k+1)=N.mix rs fD.rises k:=by
    rw [hm,e0]
    refine dW.WY ?_
    have hml:k<(N.mix rs fD.rises k).list.length:=by rw [dW.lG]; omega
    have hz:k<fD.rises.list.length:=by rw [dW.lG]; omega
    have hg0:(N.mix rs fD.rises k).list[k]'hml=jQ:=by
     have h1:=ade k
     rw [List.getD_eq_getElem?_getD,List.getElem?_eq_getElem hz] at h1
     simp only [Ov rs fD.rises k (by omega)]
     rw [List.getElem_append_right (by rw [List.length_take]; omega)]
     simp only [List.length_take,Nat.min_eq_left (show k<=rs.list.length by omega),Nat.sub_self,List.getElem_drop,Nat.add_zero]
     exact h1
    rw [dW.NU,<- hg0,List.set_getElem_self]
   rw [<- hmm]
   exact ih
theorem Zn {s:aI} (h:jo s) (hf:N.Jv s=true) {b:Int} (hb:s.bytes=cond (aU 0 b) b 0):N.ig (N.nM s) b=(s,0):=by
 have hfew:=h.few
 have p8:(256:Int) ^ 8=18446744073709551616:=by decide
 have p1:(256:Int) ^ 1=256:=by decide
 have e:N.nM s=N.bQ s.next 8++(N.bQ s.rows.length 1++(N.kX s.rows++(N.bQ (N.jF s.rises.list) 1++(N.ED 0 s.rises.list++[])))):=by
  unfold N.nM; simp only [List.append_assoc,List.append_nil]
 have hmb:=BI s.rises.list
 rw [dW.lG] at hmb
 have a1:N.ay ⟨N.nM s,0⟩ 8=(s.next,⟨N.bQ s.rows.length 1++(N.kX s.rows++(N.bQ (N.jF s.rises.list) 1++(N.ED 0 s.rises.list++[]))),0⟩):=by
  rw [e]
  exact kS 8 (Nat.le_refl 8) s.next h.BH (by rw [p8]; exact h.DN) _
 have a2:N.ay ⟨N.bQ s.rows.length 1++(N.kX s.rows++(N.bQ (N.jF s.rises.list) 1++(N.ED 0 s.rises.list++[]))),0⟩ 1=((s.rows.length:Int),⟨N.kX s.rows++(N.bQ (N.jF s.rises.list) 1++(N.ED 0 s.rises.list++[])),0⟩) :=
  kS 1 (by decide) (s.rows.length:Int) (by omega) (by rw [p1]; omega) _
 have a3:=QW s.next (cond (aU 0 b) b 0) fD.rises s.rows [] (N.bQ (N.jF s.rises.list) 1++(N.ED 0 s.rises.list++[])) h.row h.names h.few
 have a4:N.ay ⟨N.bQ (N.jF s.rises.list) 1++(N.ED 0 s.rises.list++[]),0⟩ 1=(N.jF s.rises.list,⟨N.ED 0 s.rises.list++[],0⟩) :=
  kS 1 (by decide) (N.jF s.rises.list) hmb.1 (by rw [p1]; omega) _
 have a5:=abr s.next (cond (aU 0 b) b 0) s.rows s.rises h.rise hf [] 16 0 rfl
 have er:N.iF (N.nM s) b=(s,⟨[],0⟩):=by
  unfold N.iF
  rw [a1]
  simp only
  rw [a2]
  simp only [Int.toNat_natCast]
  have a3:N.eY s.rows.length (N.sNew s.next b) ⟨N.kX s.rows++(N.bQ (N.jF s.rises.list) 1++(N.ED 0 s.rises.list++[])),0⟩=_:=a3
  rw [a3]
  unfold N.ac8
  simp only
  rw [a4]
  simp only [List.nil_append]
  have a5:N.eG (N.jF s.rises.list).toNat ⟨s.next,cond (aU 0 b) b 0,s.rows,fD.rises⟩ ⟨N.ED 0 s.rises.list++[],0⟩=_:=a5
  rw [a5,<- hb]
 have hz:=h.size
 unfold N.ig
 rw [er]
 have r0:aU (N.og s) 0=false:=gZ (by unfold N.og; omega)
 simp only [r0,beq_self_eq_true]
 try rfl
end Go.Ev

namespace Go.Ev
open Go Go.Proofs
set_option maxRecDepth 100000
-- FOLD2
namespace N
def xw (s:aI):List fV->List fE
 | []=>[]
 | q::r=>⟨q,Bz s q.name⟩::xw s r
end N
theorem adg {s:aI} (h:jo s):N.xw s (s.rows.map fE.q)=s.rows:=by
 have:∀ l:List fE,(∀ x∈l,x∈s.rows)->N.xw s (l.map fE.q)=l:=fun l=>by
  induction l with
  | nil=>exact fun _=>rfl
  | cons x r ih =>
   intro hl
   show (⟨x.q,N.Bz s x.q.name⟩:fE)::N.xw s (r.map fE.q)=x::r
   rw [aho h.names (hl x (List.mem_cons_self ..)),ih fun y hy=>hl y (List.mem_cons_of_mem _ hy)]
 exact this s.rows fun _ hx=>hx
open Classical in
noncomputable def BJ (s:aI):Bool:=decide (jo s)
open Classical in
theorem W9 {s:aI} (h:BJ s=true):jo s:=of_decide_eq_true h
open Classical in
theorem Zo {s:aI} (h:jo s):BJ s=true:=decide_eq_true h
open Classical in
noncomputable def oM (c:List V):Bool:=decide (aF (aA.drop 3) 0 c=dn fD.rises)
open Classical in
theorem Gy {c:List V} (h:oM c=true):aF (aA.drop 3) 0 c=dn fD.rises:=of_decide_eq_true h
open Classical in
theorem Jw {c:List V} (h:aF (aA.drop 3) 0 c=dn fD.rises):oM c=true:=decide_eq_true h
noncomputable def aky:Den:=den (aT (bJ aH)) dV (oV (bJ aH)) (fun s _=>BJ s) fun s _=>(s,())
theorem Xa {s:aI} (h:jo s) (n:Bytes):jD (N.Bz s n)=true:=by
 unfold N.Bz
 cases h1:aU (N.iK s n) 0 with
 | true=>rfl
 | false =>
  obtain ⟨_,_,_,g4⟩:=Ip (Y6 h1)
  have hr:Eu (N.kV s (N.iK s n)).line:=(h.row _ (getD_mem row0 g4)).line
  have hf:=hr.few
  show cond (Nat.ble (N.kV s (N.iK s n)).line.length 1000) ((N.kV s (N.iK s n)).line.all eX) false=true
  rw [fA (Nat.le_trans hf (by decide))]
  exact hr.small
theorem Xb {s:aI} (h:jo s) (p:Int):fH (N.Jo s p)=true:=by
 have hk:∀ k:Nat,fH (s.rises.list.getD k jQ)=true:=fun k=>by
  rcases Nat.lt_or_ge k s.rises.list.length with hl | hl
  .have:=List.all_eq_true.1 h.rise _ (getD_mem jQ hl)
   exact (aX this).1
  .rw [List.getD_eq_getElem?_getD,List.getElem?_eq_none hl]; rfl
 unfold N.Jo
 cases aU p 0 with
 | true=>rfl
 | false =>
  cases bW 16 p with
  | true=>rfl
  | false=>exact hk _
def Xc:fK:={ fr:=[(1,.ptr 10000 0 0),(2,.ptr 10001 0 0),(3,.ptr 10003 0 0),(16,.slc yQ),(17,.int .i64),(18,.int .i64)],tab:=[(10000,.row [] aA),(10002,.sl yR),(10001,.row [.int .u64,.int .i64,.own 10002] (aA.drop 3)),(10004,.sl yR),(10003,.row [.int .u64,.int .i64,.own 10004] (aA.drop 3))] }
noncomputable def QX:List Leaf->(Ex->St->Option R)->Option R
 | [.r r16,.i i17,.i i18,.c cO,.r Kw,.i nT,.i oq,.c nC,.r wF,.i uG,.i gU,.c G5],K=>cond (i17==r16.length) (cond (i18==0) (cond (Nat.ble r16.length 100) (cond (Nat.beq wF.length 0) (cond (uZ cO) (K (.exit 0) { fr:=[(1,.ptr 10000 0 0 0),(2,.ptr 10001 0 0 0),(3,.ptr 10003 0 0 0)],tab:=[(10000,.var (aF aA 0 cO)),(10002,.sl yR Kw 0),(10001,.var ([.int .u64 nT,.int .i64 oq,.own 10002 0]++aF (aA.drop 3) 0 nC)),(10004,.sl yR ((([]:List fE)++N.xw (aH.dec cO) (r16.map lX.dec)).map bf.enc) 0),(10003,.var ([.int .u64 uG,.int .i64 gU,.own 10004 0]++aF (aA.drop 3) 0 G5))] }) none) none) none) none) none
 | _,_=>none
def Xd:fK:={ fr:=[(1,.ptr 10000 0 0),(2,.ptr 10001 0 0),(3,.ptr 10003 0 0),(35,.int .i64)],tab:=[(10000,.row [] aA),(10002,.sl yR),(10001,.row [.int .u64,.int .i64,.own 10002] (aA.drop 3)),(10004,.sl yR),(10003,.row [.int .u64,.int .i64,.own 10004] (aA.drop 3))] }
noncomputable def QY:List Leaf->(Ex->St->Option R)->Option R
 | [.i i35,.c cO,.r Kw,.i nT,.i oq,.c nC,.r wF,.i uG,.i gU,.c G5],K=>cond (i35==0) (cond (uZ cO) (cond (oM G5) (K (.exit 2) { fr:=[(2,.ptr 10000 0 0 0),(3,.ptr 10002 0 0 0)],tab:=[(10001,.sl yR Kw 0),(10000,.var ([.int .u64 nT,.int .i64 oq,.own 10001 0]++aF (aA.drop 3) 0 nC)),(10003,.sl yR wF 0),(10002,.var ([.int .u64 uG,.int .i64 gU,.own 10003 0]++dn (aH.dec cO).rises))] }) none) none) none
 | _,_=>none
noncomputable def qN:Env:={ env Tryz.prog [(26,ag1),(21,Za),(20,TL),(22,WA),(14,agZ),(87,agG),(89,ag3),(88,dOf)] [(8,dO Xd QY),(3,dO Xc QX)] [(3,[(0,[1,2,3,16,17,18]),(1,[1,2,3]),(1000,[2])]),(8,[(0,[1,2,3,35]),(3,[2,3]),(1000,[2])])] with fz:=true,fk:=fun j=>Nat.beq j 2 }
theorem adh (s:aI):type_of% (by
  have h:bV qN 30 ((aT (bJ aH)).enc s) ([]) some =(
   let z2:=(List.map (aj.dec bf) (List.map (aj.enc bf) s.rows));let z0:=(List.map (aj.enc lX) (List.map (fun self=>self.1) z2));let z1:=(aj.dec aH (aj.enc aH s));cond (ny z1) (cond (yx z1) (cond (Nat.ble (List.length z2) 100) (cond ((↑(List.length z0):Int)==(↑(List.length z0):Int)) (cond (Nat.ble (List.length z0) 100) (cond (uZ (aj.enc aH s)) (cond (uZ (aj.enc aH s)) (cond (oM [V.int .u64 0,.slc yM [],.int .u64 0,.slc yM [],.int .u64 0,.slc yM [],.int .u64 0,.slc yM [],.int .u64 0,.slc yM [],.int .u64 0,.slc yM [],.int .u64 0,.slc yM [],.int .u64 0,.slc yM [],.int .u64 0,.slc yM [],.int .u64 0,.slc yM [],.int .u64 0,.slc yM [],.int .u64 0,.slc yM [],.int .u64 0,.slc yM [],.int .u64 0,.slc yM [],.int .u64 0,.slc yM [],.int .u64 0,.slc yM []]) (some {v:=.agg [V.int .u64 s.next,.int .i64 (IntKind.wrap .i64 (N.sQ z1+N.og z1)),.slc yR (List.map (aj.enc bf) ([]++N.xw z1 (List.map (aj.dec lX) z0))),.int .u64 (aG.total (dW.a0 s.rises)),.slc yM (List.map (aj.enc ah) (List.map (aj.dec ah) (List.map (aj.enc ah) (aG.kept (dW.a0 s.rises))))),.int .u64 (aG.total (dW.a1 s.rises)),.slc yM (List.map (aj.enc ah) (List.map (aj.dec ah) (List.map (aj.enc ah) (aG.kept (dW.a1 s.rises))))),.int .u64 (aG.total (dW.a2 s.rises)),.slc yM (List.map (aj.enc ah) (List.map (aj.dec ah) (List.map (aj.enc ah) (aG.kept (dW.a2 s.rises))))),.int .u64 (aG.total (dW.a3 s.rises)),.slc yM (List.map (aj.enc ah) (List.map (aj.dec ah) (List.map (aj.enc ah) (aG.kept (dW.a3 s.rises))))),.int .u64 (aG.total (dW.a4 s.rises)),.slc yM (List.map (aj.enc ah) (List.map (aj.dec ah) (List.map (aj.enc ah) (aG.kept (dW.a4 s.rises))))),.int .u64 (aG.total (dW.a5 s.rises)),.slc yM (List.map (aj.enc ah) (List.map (aj.dec ah) (List.map (aj.enc ah) (aG.kept (dW.a5 s.rises))))),.int .u64 (aG.total (dW.a6 s.rises)),.slc yM (List.map (aj.enc ah) (List.map (aj.dec ah) (List.map (aj.enc ah) (aG.kept (dW.a6 s.rises))))),.int .u64 (aG.total (dW.a7 s.rises)),.slc yM (List.map (aj.enc ah) (List.map (aj.dec ah) (List.map (aj.enc ah) (aG.kept (dW.a7 s.rises))))),.int .u64 (aG.total (dW.a8 s.rises)),.slc yM (List.map (aj.enc ah) (List.map (aj.dec ah) (List.map (aj.enc ah) (aG.kept (dW.a8 s.rises))))),.int .u64 (aG.total (dW.a9 s.rises)),.slc yM (List.map (aj.enc ah) (List.map (aj.dec ah) (List.map (aj.enc ah) (aG.kept (dW.a9 s.rises))))),.int .u64 (aG.total (dW.a10 s.rises)),.slc yM (List.map (aj.enc ah) (List.map (aj.dec ah) (List.map (aj.enc ah) (aG.kept (dW.a10 s.rises))))),.int .u64 (aG.total (dW.a11 s.rises)),.slc yM (List.map (aj.enc ah) (List.map (aj.dec ah) (List.map (aj.enc ah) (aG.kept (dW.a11 s.rises))))),.int .u64 (aG.total (dW.a12 s.rises)),.slc yM (List.map (aj.enc ah) (List.map (aj.dec ah) (List.map (aj.enc ah) (aG.kept (dW.a12 s.rises))))),.int .u64 (aG.total (dW.NR s.rises)),.slc yM (List.map (aj.enc ah) (List.map (aj.dec ah) (List.map (aj.enc ah) (aG.kept (dW.NR s.rises))))),.int .u64 (aG.total (dW.NS s.rises)),.slc yM (List.map (aj.enc ah) (List.map (aj.dec ah) (List.map (aj.enc ah) (aG.kept (dW.NS s.rises))))),.int .u64 (aG.total (dW.NT s.rises)),.slc yM (List.map (aj.enc ah) (List.map (aj.dec ah) (List.map (aj.enc ah) (aG.kept (dW.NT s.rises)))))],bx:=[]:aJ}) none) none) none) none) none) none) none) none):=by kernel_rfl
  dsimp only at h;exact h):=by kernel_rfl
theorem Jy (r16:List (List V)) (i17:Int) (i18:Int) (cO:List V) (Kw:List (List V)) (nT:Int) (oq:Int) (nC:List V) (wF:List (List V)) (uG:Int) (gU:Int) (G5:List V) (K:Ex->St->Option R):type_of% (by
  have h:bI qN 30 3 { fr:=[(1,.ptr 10000 0 0 0),(2,.ptr 10001 0 0 0),(3,.ptr 10003 0 0 0),(16,.slc yQ r16),(17,.int .i64 i17),(18,.int .i64 i18)],tab:=[(10000,.var (aF aA 0 cO)),(10002,.sl yR Kw 0),(10001,.var ([.int .u64 nT,.int .i64 oq,.own 10002 0]++aF (aA.drop 3) 0 nC)),(10004,.sl yR wF 0),(10003,.var ([.int .u64 uG,.int .i64 gU,.own 10004 0]++aF (aA.drop 3) 0 G5))] } K =(
   let z0:=(List.getD r16 (Int.toNat i18) []);let z1:=(List.map (aj.dec ak) (List.map (aj.enc ak) (N.Bz (aj.dec aH cO) (V.toStr (z0.getD 0 .undef)))));let z2:=(V.int .u64 nT::V.int .i64 oq::V.own 10002 0::aF iD 0 nC);let z3:=(V.int .u64 uG::V.int .i64 gU::V.own 10004 0::aF iD 0 G5);cond (aU i18 i17) (cond (decide (0<=i18∧i18<(↑(List.length r16):Int))) (cond (Nat.ble (List.length (List.map (aj.dec bf) (V.toRows (cO.getD 2 .undef)))) 100) (cond (jD z1) (cond (decide ((List.length wF+1)*72<=140737488355328)) (K .normal {fr:=[(1,.ptr 10000 0 0 0),(2,.ptr 10001 0 0 0),(3,.ptr 10003 0 0 0),(16,.slc yQ r16),(17,.int .i64 i17),(18,.int .i64 (IntKind.wrap .i64 (i18+1)))],tab:=[(10000,.var (aF aA 0 cO)),(10002,.sl yR Kw 0),(10001,.var z2),(10004,.sl yR (wF++[[V.str (V.toStr (z0.getD 0 .undef)),.int .u64 (V.toInt (z0.getD 1 .undef)),.int .u64 (V.toInt (z0.getD 2 .undef)),.str (V.toStr (z0.getD 3 .undef)),.slc yI (List.map (aj.enc ak) z1)]]) 0),(10003,.var z3)]:St}) none) none) none) none) (K (.exit 0) {fr:=[(1,.ptr 10000 0 0 0),(2,.ptr 10001 0 0 0),(3,.ptr 10003 0 0 0)],tab:=[(10000,.var (aF aA 0 cO)),(10002,.sl yR Kw 0),(10001,.var z2),(10004,.sl yR wF 0),(10003,.var z3)]:St})):=by kernel_rfl
  dsimp only at h;exact h):=by kernel_rfl
theorem Jz (i35:Int) (cO:List V) (Kw:List (List V)) (nT oq:Int) (nC:List V) (wF:List (List V)) (uG gU:Int) (a:dW aG) (K:Ex->St->Option R):type_of% (by
  have h:bI qN 30 8 { fr:=[(1,.ptr 10000 0 0 0),(2,.ptr 10001 0 0 0),(3,.ptr 10003 0 0 0),(35,.int .i64 i35)],tab:=[(10000,.var (aF aA 0 cO)),(10002,.sl yR Kw 0),(10001,.var ([.int .u64 nT,.int .i64 oq,.own 10002 0]++aF (aA.drop 3) 0 nC)),(10004,.sl yR wF 0),(10003,.var ([.int .u64 uG,.int .i64 gU,.own 10004 0]++dn a))] } K =(
   let z1:=(N.Jo (aj.dec aH cO) i35);let z0:=(List.map (aj.dec ah) (List.map (aj.enc ah) z1.kept));cond (aU i35 16) (cond (fH (aj.dec bC (aj.enc bC z1))) (cond (decide (0<=i35∧i35<(↑(16:Nat):Int))) (K .normal {fr:=[(1,.ptr 10000 0 0 0),(2,.ptr 10001 0 0 0),(3,.ptr 10003 0 0 0),(35,.int .i64 (IntKind.wrap .i64 (i35+1)))],tab:=[(10000,.var (aF aA 0 cO)),(10002,.sl yR Kw 0),(10001,.var (V.int .u64 nT::V.int .i64 oq::V.own 10002 0::aF iD 0 nC)),(10004,.sl yR wF 0),(10003,.var [V.int .u64 uG,.int .i64 gU,.own 10004 0,.int .u64 (bif Nat.beq (Int.toNat i35) 0 then aG.total z1 else aG.total (dW.a0 a)),.slc yM (bif Nat.beq (Int.toNat i35) 0 then List.map (aj.enc ah) z0 else List.map (aj.enc ah) (aG.kept (dW.a0 a))),.int .u64 (bif Nat.beq (Int.toNat i35) 1 then aG.total z1 else aG.total (dW.a1 a)),.slc yM (bif Nat.beq (Int.toNat i35) 1 then List.map (aj.enc ah) z0 else List.map (aj.enc ah) (aG.kept (dW.a1 a))),.int .u64 (bif Nat.beq (Int.toNat i35) 2 then aG.total z1 else aG.total (dW.a2 a)),.slc yM (bif Nat.beq (Int.toNat i35) 2 then List.map (aj.enc ah) z0 else List.map (aj.enc ah) (aG.kept (dW.a2 a))),.int .u64 (bif Nat.beq (Int.toNat i35) 3 then aG.total z1 else aG.total (dW.a3 a)),.slc yM (bif Nat.beq (Int.toNat i35) 3 then List.map (aj.enc ah) z0 else List.map (aj.enc ah) (aG.kept (dW.a3 a))),.int .u64 (bif Nat.beq (Int.toNat i35) 4 then aG.total z1 else aG.total (dW.a4 a)),.slc yM (bif Nat.beq (Int.toNat i35) 4 then List.map (aj.enc ah) z0 else List.map (aj.enc ah) (aG.kept (dW.a4 a))),.int .u64 (bif Nat.beq (Int.toNat i35) 5 then aG.total z1 else aG.total (dW.a5 a)),.slc yM (bif Nat.beq (Int.toNat i35) 5 then List.map (aj.enc ah) z0 else List.map (aj.enc ah) (aG.kept (dW.a5 a))),.int .u64 (bif Nat.beq (Int.toNat i35) 6 then aG.total z1 else aG.total (dW.a6 a)),.slc yM (bif Nat.beq (Int.toNat i35) 6 then List.map (aj.enc ah) z0 else List.map (aj.enc ah) (aG.kept (dW.a6 a))),.int .u64 (bif Nat.beq (Int.toNat i35) 7 then aG.total z1 else aG.total (dW.a7 a)),.slc yM (bif Nat.beq (Int.toNat i35) 7 then List.map (aj.enc ah) z0 else List.map (aj.enc ah) (aG.kept (dW.a7 a))),.int .u64 (bif Nat.beq (Int.toNat i35) 8 then aG.total z1 else aG.total (dW.a8 a)),.slc yM (bif Nat.beq (Int.toNat i35) 8 then List.map (aj.enc ah) z0 else List.map (aj.enc ah) (aG.kept (dW.a8 a))),.int .u64 (bif Nat.beq (Int.toNat i35) 9 then aG.total z1 else aG.total (dW.a9 a)),.slc yM (bif Nat.beq (Int.toNat i35) 9 then List.map (aj.enc ah) z0 else List.map (aj.enc ah) (aG.kept (dW.a9 a))),.int .u64 (bif Nat.beq (Int.toNat i35) 10 then aG.total z1 else aG.total (dW.a10 a)),.slc yM (bif Nat.beq (Int.toNat i35) 10 then List.map (aj.enc ah) z0 else List.map (aj.enc ah) (aG.kept (dW.a10 a))),.int .u64 (bif Nat.beq (Int.toNat i35) 11 then aG.total z1 else aG.total (dW.a11 a)),.slc yM (bif Nat.beq (Int.toNat i35) 11 then List.map (aj.enc ah) z0 else List.map (aj.enc ah) (aG.kept (dW.a11 a))),.int .u64 (bif Nat.beq (Int.toNat i35) 12 then aG.total z1 else aG.total (dW.a12 a)),.slc yM (bif Nat.beq (Int.toNat i35) 12 then List.map (aj.enc ah) z0 else List.map (aj.enc ah) (aG.kept (dW.a12 a))),.int .u64 (bif Nat.beq (Int.toNat i35) 13 then aG.total z1 else aG.total (dW.NR a)),.slc yM (bif Nat.beq (Int.toNat i35) 13 then List.map (aj.enc ah) z0 else List.map (aj.enc ah) (aG.kept (dW.NR a))),.int .u64 (bif Nat.beq (Int.toNat i35) 14 then aG.total z1 else aG.total (dW.NS a)),.slc yM (bif Nat.beq (Int.toNat i35) 14 then List.map (aj.enc ah) z0 else List.map (aj.enc ah) (aG.kept (dW.NS a))),.int .u64 (bif Nat.beq (Int.toNat i35) 15 then aG.total z1 else aG.total (dW.NT a)),.slc yM (bif Nat.beq (Int.toNat i35) 15 then List.map (aj.enc ah) z0 else List.map (aj.enc ah) (aG.kept (dW.NT a)))])]:St}) none) none) (K (.exit 2) {fr:=[(2,.ptr 10000 0 0 0),(3,.ptr 10002 0 0 0)],tab:=[(10001,.sl yR Kw 0),(10000,.var (V.int .u64 nT::V.int .i64 oq::V.own 10001 0::aF iD 0 nC)),(10003,.sl yR wF 0),(10002,.var (V.int .u64 uG::V.int .i64 gU::V.own 10003 0::dn a))]:St})):=by kernel_rfl
  dsimp only at h;exact h):=by kernel_rfl
theorem TQ:dM qN 30 3:=by
 refine bn rfl fun l K q h=>?_
 unfold QX at h
 split at h
 .rename_i r16 i17 i18 cO Kw nT oq nC wF uG gU G5
  replace h:=EY h;obtain ⟨h1,h2,h3,h4,h5,h⟩:=h
  have e1:=aZ h1
  have e2:=aZ h2
  subst e1 e2
  have h3:r16.length<=100:=aV h3
  have e4:=List.eq_nil_of_length_eq_zero (kT h4)
  subst e4
  obtain ⟨s0,g1,g2⟩:=Ju h5
  have gd:=zH g2
  have hfew:=g1.few
  have main:=dH (E:=qN) (f:=30) (id:=3) (A:=List fE) (r16) (fun a i=>{ fr:=[(1,.ptr 10000 0 0 0),(2,.ptr 10001 0 0 0),(3,.ptr 10003 0 0 0),(16,.slc yQ r16),(17,.int .i64 r16.length),(18,.int .i64 i)],tab:=[(10000,.var (aF aA 0 cO)),(10002,.sl yR Kw 0),(10001,.var ([.int .u64 nT,.int .i64 oq,.own 10002 0]++aF (aA.drop 3) 0 nC)),(10004,.sl yR (a.map bf.enc) 0),(10003,.var ([.int .u64 uG,.int .i64 gU,.own 10004 0]++aF (aA.drop 3) 0 G5))] }) (fun a i=>a.length<=i)
   (fun a rows K=>K (.exit 0) { fr:=[(1,.ptr 10000 0 0 0),(2,.ptr 10001 0 0 0),(3,.ptr 10003 0 0 0)],tab:=[(10000,.var (aF aA 0 cO)),(10002,.sl yR Kw 0),(10001,.var ([.int .u64 nT,.int .i64 oq,.own 10002 0]++aF (aA.drop 3) 0 nC)),(10004,.sl yR ((a++N.xw (aH.dec cO) (rows.map lX.dec)).map bf.enc) 0),(10003,.var ([.int .u64 uG,.int .i64 gU,.own 10004 0]++aF (aA.drop 3) 0 G5))] }) (fun a i ha hi=>?_) (fun a ha=>?_) (([]:List fE)) 0 (Int.le_refl _) (by omega) (Nat.zero_le _) K q (by assumption)
  .exact main
  .have hq:=fun K=>Jy (r16) (r16.length) ((i:Int)) (cO) (Kw) (nT) (oq) (nC) ((a.map bf.enc)) (uG) (gU) (G5) K
   have t1:aU (i:Int) r16.length=true:=eF (by omega)
   have t2:decide ((0:Int)<=i∧(i:Int)<r16.length)=true:=decide_eq_true (by omega)
   have t3:IntKind.wrap .i64 ((i:Int)+1)=(i:Int)+1:=dQ (by omega) (by omega)
   have n0:V.toStr (List.getD (List.getD r16 i []) 0 V.undef)=(lX.dec (r16.getD i [])).name:=rfl
   have s1:=Xa g1 (lX.dec (r16.getD i [])).name
   have s2:Nat.ble s0.rows.length 100=true:=fA (by omega)
   simp only [Int.toNat_natCast,n0,gd,bT,QU,List.length_map] at hq
   simp only [t1,t2,t3,cond_true,s1,s2] at hq
   refine .inl ⟨a++[⟨lX.dec (r16.getD i []),N.Bz (aH.dec cO) (lX.dec (r16.getD i [])).name⟩],by rw [List.length_append,List.length_singleton]; omega,fun K=>?_,fun K=>?_⟩
   .rw [hq]
    simp (disch:=omega) only [evs,gd,List.length_map,List.map_append]
    try rfl
   .show K _ _=K _ _
    rw [List.append_assoc]
    try rfl
  .refine ⟨.exit 0,{ fr:=[(1,.ptr 10000 0 0 0),(2,.ptr 10001 0 0 0),(3,.ptr 10003 0 0 0)],tab:=[(10000,.var (aF aA 0 cO)),(10002,.sl yR Kw 0),(10001,.var ([.int .u64 nT,.int .i64 oq,.own 10002 0]++aF (aA.drop 3) 0 nC)),(10004,.sl yR ((a++N.xw (aH.dec cO) ([].map lX.dec)).map bf.enc) 0),(10003,.var ([.int .u64 uG,.int .i64 gU,.own 10004 0]++aF (aA.drop 3) 0 G5))] },by simp,fun K=>?_,fun K=>rfl⟩
   rw [Jy,List.map_nil]
   show _=K _ _
   unfold N.xw
   rw [List.append_nil]
   simp (disch:=omega) only [evs]
   try rfl
 .cases h
theorem TR:dM qN 30 8:=by
 refine bn rfl fun l K q h=>?_
 unfold QY at h
 split at h
 .rename_i i35 cO Kw nT oq nC wF uG gU G5
  replace h:=RH h;obtain ⟨h1,h2,h3,h⟩:=h
  have e1:=aZ h1
  subst e1
  obtain ⟨s0,g1,g2⟩:=Ju h2
  have g3:=Gy h3
  have gd:=zH g2
  rw [gd] at h
  show ∃ n,o9 qN 30 8 n { fr:=[(1,.ptr 10000 0 0 0),(2,.ptr 10001 0 0 0),(3,.ptr 10003 0 0 0),(35,.int .i64 0)],tab:=[(10000,.var (aF aA 0 cO)),(10002,.sl yR Kw 0),(10001,.var ([.int .u64 nT,.int .i64 oq,.own 10002 0]++aF (aA.drop 3) 0 nC)),(10004,.sl yR wF 0),(10003,.var ([.int .u64 uG,.int .i64 gU,.own 10004 0]++aF (aA.drop 3) 0 G5))] } K=some q
  rw [g3]
  refine dN (E:=qN) (f:=30) (id:=8) (σ:=Nat) (fun i=>{ fr:=[(1,.ptr 10000 0 0 0),(2,.ptr 10001 0 0 0),(3,.ptr 10003 0 0 0),(35,.int .i64 (i:Int))],tab:=[(10000,.var (aF aA 0 cO)),(10002,.sl yR Kw 0),(10001,.var ([.int .u64 nT,.int .i64 oq,.own 10002 0]++aF (aA.drop 3) 0 nC)),(10004,.sl yR wF 0),(10003,.var ([.int .u64 uG,.int .i64 gU,.own 10004 0]++dn (N.mix s0.rises fD.rises i)))] }) (fun i=>i<=16) (fun i=>16-i)
   (fun _ K=>K (.exit 2) { fr:=[(2,.ptr 10000 0 0 0),(3,.ptr 10002 0 0 0)],tab:=[(10001,.sl yR Kw 0),(10000,.var ([.int .u64 nT,.int .i64 oq,.own 10001 0]++aF (aA.drop 3) 0 nC)),(10003,.sl yR wF 0),(10002,.var ([.int .u64 uG,.int .i64 gU,.own 10003 0]++dn s0.rises))] }) (fun i hi=>?_) 0 (Nat.zero_le _) K q h
  by_cases hl:i<16
  .have hq:=fun K=>Jz (i:Int) cO Kw nT oq nC wF uG gU (N.mix s0.rises fD.rises i) K
   have t1:aU (i:Int) 16=true:=eF (by omega)
   have t2:decide ((0:Int)<=i∧(i:Int)<((16:Nat):Int))=true:=decide_eq_true (by omega)
   have t3:IntKind.wrap .i64 ((i:Int)+1)=(i:Int)+1:=dQ (by omega) (by omega)
   have t4:=Xb g1 (i:Int)
   have t5:N.Jo s0 (i:Int)=s0.rises.list.getD i jQ:=by
    unfold N.Jo
    rw [gZ (by omega),zS (by omega)]; rfl
   rw [t5] at t4
   simp only [gd,bC.de,bT] at hq
   simp only [t1,t2,t3,t4,cond_true,Int.toNat_natCast,t5] at hq
   have e:=setCells_eq (N.mix s0.rises fD.rises i) i (s0.rises.list.getD i jQ)
   refine .inl ⟨i+1,hl,by omega,fun K=>?_,fun K=>rfl⟩
   show _=K .normal { fr:=[(1,.ptr 10000 0 0 0),(2,.ptr 10001 0 0 0),(3,.ptr 10003 0 0 0),(35,.int .i64 ((i:Int)+1))],tab:=[(10000,.var (aF aA 0 cO)),(10002,.sl yR Kw 0),(10001,.var ([.int .u64 nT,.int .i64 oq,.own 10002 0]++aF (aA.drop 3) 0 nC)),(10004,.sl yR wF 0),(10003,.var ([.int .u64 uG,.int .i64 gU,.own 10004 0]++dn ((N.mix s0.rises fD.rises i).set i (s0.rises.list.getD i jQ))))] }
   rw [<- e]
   exact hq K
  .obtain rfl:i=16:=by omega
   refine .inr ⟨.exit 2,{ fr:=[(2,.ptr 10000 0 0 0),(3,.ptr 10002 0 0 0)],tab:=[(10001,.sl yR Kw 0),(10000,.var ([.int .u64 nT,.int .i64 oq,.own 10001 0]++aF (aA.drop 3) 0 nC)),(10003,.sl yR wF 0),(10002,.var ([.int .u64 uG,.int .i64 gU,.own 10003 0]++dn s0.rises))] },by simp,fun K=>?_,fun K=>rfl⟩
   have hq:=Jz (16:Int) cO Kw nT oq nC wF uG gU (N.mix s0.rises fD.rises 16) K
   rw [TP] at hq
   rw [TP]
   exact hq
 .cases h
theorem Zp (hN:bH Tryz.prog 95 fP):bH Tryz.prog 30 aky:=by
 refine aN (aQ (((((((((gu.nil _).cons anw).cons ag5).cons agJ).cons ag0).cons Y9).cons (N9 hN)).cons (WC hN)).cons ag2)) (E:=qN) Tryz.func30 [3,8] (by kernel_rfl) (FH TQ TR) fun a b hp=>?_
 have h:=W9 (show BJ a=true from hp)
 have hz:=h.size
 have hb0:=h.Ol
 have hb1:=h.Om
 have hf:=h.few
 refine (adh a).trans ?_
 have w:IntKind.wrap .i64 (N.sQ a+N.og a)=a.bytes:=by
  unfold N.og
  rw [dQ (by omega) (by omega)]; omega
 have g1:=h.ny
 have g2:=h.yx
 have g3:Nat.ble a.rows.length 100=true:=fA (by omega)
 have g4:uZ (aH.enc a)=true:=Zj h
 have g5:oM (dn fD.rises)=true:=Jw rfl
 simp only [aH.de,bT,List.length_map,g1,g2,g3,g4,w,beq_self_eq_true,cond_true,Nat.beq_refl]
 show cond (oM (dn fD.rises)) (some (⟨.agg (V.int .u64 a.next::V.int .i64 a.bytes::V.slc agt (List.map bf.enc ([]++N.xw a (a.rows.map fE.q)))::dn a.rises),[],[]⟩:aJ)) none=_
 rw [g5,List.nil_append,adg h]
 try rfl
end Go.Ev

namespace Go.Ev
open Go Go.Proofs
set_option maxRecDepth 100000
-- FOLD2
def Zq:fK:={ fr:=[(2,.ptr 10000 0 0),(3,.ptr 10001 0 0),(30,.int .i64),(31,.int .i64)],tab:=[(10000,.row [] aA),(10001,.row [] aA)] }
def Xe:List Leaf->(Ex->St->Option R)->Option R
 | [.i i30,.i i31,.c cO,.c nC],K=>cond (i30==(V.toRows (List.getD cO 2 .undef)).length) (cond (i31==0) (cond (Nat.beq (V.toRows (List.getD cO 2 .undef)).length (V.toRows (List.getD nC 2 .undef)).length) (cond (((V.toRows (List.getD cO 2 .undef)).map bf.dec).all oK) (cond (((V.toRows (List.getD nC 2 .undef)).map bf.dec).all oK) (cond (Nat.ble (V.toRows (List.getD cO 2 .undef)).length 1000) (cond (N.oh ((V.toRows (List.getD cO 2 .undef)).map bf.dec) ((V.toRows (List.getD nC 2 .undef)).map bf.dec)) (K (.exit 0) { fr:=[(2,.ptr 10000 0 0 0),(3,.ptr 10001 0 0 0)],tab:=[(10000,.var (aF aA 0 cO)),(10001,.var (aF aA 0 nC))] }) (K .ret { fr:=[(4,.bool false)],tab:=[] })) none) none) none) none) none) none
 | _,_=>none
def Xf:fK:={ fr:=[(2,.ptr 10000 0 0),(3,.ptr 10001 0 0),(64,.int .i64)],tab:=[(10000,.row [] aA),(10001,.row [] aA)] }
def QZ:List Leaf->(Ex->St->Option R)->Option R
 | [.i i64,.c cO,.c nC],K=>cond (i64==0) (cond (((bG cO 3).map bC.dec).all fH) (cond (((bG nC 3).map bC.dec).all fH) (cond (N.xk ((bG cO 3).map bC.dec) ((bG nC 3).map bC.dec)) (K (.exit 2) { fr:=[],tab:=[] }) (K .ret { fr:=[(4,.bool false)],tab:=[] })) none) none) none
 | _,_=>none
noncomputable def wG:Env:=env Tryz.prog [(85,agz),(86,afH)] [(10,dO Xf QZ),(4,dO Zq Xe)] [(4,[(0,[2,3,30,31]),(1,[2,3]),(1000,[4])]),(10,[(0,[2,3,64]),(3,[]),(1000,[4])])]
theorem ahq (s t:aI):type_of% (by
  have h:bV wG 29 ((bg (bJ aH) (aT (bJ aH))).enc (s,t)) ([]) some =(
   let z0:=(List.map (aj.enc bf) s.rows);let z1:=(some {v:=.bool false,bx:=[]:aJ});let z2:=(List.map (aj.enc bf) t.rows);let z3:=(List.map (aj.dec bC) (lq s.rises));let z4:=(List.map (aj.dec bC) (lq t.rises));cond (aI.next s != aI.next t) z1 (cond (aI.bytes s != aI.bytes t) z1 (cond ((↑(List.length z0):Int) != (↑(List.length z2):Int)) z1 (cond ((↑(List.length z0):Int)==(↑(List.length z0):Int)) (cond (Nat.beq (List.length z0) (List.length z2)) (cond (List.all (List.map (aj.dec bf) z0) oK) (cond (List.all (List.map (aj.dec bf) z2) oK) (cond (Nat.ble (List.length z0) 1000) (cond (N.oh (List.map (aj.dec bf) z0) (List.map (aj.dec bf) z2)) (cond (List.all z3 fH) (cond (List.all z4 fH) (cond (N.xk z3 z4) (some {v:=.bool true,bx:=[]:aJ}) z1) none) none) z1) none) none) none) none) none)))):=by kernel_rfl
  dsimp only at h;exact h):=by kernel_rfl
theorem Oz (i30:Int) (i31:Int) (cO:List V) (nC:List V) (K:Ex->St->Option R):type_of% (by
  have h:bI wG 29 4 { fr:=[(2,.ptr 10000 0 0 0),(3,.ptr 10001 0 0 0),(30,.int .i64 i30),(31,.int .i64 i31)],tab:=[(10000,.var (aF aA 0 cO)),(10001,.var (aF aA 0 nC))] } K =(
   let z0:=(List.getD (V.toRows (cO.getD 2 .undef)) (Int.toNat i31) []);let z1:=(List.getD (V.toRows (nC.getD 2 .undef)) (Int.toNat i31) []);let z2:=(decide (0<=i31∧i31<(↑(List.length (V.toRows (cO.getD 2 .undef))):Int)));let z3:=(decide (0<=i31∧i31<(↑(List.length (V.toRows (nC.getD 2 .undef))):Int)));let z4:=(List.map (aj.dec ak) (V.toRows (z0.getD 4 .undef)));cond (aU i31 i30) (cond z2 (cond z3 (cond (!(V.toStr (z0.getD 0 .undef)==V.toStr (z1.getD 0 .undef) && (V.toInt (z0.getD 1 .undef)==V.toInt (z1.getD 1 .undef) && (V.toInt (z0.getD 2 .undef)==V.toInt (z1.getD 2 .undef) && (V.toStr (z0.getD 3 .undef)==V.toStr (z1.getD 3 .undef) && true))))) (K .ret {fr:=[(4,.bool false)],tab:=[]:St}) (cond z2 (cond z3 (cond (jD z4) (cond (!N.sO z4 (List.map (aj.dec ak) (V.toRows (z1.getD 4 .undef)))) (K .ret {fr:=[(4,.bool false)],tab:=[]:St}) (K .normal {fr:=[(2,.ptr 10000 0 0 0),(3,.ptr 10001 0 0 0),(30,.int .i64 i30),(31,.int .i64 (IntKind.wrap .i64 (i31+1)))],tab:=[(10000,.var (aF aA 0 cO)),(10001,.var (aF aA 0 nC))]:St})) none) none) none)) none) none) (K (.exit 0) {fr:=[(2,.ptr 10000 0 0 0),(3,.ptr 10001 0 0 0)],tab:=[(10000,.var (aF aA 0 cO)),(10001,.var (aF aA 0 nC))]:St})):=by kernel_rfl
  dsimp only at h;exact h):=by kernel_rfl
theorem JA (i64:Int) (cO:List V) (nC:List V) (K:Ex->St->Option R):bI wG 29 10 { fr:=[(2,.ptr 10000 0 0 0),(3,.ptr 10001 0 0 0),(64,.int .i64 i64)],tab:=[(10000,.var (aF aA 0 cO)),(10001,.var (aF aA 0 nC))] } K =
 cond (aU i64 16) (cond (decide (0<=i64∧i64<(↑(16:Nat):Int))) (cond (decide (0<=i64∧i64<(↑(16:Nat):Int))) (cond (bif fH (aj.dec bC (List.getD (bG cO 3) (Int.toNat i64) [])) then fH (aj.dec bC (List.getD (bG nC 3) (Int.toNat i64) [])) else false) (cond (!N.DF (aj.dec bC (List.getD (bG cO 3) (Int.toNat i64) [])) (aj.dec bC (List.getD (bG nC 3) (Int.toNat i64) []))) (K .ret {fr:=[(4,.bool false)],tab:=[]:St}) (K .normal {fr:=[(2,.ptr 10000 0 0 0),(3,.ptr 10001 0 0 0),(64,.int .i64 (IntKind.wrap .i64 (i64+1)))],tab:=[(10000,.var (aF aA 0 cO)),(10001,.var (aF aA 0 nC))]:St})) none) none) none) (K (.exit 2) {fr:=[],tab:=[]:St}):=by kernel_rfl
theorem Xg:dM wG 29 4:=by
 refine bn rfl fun l K q h=>?_
 unfold Xe at h
 split at h
 .rename_i i30 i31 cO nC
  replace h:=cN6 h;obtain ⟨h1,h2,h3,h4,h5,h6,h⟩:=h
  have e1:=aZ h1
  have e2:=aZ h2
  subst e1 e2
  have h3:=kT h3
  have l0:(V.toRows (List.getD cO 2 .undef)).length<=1000:=aV h6
  refine dN (E:=wG) (f:=29) (id:=4) (σ:=Nat) (fun i=>{ fr:=[(2,.ptr 10000 0 0 0),(3,.ptr 10001 0 0 0),(30,.int .i64 ((V.toRows (List.getD cO 2 .undef)).length:Int)),(31,.int .i64 (i:Int))],tab:=[(10000,.var (aF aA 0 cO)),(10001,.var (aF aA 0 nC))] }) (fun i=>i<=(V.toRows (List.getD cO 2 .undef)).length) (fun i=>(V.toRows (List.getD cO 2 .undef)).length-i)
   (fun i K=>cond (N.oh (((V.toRows (List.getD cO 2 .undef)).drop i).map bf.dec) (((V.toRows (List.getD nC 2 .undef)).drop i).map bf.dec)) (K (.exit 0) { fr:=[(2,.ptr 10000 0 0 0),(3,.ptr 10001 0 0 0)],tab:=[(10000,.var (aF aA 0 cO)),(10001,.var (aF aA 0 nC))] }) (K .ret { fr:=[(4,.bool false)],tab:=[] })) (fun i hi=>?_) 0 (Nat.zero_le _) K q (by simpa only [List.drop_zero] using h)
  by_cases hl:i<(V.toRows (List.getD cO 2 .undef)).length
  .have hl2:i<(V.toRows (List.getD nC 2 .undef)).length:=by omega
   rw [lD hl,lD hl2,List.map_cons,List.map_cons,DL]
   have hq:=fun K=>Oz (V.toRows (List.getD cO 2 .undef)).length i cO nC K
   have t1:aU (i:Int) (V.toRows (List.getD cO 2 .undef)).length=true:=eF (by omega)
   have t2:decide ((0:Int)<=i∧(i:Int)<(V.toRows (List.getD cO 2 .undef)).length)=true:=decide_eq_true (by omega)
   have t4:decide ((0:Int)<=i∧(i:Int)<(V.toRows (List.getD nC 2 .undef)).length)=true:=decide_eq_true (by omega)
   have t3:IntKind.wrap .i64 ((i:Int)+1)=(i:Int)+1:=dQ (by omega) (by omega)
   have g1:qJ (bf.dec ((V.toRows (List.getD cO 2 .undef)).getD i [])).line=true:=kE h4 hl
   have g2:qJ (bf.dec ((V.toRows (List.getD nC 2 .undef)).getD i [])).line=true:=kE h5 hl2
   simp only [Int.toNat_natCast,mM] at hq
   simp only [t1,t2,t3,t4,Jq g1,cond_true] at hq
   have n:∀ (r r' : List V),(V.toStr (List.getD r 0 .undef)==V.toStr (List.getD r' 0 .undef) && (V.toInt (List.getD r 1 .undef)==V.toInt (List.getD r' 1 .undef) && (V.toInt (List.getD r 2 .undef)==V.toInt (List.getD r' 2 .undef) && (V.toStr (List.getD r 3 .undef)==V.toStr (List.getD r' 3 .undef) && true))))=N.eqQ (bf.dec r).q (bf.dec r').q:=fun r r'=>abk (bf.dec r).q (bf.dec r').q
   simp only [n] at hq
   cases hc1:N.eqQ (bf.dec ((V.toRows (List.getD cO 2 .undef)).getD i [])).q (bf.dec ((V.toRows (List.getD nC 2 .undef)).getD i [])).q with
   | false =>
    have hc:N.sameRow (bf.dec ((V.toRows (List.getD cO 2 .undef)).getD i [])) (bf.dec ((V.toRows (List.getD nC 2 .undef)).getD i []))=false:=by unfold N.sameRow; rw [hc1]; rfl
    refine .inr ⟨.ret,_,by simp,fun K=>?_,fun K=>by rw [hc]; rfl⟩
    rw [hq,hc1]; rfl
   | true =>
    cases hc2:N.sO (bf.dec ((V.toRows (List.getD cO 2 .undef)).getD i [])).line (bf.dec ((V.toRows (List.getD nC 2 .undef)).getD i [])).line with
    | false =>
     have hc:N.sameRow (bf.dec ((V.toRows (List.getD cO 2 .undef)).getD i [])) (bf.dec ((V.toRows (List.getD nC 2 .undef)).getD i []))=false:=by unfold N.sameRow; rw [hc1,hc2]; rfl
     refine .inr ⟨.ret,_,by simp,fun K=>?_,fun K=>by rw [hc]; rfl⟩
     rw [hq,hc1,hc2]; rfl
    | true =>
     have hc:N.sameRow (bf.dec ((V.toRows (List.getD cO 2 .undef)).getD i [])) (bf.dec ((V.toRows (List.getD nC 2 .undef)).getD i []))=true:=by unfold N.sameRow; rw [hc1,hc2]; rfl
     refine .inl ⟨i+1,hl,by omega,fun K=>?_,fun K=>by rw [hc]; rfl⟩
     rw [hq,hc1,hc2]; rfl
  .obtain rfl:i=(V.toRows (List.getD cO 2 .undef)).length:=by omega
   refine .inr ⟨.exit 0,{ fr:=[(2,.ptr 10000 0 0 0),(3,.ptr 10001 0 0 0)],tab:=[(10000,.var (aF aA 0 cO)),(10001,.var (aF aA 0 nC))] },by simp,fun K=>?_,fun K=>?_⟩
   .rw [Oz,gZ (Int.le_refl _)]; rfl
   .rw [List.drop_eq_nil_of_le (Nat.le_refl _),List.drop_eq_nil_of_le (by omega)]; rfl
 .cases h
theorem TS:dM wG 29 10:=by
 refine bn rfl fun l K q h=>?_
 unfold QZ at h
 split at h
 .rename_i i64 cO nC
  replace h:=RH h;obtain ⟨h1,h2,h3,h⟩:=h
  have e1:=aZ h1
  subst e1
  refine dN (E:=wG) (f:=29) (id:=10) (σ:=Nat) (fun i=>{ fr:=[(2,.ptr 10000 0 0 0),(3,.ptr 10001 0 0 0),(64,.int .i64 (i:Int))],tab:=[(10000,.var (aF aA 0 cO)),(10001,.var (aF aA 0 nC))] }) (fun i=>i<=16) (fun i=>16-i)
   (fun i K=>cond (N.xk (((bG cO 3).drop i).map bC.dec) (((bG nC 3).drop i).map bC.dec)) (K (.exit 2) { fr:=[],tab:=[] }) (K .ret { fr:=[(4,.bool false)],tab:=[] })) (fun i hi=>?_) 0 (Nat.zero_le _) K q (by assumption)
  by_cases hl:i<16
  .rw [lD (show i<(bG cO 3).length from hl),lD (show i<(bG nC 3).length from hl),List.map_cons,List.map_cons,WG]
   have hq:=fun K=>JA i cO nC K
   have t1:aU (i:Int) 16=true:=eF (by omega)
   have t2:decide ((0:Int)<=i∧(i:Int)<((16:Nat):Int))=true:=decide_eq_true (by omega)
   have t3:IntKind.wrap .i64 ((i:Int)+1)=(i:Int)+1:=dQ (by omega) (by omega)
   have g1:fH (bC.dec ((bG cO 3).getD i []))=true:=kE h2 hl
   have g2:fH (bC.dec ((bG nC 3).getD i []))=true:=kE h3 hl
   simp only [Int.toNat_natCast] at hq
   simp only [t1,t2,t3,g1,g2,cond_true] at hq
   cases hc:N.DF (bC.dec ((bG cO 3).getD i [])) (bC.dec ((bG nC 3).getD i [])) with
   | true =>
    refine .inl ⟨i+1,hl,by omega,fun K=>?_,fun K=>rfl⟩
    rw [hq,hc]
    try rfl
   | false =>
    refine .inr ⟨.ret,_,by simp,fun K=>?_,fun K=>rfl⟩
    rw [hq,hc]
    try rfl
  .obtain rfl:i=16:=by omega
   exact .inr ⟨.exit 2,{ fr:=[],tab:=[] },by simp,fun K=>JA 16 cO nC K,fun K=>rfl⟩
 .cases h
theorem adi:bH Tryz.prog 29 ahc:=by
 refine aN (aQ (((gu.nil _).cons VU).cons Y0)) (E:=wG) Tryz.func29 [4,10] (by kernel_rfl) (FH Xg TS) fun a b hp=>?_
 obtain ⟨s,t⟩:=a
 obtain ⟨h1,h2⟩:=aX (show cond (ny s) (ny t) false=true from hp)
 have hR:∀ x:aI,ny x=true->x.rises.list.all fH=true:=fun x hx=>List.all_eq_true.2 fun y hy=>(aX (List.all_eq_true.1 (aX hx).2 y hy)).1
 have g1:=hR s h1
 have g2:=hR t h2
 obtain ⟨a1,a2⟩:=aX (aX h1).1
 obtain ⟨_,a3⟩:=aX (aX h2).1
 have a1:=aV a1
 have hlen:∀ a b:List fE,a.length ≠ b.length->N.oh a b=false:=fun a=>by
  induction a with
  | nil=>intro b hb; cases b with
   | nil=>exact (hb rfl).elim
   | cons _ _=>rfl
  | cons x r ih=>intro b hb; cases b with
   | nil=>rfl
   | cons y z =>
    rw [DL,ih z (by simpa using hb)]
    cases N.sameRow x y<;>rfl
 refine (ahq s t).trans ?_
 simp only [bT,List.length_map,oL,g1,g2,a2,a3,fA (show s.rows.length<=1000 by omega),beq_self_eq_true,cond_true]
 show _=some (⟨.bool (N.NY s t),[],[]⟩:aJ)
 unfold N.NY
 cases h4:s.next==t.next with
 | false=>rw [bne,h4]; rfl
 | true =>
  cases h5:s.bytes==t.bytes with
  | false=>rw [bne,bne,h4,h5]; rfl
  | true =>
   rw [bne,bne,h4,h5]
   by_cases h6:s.rows.length=t.rows.length
   .rw [h6,bne_self_eq_false,show Nat.beq t.rows.length t.rows.length=true from Nat.beq_refl _]
    cases N.oh s.rows t.rows with
    | false=>rfl
    | true=>cases N.xk s.rises.list t.rises.list<;>rfl
   .rw [hlen _ _ h6,show ((s.rows.length:Int) != (t.rows.length:Int))=true from bne_iff_ne.2 (by omega)]; rfl
end Go.Ev

namespace Go.Ev
open Go Go.Proofs
set_option maxRecDepth 100000
-- FOLD2
theorem fk8:N.gK 8 8=true:=rfl
theorem fk1:N.gK 8 1=true:=rfl
theorem cl8:N.clamp 8=8:=rfl
theorem cl1:N.clamp 1=1:=rfl
def Xh:fK:={ fr:=[(1,.ptr 10000 0 0),(3,.str),(23,.slc yR),(24,.int .i64),(25,.int .i64)],tab:=[(10000,.row [] aA)] }
def Q5:List Leaf->(Ex->St->Option R)->Option R
 | [.s s3,.r vg,.i i24,.i i25,.c cO],K=>cond (i24==vg.length) (cond (i25==0) (cond (Nat.ble vg.length 100) (cond (Nat.ble s3.length 1000) (cond ((vg.map bf.dec).all sU) (K (.exit 0) { fr:=[(1,.ptr 10000 0 0 0),(3,.str (s3++N.kX ((vg).map bf.dec)))],tab:=[(10000,.var (aF aA 0 cO))] }) none) none) none) none) none
 | _,_=>none
def Xi:fK:={ fr:=[(1,.ptr 10000 0 0),(3,.str),(23,.slc yR),(24,.int .i64),(25,.int .i64),(57,.slc yI),(58,.int .i64),(59,.int .i64)],tab:=[(10000,.row [] aA)] }
def Q7:List Leaf->(Ex->St->Option R)->Option R
 | [.s s3,.r vg,.i i24,.i i25,.r vZ,.i i58,.i i59,.c cO],K=>cond (i58==vZ.length) (cond (i59==0) (cond (Nat.ble vZ.length 100) (cond (Nat.ble s3.length 100000000) (cond ((vZ.map ak.dec).all fun x=>N.fC x.aY) (K (.exit 2) { fr:=[(1,.ptr 10000 0 0 0),(3,.str (s3++N.lY ((vZ).map ak.dec))),(23,.slc yR vg),(24,.int .i64 i24),(25,.int .i64 i25)],tab:=[(10000,.var (aF aA 0 cO))] }) none) none) none) none) none
 | _,_=>none
def TT:fK:={ fr:=[(3,.str),(9,.int .i64),(10,.str),(80,.rowA iD),(81,.int .i64)],tab:=[] }
def OA:List Leaf->(Ex->St->Option R)->Option R
 | [.s s3,.i i9,.s s10,.c c80,.i i81],K=>cond (i81==0) (cond (i9==0) (cond (Nat.beq s10.length 0) (cond (((bG c80 0).map bC.dec).all dX) (K (.exit 4) { fr:=[(3,.str s3),(9,.int .i64 (((0,[]):Int × Bytes).1+N.jF (((bG c80 0)).map bC.dec))),(10,.str (((0,[]):Int × Bytes).2++N.ED (16-(((bG c80 0)).length:Int)) (((bG c80 0)).map bC.dec)))],tab:=[] }) none) none) none) none
 | _,_=>none
noncomputable def ou:Env:=env Tryz.prog [(104,(pG 8)),(105,F6),(106,Df),(107,Ti)] [(20,dO TT OA),(7,dO Xi Q7),(3,dO Xh Q5)] [(3,[(0,[1,3,23,24,25]),(1,[1,3]),(1000,[2])]),(7,[(0,[1,3,23,24,25,57,58,59]),(3,[1,3,23,24,25]),(1000,[2])]),(20,[(0,[3,9,10,80,81]),(5,[3,9,10]),(1000,[2])])]
theorem adk (s:aI):type_of% (by
  have h:bV ou 34 ((aT (bJ aH)).enc s) ([]) some =(
   let z0:=(List.map (aj.enc bf) s.rows);let z1:=(List.map (aj.dec bC) (lq s.rises));let z2:=(IntKind.wrap .u64 (↑(List.length z0):Int));let z3:=(IntKind.wrap .u64 (0+N.jF z1));let z4:=(List.map (aj.dec bf) z0);cond (bif bW 0 s.next then bif aU s.next 18446744073709551616 then N.gK 8 8 else false else false) (cond (bif aU z2 18446744073709551616 then N.gK 8 1 else false) (cond ((↑(List.length z0):Int)==(↑(List.length z0):Int)) (cond (Nat.ble (List.length z0) 100) (cond (List.all z4 sU) (cond (List.all z1 dX) (cond (bif bW 0 z3 then bif aU z3 18446744073709551616 then N.gK 8 1 else false else false) (cond (Nat.ble (List.length (N.bQ s.next (N.clamp 8)++N.bQ z2 (N.clamp 1)++N.kX z4)+1) 9223372036854775807) (cond (Nat.ble (List.length (N.bQ s.next (N.clamp 8)++N.bQ z2 (N.clamp 1)++N.kX z4++N.bQ z3 (N.clamp 1))+List.length ([]++N.ED (16-(↑(16:Nat):Int)) z1)) 9223372036854775807) (some {v:=.str (N.bQ s.next (N.clamp 8)++N.bQ z2 (N.clamp 1)++N.kX z4++N.bQ z3 (N.clamp 1)++([]++N.ED (16-(↑(16:Nat):Int)) z1)),bx:=[]:aJ}) none) none) none) none) none) none) none) none) none):=by kernel_rfl
  dsimp only at h;exact h):=by kernel_rfl
theorem JB (s3:Bytes) (vg:List (List V)) (i24:Int) (i25:Int) (cO:List V) (K:Ex->St->Option R):type_of% (by
  have h:bI ou 34 3 { fr:=[(1,.ptr 10000 0 0 0),(3,.str s3),(23,.slc yR vg),(24,.int .i64 i24),(25,.int .i64 i25)],tab:=[(10000,.var (aF aA 0 cO))] } K =(
   let z0:=(List.getD vg (Int.toNat i25) []);let z1:=(List.length (V.toRows (z0.getD 4 .undef)));let z2:=(V.toStr (z0.getD 0 .undef));let z3:=(V.toInt (z0.getD 1 .undef));let z4:=(V.toInt (z0.getD 2 .undef));let z5:=(V.toStr (z0.getD 3 .undef));let z6:=(List.map (aj.dec ak) (V.toRows (z0.getD 4 .undef)));let z7:=(IntKind.wrap .u64 (↑z1:Int));cond (aU i25 i24) (cond (decide (0<=i25∧i25<(↑(List.length vg):Int))) (cond (Nat.ble (List.length z2) 65535) (cond (Nat.ble (List.length s3+List.length (N.dD z2)) 9223372036854775807) (cond (bif bW 0 z3 then bif aU z3 18446744073709551616 then N.gK 8 8 else false else false) (cond (Nat.ble (List.length (s3++N.dD z2)+8) 9223372036854775807) (cond (bif bW 0 z4 then bif aU z4 18446744073709551616 then N.gK 8 8 else false else false) (cond (Nat.ble (List.length (s3++N.dD z2++N.bQ z3 (N.clamp 8))+8) 9223372036854775807) (cond (Nat.ble (List.length z5) 65535) (cond (Nat.ble (List.length (s3++N.dD z2++N.bQ z3 (N.clamp 8)++N.bQ z4 (N.clamp 8))+List.length (N.dD z5)) 9223372036854775807) (cond (bif aU z7 18446744073709551616 then N.gK 8 1 else false) (cond (Nat.ble (List.length (s3++N.dD z2++N.bQ z3 (N.clamp 8)++N.bQ z4 (N.clamp 8)++N.dD z5)+1) 9223372036854775807) (cond ((↑z1:Int)==(↑z1:Int)) (cond (Nat.ble z1 100) (cond (Nat.ble (List.length (s3++N.dD z2++N.bQ z3 (N.clamp 8)++N.bQ z4 (N.clamp 8)++N.dD z5++N.bQ z7 (N.clamp 1))) 100000000) (cond (List.all z6 fun x=>N.fC x.aY) (K .normal {fr:=[(1,.ptr 10000 0 0 0),(3,.str (s3++N.dD z2++N.bQ z3 (N.clamp 8)++N.bQ z4 (N.clamp 8)++N.dD z5++N.bQ z7 (N.clamp 1)++N.lY z6)),(23,.slc yR vg),(24,.int .i64 i24),(25,.int .i64 (IntKind.wrap .i64 (i25+1)))],tab:=[(10000,.var (aF aA 0 cO))]:St}) none) none) none) none) none) none) none) none) none) none) none) none) none) none) none) (K (.exit 0) {fr:=[(1,.ptr 10000 0 0 0),(3,.str s3)],tab:=[(10000,.var (aF aA 0 cO))]:St})):=by kernel_rfl
  dsimp only at h;exact h):=by kernel_rfl
theorem JC (s3:Bytes) (vg:List (List V)) (i24:Int) (i25:Int) (vZ:List (List V)) (i58:Int) (i59:Int) (cO:List V) (K:Ex->St->Option R):type_of% (by
  have h:bI ou 34 7 { fr:=[(1,.ptr 10000 0 0 0),(3,.str s3),(23,.slc yR vg),(24,.int .i64 i24),(25,.int .i64 i25),(57,.slc yI vZ),(58,.int .i64 i58),(59,.int .i64 i59)],tab:=[(10000,.var (aF aA 0 cO))] } K =(
   let z4:=(List.getD vZ (Int.toNat i59) []);let z0:=(aj.dec ah z4);let z1:=(Nat.ble (List.length s3+1) 9223372036854775807);let z2:=(IntKind.wrap .i64 (i59+1));let z3:=(V.toBool (z4.getD 8 .undef));cond (aU i59 i58) (cond (decide (0<=i59∧i59<(↑(List.length vZ):Int))) (cond (V.toBool (z4.getD 7 .undef)) (cond z3 (cond z1 (cond (N.O6 z0) (cond (Nat.ble (List.length (s3++N.bQ (IntKind.wrap .u64 ((1 : Int)+2)) (N.clamp 1))+List.length (N.jW z0)) 9223372036854775807) (K .normal {fr:=[(1,.ptr 10000 0 0 0),(3,.str (s3++N.bQ (IntKind.wrap .u64 ((1 : Int)+2)) (N.clamp 1)++N.jW z0)),(23,.slc yR vg),(24,.int .i64 i24),(25,.int .i64 i25),(57,.slc yI vZ),(58,.int .i64 i58),(59,.int .i64 z2)],tab:=[(10000,.var (aF aA 0 cO))]:St}) none) none) none) (cond z1 (cond (N.O6 z0) (cond (Nat.ble (List.length (s3++N.bQ 1 (N.clamp 1))+List.length (N.jW z0)) 9223372036854775807) (K .normal {fr:=[(1,.ptr 10000 0 0 0),(3,.str (s3++N.bQ 1 (N.clamp 1)++N.jW z0)),(23,.slc yR vg),(24,.int .i64 i24),(25,.int .i64 i25),(57,.slc yI vZ),(58,.int .i64 i58),(59,.int .i64 z2)],tab:=[(10000,.var (aF aA 0 cO))]:St}) none) none) none)) (cond z3 (cond z1 (cond (N.O6 z0) (cond (Nat.ble (List.length (s3++N.bQ (IntKind.wrap .u64 ((0 : Int)+2)) (N.clamp 1))+List.length (N.jW z0)) 9223372036854775807) (K .normal {fr:=[(1,.ptr 10000 0 0 0),(3,.str (s3++N.bQ (IntKind.wrap .u64 ((0 : Int)+2)) (N.clamp 1)++N.jW z0)),(23,.slc yR vg),(24,.int .i64 i24),(25,.int .i64 i25),(57,.slc yI vZ),(58,.int .i64 i58),(59,.int .i64 z2)],tab:=[(10000,.var (aF aA 0 cO))]:St}) none) none) none) (cond z1 (cond (N.O6 z0) (cond (Nat.ble (List.length (s3++N.bQ 0 (N.clamp 1))+List.length (N.jW z0)) 9223372036854775807) (K .normal {fr:=[(1,.ptr 10000 0 0 0),(3,.str (s3++N.bQ 0 (N.clamp 1)++N.jW z0)),(23,.slc yR vg),(24,.int .i64 i24),(25,.int .i64 i25),(57,.slc yI vZ),(58,.int .i64 i58),(59,.int .i64 z2)],tab:=[(10000,.var (aF aA 0 cO))]:St}) none) none) none))) none) (K (.exit 2) {fr:=[(1,.ptr 10000 0 0 0),(3,.str s3),(23,.slc yR vg),(24,.int .i64 i24),(25,.int .i64 i25)],tab:=[(10000,.var (aF aA 0 cO))]:St})):=by kernel_rfl
  dsimp only at h;exact h):=by kernel_rfl
theorem Gz (s3:Bytes) (i9:Int) (s10:Bytes) (c80:List V) (i81:Int) (K:Ex->St->Option R):bI ou 34 20 { fr:=[(3,.str s3),(9,.int .i64 i9),(10,.str s10),(80,.agg (aF iD 0 c80)),(81,.int .i64 i81)],tab:=[] } K =
 cond (aU i81 16) (cond (decide (0<=i81∧i81<(↑(16:Nat):Int))) (cond (aU 0 (V.toInt (List.getD (List.getD (bG c80 0) (Int.toNat i81) []) 0 V.undef))) (cond (bif bW 0 (IntKind.wrap .u64 i81) then bif aU (IntKind.wrap .u64 i81) 18446744073709551616 then N.gK 8 1 else false else false) (cond (Nat.ble (List.length s10+1) 9223372036854775807) (cond (dX (aj.dec bC (List.getD (bG c80 0) (Int.toNat i81) []))) (cond (Nat.ble (List.length (s10++N.bQ (IntKind.wrap .u64 i81) (N.clamp 1))+List.length (N.lW (aj.dec bC (List.getD (bG c80 0) (Int.toNat i81) [])))) 9223372036854775807) (K .normal {fr:=[(3,.str s3),(9,.int .i64 (IntKind.wrap .i64 (i9+1))),(10,.str (s10++N.bQ (IntKind.wrap .u64 i81) (N.clamp 1)++N.lW (aj.dec bC (List.getD (bG c80 0) (Int.toNat i81) [])))),(80,.agg (aF iD 0 c80)),(81,.int .i64 (IntKind.wrap .i64 (i81+1)))],tab:=[]:St}) none) none) none) none) (K .normal {fr:=[(3,.str s3),(9,.int .i64 i9),(10,.str s10),(80,.agg (aF iD 0 c80)),(81,.int .i64 (IntKind.wrap .i64 (i81+1)))],tab:=[]:St})) none) (K (.exit 4) {fr:=[(3,.str s3),(9,.int .i64 i9),(10,.str s10)],tab:=[]:St}):=by kernel_rfl
theorem TU:dM ou 34 3:=by
 refine bn rfl fun l K q h=>?_
 unfold Q5 at h
 split at h
 .rename_i s3 vg i24 i25 cO
  replace h:=EY h;obtain ⟨h1,h2,h3,h5,h6,h⟩:=h
  have e1:=aZ h1
  have e2:=aZ h2
  subst e1 e2
  have h3:vg.length<=100:=aV h3
  have h5:s3.length<=1000:=aV h5
  have main:=dH (E:=ou) (f:=34) (id:=3) (A:=Bytes) (vg) (fun a i=>{ fr:=[(1,.ptr 10000 0 0 0),(3,.str a),(23,.slc yR vg),(24,.int .i64 vg.length),(25,.int .i64 i)],tab:=[(10000,.var (aF aA 0 cO))] }) (fun a i=>a.length<=1000+160000*i)
   (fun a rows K=>K (.exit 0) { fr:=[(1,.ptr 10000 0 0 0),(3,.str (a++N.kX ((rows).map bf.dec)))],tab:=[(10000,.var (aF aA 0 cO))] }) (fun a i ha hi=>?_) (fun a ha=>?_) (s3) 0 (Int.le_refl _) (by omega) (by show s3.length<=1000+160000*0; omega) K q (by assumption)
  .exact main
  .have hq:=fun K=>JB (a) (vg) (vg.length) ((i:Int)) (cO) K
   have t1:aU (i:Int) vg.length=true:=eF (by omega)
   have t2:decide ((0:Int)<=i∧(i:Int)<vg.length)=true:=decide_eq_true (by omega)
   have t3:IntKind.wrap .i64 ((i:Int)+1)=(i:Int)+1:=dQ (by omega) (by omega)
   have hr:=BF (kE h6 hi)
   have hl:=zG hr.2.2.2
   have hbl:=Ob (kE h6 hi)
   have n0:V.toStr (List.getD (List.getD vg i []) 0 V.undef)=(bf.dec (vg.getD i [])).q.name:=rfl
   have n1:V.toInt (List.getD (List.getD vg i []) 1 V.undef)=(bf.dec (vg.getD i [])).q.most:=rfl
   have n2:V.toInt (List.getD (List.getD vg i []) 2 V.undef)=(bf.dec (vg.getD i [])).q.life:=rfl
   have n3:V.toStr (List.getD (List.getD vg i []) 3 V.undef)=(bf.dec (vg.getD i [])).q.dead:=rfl
   have n4:(V.toRows (List.getD (List.getD vg i []) 4 V.undef)).length=(bf.dec (vg.getD i [])).line.length:=(List.length_map _).symm
   have w:=jU (n:=((bf.dec (vg.getD i [])).line.length:Int)) (by omega) (by omega)
   simp only [Int.toNat_natCast,mM,bT,n0,n1,n2,n3,n4] at hq
   simp only [t1,t2,t3,cond_true,hl.2.2,w] at hq
   obtain ⟨⟨b1,b2⟩,⟨b3,b4⟩,⟨b5,b6⟩,_⟩:=hr
   obtain ⟨b7,_,_⟩:=hl
   refine .inl ⟨a++N.rowB (bf.dec (vg.getD i [])),by rw [List.length_append]; omega,fun K=>?_,fun K=>?_⟩
   .rw [hq]
    simp (disch:=omega) only [evs,fk8,fk1,cl8,cl1,dU,jP,List.length_append]
    unfold N.rowB
    simp only [List.append_assoc]
    try rfl
   .show K _ { fr:=[(1,.ptr 10000 0 0 0),(3,.str (a++(N.rowB (bf.dec (vg.getD i []))++N.kX ((vg.drop (i+1)).map bf.dec))))],tab:=[(10000,.var (aF aA 0 cO))] }=_
    rw [List.append_assoc]
  .refine ⟨.exit 0,{ fr:=[(1,.ptr 10000 0 0 0),(3,.str (a++[]))],tab:=[(10000,.var (aF aA 0 cO))] },by simp,fun K=>?_,fun K=>rfl⟩
   rw [JB,List.append_nil]
   simp (disch:=omega) only [evs]
   try rfl
 .cases h
theorem TV:dM ou 34 7:=by
 refine bn rfl fun l K q h=>?_
 unfold Q7 at h
 split at h
 .rename_i s3 vg i24 i25 vZ i58 i59 cO
  replace h:=EY h;obtain ⟨h1,h2,h3,h5,h6,h⟩:=h
  have e1:=aZ h1
  have e2:=aZ h2
  subst e1 e2
  have h3:vZ.length<=100:=aV h3
  have h5:s3.length<=100000000:=aV h5
  have main:=dH (E:=ou) (f:=34) (id:=7) (A:=Bytes) (vZ) (fun a i=>{ fr:=[(1,.ptr 10000 0 0 0),(3,.str a),(23,.slc yR vg),(24,.int .i64 i24),(25,.int .i64 i25),(57,.slc yI vZ),(58,.int .i64 vZ.length),(59,.int .i64 i)],tab:=[(10000,.var (aF aA 0 cO))] }) (fun a i=>a.length<=100000000+1571*i)
   (fun a rows K=>K (.exit 2) { fr:=[(1,.ptr 10000 0 0 0),(3,.str (a++N.lY ((rows).map ak.dec))),(23,.slc yR vg),(24,.int .i64 i24),(25,.int .i64 i25)],tab:=[(10000,.var (aF aA 0 cO))] }) (fun a i ha hi=>?_) (fun a ha=>?_) (s3) 0 (Int.le_refl _) (by omega) (by show s3.length<=100000000+1571*0; omega) K q (by assumption)
  .exact main
  .have hq:=fun K=>JC (a) (vg) (i24) (i25) (vZ) (vZ.length) ((i:Int)) (cO) K
   have t1:aU (i:Int) vZ.length=true:=eF (by omega)
   have t2:decide ((0:Int)<=i∧(i:Int)<vZ.length)=true:=decide_eq_true (by omega)
   have t3:IntKind.wrap .i64 ((i:Int)+1)=(i:Int)+1:=dQ (by omega) (by omega)
   have hs:=nI (show N.fC (ak.dec (vZ.getD i [])).aY=true from kE (p:=fun x:aO=>N.fC x.aY) h6 hi)
   have hbl:=Ir (show N.fC (ak.dec (vZ.getD i [])).aY=true from kE (p:=fun x:aO=>N.fC x.aY) h6 hi)
   have hm:ah.dec (vZ.getD i [])=(ak.dec (vZ.getD i [])).aY:=rfl
   have n7:V.toBool (List.getD (List.getD vZ i []) 7 V.undef)=(ak.dec (vZ.getD i [])).iT:=rfl
   have n8:V.toBool (List.getD (List.getD vZ i []) 8 V.undef)=(ak.dec (vZ.getD i [])).again:=rfl
   have hf:=WJ (ak.dec (vZ.getD i []))
   have hb:=rJ hs.2.1
   have hrm:=Bg hs.2.2.1 hs.2.1
   simp only [Int.toNat_natCast,hm,n7,n8] at hq
   simp only [t1,t2,t3,cond_true,hs.2.2.2,hrm] at hq
   refine .inl ⟨a++N.uX (ak.dec (vZ.getD i [])),by rw [List.length_append]; omega,fun K=>?_,fun K=>?_⟩
   .rw [hq]
    unfold N.uX N.o7
    cases (ak.dec (vZ.getD i [])).iT<;>cases (ak.dec (vZ.getD i [])).again<;>(simp (disch:=omega) only [evs,cl1,dU,List.length_append,List.append_assoc]; try rfl)
   .show K _ { fr:=[(1,.ptr 10000 0 0 0),(3,.str (a++(N.uX (ak.dec (vZ.getD i []))++N.lY ((vZ.drop (i+1)).map ak.dec)))),(23,.slc yR vg),(24,.int .i64 i24),(25,.int .i64 i25)],tab:=[(10000,.var (aF aA 0 cO))] }=_
    rw [List.append_assoc]
  .refine ⟨.exit 2,{ fr:=[(1,.ptr 10000 0 0 0),(3,.str (a++[])),(23,.slc yR vg),(24,.int .i64 i24),(25,.int .i64 i25)],tab:=[(10000,.var (aF aA 0 cO))] },by simp,fun K=>?_,fun K=>rfl⟩
   rw [JC,List.append_nil]
   simp (disch:=omega) only [evs]
   try rfl
 .cases h
theorem O9:dM ou 34 20:=by
 refine bn rfl fun l K q h=>?_
 unfold OA at h
 split at h
 .rename_i s3 i9 s10 c80 i81
  replace h:=Z4 h;obtain ⟨h1,h3,h4,h5,h⟩:=h
  have e1:=aZ h1
  have e3:=aZ h3
  have e4:=List.eq_nil_of_length_eq_zero (kT h4)
  subst e1 e3 e4
  have main:=dH (E:=ou) (f:=34) (id:=20) (A:=Int × Bytes) ((bG c80 0)) (fun a i=>{ fr:=[(3,.str s3),(9,.int .i64 a.1),(10,.str a.2),(80,.agg (aF iD 0 c80)),(81,.int .i64 i)],tab:=[] }) (fun a i=>a.2.length<=26001*i∧0<=a.1∧a.1<=i)
   (fun a rows K=>K (.exit 4) { fr:=[(3,.str s3),(9,.int .i64 (a.1+N.jF ((rows).map bC.dec))),(10,.str (a.2++N.ED (16-((rows).length:Int)) ((rows).map bC.dec)))],tab:=[] }) (fun a i ha hi=>?_) (fun a ha=>?_) (((0,[]):Int × Bytes)) 0 (Int.le_refl _) (by omega) ⟨Nat.zero_le _,Int.le_refl _,Int.le_refl _⟩ K q (by assumption)
  .exact main
  .have hq:=fun K=>Gz (s3) (a.1) (a.2) (c80) ((i:Int)) K
   have hi:i<16:=hi
   have t1:aU (i:Int) (16:Int)=true:=eF (by omega)
   have t2:decide ((0:Int)<=i∧(i:Int)<((16:Nat):Int))=true:=decide_eq_true (by omega)
   have t3:IntKind.wrap .i64 ((i:Int)+1)=(i:Int)+1:=dQ (by omega) (by omega)
   have hg:dX (bC.dec ((bG c80 0).getD i []))=true:=kE h5 hi
   have hbl:=Iu hg
   have w:=jU (n:=(i:Int)) (by omega) (by omega)
   have hle:((((bG c80 0).getD i []::(bG c80 0).drop (i+1)).length:Nat):Int)=16-i:=by
    rw [List.length_cons,List.length_drop]
    show (((16-(i+1)+1:Nat)):Int)=_
    omega
   have hle2:((((bG c80 0).drop (i+1)).length:Nat):Int)=16-(i+1):=by
    rw [List.length_drop]
    show (((16-(i+1):Nat)):Int)=_
    omega
   have n0:V.toInt (List.getD (List.getD (bG c80 0) i []) 0 V.undef)=(bC.dec ((bG c80 0).getD i [])).total:=rfl
   have ha2:IntKind.wrap .i64 (a.1+1)=a.1+1:=dQ (by omega) (by omega)
   simp only [Int.toNat_natCast,n0,w] at hq
   simp only [t1,t2,t3,cond_true,hg,ha2] at hq
   simp only [hle,hle2,List.map_cons,N.jF,N.ED,show (16:Int)-(16-i)=i from by omega,show (16:Int)-(16-(i+1))=i+1 from by omega]
   cases hc:aU 0 (bC.dec ((bG c80 0).getD i [])).total with
   | true =>
    refine .inl ⟨(a.1+1,a.2++(N.bQ i 1++N.lW (bC.dec ((bG c80 0).getD i [])))),⟨?_,by show 0<=a.1+1; omega,by show a.1+1<=((i+1:Nat):Int); omega⟩,fun K=>?_,fun K=>?_⟩
    .show (a.2++_).length<=_
     rw [List.length_append,List.length_append,dU]; omega
    .rw [hq,hc]
     simp (disch:=omega) only [evs,fk1,cl1,dU,List.length_append]
     simp only [List.append_assoc]
     try rfl
    .simp only [cond_true,Int.add_assoc,List.append_assoc]
   | false =>
    refine .inl ⟨a,⟨by omega,by omega,by omega⟩,fun K=>?_,fun K=>?_⟩
    .rw [hq,hc]
     try rfl
    .simp only [cond_false]
  .refine ⟨.exit 4,{ fr:=[(3,.str s3),(9,.int .i64 a.1),(10,.str a.2)],tab:=[] },by simp,fun K=>Gz s3 a.1 a.2 c80 16 K,fun K=>?_⟩
   show K _ { fr:=[(3,.str s3),(9,.int .i64 (a.1+0)),(10,.str (a.2++[]))],tab:=[] }=_
   rw [Int.add_zero,List.append_nil]
 .cases h
theorem Zr:bH Tryz.prog 34 Kv:=by
 refine aN (aQ (((((gu.nil _).cons Tm).cons Bd).cons (Et (rG 8))).cons (rG 8))) (E:=ou) Tryz.func34 [3,7,20] (by kernel_rfl) (aey TU TV O9) fun a b hp=>?_
 obtain ⟨h1,h2⟩:=aX (show lI a=true from hp)
 obtain ⟨h1,h3⟩:=aX h1
 obtain ⟨h4,h5⟩:=aX h2
 obtain ⟨n1,n2⟩:=Iq h5
 have h1':=aV h1
 have l1:=Iz h3
 have l2:=BI a.rises.list
 have l3:=TN 0 h4
 rw [dW.lG] at l2 l3
 have wl:IntKind.wrap .u64 (a.rows.length:Int)=a.rows.length:=jU (by omega) (by omega)
 have wm:IntKind.wrap .u64 (N.jF a.rises.list)=N.jF a.rises.list:=jU (by omega) (by omega)
 refine (adk a).trans ?_
 have e:(16:Int)-((16:Nat):Int)=0:=rfl
 simp only [bT,oL,List.length_map,wl,wm,beq_self_eq_true,h1,h3,h4,Int.zero_add,cond_true,fk8,fk1,cl8,cl1,e,List.nil_append]
 have b1:Nat.ble ((N.bQ a.next 8++N.bQ (a.rows.length:Int) 1++N.kX a.rows).length+1) 9223372036854775807=true:=fA (by simp only [List.length_append,dU]; omega)
 have b2:Nat.ble ((N.bQ a.next 8++N.bQ (a.rows.length:Int) 1++N.kX a.rows++N.bQ (N.jF a.rises.list) 1).length+(N.ED 0 a.rises.list).length) 9223372036854775807=true:=fA (by simp only [List.length_append,dU]; omega)
 rw [dY n1,eF n2,eF (show (a.rows.length:Int)<18446744073709551616 by omega),dY l2.1,eF (show N.jF a.rises.list<18446744073709551616 by omega),b1,b2]
 try rfl
end Go.Ev

namespace Go.Ev
open Go Go.Proofs
set_option maxRecDepth 100000
-- FOLD2
open Classical in
open Classical in
open Classical in
theorem Zt (s:aI):(⟨s.next,s.bytes,s.rows,⟨⟨s.rises.a0.total,s.rises.a0.kept⟩,⟨s.rises.a1.total,s.rises.a1.kept⟩,⟨s.rises.a2.total,s.rises.a2.kept⟩,⟨s.rises.a3.total,s.rises.a3.kept⟩,⟨s.rises.a4.total,s.rises.a4.kept⟩,⟨s.rises.a5.total,s.rises.a5.kept⟩,⟨s.rises.a6.total,s.rises.a6.kept⟩,⟨s.rises.a7.total,s.rises.a7.kept⟩,⟨s.rises.a8.total,s.rises.a8.kept⟩,⟨s.rises.a9.total,s.rises.a9.kept⟩,⟨s.rises.a10.total,s.rises.a10.kept⟩,⟨s.rises.a11.total,s.rises.a11.kept⟩,⟨s.rises.a12.total,s.rises.a12.kept⟩,⟨s.rises.NR.total,s.rises.NR.kept⟩,⟨s.rises.NS.total,s.rises.NS.kept⟩,⟨s.rises.NT.total,s.rises.NT.kept⟩⟩⟩:aI)=s:=rfl
end Go.Ev

namespace Go.Ev
open Go Go.Proofs
set_option maxRecDepth 100000
-- FOLD2
def N.wide (s:aI):aI:=⟨s.next,9223372036854775807,s.rows,s.rises⟩
open Classical in
noncomputable def BK (s:aI):Bool:=decide (jo (N.wide s))
open Classical in
theorem Xj {s:aI} (h:BK s=true):jo (N.wide s):=of_decide_eq_true h
open Classical in
theorem Zu {s:aI} (h:jo (N.wide s)):BK s=true:=decide_eq_true h
noncomputable def Xk:Den:=den (bg (bJ aH) (aT (jL 0))) (jr GZ) (oV (bJ aH)) (fun a _=>BK a.1) fun a i=>N.jR a.1 i
theorem JD (nx:Int):∀ (k:Nat) (i:dw) (acc:List aO),(N.dR nx k i acc).1.length<=acc.length+k
 | 0,_,_=>Nat.le_refl _
 | k+1,i,acc=>by
  unfold N.dR
  cases i.err==0 with
  | true =>
   have h:=JD nx k (N.gQ nx i).2 (acc++[(N.gQ nx i).1])
   rw [List.length_append,List.length_singleton] at h
   show (N.dR nx k (N.gQ nx i).2 (acc++[(N.gQ nx i).1])).1.length<=_
   omega
  | false=>show acc.length<=_; omega
theorem xA (nx:Int):∀ (k:Nat) (i:dw) (acc:List aO),acc.all eX=true->(N.dR nx k i acc).1.all eX=true
 | 0,_,_,h=>h
 | k+1,i,acc,h=>by
  unfold N.dR
  cases i.err==0 with
  | true=>exact xA nx k _ _ (by rw [List.all_append,h,List.all_cons,show eX (N.gQ nx i).1=true from uT _]; rfl)
  | false=>exact h
theorem kL {z:dw} {c:Int} (h:(N.bP z c).err=0):z.err=0∧c=0:=by
 by_cases hz:z.err=0
 .refine ⟨hz,Classical.byContradiction fun hc=>?_⟩
  unfold N.bP at h
  rw [hz,aao hc] at h
  exact hc h
 .exact absurd (by rw [En hz] at h; exact h) hz
theorem ahr {s:aI} {q:fV} (h:(N.iE s q).2=0):0<(N.iE s q).1.rows.length:=by
 revert h
 unfold N.iE
 cases hc:N.iW q != 0 with
 | true=>intro h; have h:N.iW q=0:=h; rw [h] at hc; cases hc
 | false =>
  cases ha:bW 0 (N.iK s q.name) with
  | true =>
   cases N.eqQ (N.kV s (N.iK s q.name)).q q with
   | true =>
    intro _
    obtain ⟨_,_,_,g4⟩:=Ip ha
    show 0<s.rows.length
    omega
   | false=>intro h; cases h
  | false =>
   cases bW 8 (s.rows.length:Int) with
   | true=>intro h; cases h
   | false =>
    intro _
    show 0<(s.rows++[_]).length
    rw [List.length_append,List.length_singleton]; omega
theorem ahs (s:aI) (q:fV):(N.iE s q).1.rows.length<=s.rows.length+1:=by
 unfold N.iE
 cases N.iW q != 0<;>cases bW 0 (N.iK s q.name)<;>cases N.eqQ (N.kV s (N.iK s q.name)).q q<;>cases bW 8 (s.rows.length:Int)<;>first | exact Nat.le_succ _ | (show (s.rows++[_]).length<=_; rw [List.length_append,List.length_singleton]; exact Nat.le_refl _)
def Xl:fK:={ fr:=[(1,.ptr 0 0 0),(2,.ptr 10000 0 0),(4,.ptr 10001 0 0),(5,.ptr 10002 0 0),(6,.own 10003),(7,.int .u64)],tab:=[(0,.var [.str,.int .i64]),(10000,.row [] aA),(10001,.row [] aA),(10002,.row [] nS),(10003,.sl yI)] }
def Q8:List Leaf->(Ex->St->Option R)->Option R
 | [.i i7,.s pU,.i l7,.c cO,.c nC,.c JE,.r Zv],K=>cond (bW 0 i7) (cond (bW i7 255) (cond (Nat.beq Zv.length 0) (K (.exit 0) { fr:=[(1,.ptr 0 0 0 0),(2,.ptr 10000 0 0 0),(4,.ptr 10001 0 0 0),(5,.ptr 10002 0 0 0),(6,.own 10003 0)],tab:=[(0,.var [.str (N.dR (aH.dec cO).next i7.toNat ⟨pU,l7⟩ []).2.s,.int .i64 (N.dR (aH.dec cO).next i7.toNat ⟨pU,l7⟩ []).2.err]),(10000,.var (aF aA 0 cO)),(10001,.var (aF aA 0 nC)),(10002,.var (aF nS 0 JE)),(10003,.sl yI ((N.dR (aH.dec cO).next i7.toNat ⟨pU,l7⟩ []).1.map ak.enc) 0)] }) none) none) none
 | _,_=>none
noncomputable def yC:Env:={ env Tryz.prog [(147,J5),(74,Sr),(75,Ee),(148,Ie),(78,FK),(149,anN),(15,aaW),(40,Y4),(11,Y7),(50,Y5)] [(5,dO Xl Q8)] [(5,[(0,[1,2,4,5,6,7]),(1,[1,2,4,5,6]),(1000,[4])])] with fz:=true }
theorem Zw (s:aI) (i:dw):type_of% (by
  have h:bV yC 76 ((bg (bJ aH) (aT (jL 0))).enc (s,())) ((jr GZ).enc i) some =(
   let z11:=(N.ay (Prod.snd (N.bM i 16)) 8);let z12:=(N.bM (Prod.snd (N.ay z11.2 8)) 16);let z5:=(Prod.fst (N.ay z12.2 1));let z0:=(N.dR s.next (Int.toNat z5) (Prod.snd (N.ay z12.2 1)) []);let z1:=(N.iE (aj.dec aH (aj.enc aH s)) {name:=Prod.fst (N.bM i 16),most:=Prod.fst z11,life:=Prod.fst (N.ay z11.2 8),dead:=Prod.fst z12:fV});let z7:=(Nat.ble (List.length (List.map (aj.dec bf) (List.map (aj.enc bf) s.rows))) 100);let z4:=(List.map (aj.dec ak) (List.map (aj.enc ak) z0.1));let z10:=(N.bP (N.bP (N.bP z0.2 (Prod.snd (N.tN [] z4))) 4) z1.2);let z9:=(aj.enc aH z1.1);let z6:=(IntKind.wrap .i64 ((↑(List.length (List.map (aj.enc bf) (aI.rows z1.1))):Int)-1));let z8:=(List.map (aj.dec ak) (List.map (aj.enc ak) (Prod.fst (N.tN [] z4))));let z2:=(cond z7 (cond (dw.err z10==0) (cond (yw (aj.dec aH z9) z6) (some {v:=.agg (aj.enc aH (N.zT (aj.dec aH z9) z6 z8)),bx:=[[V.str z10.s,.int .i64 z10.err]]:aJ}) none) (some {v:=.agg z9,bx:=[[V.str z10.s,.int .i64 z10.err]]:aJ})) none);let z3:=(N.bP (N.bP z0.2 (Prod.snd (N.tN [] z4))) z1.2);cond (bW 0 z5) (cond (bW z5 255) (cond (bif Nat.ble (List.length z4) 300 then List.all z4 eX else false) (cond (aU z11.1 (IntKind.wrap .u64 (↑(List.length z8):Int))) z2 (cond z7 (cond (bW 0 (N.iK (aj.dec aH (aj.enc aH s)) (Prod.fst (N.bM i 16)))) z2 (cond z7 (cond (dw.err z3==0) (cond (yw (aj.dec aH z9) z6) (some {v:=.agg (aj.enc aH (N.zT (aj.dec aH z9) z6 z8)),bx:=[[V.str z3.s,.int .i64 z3.err]]:aJ}) none) (some {v:=.agg z9,bx:=[[V.str z3.s,.int .i64 z3.err]]:aJ})) none)) none)) none) none) none):=by kernel_rfl
  dsimp only at h;exact h):=by kernel_rfl
theorem Xm (i7:Int) (pU:Bytes) (l7:Int) (cO:List V) (nC:List V) (JE:List V) (Zv:List (List V)) (K:Ex->St->Option R):type_of% (by
  have h:bI yC 76 5 { fr:=[(1,.ptr 0 0 0 0),(2,.ptr 10000 0 0 0),(4,.ptr 10001 0 0 0),(5,.ptr 10002 0 0 0),(6,.own 10003 0),(7,.int .u64 i7)],tab:=[(0,.var [.str pU,.int .i64 l7]),(10000,.var (aF aA 0 cO)),(10001,.var (aF aA 0 nC)),(10002,.var (aF nS 0 JE)),(10003,.sl yI Zv 0)] } K =(
   let z5:=(N.ay {s:=pU,err:=l7:dw} 1);let z4:=(N.cu z5.2);let z0:=(Zv++[[V.int .u64 (au.id z4.1),.str (au.bZ z4.1),.str (au.key z4.1),.slc yP (List.map yE (au.head z4.1)),.str (au.body z4.1),.int .u64 (au.due z4.1),.int .u8 (au.hops z4.1),.bool (Int.tmod z5.1 (2 : Int)==1),.bool (IntKind.wrap .u64 (Int.tdiv z5.1 2)==1)]]);let z6:=(decide ((List.length Zv+1)*104<=140737488355328));let z1:=(cond z6 (K .normal {fr:=[(1,.ptr 0 0 0 0),(2,.ptr 10000 0 0 0),(4,.ptr 10001 0 0 0),(5,.ptr 10002 0 0 0),(6,.own 10003 0),(7,.int .u64 (IntKind.wrap .u64 (i7-1)))],tab:=[(0,.var [V.str (dw.s (N.bP z4.2 4)),.int .i64 (dw.err (N.bP z4.2 4))]),(10000,.var (aF aA 0 cO)),(10001,.var (aF aA 0 nC)),(10002,.var (aF nS 0 JE)),(10003,.sl yI z0 0)]:St}) none);let z2:=(cond z6 (K .normal {fr:=[(1,.ptr 0 0 0 0),(2,.ptr 10000 0 0 0),(4,.ptr 10001 0 0 0),(5,.ptr 10002 0 0 0),(6,.own 10003 0),(7,.int .u64 (IntKind.wrap .u64 (i7-1)))],tab:=[(0,.var [V.str (dw.s z4.2),.int .i64 (dw.err z4.2)]),(10000,.var (aF aA 0 cO)),(10001,.var (aF aA 0 nC)),(10002,.var (aF nS 0 JE)),(10003,.sl yI z0 0)]:St}) none);let z3:=(K (.exit 0) {fr:=[(1,.ptr 0 0 0 0),(2,.ptr 10000 0 0 0),(4,.ptr 10001 0 0 0),(5,.ptr 10002 0 0 0),(6,.own 10003 0)],tab:=[(0,.var [V.str pU,.int .i64 l7]),(10000,.var (aF aA 0 cO)),(10001,.var (aF aA 0 nC)),(10002,.var (aF nS 0 JE)),(10003,.sl yI Zv 0)]:St});cond (aU 0 i7) (cond (l7==0) (cond (aU 3 z5.1) z1 (cond (V.toInt (cO.getD 0 .undef) != 0) (cond (bW (V.toInt (cO.getD 0 .undef)) (au.id z4.1)) z1 z2) z2)) z3) z3):=by kernel_rfl
  dsimp only at h;exact h):=by kernel_rfl
theorem Pg:dM yC 76 5:=by
 refine bn rfl fun l K q h=>?_
 unfold Q8 at h
 split at h
 .rename_i i7 pU l7 cO nC JE Zv
  replace h:=RH h;obtain ⟨h1,h2,h4,h⟩:=h
  have e4:=List.eq_nil_of_length_eq_zero (kT h4)
  subst e4
  have h1:=bK h1
  have h2:=bK h2
  obtain ⟨n,rfl⟩:=Int.eq_ofNat_of_zero_le h1
  have main:=dN (E:=yC) (f:=76) (id:=5) (σ:=Nat × dw × List aO) (fun x=>{ fr:=[(1,.ptr 0 0 0 0),(2,.ptr 10000 0 0 0),(4,.ptr 10001 0 0 0),(5,.ptr 10002 0 0 0),(6,.own 10003 0),(7,.int .u64 (x.1:Int))],tab:=[(0,.var [.str x.2.1.s,.int .i64 x.2.1.err]),(10000,.var (aF aA 0 cO)),(10001,.var (aF aA 0 nC)),(10002,.var (aF nS 0 JE)),(10003,.sl yI (x.2.2.map ak.enc) 0)] })
   (fun x=>x.2.2.length+x.1<=255) (fun x=>x.1) (fun x K=>K (.exit 0) { fr:=[(1,.ptr 0 0 0 0),(2,.ptr 10000 0 0 0),(4,.ptr 10001 0 0 0),(5,.ptr 10002 0 0 0),(6,.own 10003 0)],tab:=[(0,.var [.str (N.dR (aH.dec cO).next x.1 x.2.1 x.2.2).2.s,.int .i64 (N.dR (aH.dec cO).next x.1 x.2.1 x.2.2).2.err]),(10000,.var (aF aA 0 cO)),(10001,.var (aF aA 0 nC)),(10002,.var (aF nS 0 JE)),(10003,.sl yI ((N.dR (aH.dec cO).next x.1 x.2.1 x.2.2).1.map ak.enc) 0)] }) (fun x hx=>?_) (n,⟨pU,l7⟩,[]) (by show 0+n<=255; omega) K q h
  .exact main
  .obtain ⟨n,i,acc⟩:=x
   have hx:acc.length+n<=255:=hx
   have hn:=fun K=>Xm (n:Int) i.s i.err cO nC JE (acc.map ak.enc) K
   have ei:(⟨i.s,i.err⟩:dw)=i:=rfl
   have enx:V.toInt (List.getD cO 0 V.undef)=(aH.dec cO).next:=rfl
   rw [ei,enx] at hn
   cases n with
   | zero =>
    refine .inr ⟨.exit 0,{ fr:=[(1,.ptr 0 0 0 0),(2,.ptr 10000 0 0 0),(4,.ptr 10001 0 0 0),(5,.ptr 10002 0 0 0),(6,.own 10003 0)],tab:=[(0,.var [.str ((acc,i):List aO × dw).2.s,.int .i64 ((acc,i):List aO × dw).2.err]),(10000,.var (aF aA 0 cO)),(10001,.var (aF aA 0 nC)),(10002,.var (aF nS 0 JE)),(10003,.sl yI (((acc,i):List aO × dw).1.map ak.enc) 0)] },by simp,fun K=>?_,fun K=>rfl⟩
    exact hn K
   | succ k =>
    have t1:aU (0:Int) ((k+1:Nat):Int)=true:=eF (by omega)
    have t2:IntKind.wrap .u64 (((k+1:Nat):Int)-1)=(k:Int):=by rw [jU (by omega) (by omega)]; omega
    have t3:decide (((acc.map ak.enc).length+1)*104<=140737488355328)=true:=decide_eq_true (by rw [List.length_map]; omega)
    simp only [t1,t2,t3,cond_true] at hn
    have er:N.dR (aH.dec cO).next (k+1) i acc=cond (i.err==0) (N.dR (aH.dec cO).next k (N.gQ (aH.dec cO).next i).2 (acc++[(N.gQ (aH.dec cO).next i).1])) (acc,i):=rfl
    cases he:i.err==0 with
    | true =>
     refine .inl ⟨(k,(N.gQ (aH.dec cO).next i).2,acc++[(N.gQ (aH.dec cO).next i).1]),by simp only [List.length_append,List.length_singleton]; omega,by simp only; omega,fun K=>?_,fun K=>?_⟩
     .refine (hn K).trans ?_
      rw [he]
      simp only [List.map_append]
      unfold N.gQ N.wC
      cases aU 3 (N.ay i 1).1<;>cases (aH.dec cO).next != 0<;>cases bW (aH.dec cO).next (N.cu (N.ay i 1).2).1.id<;>rfl
     .simp only [er,he,cond_true]
    | false =>
     refine .inr ⟨.exit 0,{ fr:=[(1,.ptr 0 0 0 0),(2,.ptr 10000 0 0 0),(4,.ptr 10001 0 0 0),(5,.ptr 10002 0 0 0),(6,.own 10003 0)],tab:=[(0,.var [.str ((acc,i):List aO × dw).2.s,.int .i64 ((acc,i):List aO × dw).2.err]),(10000,.var (aF aA 0 cO)),(10001,.var (aF aA 0 nC)),(10002,.var (aF nS 0 JE)),(10003,.sl yI (((acc,i):List aO × dw).1.map ak.enc) 0)] },by simp,fun K=>?_,fun K=>?_⟩
     .refine (hn K).trans ?_
      rw [he]; rfl
     .simp only [er,he,cond_false]
 .cases h
theorem Xn:bH Tryz.prog 76 Xk:=by
 refine aN (aQ (((((((((((gu.nil _).cons Wx).cons Wy).cons TJ).cons TD).cons al7).cons vX).cons Jc).cons xY).cons AV).cons Ij)) (E:=yC) Tryz.func76 [5] (by kernel_rfl) (one1 Pg) fun a b hp=>?_
 obtain ⟨s,u⟩:=a
 have h:=Xj (show BK s=true from hp)
 have hfew:s.rows.length<=8:=h.few
 refine (Zw s b).trans ?_
 have hN:=tC (N.bM (N.ay (N.ay (N.bM b 16).2 8).2 8).2 16).2
 have er:N.jR s b=N.WX s ⟨(N.bM b 16).1,(N.ay (N.bM b 16).2 8).1,(N.ay (N.ay (N.bM b 16).2 8).2 8).1,(N.bM (N.ay (N.ay (N.bM b 16).2 8).2 8).2 16).1⟩
  (N.dR s.next (N.ay (N.bM (N.ay (N.ay (N.bM b 16).2 8).2 8).2 16).2 1).1.toNat (N.ay (N.bM (N.ay (N.ay (N.bM b 16).2 8).2 8).2 16).2 1).2 []):=rfl
 show _=some (⟨.agg (aH.enc (N.jR s b).1),[[.str (N.jR s b).2.s,.int .i64 (N.jR s b).2.err]],[]⟩:aJ)
 rw [er]
 have hw1:=JD s.next (N.ay (N.bM (N.ay (N.ay (N.bM b 16).2 8).2 8).2 16).2 1).1.toNat (N.ay (N.bM (N.ay (N.ay (N.bM b 16).2 8).2 8).2 16).2 1).2 []
 have hw2:=xA s.next (N.ay (N.bM (N.ay (N.ay (N.bM b 16).2 8).2 8).2 16).2 1).1.toNat (N.ay (N.bM (N.ay (N.ay (N.bM b 16).2 8).2 8).2 16).2 1).2 [] rfl
 generalize N.bM b 16=x1 at *
 generalize N.ay x1.2 8=x2 at *
 generalize N.ay x2.2 8=x3 at *
 generalize N.bM x3.2 16=x4 at *
 generalize N.ay x4.2 1=x5 at *
 generalize N.dR s.next x5.1.toNat x5.2 []=w at *
 rw [dY hN.1,dY (show x5.1<=255 by omega)]
 have hl:=(Gl w.1 [] NI hw2).few
 have hw3:Nat.ble w.1.length 300=true:=fA (by simp only [List.length_nil] at hw1; omega)
 simp only [aH.de,bT,hw3,hw2,cond_true,Zt]
 unfold N.WX
 generalize N.tN [] w.1=l at *
 have wl:IntKind.wrap .u64 ((l.1.length:Nat):Int)=l.1.length:=jU (by omega) (by omega)
 have g1:Nat.ble s.rows.length 100=true:=fA (by omega)
 simp only [wl,g1,List.length_map,cond_true]
 generalize hq:(⟨x1.1,x2.1,x3.1,x4.1⟩:fV)=q at *
 have q1:q.most=x2.1:=by rw [<- hq]
 have q2:q.name=x1.1:=by rw [<- hq]
 rw [<- q1,<- q2]
 have fin:∀ z:dw,cond ((N.bP z (N.iE s q).2).err==0) (cond (yw (N.iE s q).1 (IntKind.wrap .i64 (((N.iE s q).1.rows.length:Nat)-1)))
   (some (⟨.agg (aH.enc (N.zT (N.iE s q).1 (IntKind.wrap .i64 (((N.iE s q).1.rows.length:Nat)-1)) l.1)),[[.str (N.bP z (N.iE s q).2).s,.int .i64 (N.bP z (N.iE s q).2).err]],[]⟩:aJ)) none)
   (some (⟨.agg (aH.enc (N.iE s q).1),[[.str (N.bP z (N.iE s q).2).s,.int .i64 (N.bP z (N.iE s q).2).err]],[]⟩:aJ)) =
   some (⟨.agg (aH.enc (N.wE s q l.1 z).1),[[.str (N.wE s q l.1 z).2.s,.int .i64 (N.wE s q l.1 z).2.err]],[]⟩:aJ):=fun z=>by
  unfold N.wE
  cases hc:(N.bP z (N.iE s q).2).err==0 with
  | false=>rfl
  | true =>
   have hm:=ahr (kL (aZ hc)).2
   have hm2:(N.iE s q).1.rows.length<=9:=by
    have:=ahs s q
    omega
   rw [dQ (by omega) (by omega)]
   have gw:yw (N.iE s q).1 (((N.iE s q).1.rows.length:Nat)-1)=true:=by
    unfold yw qK
    rw [fA (by omega),dY (by omega),eF (by omega)]; rfl
   rw [gw]; rfl
 unfold N.rQ
 cases aU q.most (l.1.length:Int) with
 | true=>exact fin _
 | false=>cases bW 0 (N.iK s q.name)<;>exact fin _
end Go.Ev

namespace Go.Ev
open Go Go.Proofs
set_option maxRecDepth 100000
theorem abt {i:dw} (h:(N.cu i).2.err=0):N.fC (N.cu i).1=true:=by
 refine V3 (DI i) ?_
 revert h
 unfold N.cu
 simp only
 unfold N.zl
 generalize (⟨_,_,_,_,_,_,_⟩:au)=m
 generalize (N.ay (N.ay _ 8).2 1).2=j
 intro h
 by_cases hj:j.err=0
 .rw [hj] at h ⊢
  have h:(cond ((N.bP j (N.aP m)).err != 0) (kY,N.bP j (N.aP m)) (m,N.bP j (N.aP m)):au × dw).2.err=0:=h
  have h0:(N.bP j (N.aP m)).err=0:=by
   cases hc:(N.bP j (N.aP m)).err != 0 with
   | true=>rw [hc] at h; exact h
   | false=>simpa using hc
  show N.aP (cond ((N.bP j (N.aP m)).err != 0) (kY,N.bP j (N.aP m)) (m,N.bP j (N.aP m)):au × dw).1=0
  rw [I8 h0]
  exact (kL h0).2
 .rw [I7 hj,cond_false,aao hj] at h
  exact absurd h hj
theorem akz:∀ (k:Nat) (i:dw) (acc:List au),acc.all N.fC=true->(N.dI k i acc).2.err=0->(N.dI k i acc).1.all N.fC=true
 | 0,_,_,h,_=>h
 | k+1,i,acc,h,he=>by
  have e:N.dI (k+1) i acc=cond (i.err==0) (N.dI k (N.cu i).2 (acc++[(N.cu i).1])) (acc,i):=rfl
  rw [e] at he ⊢
  cases hc:i.err==0 with
  | false=>exact h
  | true =>
   rw [hc] at he
   have he:(N.dI k (N.cu i).2 (acc++[(N.cu i).1])).2.err=0:=he
   have hm:(N.cu i).2.err=0:=Classical.byContradiction fun hn=>YP k _ _ hn he
   exact akz k _ _ (by rw [List.all_append,h,List.all_cons,abt hm]; rfl) he
theorem TW (i:dw):dX (N.dZ i).1=true∧N.Gx (N.dZ i).1=true:=by
 have hN:=tC (N.ay i 8).2
 have hT:=Il i
 have hN:0<=(N.zD i).1∧(N.zD i).1<256:=hN
 have hs:=afR uT (N.zD i).1.toNat (N.JM i) [] rfl
 have hl:=afQ (N.zD i).1.toNat (N.JM i) []
 have he:=YP (N.zD i).1.toNat (N.JM i) []
 have hk:=akz (N.zD i).1.toNat (N.JM i) [] rfl
 show dX (N.rrE (N.ay i 8).1 (N.dI (N.zD i).1.toNat (N.JM i) [])).1=true∧N.Gx (N.rrE (N.ay i 8).1 (N.dI (N.zD i).1.toNat (N.JM i) [])).1=true
 unfold N.rrE
 cases hc:(N.dI (N.zD i).1.toNat (N.JM i) []).2.err != 0 with
 | true=>exact ⟨rfl,rfl⟩
 | false =>
  have hz:(N.dI (N.zD i).1.toNat (N.JM i) []).2.err=0:=by simpa using hc
  have hl:=hl hz
  have hk:=hk hz
  have hi:(N.JM i).err=0:=Classical.byContradiction fun e=>he e hz
  have hlen:(N.zD i).1<=16∧(N.zD i).1=cond (aU 16 (N.ay i 8).1) 16 (N.ay i 8).1:=by
   revert hi
   unfold N.JM
   cases h0:(N.zD i).2.err != 0 with
   | true =>
    intro hi
    rw [show (N.zD i).2.err=0 from hi] at h0
    cases h0
   | false =>
    cases h1:aU 16 (N.zD i).1 with
    | true=>intro hi; exact absurd (kL hi).2 (by decide)
    | false =>
     have h1:=dP h1
     cases h2:(N.zD i).1 != cond (aU 16 (N.ay i 8).1) 16 (N.ay i 8).1 with
     | true=>intro hi; exact absurd (kL hi).2 (by decide)
     | false=>exact fun _=>⟨h1,by simpa using h2⟩
  simp only [List.length_nil,Nat.zero_add] at hl
  have h16:(N.dI (N.zD i).1.toNat (N.JM i) []).1.length<=16:=by omega
  refine ⟨?_,?_⟩
  .show cond (cond (cond (bW 0 (N.ay i 8).1) (bW (N.ay i 8).1 18446744073709551615) false) (cond (Nat.ble (N.dI (N.zD i).1.toNat (N.JM i) []).1.length 16) ((N.dI (N.zD i).1.toNat (N.JM i) []).1.all iQ) false) false) ((N.dI (N.zD i).1.toNat (N.JM i) []).1.all N.fC) false=true
   rw [hs,hk,dY hT.1,dY (by omega),fA h16]; rfl
  .show (((N.dI (N.zD i).1.toNat (N.JM i) []).1.length:Nat):Int)==cond (aU 16 (N.ay i 8).1) 16 (N.ay i 8).1
   rw [<- hlen.2,hl]
   exact aan (by omega)
theorem Q9 {nx:Int} {i:dw} (h:(N.gQ nx i).2.err=0):N.fC (N.gQ nx i).1.aY=true∧(nx=0∨(N.gQ nx i).1.aY.id<nx)∧N.wC nx (N.ay i 1).1 (N.cu (N.ay i 1).2).1=false:=by
 unfold N.gQ at h ⊢
 cases hb:N.wC nx (N.ay i 1).1 (N.cu (N.ay i 1).2).1 with
 | true=>rw [hb] at h; exact absurd (kL h).2 (by decide)
 | false =>
  rw [hb] at h
  refine ⟨abt h,?_,rfl⟩
  unfold N.wC at hb
  cases h3:aU 3 (N.ay i 1).1 with
  | true=>rw [h3] at hb; cases hb
  | false =>
   rw [h3,cond_false] at hb
   cases hn:nx != 0 with
   | false=>exact .inl (by simpa using hn)
   | true=>rw [hn] at hb; exact .inr (nP hb)
theorem EG (nx:Int):∀ (k:Nat) (i:dw) (acc:List aO),i.err ≠ 0->(N.dR nx k i acc).2.err ≠ 0
 | 0,_,_,h=>h
 | k+1,i,acc,h=>by
  unfold N.dR
  rw [I7 h]; exact h
theorem Xo (nx:Int):∀ (k:Nat) (i:dw) (acc:List aO),(∀ x∈acc,N.fC x.aY=true∧(nx=0∨x.aY.id<nx))->(N.dR nx k i acc).2.err=0 ->
  ∀ x∈(N.dR nx k i acc).1,N.fC x.aY=true∧(nx=0∨x.aY.id<nx)
 | 0,_,_,h,_=>h
 | k+1,i,acc,h,he=>by
  have e:N.dR nx (k+1) i acc=cond (i.err==0) (N.dR nx k (N.gQ nx i).2 (acc++[(N.gQ nx i).1])) (acc,i):=rfl
  rw [e] at he ⊢
  cases hc:i.err==0 with
  | false=>exact h
  | true =>
   rw [hc] at he
   have he:(N.dR nx k (N.gQ nx i).2 (acc++[(N.gQ nx i).1])).2.err=0:=he
   have hm:(N.gQ nx i).2.err=0:=Classical.byContradiction fun hn=>EG nx k _ _ hn he
   have h1:=Q9 hm
   exact Xo nx k _ _ (fun x hx=>by
    rcases List.mem_append.1 hx with hx | hx
    .exact h x hx
    .rw [List.mem_singleton.1 hx]; exact ⟨h1.1,h1.2.1⟩) he
theorem Xp {n:Int} {rows:List fE} {rs:dW aG} (hf:rows.length<=8) (hr:∀ x∈rows,BG n x) (hk:rs.list.all dX=true):N.eU rows+N.jm rs.list<=60000000:=by
 have h1:=sS rows (List.all_eq_true.2 fun x hx=>(Og (Oo (hr x hx).line (hr x hx).fine):oK x=true))
 have h2:=uq rs.list (List.all_eq_true.2 fun x hx=>(aX (List.all_eq_true.1 hk x hx)).1)
 rw [dW.lG] at h2
 omega
theorem TY {n b:Int} {rows:List fE} {rs:dW aG} (h0:0<=n) (h1:n<18446744073709551616) (hf:rows.length<=8) (hr:∀ x∈rows,BG n x) (hn:(rows.map fun x=>x.q.name).Nodup) (hk:rs.list.all dX=true) :
  jo (N.wide ⟨n,b,rows,rs⟩) :=
 ⟨h0,h1,show (0:Int)<=9223372036854775807 by omega,Int.le_refl _,hf,hr,hn,hk,Int.le_trans (Xp hf hr hk) (show (60000000:Int)<=9223372036854775807 by decide)⟩
theorem adl (s:aI) (q:fV):N.wide (N.iE s q).1=(N.iE (N.wide s) q).1:=by
 unfold N.iE
 have ea:N.iK (N.wide s) q.name=N.iK s q.name:=rfl
 have eb:N.kV (N.wide s) (N.iK s q.name)=N.kV s (N.iK s q.name):=rfl
 rw [ea,eb]
 cases N.iW q != 0<;>cases bW 0 (N.iK s q.name)<;>cases N.eqQ (N.kV s (N.iK s q.name)).q q<;>cases h:bW 8 (s.rows.length:Int)<;>(try (have h' : bW 8 ((N.wide s).rows.length:Int)=_:=h; rw [h']))<;>rfl
theorem adn {s:aI} {q:fV} (hn:N.iK s q.name<0) (h:(N.iE s q).2=0):N.iW q=0∧s.rows.length<8:=by
 revert h
 unfold N.iE
 cases hc:N.iW q != 0 with
 | true=>intro h; have h:N.iW q=0:=h; rw [h] at hc; cases hc
 | false =>
  rw [zS hn]
  cases h8:bW 8 (s.rows.length:Int) with
  | true=>intro h; cases h
  | false=>exact fun _=>⟨by simpa using hc,by have:=nP h8; omega⟩
theorem Xq (i:dw):N.u64 (N.ay i 8).1=true:=by
 have h:=Il i
 unfold N.u64
 rw [dY h.1,eF h.2]; rfl
theorem Xr {s:aI} {q:fV} {l:List aO × Int} {i:dw} (he:(N.wE s q l.1 (N.rQ s q l i)).2.err=0) :
  i.err=0∧l.2=0∧(l.1.length:Int)<=q.most∧N.iK s q.name<0∧N.iW q=0∧s.rows.length<8∧N.wE s q l.1 (N.rQ s q l i)=(⟨s.next,s.bytes,s.rows++[⟨q,l.1⟩],s.rises⟩,i):=by
 have h1:=kL (show (N.bP (N.rQ s q l i) (N.iE s q).2).err=0 from he)
 have h2:cond (aU q.most l.1.length) true (bW 0 (N.iK s q.name))=false:=by
  cases hc:cond (aU q.most l.1.length) true (bW 0 (N.iK s q.name)) with
  | false=>rfl
  | true =>
   have h3:=h1.1
   unfold N.rQ at h3
   rw [hc] at h3
   exact absurd (kL h3).2 (by decide)
 have h3:N.rQ s q l i=N.bP i l.2:=by unfold N.rQ; rw [h2]; rfl
 rw [h3] at h1
 have h4:=kL h1.1
 have ha:aU q.most (l.1.length:Int)=false:=by
  cases hc:aU q.most (l.1.length:Int) with
  | false=>rfl
  | true=>rw [hc] at h2; cases h2
 rw [ha,cond_false] at h2
 have hn:=nP h2
 obtain ⟨hq,hf⟩:=adn hn h1.2
 have hi:N.bP i 0=i:=by unfold N.bP; rw [h4.1]; rfl
 refine ⟨h4.1,h4.2,dP ha,hn,hq,hf,?_⟩
 unfold N.wE
 rw [h3,h4.2,hi,QV hq hn hf,hi,h4.1]
 show (N.zT ⟨s.next,s.bytes,s.rows++[⟨q,[]⟩],s.rises⟩ (((s.rows++[(⟨q,[]⟩:fE)]).length:Nat)-1) l.1,i)=_
 have ek:((((s.rows++[(⟨q,[]⟩:fE)]).length:Nat):Int)-1).toNat=s.rows.length:=by
  rw [List.length_append,List.length_singleton]; omega
 show ((⟨s.next,s.bytes,(s.rows++[(⟨q,[]⟩:fE)]).set ((((s.rows++[(⟨q,[]⟩:fE)]).length:Nat):Int)-1).toNat ⟨((s.rows++[(⟨q,[]⟩:fE)]).getD ((((s.rows++[(⟨q,[]⟩:fE)]).length:Nat):Int)-1).toNat row0).q,l.1⟩,s.rises⟩:aI),i)=_
 rw [ek,List.set_append_right _ _ (Nat.le_refl _),Nat.sub_self,List.getD_eq_getElem?_getD,List.getElem?_append_right (Nat.le_refl _),Nat.sub_self]
 try rfl
theorem OB:∀ (r acc:List aO),(N.tN acc r).2=0->(∀ x∈r,N.aP x.aY=0)
 | [],_,_=>fun _ hx=>by cases hx
 | x::r,acc,h=>by
  unfold N.tN at h
  cases hc:(N.kU acc x).2 != 0 with
  | true=>rw [hc] at h; have h:(N.kU acc x).2=0:=h; rw [h] at hc; cases hc
  | false =>
   rw [hc] at h
   have h0:(N.kU acc x).2=0:=by simpa using hc
   have hk:N.aP x.aY=0:=by
    unfold N.kU at h0
    cases hd:N.mX acc x.aY != 0 with
    | true=>rw [hd] at h0; have h0:N.mX acc x.aY=0:=h0; rw [h0] at hd; cases hd
    | false=>exact (Jl (by simpa using hd)).1
   intro y hy
   rcases List.mem_cons.1 hy with rfl | hy
   .exact hk
   .exact OB r _ h y hy
theorem OC {s:aI} (h:jo (N.wide s)) (i:dw):jo (N.wide (N.jR s i).1):=by
 show jo (N.wide (N.wE s (N.yH i).1 (N.tN [] (N.dR s.next (N.ay (N.yH i).2 1).1.toNat (N.ay (N.yH i).2 1).2 []).1).1
  (N.rQ s (N.yH i).1 (N.tN [] (N.dR s.next (N.ay (N.yH i).2 1).1.toNat (N.ay (N.yH i).2 1).2 []).1) (N.dR s.next (N.ay (N.yH i).2 1).1.toNat (N.ay (N.yH i).2 1).2 []).2)).1)
 have akA:N.u64 (N.yH i).1.life=true:=Xq _
 have hsm:=xA s.next (N.ay (N.yH i).2 1).1.toNat (N.ay (N.yH i).2 1).2 [] rfl
 have hok:=Xo s.next (N.ay (N.yH i).2 1).1.toNat (N.ay (N.yH i).2 1).2 [] (fun _ hx=>by cases hx)
 generalize N.dR s.next (N.ay (N.yH i).2 1).1.toNat (N.ay (N.yH i).2 1).2 []=w at *
 generalize (N.yH i).1=q at *
 by_cases he:(N.wE s q (N.tN [] w.1).1 (N.rQ s q (N.tN [] w.1) w.2)).2.err=0
 .obtain ⟨e1,e2,e3,e4,e5,e6,e7⟩:=Xr he
  rw [e7]
  have hl:(N.tN [] w.1).1=w.1:=by rw [Tv w.1 [] e2,List.nil_append]
  have hok:=hok e1
  have anW:allM N.fC (N.tN [] w.1).1=true:=by
   rw [hl]
   exact List.all_eq_true.2 fun x hx=>(hok x hx).1
  have hlow:s.next=0∨∀ y∈(N.tN [] w.1).1,y.aY.id<s.next:=by
   rw [hl]
   by_cases hz:s.next=0
   .exact .inl hz
   .exact .inr fun y hy=>((hok y hy).2.resolve_left hz)
  have hrow:BG s.next ⟨q,(N.tN [] w.1).1⟩:=⟨Gl w.1 [] NI hsm,anW,e3,e5,akA,hlow⟩
  refine TY h.BH h.DN (by rw [List.length_append,List.length_singleton]; omega) (fun x hx=>?_) ?_ h.rise
  .rcases List.mem_append.1 hx with hx | hx
   .exact h.row x hx
   .rw [List.mem_singleton.1 hx]; exact hrow
  .rw [List.map_append,List.nodup_append]
   refine ⟨h.names,by simp,fun a ha b hb=>?_⟩
   rw [List.mem_singleton.1 (show b∈[q.name] from hb)]
   intro e
   obtain ⟨x,hx,rfl⟩:=List.mem_map.1 ha
   exact abq (zS e4) x hx e
 .have he:((N.bP (N.rQ s q (N.tN [] w.1) w.2) (N.iE s q).2).err==0)=false:=I7 he
  unfold N.wE
  rw [he,cond_false,adl]
  exact ahi h akA
theorem BL:∀ (k:Nat) {s:aI} (i:dw),jo (N.wide s)->jo (N.wide (N.eY k s i).1)
 | 0,_,_,h=>h
 | k+1,s,i,h=>by
  unfold N.eY
  cases i.err==0 with
  | true=>exact BL k _ (OC h i)
  | false=>exact h
theorem Dl {p:aG->Bool} {a:dW aG} (h:a.list.all p=true) {x:aG} (hx:p x=true) (k:Nat):(a.set k x).list.all p=true:=by
 rw [dW.NU,List.all_eq_true]
 intro y hy
 rcases List.mem_or_eq_of_mem_set hy with hy | hy
 .exact List.all_eq_true.1 h y hy
 .rw [hy]; exact hx
theorem GH {s:aI} (h:jo (N.wide s)) (p:Int) (i:dw):jo (N.wide (N.zI s p (N.dZ i).1)) :=
 TY h.BH h.DN h.few h.row h.names (Dl h.rise (TW i).1 _)
theorem GI:∀ (k:Nat) {s:aI} (i:dw),jo (N.wide s)->jo (N.wide (N.eG k s i).1)
 | 0,_,_,h=>h
 | k+1,s,i,h=>by
  unfold N.eG
  cases i.err==0 with
  | true =>
   cases bW 16 (N.ay i 1).1 with
   | true=>exact h
   | false=>exact GI k _ (GH h _ _)
  | false=>exact h
theorem Xt (s:aI) (i:dw):(N.jR s i).1.rises=s.rises∧(N.jR s i).1.bytes=s.bytes∧(N.jR s i).1.next=s.next:=by
 have hm:∀ q,(N.iE s q).1.rises=s.rises∧(N.iE s q).1.bytes=s.bytes∧(N.iE s q).1.next=s.next:=fun q=>by
  unfold N.iE
  cases N.iW q != 0<;>cases bW 0 (N.iK s q.name)<;>cases N.eqQ (N.kV s (N.iK s q.name)).q q<;>cases bW 8 (s.rows.length:Int)<;>exact ⟨rfl,rfl,rfl⟩
 unfold N.jR N.WX N.wE
 cases (N.bP _ _).err==0<;>exact hm _
theorem GK:∀ (k:Nat) (s:aI) (i:dw),(N.eY k s i).1.rises=s.rises∧(N.eY k s i).1.bytes=s.bytes∧(N.eY k s i).1.next=s.next
 | 0,_,_=>⟨rfl,rfl,rfl⟩
 | k+1,s,i=>by
  unfold N.eY
  cases i.err==0 with
  | true =>
   have h1:=Xt s i
   have h2:=GK k (N.jR s i).1 (N.jR s i).2
   exact ⟨h2.1.trans h1.1,h2.2.1.trans h1.2.1,h2.2.2.trans h1.2.2⟩
  | false=>exact ⟨rfl,rfl,rfl⟩
theorem GL:∀ (k:Nat) (s:aI) (i:dw),N.Jv s=true->N.Jv (N.eG k s i).1=true∧(N.eG k s i).1.bytes=s.bytes
 | 0,_,_,h=>⟨h,rfl⟩
 | k+1,s,i,h=>by
  unfold N.eG
  cases i.err==0 with
  | true =>
   cases bW 16 (N.ay i 1).1 with
   | true=>exact ⟨h,rfl⟩
   | false=>exact GL k _ _ (Dl h (TW _).2 _)
  | false=>exact ⟨h,rfl⟩
theorem Xu {n:Int} (h0:0<=n) (h1:n<18446744073709551616) (b:Int):jo (N.wide (N.sNew n b)) :=
 TY h0 h1 (Nat.zero_le _) (fun _ hx=>by cases hx) List.nodup_nil rfl
theorem GN (t:Bytes) (b:Int):jo (N.wide (N.iF t b).1):=by
 have h:=Il ⟨t,0⟩
 exact GI _ _ (BL _ _ (Xu h.1 h.2 b))
theorem GR (t:Bytes) (b:Int):N.Jv (N.iF t b).1=true∧(N.iF t b).1.bytes=cond (aU 0 b) b 0:=by
 have h1:=GK (N.ay (N.ay ⟨t,0⟩ 8).2 1).1.toNat (N.sNew (N.ay ⟨t,0⟩ 8).1 b) (N.ay (N.ay ⟨t,0⟩ 8).2 1).2
 have h2:N.Jv (N.eY (N.ay (N.ay ⟨t,0⟩ 8).2 1).1.toNat (N.sNew (N.ay ⟨t,0⟩ 8).1 b) (N.ay (N.ay ⟨t,0⟩ 8).2 1).2).1=true:=by
  unfold N.Jv
  rw [h1.1]; rfl
 have h3:=GL (N.ay (N.eY (N.ay (N.ay ⟨t,0⟩ 8).2 1).1.toNat (N.sNew (N.ay ⟨t,0⟩ 8).1 b) (N.ay (N.ay ⟨t,0⟩ 8).2 1).2).2 1).1.toNat _ (N.ay (N.eY (N.ay (N.ay ⟨t,0⟩ 8).2 1).1.toNat (N.sNew (N.ay ⟨t,0⟩ 8).1 b) (N.ay (N.ay ⟨t,0⟩ 8).2 1).2).2 1).2 h2
 exact ⟨h3.1,h3.2.trans h1.2.1⟩
theorem aht {s:aI} (h:jo (N.wide s)) (h0:0<=s.bytes) (h1:s.bytes<=9223372036854775807) (hz:0<=N.og s):jo s :=
 ⟨h.BH,h.DN,h0,h1,h.few,h.row,h.names,h.rise,Int.sub_nonneg.1 hz⟩
theorem Ua {t:Bytes} {b:Int} (hb:b<=9223372036854775807) (h:(N.ig t b).2=0) :
  jo (N.ig t b).1∧N.Jv (N.ig t b).1=true∧(N.ig t b).1.bytes=cond (aU 0 b) b 0∧N.nM (N.ig t b).1=t∧N.yB (N.iF t b).2=0∧N.ig t b=((N.iF t b).1,0):=by
 have hf:=GR t b
 have hb0:0<=cond (aU 0 b) b 0∧cond (aU 0 b) b 0<=9223372036854775807:=by
  cases hc:aU 0 b with
  | true=>have:=jv hc; exact ⟨by show 0<=b; omega,hb⟩
  | false=>exact ⟨Int.le_refl 0,show (0:Int)<=9223372036854775807 by omega⟩
 have e:N.ig t b=((N.iF t b).1,0)∧N.yB (N.iF t b).2=0∧0<=N.og (N.iF t b).1∧N.nM (N.iF t b).1=t:=by
  revert h
  unfold N.ig
  cases h1:N.yB (N.iF t b).2 != 0 with
  | true=>intro h; cases h
  | false =>
   cases h2:aU (N.og (N.iF t b).1) 0 with
   | true=>intro h; cases h
   | false =>
    cases h3:N.nM (N.iF t b).1==t with
    | false=>intro h; cases h
    | true=>exact fun _=>⟨rfl,by simpa using h1,dP h2,beq_iff_eq.1 h3⟩
 rw [e.1]
 exact ⟨aht (GN t b) (by rw [hf.2]; exact hb0.1) (by rw [hf.2]; exact hb0.2) e.2.2.1,hf.1,hf.2,e.2.2.2,e.2.1,rfl⟩
end Go.Ev

namespace Go.Ev
open Go Go.Proofs
set_option maxRecDepth 100000
-- FOLD2
open Classical in
noncomputable def uH (c:List V):Bool:=decide (∃ s:aI,jo (N.wide s)∧aH.enc s=aF aA 0 c)
open Classical in
theorem GU {c:List V} (h:uH c=true):∃ s:aI,jo (N.wide s)∧aH.enc s=aF aA 0 c:=of_decide_eq_true h
open Classical in
theorem JF {s:aI} (h:jo (N.wide s)):uH (aH.enc s)=true:=decide_eq_true ⟨s,h,rfl⟩
def anX:Den:=den (bg gy (aT (dA .i64))) dV (vF (bg (bJ aH) (aT (dA .i64)))) (fun a _=>bW a.2 9223372036854775807) fun a _=>(N.ig a.1 a.2,())
def ajA:fK:={ fr:=[(0,.str),(4,.ptr 10000 0 0),(6,.ptr 10001 0 0),(7,.ptr 10002 0 0),(8,.int .u64)],tab:=[(10000,.row [] aA),(10001,.var [.str,.int .i64]),(10002,.row [] aA)] }
noncomputable def akB:List Leaf->(Ex->St->Option R)->Option R
 | [.s s0,.i i8,.c cO,.s qL,.i nT,.c JE],K=>cond (bW 0 i8) (cond (bW i8 255) (cond (uH JE) (K (.exit 0) { fr:=[(0,.str s0),(4,.ptr 10000 0 0 0),(6,.ptr 10001 0 0 0),(7,.ptr 10002 0 0 0)],tab:=[(10000,.var (aF aA 0 cO)),(10001,.var [.str (N.eY i8.toNat (aH.dec JE) ⟨qL,nT⟩).2.s,.int .i64 (N.eY i8.toNat (aH.dec JE) ⟨qL,nT⟩).2.err]),(10002,.var (aH.enc (N.eY i8.toNat (aH.dec JE) ⟨qL,nT⟩).1))] }) none) none) none
 | _,_=>none
def ajB:fK:={ fr:=[(0,.str),(4,.ptr 10000 0 0),(6,.ptr 10001 0 0),(7,.ptr 10002 0 0),(9,.int .u64)],tab:=[(10000,.row [] aA),(10001,.var [.str,.int .i64]),(10002,.row [] aA)] }
noncomputable def akC:List Leaf->(Ex->St->Option R)->Option R
 | [.s s0,.i i9,.c cO,.s qL,.i nT,.c JE],K=>cond (bW 0 i9) (cond (bW i9 255) (cond (uH JE) (K (.exit 2) { fr:=[(0,.str s0),(4,.ptr 10000 0 0 0),(6,.ptr 10001 0 0 0),(7,.ptr 10002 0 0 0)],tab:=[(10000,.var (aF aA 0 cO)),(10001,.var [.str (N.eG i9.toNat (aH.dec JE) ⟨qL,nT⟩).2.s,.int .i64 (N.eG i9.toNat (aH.dec JE) ⟨qL,nT⟩).2.err]),(10002,.var (aH.enc (N.eG i9.toNat (aH.dec JE) ⟨qL,nT⟩).1))] }) none) none) none
 | _,_=>none
noncomputable def Ph:Env:={ env Tryz.prog [(73,dNew),(74,Sr),(10,agP),(75,Ee),(76,Xk),(77,Qz),(78,FK),(79,aeG),(20,TL),(33,Kv)] [(8,dO ajB akC),(4,dO ajA akB)] [(4,[(0,[0,4,6,7,8]),(1,[0,4,6,7]),(1000,[4,5])]),(8,[(0,[0,4,6,7,9]),(3,[0,4,6,7]),(1000,[4,5])])] with fz:=true }
theorem anY (t:Bytes) (b:Int):type_of% (by
  have h:bV Ph 27 ((bg gy (aT (dA .i64))).enc (t,b)) ([]) some =(
   let z4:=(N.ay {s:=t,err:=0:dw} 8);let z5:=(N.ay z4.2 1);let z0:=(N.eY (Int.toNat z5.1) (aj.dec aH (aj.enc aH (N.sNew z4.1 b))) z5.2);let z1:=(some {v:=.jc [V.agg [V.int .u64 0,.int .i64 0,.slc yR [],.int .u64 0,.slc yM [],.int .u64 0,.slc yM [],.int .u64 0,.slc yM [],.int .u64 0,.slc yM [],.int .u64 0,.slc yM [],.int .u64 0,.slc yM [],.int .u64 0,.slc yM [],.int .u64 0,.slc yM [],.int .u64 0,.slc yM [],.int .u64 0,.slc yM [],.int .u64 0,.slc yM [],.int .u64 0,.slc yM [],.int .u64 0,.slc yM [],.int .u64 0,.slc yM [],.int .u64 0,.slc yM [],.int .u64 0,.slc yM []],.int .i64 4],bx:=[]:aJ});let z6:=(N.ay z0.2 1);let z2:=(N.eG (Int.toNat z6.1) (aj.dec aH (aj.enc aH z0.1)) z6.2);let z3:=(aj.dec aH (aj.enc aH z2.1));cond (bW 0 z5.1) (cond (bW z5.1 255) (cond (uH (aj.enc aH (N.sNew z4.1 b))) (cond (bW 0 z6.1) (cond (bW z6.1 255) (cond (uH (aj.enc aH z0.1)) (cond ((bif dw.err z2.2==0 then bif aU 0 (↑(List.length (dw.s z2.2)):Int) then 4 else 0 else dw.err z2.2) != 0) z1 (cond (yx z3) (cond (aU (N.og z3) 0) z1 (cond (lI z3) (cond (!N.nM z3==t) z1 (some {v:=.jc [V.agg (aj.enc aH z2.1),.int .i64 0],bx:=[]:aJ})) none)) none)) none) none) none) none) none) none):=by kernel_rfl
  dsimp only at h;exact h):=by kernel_rfl
theorem ajC (s0:Bytes) (i8:Int) (cO:List V) (qL:Bytes) (nT:Int) (s:aI) (K:Ex->St->Option R):bI Ph 27 4 { fr:=[(0,.str s0),(4,.ptr 10000 0 0 0),(6,.ptr 10001 0 0 0),(7,.ptr 10002 0 0 0),(8,.int .u64 i8)],tab:=[(10000,.var (aF aA 0 cO)),(10001,.var [.str qL,.int .i64 nT]),(10002,.var (aH.enc s))] } K =
 cond (aU 0 i8) (cond (nT==0) (cond (BK (aj.dec aH (aj.enc aH s))) (K .normal {fr:=[(0,.str s0),(4,.ptr 10000 0 0 0),(6,.ptr 10001 0 0 0),(7,.ptr 10002 0 0 0),(8,.int .u64 (IntKind.wrap .u64 (i8-1)))],tab:=[(10000,.var (aF aA 0 cO)),(10001,.var [V.str (dw.s (Prod.snd (N.jR (aj.dec aH (aj.enc aH s)) {s:=qL,err:=nT:dw}))),.int .i64 (dw.err (Prod.snd (N.jR (aj.dec aH (aj.enc aH s)) {s:=qL,err:=nT:dw})))]),(10002,.var (aj.enc aH (Prod.fst (N.jR (aj.dec aH (aj.enc aH s)) {s:=qL,err:=nT:dw}))))]:St}) none) (K (.exit 0) {fr:=[(0,.str s0),(4,.ptr 10000 0 0 0),(6,.ptr 10001 0 0 0),(7,.ptr 10002 0 0 0)],tab:=[(10000,.var (aF aA 0 cO)),(10001,.var [V.str qL,.int .i64 nT]),(10002,.var (aj.enc aH s))]:St})) (K (.exit 0) {fr:=[(0,.str s0),(4,.ptr 10000 0 0 0),(6,.ptr 10001 0 0 0),(7,.ptr 10002 0 0 0)],tab:=[(10000,.var (aF aA 0 cO)),(10001,.var [V.str qL,.int .i64 nT]),(10002,.var (aj.enc aH s))]:St}):=by kernel_rfl
theorem ajD (s0:Bytes) (i9:Int) (cO:List V) (qL:Bytes) (nT:Int) (s:aI) (K:Ex->St->Option R):type_of% (by
  have h:bI Ph 27 8 { fr:=[(0,.str s0),(4,.ptr 10000 0 0 0),(6,.ptr 10001 0 0 0),(7,.ptr 10002 0 0 0),(9,.int .u64 i9)],tab:=[(10000,.var (aF aA 0 cO)),(10001,.var [.str qL,.int .i64 nT]),(10002,.var (aH.enc s))] } K =(
   let z0:=(N.ay {s:=qL,err:=nT:dw} 1);let z1:=(K (.exit 2) {fr:=[(0,.str s0),(4,.ptr 10000 0 0 0),(6,.ptr 10001 0 0 0),(7,.ptr 10002 0 0 0)],tab:=[(10000,.var (aF aA 0 cO)),(10001,.var [V.str qL,.int .i64 nT]),(10002,.var (aj.enc aH s))]:St});let z2:=(Prod.snd (N.dZ z0.2));cond (aU 0 i9) (cond (nT==0) (cond (bW 16 z0.1) (K (.exit 2) {fr:=[(0,.str s0),(4,.ptr 10000 0 0 0),(6,.ptr 10001 0 0 0),(7,.ptr 10002 0 0 0)],tab:=[(10000,.var (aF aA 0 cO)),(10001,.var [V.str (dw.s (N.bP z2 4)),.int .i64 (dw.err (N.bP z2 4))]),(10002,.var (aj.enc aH s))]:St}) (cond (decide (0<=Prod.fst z0∧Prod.fst z0<(↑(16:Nat):Int))) (K .normal {fr:=[(0,.str s0),(4,.ptr 10000 0 0 0),(6,.ptr 10001 0 0 0),(7,.ptr 10002 0 0 0),(9,.int .u64 (IntKind.wrap .u64 (i9-1)))],tab:=[(10000,.var (aF aA 0 cO)),(10001,.var [V.str z2.s,.int .i64 z2.err]),(10002,.var (V.int .u64 s.next::V.int .i64 s.bytes::V.slc yR (List.map (aj.enc bf) s.rows)::setCells s.rises (Int.toNat z0.1) (Prod.fst (N.dZ z0.2))))]:St}) none)) z1) z1):=by kernel_rfl
  dsimp only at h;exact h):=by kernel_rfl
theorem ahu:dM Ph 27 4:=by
 refine bn rfl fun l K q h=>?_
 unfold akB at h
 split at h
 .rename_i s0 i8 cO qL nT JE
  replace h:=RH h;obtain ⟨h1,h2,h3,h⟩:=h
  have h1:=bK h1
  have h2:=bK h2
  obtain ⟨n,rfl⟩:=Int.eq_ofNat_of_zero_le h1
  obtain ⟨s1,g1,g2⟩:=GU h3
  have gd:=zH g2
  rw [gd] at h
  show ∃ n',o9 Ph 27 4 n' { fr:=[(0,.str s0),(4,.ptr 10000 0 0 0),(6,.ptr 10001 0 0 0),(7,.ptr 10002 0 0 0),(8,.int .u64 (n:Int))],tab:=[(10000,.var (aF aA 0 cO)),(10001,.var [.str (⟨qL,nT⟩:dw).s,.int .i64 (⟨qL,nT⟩:dw).err]),(10002,.var (aF aA 0 JE))] } K=some q
  rw [<- g2]
  have main:=dN (E:=Ph) (f:=27) (id:=4) (σ:=Nat × aI × dw) (fun x=>{ fr:=[(0,.str s0),(4,.ptr 10000 0 0 0),(6,.ptr 10001 0 0 0),(7,.ptr 10002 0 0 0),(8,.int .u64 (x.1:Int))],tab:=[(10000,.var (aF aA 0 cO)),(10001,.var [.str x.2.2.s,.int .i64 x.2.2.err]),(10002,.var (aH.enc x.2.1))] })
   (fun x=>x.1<=255∧jo (N.wide x.2.1)) (fun x=>x.1) (fun x K=>K (.exit 0) { fr:=[(0,.str s0),(4,.ptr 10000 0 0 0),(6,.ptr 10001 0 0 0),(7,.ptr 10002 0 0 0)],tab:=[(10000,.var (aF aA 0 cO)),(10001,.var [.str (N.eY x.1 x.2.1 x.2.2).2.s,.int .i64 (N.eY x.1 x.2.1 x.2.2).2.err]),(10002,.var (aH.enc (N.eY x.1 x.2.1 x.2.2).1))] }) (fun x hx=>?_) (n,s1,⟨qL,nT⟩) ⟨by show n<=255; omega,g1⟩ K q h
  .exact main
  .obtain ⟨n,s,i⟩:=x
   obtain ⟨hx,hs⟩:=hx
   have hx:n<=255:=hx
   have hs:jo (N.wide s):=hs
   have hn:=fun K=>ajC s0 (n:Int) cO i.s i.err s K
   have ei:(⟨i.s,i.err⟩:dw)=i:=rfl
   simp only [ei,aH.de] at hn
   cases n with
   | zero =>
    refine .inr ⟨.exit 0,{ fr:=[(0,.str s0),(4,.ptr 10000 0 0 0),(6,.ptr 10001 0 0 0),(7,.ptr 10002 0 0 0)],tab:=[(10000,.var (aF aA 0 cO)),(10001,.var [.str ((s,i):aI × dw).2.s,.int .i64 ((s,i):aI × dw).2.err]),(10002,.var (aH.enc ((s,i):aI × dw).1))] },by simp,fun K=>?_,fun K=>rfl⟩
    exact hn K
   | succ k =>
    have t1:aU (0:Int) ((k+1:Nat):Int)=true:=eF (by omega)
    have t2:IntKind.wrap .u64 (((k+1:Nat):Int)-1)=(k:Int):=by rw [jU (by omega) (by omega)]; omega
    simp only [t1,t2,cond_true] at hn
    have t4:=Zu hs
    have er:N.eY (k+1) s i=cond (i.err==0) (N.eY k (N.jR s i).1 (N.jR s i).2) (s,i):=rfl
    cases he:i.err==0 with
    | true =>
     refine .inl ⟨(k,(N.jR s i).1,(N.jR s i).2),⟨by show k<=255; omega,OC hs i⟩,by show k<k+1; omega,fun K=>?_,fun K=>?_⟩
     .refine (hn K).trans ?_
      rw [he,t4]; rfl
     .show K _ { fr:=[(0,.str s0),(4,.ptr 10000 0 0 0),(6,.ptr 10001 0 0 0),(7,.ptr 10002 0 0 0)],tab:=[(10000,.var (aF aA 0 cO)),(10001,.var [.str (N.eY (k+1) s i).2.s,.int .i64 (N.eY (k+1) s i).2.err]),(10002,.var (aH.enc (N.eY (k+1) s i).1))] }=_
      rw [er,he]; rfl
    | false =>
     refine .inr ⟨.exit 0,{ fr:=[(0,.str s0),(4,.ptr 10000 0 0 0),(6,.ptr 10001 0 0 0),(7,.ptr 10002 0 0 0)],tab:=[(10000,.var (aF aA 0 cO)),(10001,.var [.str ((s,i):aI × dw).2.s,.int .i64 ((s,i):aI × dw).2.err]),(10002,.var (aH.enc ((s,i):aI × dw).1))] },by simp,fun K=>?_,fun K=>?_⟩
     .refine (hn K).trans ?_
      rw [he]; rfl
     .show K _ { fr:=[(0,.str s0),(4,.ptr 10000 0 0 0),(6,.ptr 10001 0 0 0),(7,.ptr 10002 0 0 0)],tab:=[(10000,.var (aF aA 0 cO)),(10001,.var [.str (N.eY (k+1) s i).2.s,.int .i64 (N.eY (k+1) s i).2.err]),(10002,.var (aH.enc (N.eY (k+1) s i).1))] }=_
      rw [er,he]; rfl
 .cases h
theorem ahv:dM Ph 27 8:=by
 refine bn rfl fun l K q h=>?_
 unfold akC at h
 split at h
 .rename_i s0 i9 cO qL nT JE
  replace h:=RH h;obtain ⟨h1,h2,h3,h⟩:=h
  have h1:=bK h1
  have h2:=bK h2
  obtain ⟨n,rfl⟩:=Int.eq_ofNat_of_zero_le h1
  obtain ⟨s1,g1,g2⟩:=GU h3
  have gd:=zH g2
  rw [gd] at h
  show ∃ n',o9 Ph 27 8 n' { fr:=[(0,.str s0),(4,.ptr 10000 0 0 0),(6,.ptr 10001 0 0 0),(7,.ptr 10002 0 0 0),(9,.int .u64 (n:Int))],tab:=[(10000,.var (aF aA 0 cO)),(10001,.var [.str (⟨qL,nT⟩:dw).s,.int .i64 (⟨qL,nT⟩:dw).err]),(10002,.var (aF aA 0 JE))] } K=some q
  rw [<- g2]
  have main:=dN (E:=Ph) (f:=27) (id:=8) (σ:=Nat × aI × dw) (fun x=>{ fr:=[(0,.str s0),(4,.ptr 10000 0 0 0),(6,.ptr 10001 0 0 0),(7,.ptr 10002 0 0 0),(9,.int .u64 (x.1:Int))],tab:=[(10000,.var (aF aA 0 cO)),(10001,.var [.str x.2.2.s,.int .i64 x.2.2.err]),(10002,.var (aH.enc x.2.1))] })
   (fun x=>x.1<=255∧jo (N.wide x.2.1)) (fun x=>x.1) (fun x K=>K (.exit 2) { fr:=[(0,.str s0),(4,.ptr 10000 0 0 0),(6,.ptr 10001 0 0 0),(7,.ptr 10002 0 0 0)],tab:=[(10000,.var (aF aA 0 cO)),(10001,.var [.str (N.eG x.1 x.2.1 x.2.2).2.s,.int .i64 (N.eG x.1 x.2.1 x.2.2).2.err]),(10002,.var (aH.enc (N.eG x.1 x.2.1 x.2.2).1))] }) (fun x hx=>?_) (n,s1,⟨qL,nT⟩) ⟨by show n<=255; omega,g1⟩ K q h
  .exact main
  .obtain ⟨n,s,i⟩:=x
   obtain ⟨hx,hs⟩:=hx
   have hx:n<=255:=hx
   have hs:jo (N.wide s):=hs
   have hn:=fun K=>ajD s0 (n:Int) cO i.s i.err s K
   have ei:(⟨i.s,i.err⟩:dw)=i:=rfl
   simp only [ei,aH.de] at hn
   cases n with
   | zero =>
    refine .inr ⟨.exit 2,{ fr:=[(0,.str s0),(4,.ptr 10000 0 0 0),(6,.ptr 10001 0 0 0),(7,.ptr 10002 0 0 0)],tab:=[(10000,.var (aF aA 0 cO)),(10001,.var [.str ((s,i):aI × dw).2.s,.int .i64 ((s,i):aI × dw).2.err]),(10002,.var (aH.enc ((s,i):aI × dw).1))] },by simp,fun K=>?_,fun K=>rfl⟩
    exact hn K
   | succ k =>
    have t1:aU (0:Int) ((k+1:Nat):Int)=true:=eF (by omega)
    have t2:IntKind.wrap .u64 (((k+1:Nat):Int)-1)=(k:Int):=by rw [jU (by omega) (by omega)]; omega
    simp only [t1,t2,cond_true] at hn
    have hN:=tC i
    have er:N.eG (k+1) s i=cond (i.err==0) (cond (bW 16 (N.ay i 1).1) (s,N.bP (N.dZ (N.ay i 1).2).2 4) (N.eG k (N.zI s (N.ay i 1).1 (N.dZ (N.ay i 1).2).1) (N.dZ (N.ay i 1).2).2)) (s,i):=rfl
    cases he:i.err==0 with
    | true =>
     cases h16:bW 16 (N.ay i 1).1 with
     | true =>
      refine .inr ⟨.exit 2,{ fr:=[(0,.str s0),(4,.ptr 10000 0 0 0),(6,.ptr 10001 0 0 0),(7,.ptr 10002 0 0 0)],tab:=[(10000,.var (aF aA 0 cO)),(10001,.var [.str ((s,N.bP (N.dZ (N.ay i 1).2).2 4):aI × dw).2.s,.int .i64 ((s,N.bP (N.dZ (N.ay i 1).2).2 4):aI × dw).2.err]),(10002,.var (aH.enc ((s,N.bP (N.dZ (N.ay i 1).2).2 4):aI × dw).1))] },by simp,fun K=>?_,fun K=>?_⟩
      .refine (hn K).trans ?_
       rw [he,h16]; rfl
      .show K _ { fr:=[(0,.str s0),(4,.ptr 10000 0 0 0),(6,.ptr 10001 0 0 0),(7,.ptr 10002 0 0 0)],tab:=[(10000,.var (aF aA 0 cO)),(10001,.var [.str (N.eG (k+1) s i).2.s,.int .i64 (N.eG (k+1) s i).2.err]),(10002,.var (aH.enc (N.eG (k+1) s i).1))] }=_
       rw [er,he,h16]; rfl
     | false =>
      have aor:=nP h16
      have t5:decide ((0:Int)<=(N.ay i 1).1∧(N.ay i 1).1<((16:Nat):Int))=true:=decide_eq_true (by omega)
      refine .inl ⟨(k,N.zI s (N.ay i 1).1 (N.dZ (N.ay i 1).2).1,(N.dZ (N.ay i 1).2).2),⟨by show k<=255; omega,GH hs _ _⟩,by show k<k+1; omega,fun K=>?_,fun K=>?_⟩
      .refine (hn K).trans ?_
       rw [he,h16,t5]
       have e:=setCells_eq s.rises (N.ay i 1).1.toNat (N.dZ (N.ay i 1).2).1
       show K .normal _=K .normal { fr:=[(0,.str s0),(4,.ptr 10000 0 0 0),(6,.ptr 10001 0 0 0),(7,.ptr 10002 0 0 0),(9,.int .u64 (k:Int))],tab:=[(10000,.var (aF aA 0 cO)),(10001,.var [.str (N.dZ (N.ay i 1).2).2.s,.int .i64 (N.dZ (N.ay i 1).2).2.err]),(10002,.var (V.int .u64 s.next::V.int .i64 s.bytes::V.slc agt (s.rows.map bf.enc)::dn (s.rises.set (N.ay i 1).1.toNat (N.dZ (N.ay i 1).2).1)))] }
       rw [<- e]
       try rfl
      .show K _ { fr:=[(0,.str s0),(4,.ptr 10000 0 0 0),(6,.ptr 10001 0 0 0),(7,.ptr 10002 0 0 0)],tab:=[(10000,.var (aF aA 0 cO)),(10001,.var [.str (N.eG (k+1) s i).2.s,.int .i64 (N.eG (k+1) s i).2.err]),(10002,.var (aH.enc (N.eG (k+1) s i).1))] }=_
       rw [er,he,h16]; rfl
    | false =>
     refine .inr ⟨.exit 2,{ fr:=[(0,.str s0),(4,.ptr 10000 0 0 0),(6,.ptr 10001 0 0 0),(7,.ptr 10002 0 0 0)],tab:=[(10000,.var (aF aA 0 cO)),(10001,.var [.str ((s,i):aI × dw).2.s,.int .i64 ((s,i):aI × dw).2.err]),(10002,.var (aH.enc ((s,i):aI × dw).1))] },by simp,fun K=>?_,fun K=>?_⟩
     .refine (hn K).trans ?_
      rw [he]; rfl
     .show K _ { fr:=[(0,.str s0),(4,.ptr 10000 0 0 0),(6,.ptr 10001 0 0 0),(7,.ptr 10002 0 0 0)],tab:=[(10000,.var (aF aA 0 cO)),(10001,.var [.str (N.eG (k+1) s i).2.s,.int .i64 (N.eG (k+1) s i).2.err]),(10002,.var (aH.enc (N.eG (k+1) s i).1))] }=_
      rw [er,he]; rfl
 .cases h
theorem amj (hN:bH Tryz.prog 95 fP):bH Tryz.prog 27 anX:=by
 refine aN (aQ (((((((((((gu.nil _).cons (ac7 hN)).cons (N9 hN)).cons afg).cons vX).cons VY).cons Xn).cons xY).cons abf).cons AV).cons ae9)) (E:=Ph) Tryz.func27 [4,8] (by kernel_rfl) (FH ahu ahv) fun a b hp=>?_
 obtain ⟨t,n⟩:=a
 have hb:n<=9223372036854775807:=bK hp
 refine (anY t n).trans ?_
 simp only [aH.de]
 have h8:=Il ⟨t,0⟩
 have e1:=tC (N.ay ⟨t,0⟩ 8).2
 have n1:=Xu h8.1 h8.2 n
 have w1:=JF n1
 have w2:=JF (BL (N.ay (N.ay ⟨t,0⟩ 8).2 1).1.toNat (N.ay (N.ay ⟨t,0⟩ 8).2 1).2 n1)
 have e2:=tC (N.eY (N.ay (N.ay ⟨t,0⟩ 8).2 1).1.toNat (N.sNew (N.ay ⟨t,0⟩ 8).1 n) (N.ay (N.ay ⟨t,0⟩ 8).2 1).2).2
 rw [dY e1.1,dY (Int.le_of_lt_add_one e1.2),w1,dY e2.1,dY (Int.le_of_lt_add_one e2.2),w2]
 simp only [cond_true]
 have hw:=GN t n
 have hf:=GR t n
 show _=some (⟨.jc [.agg (aH.enc (N.ig t n).1),.int .i64 (N.ig t n).2],[],[]⟩:aJ)
 unfold N.ig
 have ez:N.eG (N.ay (N.eY (N.ay (N.ay ⟨t,0⟩ 8).2 1).1.toNat (N.sNew (N.ay ⟨t,0⟩ 8).1 n) (N.ay (N.ay ⟨t,0⟩ 8).2 1).2).2 1).1.toNat (N.eY (N.ay (N.ay ⟨t,0⟩ 8).2 1).1.toNat (N.sNew (N.ay ⟨t,0⟩ 8).1 n) (N.ay (N.ay ⟨t,0⟩ 8).2 1).2).1 (N.ay (N.eY (N.ay (N.ay ⟨t,0⟩ 8).2 1).1.toNat (N.sNew (N.ay ⟨t,0⟩ 8).1 n) (N.ay (N.ay ⟨t,0⟩ 8).2 1).2).2 1).2=N.iF t n:=rfl
 rw [ez]
 generalize N.iF t n=z at *
 have hb0:0<=cond (aU 0 n) n 0∧cond (aU 0 n) n 0<=9223372036854775807:=by
  cases hc:aU 0 n with
  | true=>have:=jv hc; exact ⟨by show 0<=n; omega,hb⟩
  | false=>exact ⟨Int.le_refl 0,show (0:Int)<=9223372036854775807 by omega⟩
 have gb:yx z.1=true:=by
  unfold yx
  rw [show ny z.1=true from hw.ny,hf.2,dY hb0.1,dY hb0.2]; rfl
 have gk:lI z.1=true:=hw.QT
 have hE:N.yB z.2=cond (z.2.err==0) (cond (aU 0 (z.2.s.length:Int)) 4 0) z.2.err:=rfl
 rw [gb,gk,<- hE]
 cases N.yB z.2 != 0<;>cases aU (N.og z.1) 0<;>cases N.nM z.1==t<;>rfl
end Go.Ev

namespace Go.Ev
open Go Go.Proofs
set_option maxRecDepth 100000
namespace N
def Xv (m:au) (f:Int):aO:=⟨m,Int.tmod f 2==1,Int.tmod (IntKind.wrap .u64 (Int.tdiv f 2)) 2==1⟩
def oz (q:bY):aO × bY:=(Xv (mF (bD q 1).2).1 (bD q 1).1,(mF (bD q 1).2).2)
def iL:Nat->bY->List aO->List aO × bY
 | 0,q,acc=>(acc,q)
 | k+1,q,acc=>cond (q.code==0) (iL k (oz q).2 (acc++[(oz q).1])) (acc,q)
def rqQ (q:bY):fV × bY :=
 (⟨(iC q 65535).1,(bD (iC q 65535).2 8).1,(bD (bD (iC q 65535).2 8).2 8).1,(iC (bD (bD (iC q 65535).2 8).2 8).2 65535).1⟩,(iC (bD (bD (iC q 65535).2 8).2 8).2 65535).2)
def qO (q:bY):fE × bY :=
 (⟨(rqQ q).1,(iL (bD (rqQ q).2 1).1.toNat (bD (rqQ q).2 1).2 []).1⟩,(iL (bD (rqQ q).2 1).1.toNat (bD (rqQ q).2 1).2 []).2)
def iR:Nat->bY->List fE->List fE × bY
 | 0,q,acc=>(acc,q)
 | k+1,q,acc=>cond (q.code==0) (iR k (qO q).2 (acc++[(qO q).1])) (acc,q)
def iV:Nat->bY->dW aG->dW aG × bY
 | 0,q,a=>(a,q)
 | k+1,q,a=>cond (q.code==0) (iV k (ni (bD q 1).2).2 (cond (aU (bD q 1).1 16) (a.set (bD q 1).1.toNat (ni (bD q 1).2).1) a)) (a,q)
def anZ (n b:Int) (w:List fE × bY):aI × bY :=
 (⟨n,b,w.1,(iV (bD w.2 1).1.toNat (bD w.2 1).2 fD.rises).1⟩,(iV (bD w.2 1).1.toNat (bD w.2 1).2 fD.rises).2)
def gW (t:Bytes) (b:Int):aI × bY :=
 anZ (bD ⟨t,0,0⟩ 8).1 (cond (aU 0 b) b 0) (iR (bD (bD ⟨t,0,0⟩ 8).2 1).1.toNat (bD (bD ⟨t,0,0⟩ 8).2 1).2 [])
def OD (q:bY):Int:=cond (q.code==0) (cond (aU q.at' q.s.length) 4 q.code) q.code
def lZ (nx:Int):List aO->Bool
 | []=>true
 | y::r=>cond (cond (aU 0 nx) (bW nx y.aY.id) false) false (lZ nx r)
def zJ (s:aI) (i:Int) (x:fE):Bool :=
 cond (iW x.q != 0) false (cond (iK s x.q.name != i) false (cond (aU x.q.most x.line.length) false (cond ((Jk [] x.line).2 != 0) false (lZ s.next x.line))))
def oN (s:aI):Int->List fE->Bool
 | _,[]=>true
 | i,x::r=>cond (zJ s i x) (oN s (i+1) r) false
def IB (s:aI):Bool:=cond (aU 8 s.rows.length) false (cond (aU s.bytes (sQ s)) false (oN s 0 s.rows))
def qP (t:Bytes) (b:Int):aI × Int :=
 cond (OD (gW t b).2 != 0) (fD,4) (cond (IB (gW t b).1) (cond (nM (gW t b).1==t) ((gW t b).1,0) (fD,4)) (fD,4))
end N
theorem abv {i:dw} {a b:Int} (hab:a<=b) (h:(N.bM i a).2.err=0):N.bM i a=N.bM i b:=by
 unfold N.bM at h ⊢
 cases hc:aU a (IntKind.wrap .i64 (N.ay i 2).1) with
 | false =>
  have:=dP hc
  rw [gZ (show IntKind.wrap .i64 (N.ay i 2).1<=b by omega)]
 | true =>
  rw [hc] at h
  have hf:(N.bP (N.ay i 2).2 5).err ≠ 0:=fun e=>absurd (kL e).2 (by decide)
  rw [cond_true,Ig hf] at h
  exact absurd h hf
theorem ajE {nx:Int} {t:Bytes} {i:dw} {q:bY} (h:Rl t i q) (he:(N.gQ nx i).2.err=0):(N.gQ nx i).1=(N.oz q).1∧Rl t (N.gQ nx i).2 (N.oz q).2:=by
 have h1:=ji h 1
 have h2:=J7 h1.2
 have hb:=(Q9 he).2.2
 have hn:=tC i
 have hf:(N.ay i 1).1<=3:=by
  unfold N.wC at hb
  cases hc:aU 3 (N.ay i 1).1 with
  | true=>rw [hc] at hb; cases hb
  | false=>exact dP hc
 have e:N.gQ nx i=(N.Ou (N.cu (N.ay i 1).2).1 (N.ay i 1).1,(N.cu (N.ay i 1).2).2):=by
  unfold N.gQ
  rw [hb]; rfl
 rw [e]
 unfold N.oz
 rw [<- h1.1,<- h2.1]
 refine ⟨?_,h2.2⟩
 show N.Ou _ (N.ay i 1).1=N.Xv _ (N.ay i 1).1
 generalize (N.ay i 1).1=f at *
 have:f=0∨f=1∨f=2∨f=3:=by omega
 rcases this with rfl | rfl | rfl | rfl<;>rfl
theorem Xw {nx:Int} {t:Bytes}:∀ (k:Nat) {i:dw} {q:bY} (acc:List aO),Rl t i q->(N.dR nx k i acc).2.err=0->(N.dR nx k i acc).1=(N.iL k q acc).1∧Rl t (N.dR nx k i acc).2 (N.iL k q acc).2
 | 0,_,_,_,h,_=>⟨rfl,h⟩
 | k+1,i,q,acc,h,he=>by
  have e:N.dR nx (k+1) i acc=cond (i.err==0) (N.dR nx k (N.gQ nx i).2 (acc++[(N.gQ nx i).1])) (acc,i):=rfl
  have e' : N.iL (k+1) q acc=cond (q.code==0) (N.iL k (N.oz q).2 (acc++[(N.oz q).1])) (acc,q):=rfl
  have hc:i.err=q.code:=h.2.2.2.1
  rw [e] at he ⊢
  rw [e',<- hc]
  cases hz:i.err==0 with
  | false=>exact ⟨rfl,h⟩
  | true =>
   rw [hz] at he
   have he:(N.dR nx k (N.gQ nx i).2 (acc++[(N.gQ nx i).1])).2.err=0:=he
   have hm:(N.gQ nx i).2.err=0:=Classical.byContradiction fun hn=>EG nx k _ _ hn he
   have hi:=ajE h hm
   have:=Xw k (acc++[(N.gQ nx i).1]) hi.2 he
   rw [hi.1] at this
   simp only [cond_true]
   rw [hi.1]
   exact this
theorem aos {t:Bytes} {i:dw} {q:bY} (h:Rl t i q) (he:(N.yH i).2.err=0):(N.yH i).1=(N.rqQ q).1∧Rl t (N.yH i).2 (N.rqQ q).2:=by
 have st:∀ {j:dw},j.err ≠ 0->(N.bM (N.ay (N.ay j 8).2 8).2 16).2.err ≠ 0:=fun {j} hj=>by
  rw [qc hj,qc hj,Eo hj]; exact hj
 have h1:(N.bM i 16).2.err=0:=Classical.byContradiction fun hn=>st hn he
 have t1:=abv (i:=i) (show (16:Int)<=65535 by omega) h1
 have t2:=abv (i:=(N.ay (N.ay (N.bM i 16).2 8).2 8).2) (show (16:Int)<=65535 by omega) he
 have r1:=qE h 65535
 rw [<- t1] at r1
 have r2:=ji r1.2 8
 have r3:=ji r2.2 8
 have r4:=qE r3.2 65535
 rw [<- t2] at r4
 unfold N.yH N.rqQ
 rw [<- r1.1,<- r2.1,<- r3.1,<- r4.1]
 exact ⟨rfl,r4.2⟩
theorem amk {s:aI} {t:Bytes} {i:dw} {q:bY} (h:Rl t i q) (he:(N.jR s i).2.err=0):(N.jR s i).1=⟨s.next,s.bytes,s.rows++[(N.qO q).1],s.rises⟩∧Rl t (N.jR s i).2 (N.qO q).2:=by
 have e:N.jR s i=N.wE s (N.yH i).1 (N.tN [] (N.dR s.next (N.ay (N.yH i).2 1).1.toNat (N.ay (N.yH i).2 1).2 []).1).1
  (N.rQ s (N.yH i).1 (N.tN [] (N.dR s.next (N.ay (N.yH i).2 1).1.toNat (N.ay (N.yH i).2 1).2 []).1) (N.dR s.next (N.ay (N.yH i).2 1).1.toNat (N.ay (N.yH i).2 1).2 []).2):=rfl
 rw [e] at he ⊢
 obtain ⟨e1,e2,_,_,_,_,e7⟩:=Xr he
 rw [e7]
 have hn:(N.ay (N.yH i).2 1).2.err=0:=Classical.byContradiction fun hn=>EG _ _ _ _ hn e1
 have hq:(N.yH i).2.err=0:=Classical.byContradiction fun hq=>hq (by rw [qc hq] at hn; exact hn)
 have r1:=aos h hq
 have r2:=ji r1.2 1
 have r3:=Xw (nx:=s.next) (N.ay (N.yH i).2 1).1.toNat [] r2.2 e1
 have hl:(N.tN [] (N.dR s.next (N.ay (N.yH i).2 1).1.toNat (N.ay (N.yH i).2 1).2 []).1).1=(N.dR s.next (N.ay (N.yH i).2 1).1.toNat (N.ay (N.yH i).2 1).2 []).1:=by rw [Tv _ [] e2,List.nil_append]
 rw [hl]
 unfold N.qO
 rw [r1.1,<- r2.1,<- r3.1]
 exact ⟨rfl,r3.2⟩
theorem ado:∀ (k:Nat) (s:aI) {i:dw},i.err ≠ 0->(N.eY k s i).2.err ≠ 0
 | 0,_,_,h=>h
 | k+1,s,i,h=>by
  unfold N.eY
  rw [I7 h]; exact h
theorem abw {t:Bytes}:∀ (k:Nat) {s:aI} {i:dw} {q:bY},Rl t i q->(N.eY k s i).2.err=0->(N.eY k s i).1=⟨s.next,s.bytes,(N.iR k q s.rows).1,s.rises⟩∧Rl t (N.eY k s i).2 (N.iR k q s.rows).2
 | 0,_,_,_,h,_=>⟨rfl,h⟩
 | k+1,s,i,q,h,he=>by
  have e:N.eY (k+1) s i=cond (i.err==0) (N.eY k (N.jR s i).1 (N.jR s i).2) (s,i):=rfl
  have e' : N.iR (k+1) q s.rows=cond (q.code==0) (N.iR k (N.qO q).2 (s.rows++[(N.qO q).1])) (s.rows,q):=rfl
  have hc:i.err=q.code:=h.2.2.2.1
  rw [e] at he ⊢
  rw [e',<- hc]
  cases hz:i.err==0 with
  | false=>exact ⟨rfl,h⟩
  | true =>
   rw [hz] at he
   have he:(N.eY k (N.jR s i).1 (N.jR s i).2).2.err=0:=he
   have hm:(N.jR s i).2.err=0:=Classical.byContradiction fun hn=>ado k _ hn he
   have hi:=amk h hm
   have:=abw k hi.2 he
   rw [hi.1] at this
   simp only [cond_true]
   rw [hi.1]
   exact this
theorem Zx:∀ (k:Nat) (s:aI) {i:dw},i.err ≠ 0->(N.eG k s i).2.err ≠ 0
 | 0,_,_,h=>h
 | k+1,s,i,h=>by
  unfold N.eG
  rw [I7 h]; exact h
theorem Xx {t:Bytes}:∀ (k:Nat) {s:aI} {i:dw} {q:bY},Rl t i q->(N.eG k s i).2.err=0->(N.eG k s i).1=⟨s.next,s.bytes,s.rows,(N.iV k q s.rises).1⟩∧Rl t (N.eG k s i).2 (N.iV k q s.rises).2
 | 0,_,_,_,h,_=>⟨rfl,h⟩
 | k+1,s,i,q,h,he=>by
  have e:N.eG (k+1) s i=cond (i.err==0) (cond (bW 16 (N.ay i 1).1) (s,N.bP (N.dZ (N.ay i 1).2).2 4) (N.eG k (N.zI s (N.ay i 1).1 (N.dZ (N.ay i 1).2).1) (N.dZ (N.ay i 1).2).2)) (s,i):=rfl
  have e' : N.iV (k+1) q s.rises=cond (q.code==0) (N.iV k (N.ni (N.bD q 1).2).2 (cond (aU (N.bD q 1).1 16) (s.rises.set (N.bD q 1).1.toNat (N.ni (N.bD q 1).2).1) s.rises)) (s.rises,q):=rfl
  have hc:i.err=q.code:=h.2.2.2.1
  rw [e] at he ⊢
  rw [e',<- hc]
  cases hz:i.err==0 with
  | false=>exact ⟨rfl,h⟩
  | true =>
   rw [hz] at he
   cases h16:bW 16 (N.ay i 1).1 with
   | true=>rw [h16] at he; exact absurd (kL he).2 (by decide)
   | false =>
    rw [h16] at he
    have he:(N.eG k (N.zI s (N.ay i 1).1 (N.dZ (N.ay i 1).2).1) (N.dZ (N.ay i 1).2).2).2.err=0:=he
    have r1:=ji h 1
    have r2:=aaK r1.2
    have:=Xx k r2.2 he
    simp only [cond_true,cond_false]
    rw [<- r1.1,eF (nP h16),<- r2.1]
    exact this
theorem aml {t:Bytes} {i:dw} {q:bY} (h:Rl t i q):N.yB i=N.OD q:=by
 obtain ⟨h0,h1,h2,h3,h4⟩:=h
 unfold N.yB N.OD
 rw [<- h3]
 cases hz:i.err==0 with
 | false=>rfl
 | true =>
  have h4:i.s=t.drop q.at'.toNat:=by rw [h4,hz]; rfl
  have e:i.err=0:=aZ hz
  simp only [cond_true]
  rw [h4,List.length_drop,h0,e]
  by_cases hl:q.at' < t.length
  .rw [eF hl,eF (by omega)]
  .rw [gZ (by omega),gZ (by omega)]
theorem ahw {i:dw} (h:N.yB i=0):i.err=0:=by
 unfold N.yB at h
 cases hz:i.err==0 with
 | true=>exact aZ hz
 | false=>rw [hz] at h; exact h
theorem ahx {t:Bytes} {b:Int} (h:N.yB (N.iF t b).2=0):N.gW t b=((N.iF t b).1,(N.gW t b).2)∧N.OD (N.gW t b).2=0:=by
 have he:=ahw h
 have r0:=ae0 t
 have r1:=ji r0 8
 have r2:=ji r1.2 1
 have e:N.iF t b=N.ac8 (N.eY (N.ay (N.ay ⟨t,0⟩ 8).2 1).1.toNat (N.sNew (N.ay ⟨t,0⟩ 8).1 b) (N.ay (N.ay ⟨t,0⟩ 8).2 1).2):=rfl
 rw [e] at he h ⊢
 have h1:(N.eY (N.ay (N.ay ⟨t,0⟩ 8).2 1).1.toNat (N.sNew (N.ay ⟨t,0⟩ 8).1 b) (N.ay (N.ay ⟨t,0⟩ 8).2 1).2).2.err=0:=Classical.byContradiction fun hn=>by
  unfold N.ac8 at he
  rw [qc hn] at he
  exact Zx _ _ hn he
 have r3:=abw _ r2.2 h1
 generalize hw:N.eY (N.ay (N.ay ⟨t,0⟩ 8).2 1).1.toNat (N.sNew (N.ay ⟨t,0⟩ 8).1 b) (N.ay (N.ay ⟨t,0⟩ 8).2 1).2=w at *
 have r4:=ji r3.2 1
 have he:(N.eG (N.ay w.2 1).1.toNat w.1 (N.ay w.2 1).2).2.err=0:=he
 have r5:=Xx _ r4.2 he
 have h:N.yB (N.eG (N.ay w.2 1).1.toNat w.1 (N.ay w.2 1).2).2=0:=h
 have eq:N.gW t b=((N.ac8 w).1,(N.iV (N.ay w.2 1).1.toNat (N.bD (N.iR (N.ay (N.ay ⟨t,0⟩ 8).2 1).1.toNat (N.bD (N.bD ⟨t,0,0⟩ 8).2 1).2 []).2 1).2 w.1.rises).2):=by
  unfold N.gW N.anZ N.ac8
  rw [<- r1.1,<- r2.1]
  have r3' : w.1=⟨(N.ay ⟨t,0⟩ 8).1,cond (aU 0 b) b 0,(N.iR (N.ay (N.ay ⟨t,0⟩ 8).2 1).1.toNat (N.bD (N.bD ⟨t,0,0⟩ 8).2 1).2 []).1,fD.rises⟩:=r3.1
  have r4' : (N.ay w.2 1).1=(N.bD (N.iR (N.ay (N.ay ⟨t,0⟩ 8).2 1).1.toNat (N.bD (N.bD ⟨t,0,0⟩ 8).2 1).2 []).2 1).1:=r4.1
  have r5' : (N.eG (N.ay w.2 1).1.toNat w.1 (N.ay w.2 1).2).1=⟨w.1.next,w.1.bytes,w.1.rows,(N.iV (N.ay w.2 1).1.toNat (N.bD (N.iR (N.ay (N.ay ⟨t,0⟩ 8).2 1).1.toNat (N.bD (N.bD ⟨t,0,0⟩ 8).2 1).2 []).2 1).2 w.1.rises).1⟩:=r5.1
  rw [r5',<- r4',r3']
 rw [eq]
 exact ⟨rfl,(aml r5.2).symm.trans h⟩
theorem JG {nx:Int}:∀ {l:List aO},N.lZ nx l=true->∀ x∈l,aU 0 nx=false∨x.aY.id<nx
 | [],_,_,hx=>by cases hx
 | y::r,h,x,hx=>by
  unfold N.lZ at h
  cases hc:cond (aU 0 nx) (bW nx y.aY.id) false with
  | true=>rw [hc] at h; cases h
  | false =>
   rw [hc] at h
   rcases List.mem_cons.1 hx with rfl | hx
   .cases h0:aU 0 nx with
    | false=>exact .inl rfl
    | true=>rw [h0] at hc; exact .inr (nP hc)
   .exact JG h x hx
theorem OE {nx:Int} (h0:0<=nx):∀ {l:List aO},(nx=0∨∀ x∈l,x.aY.id<nx)->N.lZ nx l=true
 | [],_=>rfl
 | y::r,h=>by
  unfold N.lZ
  have hc:cond (aU 0 nx) (bW nx y.aY.id) false=false:=by
   rcases h with h | h
   .rw [h]; rfl
   .rw [zS (h y List.mem_cons_self)]; cases aU 0 nx<;>rfl
  rw [hc,cond_false]
  exact OE h0 (h.imp id fun h x hx=>h x (List.mem_cons_of_mem _ hx))
structure zK (x:fE):Prop where
 life:N.u64 x.q.life=true
 small:x.line.all eX=true
 fine:allM N.lJ x.line=true
theorem ajF {s:aI} {i:Int} {x:fE} (h0:0<=s.next) (hr:zK x) (h:N.zJ s i x=true):BG s.next x∧N.iK s x.q.name=i:=by
 unfold N.zJ at h
 cases h1:N.iW x.q != 0 with
 | true=>rw [h1] at h; cases h
 | false =>
 cases h2:N.iK s x.q.name != i with
 | true=>rw [h1,h2] at h; cases h
 | false =>
 cases h3:aU x.q.most (x.line.length:Int) with
 | true=>rw [h1,h2,h3] at h; cases h
 | false =>
 cases h4:(N.Jk [] x.line).2 != 0 with
 | true=>rw [h1,h2,h3,h4] at h; cases h
 | false =>
  rw [h1,h2,h3,h4] at h
  have h:N.lZ s.next x.line=true:=h
  have e4:(N.tN [] x.line).2=0:=by
   rw [<- YQ x.line [] NI hr.small]
   simpa using h4
  have hl:(N.tN [] x.line).1=x.line:=by rw [Tv _ [] e4,List.nil_append]
  have hlin:=Gl x.line [] NI hr.small
  rw [hl] at hlin
  have hck:=OB x.line [] e4
  refine ⟨⟨hlin,?_,dP h3,by simpa using h1,hr.life,?_⟩,by simpa using h2⟩
  .exact List.all_eq_true.2 fun y hy=>V3 (List.all_eq_true.1 hr.fine y hy) (hck y hy)
  .by_cases hz:s.next=0
   .exact .inl hz
   .refine .inr fun y hy=>?_
    rcases JG h y hy with h5 | h5
    .have:=dP h5; omega
    .exact h5
theorem Xy {s:aI} (h0:0<=s.next):∀ (l:List fE) (i:Int),(∀ x∈l,zK x)->N.oN s i l=true->(∀ x∈l,BG s.next x)∧∀ (j:Nat) (hj:j<l.length),N.iK s (l[j]'hj).q.name=i+j
 | [],_,_,_=>⟨fun _ hx=>(List.not_mem_nil hx).elim,fun _ hj=>absurd hj (Nat.not_lt_zero _)⟩
 | x::r,i,hr,h=>by
  unfold N.oN at h
  cases hc:N.zJ s i x with
  | false=>rw [hc] at h; cases h
  | true =>
   rw [hc] at h
   have h1:=ajF h0 (hr x List.mem_cons_self) hc
   have h2:=Xy h0 r (i+1) (fun y hy=>hr y (List.mem_cons_of_mem _ hy)) h
   refine ⟨fun y hy=>?_,fun j hj=>?_⟩
   .rcases List.mem_cons.1 hy with rfl | hy
    .exact h1.1
    .exact h2.1 y hy
   .cases j with
    | zero=>rw [List.getElem_cons_zero,h1.2]; omega
    | succ j =>
     rw [List.getElem_cons_succ,h2.2 j (by simpa using hj)]; omega
theorem abx {s:aI} (h0:0<=s.next) (h1:s.next<18446744073709551616) (hb0:0<=s.bytes) (hb1:s.bytes<=9223372036854775807) (hr:∀ x∈s.rows,zK x) (hk:s.rises.list.all dX=true) (h:N.IB s=true):jo s:=by
 unfold N.IB at h
 cases h2:aU 8 (s.rows.length:Int) with
 | true=>rw [h2] at h; cases h
 | false =>
 cases h3:aU s.bytes (N.sQ s) with
 | true=>rw [h2,h3] at h; cases h
 | false =>
  rw [h2,h3] at h
  have h4:=Xy h0 s.rows 0 hr h
  have h2:=dP h2
  refine { BH:=h0,DN:=h1,Ol:=hb0,Om:=hb1,few:=by omega,row:=h4.1,names:=?_,rise:=hk,size:=dP h3 }
  rw [List.nodup_iff_pairwise_ne,List.pairwise_iff_getElem]
  intro i j hi hj hij e
  rw [List.length_map] at hi hj
  simp only [List.getElem_map] at e
  have a:=h4.2 i hi
  have b:=h4.2 j hj
  rw [e] at a
  omega
theorem ahy {s:aI} (h:(s.rows.map fun x=>x.q.name).Nodup) {j:Nat} (hj:j<s.rows.length):N.iK s (s.rows[j]'hj).q.name=j:=by
 obtain ⟨h1,h2⟩:=ahn h (List.getElem_mem hj)
 obtain ⟨_,_,g3,g4⟩:=Ip (dY h1)
 have e:(s.rows[(N.iK s (s.rows[j]'hj).q.name).toNat]'g4)=s.rows[j]'hj:=by
  unfold N.kV at h2
  rw [List.getD_eq_getElem?_getD,List.getElem?_eq_getElem g4] at h2
  exact h2
 rw [List.nodup_iff_pairwise_ne,List.pairwise_iff_getElem] at h
 rcases Nat.lt_trichotomy (N.iK s (s.rows[j]'hj).q.name).toNat j with hl | hl | hl
 .have hh:=h _ _ (by rw [List.length_map]; exact g4) (by rw [List.length_map]; exact hj) hl
  simp only [List.getElem_map,e] at hh
  exact absurd rfl hh
 .omega
 .have hh:=h _ _ (by rw [List.length_map]; exact hj) (by rw [List.length_map]; exact g4) hl
  simp only [List.getElem_map,e] at hh
  exact absurd rfl hh
theorem ajG {s:aI} (h:jo s):N.IB s=true:=by
 have hf:=h.few
 unfold N.IB
 rw [gZ (by omega),gZ h.size]
 have:∀ (n j:Nat),j+n=s.rows.length->N.oN s j (s.rows.drop j)=true:=fun n=>by
  induction n with
  | zero =>
   intro j hj
   rw [List.drop_eq_nil_of_le (by omega)]; rfl
  | succ n ih =>
   intro j hj
   have hl:j<s.rows.length:=by omega
   rw [List.drop_eq_getElem_cons hl]
   have hr:=h.row _ (List.getElem_mem hl)
   have ha:=ahy h.names hl
   have hck:∀ y∈(s.rows[j]'hl).line,N.fC y.aY=true:=List.all_eq_true.1 hr.fine
   have h4:(N.Jk [] (s.rows[j]'hl).line).2=0:=by
    rw [YQ _ [] NI hr.line.small,Oy _ [] hr.line.sorted hr.line.few fun y hy=>(nI (hck y hy)).2.1]
   show cond (N.zJ s j (s.rows[j]'hl)) (N.oN s ((j:Int)+1) (s.rows.drop (j+1))) false=true
   have hm:N.zJ s j (s.rows[j]'hl)=true:=by
    unfold N.zJ
    rw [I8 hr.q,I8 ha,gZ hr.most,I8 h4]
    exact OE h.BH hr.low
   rw [hm]
   exact ih (j+1) (by omega)
 exact this s.rows.length 0 (by omega)
theorem Zy {q:bY} (h:N.bU q=true):N.lJ (N.mF q).1=true∧iQ (N.mF q).1=true:=by
 rw [<- (J7 (jy h).1).1]
 exact ⟨DI _,uT _⟩
theorem adp {q:bY} (h:N.bU q=true):N.bU (N.oz q).2=true:=Ik (fG h 1)
theorem zL:∀ (k:Nat) {q:bY} (acc:List aO),N.bU q=true->acc.all eX=true->allM N.lJ acc=true->N.bU (N.iL k q acc).2=true∧(N.iL k q acc).1.all eX=true∧allM N.lJ (N.iL k q acc).1=true∧(N.iL k q acc).1.length<=acc.length+k
 | 0,_,_,h,h1,h2=>⟨h,h1,h2,Nat.le_refl _⟩
 | k+1,q,acc,h,h1,h2=>by
  unfold N.iL
  cases q.code==0 with
  | false=>exact ⟨h,h1,h2,by show acc.length<=_; omega⟩
  | true =>
   have hm:=Zy (fG h 1)
   have:=zL k (acc++[(N.oz q).1]) (adp h) (by rw [List.all_append,h1,List.all_cons,show eX (N.oz q).1=true from hm.2]; rfl)
    (by unfold allM at h2 ⊢; rw [List.all_append,h2,List.all_cons,show N.lJ (N.oz q).1.aY=true from hm.1]; rfl)
   rw [List.length_append,List.length_singleton] at this
   exact ⟨this.1,this.2.1,this.2.2.1,by have:=this.2.2.2; show (N.iL k (N.oz q).2 (acc++[(N.oz q).1])).1.length<=_; omega⟩
theorem Zz {q:bY} (h:N.bU q=true):N.bU (N.rqQ q).2=true:=qg (fG (fG (qg h _) _) _) _
theorem Rf {q:bY} (h:N.bU q=true):0<=(N.bD q 1).1∧(N.bD q 1).1<256:=by
 rw [<- (ji (jy h).1 1).1]; exact tC _
theorem akD {q:bY} (h:N.bU q=true):N.u64 (N.bD q 8).1=true:=by
 rw [<- (ji (jy h).1 8).1]; exact Xq _
theorem OG {q:bY} (h:N.bU q=true):N.bU (N.qO q).2=true∧zK (N.qO q).1∧(N.qO q).1.line.length<=255:=by
 have hn:=Rf (Zz h)
 have:=zL (N.bD (N.rqQ q).2 1).1.toNat [] (fG (Zz h) 1) rfl rfl
 refine ⟨this.1,⟨akD (fG (qg h _) _),this.2.1,this.2.2.1⟩,?_⟩
 have h2:=this.2.2.2
 simp only [List.length_nil] at h2
 show (N.iL (N.bD (N.rqQ q).2 1).1.toNat (N.bD (N.rqQ q).2 1).2 []).1.length<=255
 omega
theorem BM:∀ (k:Nat) {q:bY} (acc:List fE),N.bU q=true->(∀ x∈acc,zK x∧x.line.length<=255)->N.bU (N.iR k q acc).2=true∧(∀ x∈(N.iR k q acc).1,zK x∧x.line.length<=255)∧(N.iR k q acc).1.length<=acc.length+k
 | 0,_,_,h,h1=>⟨h,h1,Nat.le_refl _⟩
 | k+1,q,acc,h,h1=>by
  unfold N.iR
  cases q.code==0 with
  | false=>exact ⟨h,h1,by show acc.length<=_; omega⟩
  | true =>
   have hr:=OG h
   have:=BM k (acc++[(N.qO q).1]) hr.1 (fun x hx=>by
    rcases List.mem_append.1 hx with hx | hx
    .exact h1 x hx
    .rw [List.mem_singleton.1 hx]; exact hr.2)
   rw [List.length_append,List.length_singleton] at this
   exact ⟨this.1,this.2.1,by have:=this.2.2; show (N.iR k (N.qO q).2 (acc++[(N.qO q).1])).1.length<=_; omega⟩
theorem OH {q:bY} (h:N.bU q=true):N.bU (N.ni q).2=true∧dX (N.ni q).1=true∧N.Gx (N.ni q).1=true:=by
 have hr:=aaK (jy h).1
 rw [<- hr.1]
 exact ⟨um hr.2 (jy h).2,TW _⟩
theorem zM:∀ (k:Nat) {q:bY} {a:dW aG},N.bU q=true->a.list.all dX=true->a.list.all N.Gx=true->N.bU (N.iV k q a).2=true∧(N.iV k q a).1.list.all dX=true∧(N.iV k q a).1.list.all N.Gx=true
 | 0,_,_,h,h1,h2=>⟨h,h1,h2⟩
 | k+1,q,a,h,h1,h2=>by
  unfold N.iV
  cases q.code==0 with
  | false=>exact ⟨h,h1,h2⟩
  | true =>
   have hr:=OH (fG h 1)
   cases aU (N.bD q 1).1 16 with
   | true=>exact zM k hr.1 (Dl h1 hr.2.1 _) (Dl h2 hr.2.2 _)
   | false=>exact zM k hr.1 h1 h2
theorem Xz {t:Bytes} (ht:t.length<=3000):N.bU ⟨t,0,0⟩=true:=um (ae0 t) (by show t.length<=1000000; omega)
theorem GV {t:Bytes} (ht:t.length<=3000) (b:Int):N.bU (N.gW t b).2=true∧(∀ x∈(N.gW t b).1.rows,zK x∧x.line.length<=255)∧(N.gW t b).1.rises.list.all dX=true∧N.Jv (N.gW t b).1=true ∧
  0<=(N.gW t b).1.next∧(N.gW t b).1.next<18446744073709551616∧(N.gW t b).1.bytes=cond (aU 0 b) b 0∧(N.gW t b).1.rows.length<=255:=by
 have h0:=Xz ht
 have hn:=Rf (fG h0 8)
 have h1:=BM (N.bD (N.bD ⟨t,0,0⟩ 8).2 1).1.toNat [] (fG (fG h0 8) 1) (fun _ hx=>by cases hx)
 have h2:=zM (N.bD (N.iR (N.bD (N.bD ⟨t,0,0⟩ 8).2 1).1.toNat (N.bD (N.bD ⟨t,0,0⟩ 8).2 1).2 []).2 1).1.toNat (a:=fD.rises) (fG h1.1 1) rfl rfl
 have h3:=Iq (akD h0)
 have h4:=h1.2.2
 simp only [List.length_nil] at h4
 refine ⟨h2.1,h1.2.1,h2.2.1,h2.2.2,h3.1,h3.2,rfl,?_⟩
 show (N.iR (N.bD (N.bD ⟨t,0,0⟩ 8).2 1).1.toNat (N.bD (N.bD ⟨t,0,0⟩ 8).2 1).2 []).1.length<=255
 omega
theorem ZA {t:Bytes} (ht:t.length<=3000) {b:Int} (hb:b<=9223372036854775807):N.qP t b=N.ig t b∧((N.ig t b).2=0∧jo (N.ig t b).1∨N.ig t b=(fD,4)):=by
 have bad:(N.ig t b).2 ≠ 0->N.ig t b=(fD,4):=fun h=>by
  revert h
  unfold N.ig
  cases N.yB (N.iF t b).2 != 0<;>cases aU (N.og (N.iF t b).1) 0<;>cases N.nM (N.iF t b).1==t<;>intro h<;>first | rfl | exact absurd rfl h
 have hg:=GV ht b
 have hb0:0<=cond (aU 0 b) b 0∧cond (aU 0 b) b 0<=9223372036854775807:=by
  cases hc:aU 0 b with
  | true=>have:=jv hc; exact ⟨by show 0<=b; omega,hb⟩
  | false=>exact ⟨Int.le_refl 0,show (0:Int)<=9223372036854775807 by omega⟩
 by_cases h:(N.ig t b).2=0
 .obtain ⟨i1,i2,i3,i4,i5,i6⟩:=Ua hb h
  have hr:=ahx i5
  have e:(N.gW t b).1=(N.ig t b).1:=by rw [hr.1,i6]
  refine ⟨?_,.inl ⟨h,i1⟩⟩
  unfold N.qP
  rw [hr.2,e,ajG i1,i4,i6]
  simp only [beq_self_eq_true]
  try rfl
 .have hs:=bad h
  refine ⟨?_,.inr hs⟩
  rw [hs]
  unfold N.qP
  cases h1:N.OD (N.gW t b).2 != 0 with
  | true=>rfl
  | false =>
   cases h2:N.IB (N.gW t b).1 with
   | false=>rfl
   | true =>
    cases h3:N.nM (N.gW t b).1==t with
    | false=>rfl
    | true =>
     have inv:=abx hg.2.2.2.2.1 hg.2.2.2.2.2.1 (by rw [hg.2.2.2.2.2.2.1]; exact hb0.1) (by rw [hg.2.2.2.2.2.2.1]; exact hb0.2) (fun x hx=>(hg.2.1 x hx).1) hg.2.2.1 h2
     have:=Zn inv hg.2.2.2.1 (b:=b) hg.2.2.2.2.2.2.1
     rw [beq_iff_eq.1 h3] at this
     rw [this] at h
     exact absurd rfl h
end Go.Ev

namespace Go.Ev
open Go Go.Proofs
set_option maxRecDepth 100000
-- FOLD2
def ahz:Den:=den (aT (jL 0)) (jr wZ) (oV (bJ bf)) (fun _ q=>N.bU q) fun _ q=>N.qO q
def ahA:fK:={ fr:=[(0,.ptr 0 0 0),(2,.ptr 10000 0 0),(6,.ptr 10002 0 0),(7,.int .i64),(8,.int .i64)],tab:=[(0,.var [.str,.int .i64,.int .i64]),(10001,.sl yI),(10000,.var [.str,.int .u64,.int .u64,.str,.own 10001]),(10003,.sl yI),(10002,.var [.str,.int .u64,.int .u64,.str,.own 10003])] }
def ahB:List Leaf->(Ex->St->Option R)->Option R
 | [.i i7,.i i8,.s pU,.i l7,.i gq,.r yG,.s wo,.i BN,.i BO,.s BP,.r Zv,.s yJ,.i yK,.i iM,.s BQ],K=>cond (bW 0 i8) (cond (bW i7 255) (cond (Nat.beq Zv.length 0) (cond (N.bU ⟨pU,l7,gq⟩) (K (.exit 0) { fr:=[(2,.ptr 10000 0 0 0),(6,.ptr 10002 0 0 0)],tab:=[(0,.var [.str (N.iL (i7-i8).toNat ⟨pU,l7,gq⟩ []).2.s,.int .i64 (N.iL (i7-i8).toNat ⟨pU,l7,gq⟩ []).2.at',.int .i64 (N.iL (i7-i8).toNat ⟨pU,l7,gq⟩ []).2.code]),(10001,.sl yI yG 0),(10000,.var [.str wo,.int .u64 BN,.int .u64 BO,.str BP,.own 10001 0]),(10003,.sl yI ((N.iL (i7-i8).toNat ⟨pU,l7,gq⟩ []).1.map ak.enc) 0),(10002,.var [.str yJ,.int .u64 yK,.int .u64 iM,.str BQ,.own 10003 0])] }) none) none) none) none
 | _,_=>none
noncomputable def OI:Env:=env Tryz.prog [(152,SC),(80,MC),(153,Ye)] [(7,dO ahA ahB)] [(7,[(0,[0,2,6,7,8]),(1,[2,6]),(1000,[2])])]
theorem ajH (q:bY):type_of% (by
  have h:bV OI 81 ((aT (jL 0)).enc ()) ((jr wZ).enc q) some =(
   let z1:=(N.bD (Prod.snd (N.iC q 65535)) 8);let z3:=(N.bD z1.2 8);let z4:=(N.iC z3.2 65535);let z0:=(N.bD z4.2 1);let z2:=(N.iL (Int.toNat (IntKind.wrap .i64 z0.1-0)) z0.2 []);cond (N.bU q) (cond (N.bU (Prod.snd (N.iC q 65535))) (cond (N.bU z1.2) (cond (N.bU z3.2) (cond (N.bU z4.2) (cond (bW (IntKind.wrap .i64 z0.1) 255) (cond (N.bU z0.2) (some {v:=.agg [V.str (Prod.fst (N.iC q 65535)),.int .u64 z1.1,.int .u64 z3.1,.str z4.1,.slc yI (List.map (aj.enc ak) z2.1)],bx:=[[V.str (bY.s z2.2),.int .i64 (bY.at' z2.2),.int .i64 (bY.code z2.2)]]:aJ}) none) none) none) none) none) none) none):=by kernel_rfl
  dsimp only at h;exact h):=by kernel_rfl
theorem ahC (i7:Int) (i8:Int) (pU:Bytes) (l7:Int) (gq:Int) (yG:List (List V)) (wo:Bytes) (BN:Int) (BO:Int) (BP:Bytes) (Zv:List (List V)) (yJ:Bytes) (yK:Int) (iM:Int) (BQ:Bytes) (K:Ex->St->Option R):type_of% (by
  have h:bI OI 81 7 { fr:=[(0,.ptr 0 0 0 0),(2,.ptr 10000 0 0 0),(6,.ptr 10002 0 0 0),(7,.int .i64 i7),(8,.int .i64 i8)],tab:=[(0,.var [.str pU,.int .i64 l7,.int .i64 gq]),(10001,.sl yI yG 0),(10000,.var [.str wo,.int .u64 BN,.int .u64 BO,.str BP,.own 10001 0]),(10003,.sl yI Zv 0),(10002,.var [.str yJ,.int .u64 yK,.int .u64 iM,.str BQ,.own 10003 0])] } K =(
   let z2:=(N.bD {s:=pU,at':=l7,code:=gq:bY} 1);let z0:=(N.mF z2.2);let z1:=(K (.exit 0) {fr:=[(2,.ptr 10000 0 0 0),(6,.ptr 10002 0 0 0)],tab:=[(0,.var [V.str pU,.int .i64 l7,.int .i64 gq]),(10001,.sl yI yG 0),(10000,.var [V.str wo,.int .u64 BN,.int .u64 BO,.str BP,.own 10001 0]),(10003,.sl yI Zv 0),(10002,.var [V.str yJ,.int .u64 yK,.int .u64 iM,.str BQ,.own 10003 0])]:St});cond (aU i8 i7) (cond (gq==0) (cond (N.bU {s:=pU,at':=l7,code:=gq:bY}) (cond (N.bU z2.2) (cond (decide ((List.length Zv+1)*104<=140737488355328)) (K .normal {fr:=[(0,.ptr 0 0 0 0),(2,.ptr 10000 0 0 0),(6,.ptr 10002 0 0 0),(7,.int .i64 i7),(8,.int .i64 (IntKind.wrap .i64 (i8+1)))],tab:=[(0,.var [V.str (bY.s z0.2),.int .i64 (bY.at' z0.2),.int .i64 (bY.code z0.2)]),(10001,.sl yI yG 0),(10000,.var [V.str wo,.int .u64 BN,.int .u64 BO,.str BP,.own 10001 0]),(10003,.sl yI (Zv++[[V.int .u64 (au.id z0.1),.str (au.bZ z0.1),.str (au.key z0.1),.slc yP (List.map yE (au.head z0.1)),.str (au.body z0.1),.int .u64 (au.due z0.1),.int .u8 (au.hops z0.1),.bool (Int.tmod z2.1 (2 : Int)==1),.bool (Int.tmod (IntKind.wrap .u64 (Int.tdiv z2.1 2)) (2 : Int)==1)]]) 0),(10002,.var [V.str yJ,.int .u64 yK,.int .u64 iM,.str BQ,.own 10003 0])]:St}) none) none) none) z1) z1):=by kernel_rfl
  dsimp only at h;exact h):=by kernel_rfl
theorem ZB:dM OI 81 7:=by
 refine bn rfl fun l K q h=>?_
 unfold ahB at h
 split at h
 .rename_i i7 i8 pU l7 gq yG wo BN BO BP Zv yJ yK iM BQ
  replace h:=Z4 h;obtain ⟨h1,h2,h3,h4,h⟩:=h
  have e4:=List.eq_nil_of_length_eq_zero (kT h3)
  subst e4
  have h1:=bK h1
  have h2:=bK h2
  have main:=dN (E:=OI) (f:=81) (id:=7) (σ:=Int × bY × List aO) (fun x=>{ fr:=[(0,.ptr 0 0 0 0),(2,.ptr 10000 0 0 0),(6,.ptr 10002 0 0 0),(7,.int .i64 i7),(8,.int .i64 x.1)],tab:=[(0,.var [.str x.2.1.s,.int .i64 x.2.1.at',.int .i64 x.2.1.code]),(10001,.sl yI yG 0),(10000,.var [.str wo,.int .u64 BN,.int .u64 BO,.str BP,.own 10001 0]),(10003,.sl yI (x.2.2.map ak.enc) 0),(10002,.var [.str yJ,.int .u64 yK,.int .u64 iM,.str BQ,.own 10003 0])] })
   (fun x=>0<=x.1∧x.2.2.length+(i7-x.1).toNat<=255∧N.bU x.2.1=true) (fun x=>(i7-x.1).toNat) (fun x K=>K (.exit 0) { fr:=[(2,.ptr 10000 0 0 0),(6,.ptr 10002 0 0 0)],tab:=[(0,.var [.str (N.iL (i7-x.1).toNat x.2.1 x.2.2).2.s,.int .i64 (N.iL (i7-x.1).toNat x.2.1 x.2.2).2.at',.int .i64 (N.iL (i7-x.1).toNat x.2.1 x.2.2).2.code]),(10001,.sl yI yG 0),(10000,.var [.str wo,.int .u64 BN,.int .u64 BO,.str BP,.own 10001 0]),(10003,.sl yI ((N.iL (i7-x.1).toNat x.2.1 x.2.2).1.map ak.enc) 0),(10002,.var [.str yJ,.int .u64 yK,.int .u64 iM,.str BQ,.own 10003 0])] }) (fun x hx=>?_) (i8,⟨pU,l7,gq⟩,[]) ⟨h1,by show 0+(i7-i8).toNat<=255; omega,h4⟩ K q h
  .exact main
  .obtain ⟨k,i,acc⟩:=x
   obtain ⟨hk,hx,hg⟩:=hx
   have hk:0<=k:=hk
   have hx:acc.length+(i7-k).toNat<=255:=hx
   have hg:N.bU i=true:=hg
   have hn:=fun K=>ahC i7 k i.s i.at' i.code yG wo BN BO BP (acc.map ak.enc) yJ yK iM BQ K
   have ei:(⟨i.s,i.at',i.code⟩:bY)=i:=rfl
   rw [ei] at hn
   cases hc:aU k i7 with
   | false =>
    have hc':=dP hc
    have e0:(i7-k).toNat=0:=by omega
    refine .inr ⟨.exit 0,{ fr:=[(2,.ptr 10000 0 0 0),(6,.ptr 10002 0 0 0)],tab:=[(0,.var [.str ((acc,i):List aO × bY).2.s,.int .i64 ((acc,i):List aO × bY).2.at',.int .i64 ((acc,i):List aO × bY).2.code]),(10001,.sl yI yG 0),(10000,.var [.str wo,.int .u64 BN,.int .u64 BO,.str BP,.own 10001 0]),(10003,.sl yI (((acc,i):List aO × bY).1.map ak.enc) 0),(10002,.var [.str yJ,.int .u64 yK,.int .u64 iM,.str BQ,.own 10003 0])] },by simp,fun K=>?_,fun K=>?_⟩
    .refine (hn K).trans ?_
     rw [hc]; rfl
    .simp only [e0]; rfl
   | true =>
    have hc':=jv hc
    obtain ⟨j,hj⟩:∃ j,(i7-k).toNat=j+1:=⟨(i7-k).toNat-1,by omega⟩
    have hj' : (i7-(k+1)).toNat=j:=by omega
    have t2:IntKind.wrap .i64 (k+1)=k+1:=dQ (by omega) (by omega)
    have t3:decide (((acc.map ak.enc).length+1)*104<=140737488355328)=true:=decide_eq_true (by rw [List.length_map]; omega)
    have g2:=fG hg 1
    have g3:=Ik g2
    simp only [hc,t2,t3,hg,g2,cond_true] at hn
    have er:N.iL (j+1) i acc=cond (i.code==0) (N.iL j (N.oz i).2 (acc++[(N.oz i).1])) (acc,i):=rfl
    cases he:i.code==0 with
    | true =>
     refine .inl ⟨(k+1,(N.oz i).2,acc++[(N.oz i).1]),⟨by show 0<=k+1; omega,by simp only [List.length_append,List.length_singleton]; omega,g3⟩,by simp only; omega,fun K=>?_,fun K=>?_⟩
     .refine (hn K).trans ?_
      rw [he]
      simp only [List.map_append]
      try rfl
     .simp only [hj',hj,er,he,cond_true]
    | false =>
     refine .inr ⟨.exit 0,{ fr:=[(2,.ptr 10000 0 0 0),(6,.ptr 10002 0 0 0)],tab:=[(0,.var [.str ((acc,i):List aO × bY).2.s,.int .i64 ((acc,i):List aO × bY).2.at',.int .i64 ((acc,i):List aO × bY).2.code]),(10001,.sl yI yG 0),(10000,.var [.str wo,.int .u64 BN,.int .u64 BO,.str BP,.own 10001 0]),(10003,.sl yI (((acc,i):List aO × bY).1.map ak.enc) 0),(10002,.var [.str yJ,.int .u64 yK,.int .u64 iM,.str BQ,.own 10003 0])] },by simp,fun K=>?_,fun K=>?_⟩
     .refine (hn K).trans ?_
      rw [he]; rfl
     .simp only [hj,er,he,cond_false]
 .cases h
theorem ahD:bH Tryz.prog 81 ahz:=by
 refine aN (aQ ((((gu.nil _).cons VA).cons CY).cons MS)) (E:=OI) Tryz.func81 [7] (by kernel_rfl) (one1 ZB) fun a b hp=>?_
 have h:N.bU b=true:=hp
 refine (ajH b).trans ?_
 have hq:=Zz h
 have hN:=Rf hq
 have g1:=qg h 65535
 have g2:=fG g1 8
 have g3:=fG g2 8
 have hl:=zL (N.bD (N.rqQ b).2 1).1.toNat [] (fG hq 1) rfl rfl
 have e0:∀ n:Int,n-0=n:=fun n=>by omega
 unfold N.rqQ at hq hN hl
 dsimp only at hq hN hl
 have w:IntKind.wrap .i64 (N.bD (N.iC (N.bD (N.bD (N.iC b 65535).2 8).2 8).2 65535).2 1).1=(N.bD (N.iC (N.bD (N.bD (N.iC b 65535).2 8).2 8).2 65535).2 1).1:=dQ (by omega) (by omega)
 rw [h,g1,g2,g3,hq,fG hq 1,w,dY (by omega)]
 simp only [e0,cond_true]
 try rfl
def GX (s:aI):Bool:=cond (aU 8 s.rows.length) true (xu s)
def ahE:Den:=den (aT (bJ aH)) dV (oV lC) (fun s _=>GX s) fun s _=>(N.IB s,())
def adq:fK:={ fr:=[(1,.ptr 10000 0 0),(21,.slc yR),(22,.int .i64),(23,.int .i64)],tab:=[(10000,.row [] aA)] }
def aby:List Leaf->(Ex->St->Option R)->Option R
 | [.r yL,.i i22,.i i23,.c cO],K=>cond (i22==yL.length) (cond (i23==0) (cond (Nat.ble yL.length 100) (cond (qK (aH.dec cO)) (cond ((yL.map bf.dec).all uY) (cond (N.oN (aH.dec cO) ((0:Int)) ((yL).map bf.dec)) (K (.exit 0) { fr:=[],tab:=[] }) (K .ret { fr:=[(2,.bool false)],tab:=[] })) none) none) none) none) none
 | _,_=>none
def ZC:fK:={ fr:=[(1,.ptr 10000 0 0),(21,.slc yR),(22,.int .i64),(23,.int .i64),(62,.slc yI),(63,.int .i64),(64,.int .i64)],tab:=[(10000,.row [] aA)] }
def XA:List Leaf->(Ex->St->Option R)->Option R
 | [.r yL,.i i22,.i i23,.r Rh,.i i63,.i i64,.c cO],K=>cond (i63==Rh.length) (cond (i64==0) (cond (Nat.ble Rh.length 1000) (cond (N.lZ (aH.dec cO).next ((Rh).map ak.dec)) (K (.exit 2) { fr:=[(1,.ptr 10000 0 0 0),(21,.slc yR yL),(22,.int .i64 i22),(23,.int .i64 i23)],tab:=[(10000,.var (aF aA 0 cO))] }) (K .ret { fr:=[(2,.bool false)],tab:=[] })) none) none) none
 | _,_=>none
noncomputable def BR:Env:=env Tryz.prog [(94,abp),(155,anO),(131,Kt),(93,Y4)] [(10,dO ZC XA),(4,dO adq aby)] [(4,[(0,[1,21,22,23]),(1,[]),(1000,[2])]),(10,[(0,[1,21,22,23,62,63,64]),(3,[1,21,22,23]),(1000,[2])])]
theorem ajI (s:aI):bV BR 84 ((aT (bJ aH)).enc s) ([]) some =
 cond (aU 8 (↑(List.length (List.map (aj.enc bf) s.rows)):Int)) (some {v:=.bool false,bx:=[]:aJ}) (cond (xu (aj.dec aH (aj.enc aH s))) (cond (aU s.bytes (N.sQ (aj.dec aH (aj.enc aH s)))) (some {v:=.bool false,bx:=[]:aJ}) (cond ((↑(List.length (List.map (aj.enc bf) s.rows)):Int)==(↑(List.length (List.map (aj.enc bf) s.rows)):Int)) (cond (Nat.ble (List.length (List.map (aj.enc bf) s.rows)) 100) (cond (Nat.ble (List.length (List.map (aj.dec bf) (List.map (aj.enc bf) s.rows))) 100) (cond (List.all (List.map (aj.dec bf) (List.map (aj.enc bf) s.rows)) uY) (cond (N.oN (aj.dec aH (aj.enc aH s)) 0 (List.map (aj.dec bf) (List.map (aj.enc bf) s.rows))) (some {v:=.bool true,bx:=[]:aJ}) (some {v:=.bool false,bx:=[]:aJ})) none) none) none) none)) none):=by kernel_rfl
theorem Ri (yL:List (List V)) (i22:Int) (i23:Int) (cO:List V) (K:Ex->St->Option R):type_of% (by
  have h:bI BR 84 4 { fr:=[(1,.ptr 10000 0 0 0),(21,.slc yR yL),(22,.int .i64 i22),(23,.int .i64 i23)],tab:=[(10000,.var (aF aA 0 cO))] } K =(
   let z2:=(List.getD yL (Int.toNat i23) []);let z0:=(V.toRows (z2.getD 4 .undef));let z1:=(K .ret {fr:=[(2,.bool false)],tab:=[]:St});let z3:=(List.map (aj.dec ak) z0);cond (aU i23 i22) (cond (decide (0<=i23∧i23<(↑(List.length yL):Int))) (cond (Nat.ble (List.length z3) 300) (cond (N.iW (aj.dec lX z2) != 0) z1 (cond (Nat.ble (List.length (List.map (aj.dec bf) (V.toRows (cO.getD 2 .undef)))) 100) (cond (N.iK (aj.dec aH cO) (V.toStr (z2.getD 0 .undef)) != i23) z1 (cond (aU (V.toInt (z2.getD 1 .undef)) (IntKind.wrap .u64 (↑(List.length z0):Int))) z1 (cond (Prod.snd (N.Jk [] z3) != 0) z1 (cond ((↑(List.length z0):Int)==(↑(List.length z0):Int)) (cond (Nat.ble (List.length z0) 1000) (cond (N.lZ (V.toInt (cO.getD 0 .undef)) z3) (K .normal {fr:=[(1,.ptr 10000 0 0 0),(21,.slc yR yL),(22,.int .i64 i22),(23,.int .i64 (IntKind.wrap .i64 (i23+1)))],tab:=[(10000,.var (aF aA 0 cO))]:St}) z1) none) none)))) none)) none) none) (K (.exit 0) {fr:=[],tab:=[]:St})):=by kernel_rfl
  dsimp only at h;exact h):=by kernel_rfl
theorem OJ (yL:List (List V)) (i22:Int) (i23:Int) (Rh:List (List V)) (i63:Int) (i64:Int) (cO:List V) (K:Ex->St->Option R):type_of% (by
  have h:bI BR 84 10 { fr:=[(1,.ptr 10000 0 0 0),(21,.slc yR yL),(22,.int .i64 i22),(23,.int .i64 i23),(62,.slc yI Rh),(63,.int .i64 i63),(64,.int .i64 i64)],tab:=[(10000,.var (aF aA 0 cO))] } K =(
   let z0:=(K .normal {fr:=[(1,.ptr 10000 0 0 0),(21,.slc yR yL),(22,.int .i64 i22),(23,.int .i64 i23),(62,.slc yI Rh),(63,.int .i64 i63),(64,.int .i64 (IntKind.wrap .i64 (i64+1)))],tab:=[(10000,.var (aF aA 0 cO))]:St});cond (aU i64 i63) (cond (decide (0<=i64∧i64<(↑(List.length Rh):Int))) (cond (aU 0 (V.toInt (cO.getD 0 .undef))) (cond (bW (V.toInt (cO.getD 0 .undef)) (V.toInt (List.getD (List.getD Rh (Int.toNat i64) []) 0 V.undef))) (K .ret {fr:=[(2,.bool false)],tab:=[]:St}) z0) z0) none) (K (.exit 2) {fr:=[(1,.ptr 10000 0 0 0),(21,.slc yR yL),(22,.int .i64 i22),(23,.int .i64 i23)],tab:=[(10000,.var (aF aA 0 cO))]:St})):=by kernel_rfl
  dsimp only at h;exact h):=by kernel_rfl
theorem ZE:dM BR 84 4:=by
 refine bn rfl fun l K q h=>?_
 unfold aby at h
 split at h
 .rename_i yL i22 i23 cO
  replace h:=EY h;obtain ⟨h1,h2,h3,h4,h5,h⟩:=h
  have e1:=aZ h1
  have e2:=aZ h2
  subst e1 e2
  have h3:yL.length<=100:=aV h3
  have main:=dH (E:=BR) (f:=84) (id:=4) (A:=Int) (yL) (fun a i=>{ fr:=[(1,.ptr 10000 0 0 0),(21,.slc yR yL),(22,.int .i64 yL.length),(23,.int .i64 i)],tab:=[(10000,.var (aF aA 0 cO))] }) (fun a i=>a=(i:Int))
   (fun a rows K=>cond (N.oN (aH.dec cO) (a) ((rows).map bf.dec)) (K (.exit 0) { fr:=[],tab:=[] }) (K .ret { fr:=[(2,.bool false)],tab:=[] })) (fun a i ha hi=>?_) (fun a ha=>?_) ((0:Int)) 0 (Int.le_refl _) (by omega) rfl K q (by assumption)
  .exact main
  .have hq:=fun K=>Ri (yL) (yL.length) ((i:Int)) (cO) K
   have t1:aU (i:Int) yL.length=true:=eF (by omega)
   have t2:decide ((0:Int)<=i∧(i:Int)<yL.length)=true:=decide_eq_true (by omega)
   have t3:IntKind.wrap .i64 ((i:Int)+1)=(i:Int)+1:=dQ (by omega) (by omega)
   have hr:rO (bf.dec (yL.getD i [])).line=true:=kE h5 hi
   have hs:=fA (uw hr).1
   have h6:Nat.ble (aH.dec cO).rows.length 100=true:=h4
   have hlen:=(uw hr).1
   have n0:V.toStr (List.getD (List.getD yL i []) 0 V.undef)=(bf.dec (yL.getD i [])).q.name:=rfl
   have n1:V.toInt (List.getD (List.getD yL i []) 1 V.undef)=(bf.dec (yL.getD i [])).q.most:=rfl
   have n2:lX.dec (yL.getD i [])=(bf.dec (yL.getD i [])).q:=rfl
   have n3:V.toInt (List.getD cO 0 V.undef)=(aH.dec cO).next:=rfl
   have n4:(V.toRows (List.getD (List.getD yL i []) 4 V.undef)).length=(bf.dec (yL.getD i [])).line.length:=by rw [<- mM,List.length_map]
   have w:=jU (n:=((bf.dec (yL.getD i [])).line.length:Int)) (by omega) (by omega)
   have hs2:=fA (show (bf.dec (yL.getD i [])).line.length<=1000 by omega)
   simp only [Int.toNat_natCast,mM,bT,n0,n1,n2,n3,n4,QU] at hq
   simp only [t1,t2,t3,cond_true,hs,hs2,h6,w,beq_self_eq_true] at hq
   subst ha
   simp only [List.map_cons]
   have er:∀ (y:fE) (l:List fE),N.oN (aH.dec cO) (i:Nat) (y::l)=cond (N.zJ (aH.dec cO) (i:Nat) y) (N.oN (aH.dec cO) ((i:Nat)+1:Int) l) false:=fun _ _=>rfl
   have ei:(((i+1:Nat)):Int)=(i:Int)+1:=by omega
   simp only [er,ei]
   generalize bf.dec (yL.getD i [])=x at *
   unfold N.zJ
   cases c1:N.iW x.q != 0 with
   | true=>exact .inr ⟨.ret,{ fr:=[(2,.bool false)],tab:=[] },by simp,fun K=>by rw [hq,c1]; rfl,fun K=>rfl⟩
   | false =>
    cases c2:N.iK (aH.dec cO) x.q.name != (i:Int) with
    | true=>exact .inr ⟨.ret,{ fr:=[(2,.bool false)],tab:=[] },by simp,fun K=>by rw [hq,c1,c2]; rfl,fun K=>rfl⟩
    | false =>
     cases c3:aU x.q.most x.line.length with
     | true=>exact .inr ⟨.ret,{ fr:=[(2,.bool false)],tab:=[] },by simp,fun K=>by rw [hq,c1,c2,c3]; rfl,fun K=>rfl⟩
     | false =>
      cases c4:(N.Jk [] x.line).2 != 0 with
      | true=>exact .inr ⟨.ret,{ fr:=[(2,.bool false)],tab:=[] },by simp,fun K=>by rw [hq,c1,c2,c3,c4]; rfl,fun K=>rfl⟩
      | false =>
       cases c5:N.lZ (aH.dec cO).next x.line with
       | false=>exact .inr ⟨.ret,{ fr:=[(2,.bool false)],tab:=[] },by simp,fun K=>by rw [hq,c1,c2,c3,c4,c5]; rfl,fun K=>rfl⟩
       | true=>exact .inl ⟨(i:Int)+1,ei.symm,fun K=>by rw [hq,c1,c2,c3,c4,c5]; rfl,fun K=>rfl⟩
  .refine ⟨.exit 0,_,by simp,fun K=>?_,fun K=>rfl⟩
   rw [Ri]
   simp (disch:=omega) only [evs]
   try rfl
 .cases h
theorem XB:dM BR 84 10:=by
 refine bn rfl fun l K q h=>?_
 unfold XA at h
 split at h
 .rename_i yL i22 i23 Rh i63 i64 cO
  replace h:=RH h;obtain ⟨h1,h2,h3,h⟩:=h
  have e1:=aZ h1
  have e2:=aZ h2
  subst e1 e2
  have h3:Rh.length<=1000:=aV h3
  have main:=dH (E:=BR) (f:=84) (id:=10) (A:=Unit) (Rh) (fun a i=>{ fr:=[(1,.ptr 10000 0 0 0),(21,.slc yR yL),(22,.int .i64 i22),(23,.int .i64 i23),(62,.slc yI Rh),(63,.int .i64 Rh.length),(64,.int .i64 i)],tab:=[(10000,.var (aF aA 0 cO))] }) (fun a i=>True)
   (fun a rows K=>cond (N.lZ (aH.dec cO).next ((rows).map ak.dec)) (K (.exit 2) { fr:=[(1,.ptr 10000 0 0 0),(21,.slc yR yL),(22,.int .i64 i22),(23,.int .i64 i23)],tab:=[(10000,.var (aF aA 0 cO))] }) (K .ret { fr:=[(2,.bool false)],tab:=[] })) (fun a i ha hi=>?_) (fun a ha=>?_) (()) 0 (Int.le_refl _) (by omega) trivial K q (by assumption)
  .exact main
  .have hq:=fun K=>OJ (yL) (i22) (i23) (Rh) (Rh.length) ((i:Int)) (cO) K
   have t1:aU (i:Int) Rh.length=true:=eF (by omega)
   have t2:decide ((0:Int)<=i∧(i:Int)<Rh.length)=true:=decide_eq_true (by omega)
   have t3:IntKind.wrap .i64 ((i:Int)+1)=(i:Int)+1:=dQ (by omega) (by omega)
   have n0:V.toInt (List.getD cO 0 V.undef)=(aH.dec cO).next:=rfl
   have n1:V.toInt (List.getD (List.getD Rh i []) 0 V.undef)=(ak.dec (Rh.getD i [])).aY.id:=rfl
   simp only [Int.toNat_natCast,n0,n1] at hq
   simp only [t1,t2,t3,cond_true] at hq
   simp only [List.map_cons]
   have er:∀ (y:aO) (l:List aO),N.lZ (aH.dec cO).next (y::l)=cond (cond (aU 0 (aH.dec cO).next) (bW (aH.dec cO).next y.aY.id) false) false (N.lZ (aH.dec cO).next l):=fun _ _=>rfl
   simp only [er]
   cases ha:aU 0 (aH.dec cO).next with
   | false =>
    refine .inl ⟨(),trivial,fun K=>?_,fun K=>rfl⟩
    rw [hq,ha]; rfl
   | true =>
    cases hc:bW (aH.dec cO).next (ak.dec (Rh.getD i [])).aY.id with
    | false =>
     refine .inl ⟨(),trivial,fun K=>?_,fun K=>rfl⟩
     rw [hq,ha,hc]; rfl
    | true =>
     refine .inr ⟨.ret,{ fr:=[(2,.bool false)],tab:=[] },by simp,fun K=>?_,fun K=>rfl⟩
     rw [hq,ha,hc]; rfl
  .refine ⟨.exit 2,_,by simp,fun K=>?_,fun K=>rfl⟩
   rw [OJ]
   simp (disch:=omega) only [evs]
   try rfl
 .cases h
theorem ahF:bH Tryz.prog 84 ahE:=by
 refine aN (aQ (((((gu.nil _).cons ac3).cons Ze).cons ama).cons ac4)) (E:=BR) Tryz.func84 [4,10] (by kernel_rfl) (FH ZE XB) fun a b hp=>?_
 have h:cond (aU 8 a.rows.length) true (xu a)=true:=hp
 refine (ajI a).trans ?_
 show _=some (⟨.bool (N.IB a),[],[]⟩:aJ)
 unfold N.IB
 cases h8:aU 8 (a.rows.length:Int) with
 | true=>rw [List.length_map,h8]; rfl
 | false =>
  rw [h8] at h
  have h:xu a=true:=h
  obtain ⟨h1,h2⟩:=aX h
  obtain ⟨h1,h3⟩:=aX h1
  simp only [aH.de,bT,List.length_map,beq_self_eq_true,h,h1,h3,h8,cond_true,cond_false]
  cases aU a.bytes (N.sQ a)<;>cases hm:N.oN a 0 a.rows<;>first | rfl | (show cond (N.oN a 0 a.rows) _ _=_; rw [hm]; rfl)
def akE:Den:=den (aT (jL 0)) (jr wZ) (oV (dA .i64)) (fun _ _=>true) fun _ q=>(N.OD q,q)
noncomputable def ahG:Env:=env Tryz.prog [] [] []
theorem ajJ (q:bY):bV ahG 83 ((aT (jL 0)).enc ()) ((jr wZ).enc q) some =
 cond (bY.code q==0) (cond (aU (bY.at' q) (↑(List.length (bY.s q)):Int)) (some {v:=.int .i64 4,bx:=[[V.str (bY.s q),.int .i64 (bY.at' q),.int .i64 (bY.code q)]]:aJ}) (some {v:=.int .i64 (bY.code q),bx:=[[V.str (bY.s q),.int .i64 (bY.at' q),.int .i64 (bY.code q)]]:aJ})) (some {v:=.int .i64 (bY.code q),bx:=[[V.str (bY.s q),.int .i64 (bY.at' q),.int .i64 (bY.code q)]]:aJ}):=by kernel_rfl
theorem ahH:bH Tryz.prog 83 akE:=by
 refine aN (aQ (gu.nil _)) (E:=ahG) Tryz.func83 [] (by kernel_rfl) (none0) fun a b hp=>?_
 refine (ajJ b).trans ?_
 show _=some (⟨.int .i64 (N.OD b),[[.str b.s,.int .i64 b.at',.int .i64 b.code]],[]⟩:aJ)
 unfold N.OD
 cases b.code==0<;>cases aU b.at' (b.s.length:Int)<;>rfl
def ajK (s:aI):Out:={ v:=.agg (.int .u64 s.next::.int .i64 s.bytes::.own NEW 0::dn s.rises),nb:=[.sl yR (s.rows.map bf.enc) 0] }
def ahI:Den:=den (bg (dA .u64) (aT (dA .i64))) dV ajK (fun _ _=>true) fun a _=>(N.sNew a.1 a.2,())
noncomputable def abz:Env:=env Tryz.prog [] [] [] [31]
theorem ahJ (b n:Int):bV abz 31 ((bg (dA .u64) (aT (dA .i64))).enc (b,n)) ([]) some =
 some {v:=.agg [V.int .u64 b,.int .i64 (bif aU n 0 then 0 else n),.own 1000 0,.int .u64 0,.slc yM [],.int .u64 0,.slc yM [],.int .u64 0,.slc yM [],.int .u64 0,.slc yM [],.int .u64 0,.slc yM [],.int .u64 0,.slc yM [],.int .u64 0,.slc yM [],.int .u64 0,.slc yM [],.int .u64 0,.slc yM [],.int .u64 0,.slc yM [],.int .u64 0,.slc yM [],.int .u64 0,.slc yM [],.int .u64 0,.slc yM [],.int .u64 0,.slc yM [],.int .u64 0,.slc yM [],.int .u64 0,.slc yM []],bx:=[],nb:=[Box.sl yR [] 0]:aJ}:=by kernel_rfl
theorem adr:bH Tryz.prog 31 ahI:=by
 refine aN (aQ (gu.nil _)) (E:=abz) Tryz.func31 [] (by kernel_rfl) (none0) fun a b hp=>?_
 refine (ahJ a.1 a.2).trans ?_
 unfold N.sNew
 cases h1:aU 0 a.2 with
 | true =>
  have:=jv h1
  rw [gZ (by omega)]; rfl
 | false =>
  cases h2:aU a.2 0 with
  | true=>rfl
  | false =>
   have h1:=dP h1
   have h2:=dP h2
   have:a.2=0:=by omega
   rw [this]; rfl
end Go.Ev

namespace Go.Ev
open Go Go.Proofs
set_option maxRecDepth 100000
-- FOLD2
def akF:Den:=den (bg gy (aT (dA .i64))) dV (vF (bg (bJ aH) (aT (dA .i64)))) (fun a _=>cond (Nat.ble a.1.length 3000) (bW a.2 9223372036854775807) false) fun a _=>(N.qP a.1 a.2,())
def ahK:fK:={ fr:=[(0,.str),(4,.ptr 10000 0 0),(6,.ptr 10002 0 0),(7,.ptr 10003 0 0),(8,.int .i64),(9,.int .i64)],tab:=[(10001,.sl yR),(10000,.row [.int .u64,.int .i64,.own 10001] (aA.drop 3)),(10002,.var [.str,.int .i64,.int .i64]),(10004,.sl yR),(10003,.row [.int .u64,.int .i64,.own 10004] (aA.drop 3))] }
noncomputable def ahL:List Leaf->(Ex->St->Option R)->Option R
 | [.s s0,.i i8,.i i9,.r yG,.i l7,.i gq,.c cO,.s yJ,.i yK,.i iM,.r wF,.i uG,.i gU,.c G5],K=>cond (bW 0 i9) (cond (bW i8 255) (cond (Nat.beq wF.length 0) (cond (N.bU (⟨yJ,yK,iM⟩:bY)) (K (.exit 0) { fr:=[(0,.str s0),(4,.ptr 10000 0 0 0),(6,.ptr 10002 0 0 0),(7,.ptr 10003 0 0 0)],tab:=[(10001,.sl yR yG 0),(10000,.var ([.int .u64 l7,.int .i64 gq,.own 10001 0]++aF (aA.drop 3) 0 cO)),(10002,.var [.str (N.iR (i8-i9).toNat (⟨yJ,yK,iM⟩:bY) []).2.s,.int .i64 (N.iR (i8-i9).toNat (⟨yJ,yK,iM⟩:bY) []).2.at',.int .i64 (N.iR (i8-i9).toNat (⟨yJ,yK,iM⟩:bY) []).2.code]),(10004,.sl yR ((N.iR (i8-i9).toNat (⟨yJ,yK,iM⟩:bY) []).1.map bf.enc) 0),(10003,.var ([.int .u64 uG,.int .i64 gU,.own 10004 0]++aF (aA.drop 3) 0 G5))] }) none) none) none) none
 | _,_=>none
def ads:fK:={ fr:=[(0,.str),(4,.ptr 10000 0 0),(6,.ptr 10002 0 0),(7,.ptr 10003 0 0),(8,.int .i64),(10,.int .i64)],tab:=[(10001,.sl yR),(10000,.row [.int .u64,.int .i64,.own 10001] (aA.drop 3)),(10002,.var [.str,.int .i64,.int .i64]),(10004,.sl yR),(10003,.row [.int .u64,.int .i64,.own 10004] (aA.drop 3))] }
noncomputable def abA:List Leaf->(Ex->St->Option R)->Option R
 | [.s s0,.i i8,.i i10,.r yG,.i l7,.i gq,.c cO,.s yJ,.i yK,.i iM,.r wF,.i uG,.i gU,.c G5],K=>cond (bW 0 i10) (cond (bW i8 255) (cond (N.bU (⟨yJ,yK,iM⟩:bY)) (cond (oM G5) (K (.exit 2) { fr:=[(0,.str s0),(4,.ptr 10000 0 0 0),(6,.ptr 10002 0 0 0),(7,.ptr 10003 0 0 0)],tab:=[(10001,.sl yR yG 0),(10000,.var ([.int .u64 l7,.int .i64 gq,.own 10001 0]++aF (aA.drop 3) 0 cO)),(10002,.var [.str (N.iV (i8-i10).toNat (⟨yJ,yK,iM⟩:bY) fD.rises).2.s,.int .i64 (N.iV (i8-i10).toNat (⟨yJ,yK,iM⟩:bY) fD.rises).2.at',.int .i64 (N.iV (i8-i10).toNat (⟨yJ,yK,iM⟩:bY) fD.rises).2.code]),(10004,.sl yR wF 0),(10003,.var ([.int .u64 uG,.int .i64 gU,.own 10004 0]++dn (N.iV (i8-i10).toNat (⟨yJ,yK,iM⟩:bY) fD.rises).1))] }) none) none) none) none
 | _,_=>none
noncomputable def GY:Env:={ env Tryz.prog [(80,MC),(31,ahI),(81,ahz),(82,afN),(83,akE),(84,ahE),(34,Kv)] [(10,dO ads abA),(5,dO ahK ahL)] [(5,[(0,[0,4,6,7,8,9]),(1,[0,4,6,7]),(1000,[4,5])]),(10,[(0,[0,4,6,7,8,10]),(3,[0,4,6,7]),(1000,[4,5])])] with fz:=true,fk:=fun j=>Nat.beq j 2 }
theorem amm (t:Bytes) (b:Int):type_of% (by
  have h:bV GY 28 ((bg gy (aT (dA .i64))).enc (t,b)) ([]) some =(
   let z7:=(N.bD {s:=t,at':=0,code:=0:bY} 8);let z4:=z7.2;let z2:=(N.iR (Int.toNat (IntKind.wrap .i64 (Prod.fst (N.bD z4 1))-0)) (Prod.snd (N.bD z4 1)) []);let z6:=(N.bD z2.2 1);let z0:=(N.iV (Int.toNat (IntKind.wrap .i64 z6.1-0)) z6.2 {a0:={total:=0,kept:=[]:aG},a1:={total:=0,kept:=[]:aG},a2:={total:=0,kept:=[]:aG},a3:={total:=0,kept:=[]:aG},a4:={total:=0,kept:=[]:aG},a5:={total:=0,kept:=[]:aG},a6:={total:=0,kept:=[]:aG},a7:={total:=0,kept:=[]:aG},a8:={total:=0,kept:=[]:aG},a9:={total:=0,kept:=[]:aG},a10:={total:=0,kept:=[]:aG},a11:={total:=0,kept:=[]:aG},a12:={total:=0,kept:=[]:aG},NR:={total:=0,kept:=[]:aG},NS:={total:=0,kept:=[]:aG},NT:={total:=0,kept:=[]:aG}:dW aG});let z1:=(some {v:=.jc [V.agg [V.int .u64 0,.int .i64 0,.slc yR [],.int .u64 0,.slc yM [],.int .u64 0,.slc yM [],.int .u64 0,.slc yM [],.int .u64 0,.slc yM [],.int .u64 0,.slc yM [],.int .u64 0,.slc yM [],.int .u64 0,.slc yM [],.int .u64 0,.slc yM [],.int .u64 0,.slc yM [],.int .u64 0,.slc yM [],.int .u64 0,.slc yM [],.int .u64 0,.slc yM [],.int .u64 0,.slc yM [],.int .u64 0,.slc yM [],.int .u64 0,.slc yM [],.int .u64 0,.slc yM []],.int .i64 4],bx:=[]:aJ});let z3:=(N.sNew z7.1 b);let z5:=(List.map (aj.enc bf) z2.1);cond (N.bU {s:=t,at':=0,code:=0:bY}) (cond (N.bU z4) (cond (bW (IntKind.wrap .i64 (Prod.fst (N.bD z4 1))) 255) (cond (N.bU (Prod.snd (N.bD z4 1))) (cond (N.bU z2.2) (cond (bW (IntKind.wrap .i64 z6.1) 255) (cond (N.bU z6.2) (cond (oM (dn z3.rises)) (cond (N.OD z0.2 != 0) z1 (cond (GX {next:=aI.next z3,bytes:=aI.bytes z3,rows:=List.map (aj.dec bf) z5,rises:=reA z0.1:aI}) (cond (!N.IB {next:=aI.next z3,bytes:=aI.bytes z3,rows:=List.map (aj.dec bf) z5,rises:=reA z0.1:aI}) z1 (cond (lI {next:=aI.next z3,bytes:=aI.bytes z3,rows:=List.map (aj.dec bf) z5,rises:=reA z0.1:aI}) (cond (!N.nM {next:=aI.next z3,bytes:=aI.bytes z3,rows:=List.map (aj.dec bf) z5,rises:=reA z0.1:aI}==t) z1 (some {v:=.jc [V.agg (V.int .u64 z3.next::V.int .i64 z3.bytes::V.slc yR z5::dn z0.1),.int .i64 0],bx:=[]:aJ})) none)) none)) none) none) none) none) none) none) none) none):=by kernel_rfl
  dsimp only at h;exact h):=by kernel_rfl
theorem ahM (s0:Bytes) (i8:Int) (i9:Int) (yG:List (List V)) (l7:Int) (gq:Int) (cO:List V) (yJ:Bytes) (yK:Int) (iM:Int) (wF:List (List V)) (uG:Int) (gU:Int) (G5:List V) (K:Ex->St->Option R):type_of% (by
  have h:bI GY 28 5 { fr:=[(0,.str s0),(4,.ptr 10000 0 0 0),(6,.ptr 10002 0 0 0),(7,.ptr 10003 0 0 0),(8,.int .i64 i8),(9,.int .i64 i9)],tab:=[(10001,.sl yR yG 0),(10000,.var ([.int .u64 l7,.int .i64 gq,.own 10001 0]++aF (aA.drop 3) 0 cO)),(10002,.var [.str yJ,.int .i64 yK,.int .i64 iM]),(10004,.sl yR wF 0),(10003,.var ([.int .u64 uG,.int .i64 gU,.own 10004 0]++aF (aA.drop 3) 0 G5))] } K =(
   let z2:=(V.int .u64 l7::V.int .i64 gq::V.own 10001 0::aF iD 0 cO);let z3:=(V.int .u64 uG::V.int .i64 gU::V.own 10004 0::aF iD 0 G5);let z0:=(K (.exit 0) {fr:=[(0,.str s0),(4,.ptr 10000 0 0 0),(6,.ptr 10002 0 0 0),(7,.ptr 10003 0 0 0)],tab:=[(10001,.sl yR yG 0),(10000,.var z2),(10002,.var [V.str yJ,.int .i64 yK,.int .i64 iM]),(10004,.sl yR wF 0),(10003,.var z3)]:St});let z1:=(N.qO {s:=yJ,at':=yK,code:=iM:bY});cond (aU i9 i8) (cond (iM==0) (cond (N.bU {s:=yJ,at':=yK,code:=iM:bY}) (cond (decide ((List.length wF+1)*72<=140737488355328)) (K .normal {fr:=[(0,.str s0),(4,.ptr 10000 0 0 0),(6,.ptr 10002 0 0 0),(7,.ptr 10003 0 0 0),(8,.int .i64 i8),(9,.int .i64 (IntKind.wrap .i64 (i9+1)))],tab:=[(10001,.sl yR yG 0),(10000,.var z2),(10002,.var [V.str (bY.s z1.2),.int .i64 (bY.at' z1.2),.int .i64 (bY.code z1.2)]),(10004,.sl yR (wF++[aj.enc bf z1.1]) 0),(10003,.var z3)]:St}) none) none) z0) z0):=by kernel_rfl
  dsimp only at h;exact h):=by kernel_rfl
theorem adt (s0:Bytes) (i8:Int) (i10:Int) (yG:List (List V)) (l7:Int) (gq:Int) (cO:List V) (yJ:Bytes) (yK:Int) (iM:Int) (wF:List (List V)) (uG:Int) (gU:Int) (a:dW aG) (K:Ex->St->Option R):type_of% (by
  have h:bI GY 28 10 { fr:=[(0,.str s0),(4,.ptr 10000 0 0 0),(6,.ptr 10002 0 0 0),(7,.ptr 10003 0 0 0),(8,.int .i64 i8),(10,.int .i64 i10)],tab:=[(10001,.sl yR yG 0),(10000,.var ([.int .u64 l7,.int .i64 gq,.own 10001 0]++aF (aA.drop 3) 0 cO)),(10002,.var [.str yJ,.int .i64 yK,.int .i64 iM]),(10004,.sl yR wF 0),(10003,.var ([.int .u64 uG,.int .i64 gU,.own 10004 0]++dn a))] } K =(
   let z3:=(V.int .u64 l7::V.int .i64 gq::V.own 10001 0::aF iD 0 cO);let z4:=(V.int .u64 uG::V.int .i64 gU::V.own 10004 0::dn a);let z0:=(K (.exit 2) {fr:=[(0,.str s0),(4,.ptr 10000 0 0 0),(6,.ptr 10002 0 0 0),(7,.ptr 10003 0 0 0)],tab:=[(10001,.sl yR yG 0),(10000,.var z3),(10002,.var [V.str yJ,.int .i64 yK,.int .i64 iM]),(10004,.sl yR wF 0),(10003,.var z4)]:St});let z1:=(N.bD {s:=yJ,at':=yK,code:=iM:bY} 1);let z2:=(Prod.snd (N.ni z1.2));cond (aU i10 i8) (cond (iM==0) (cond (N.bU {s:=yJ,at':=yK,code:=iM:bY}) (cond (N.bU z1.2) (cond (aU (IntKind.wrap .i64 z1.1) 16) (cond (decide (0<=IntKind.wrap .i64 z1.1∧IntKind.wrap .i64 z1.1<(↑(16:Nat):Int))) (K .normal {fr:=[(0,.str s0),(4,.ptr 10000 0 0 0),(6,.ptr 10002 0 0 0),(7,.ptr 10003 0 0 0),(8,.int .i64 i8),(10,.int .i64 (IntKind.wrap .i64 (i10+1)))],tab:=[(10001,.sl yR yG 0),(10000,.var z3),(10002,.var [V.str (bY.s z2),.int .i64 (bY.at' z2),.int .i64 (bY.code z2)]),(10004,.sl yR wF 0),(10003,.var (V.int .u64 uG::V.int .i64 gU::V.own 10004 0::setCells a (Int.toNat (IntKind.wrap .i64 z1.1)) (Prod.fst (N.ni z1.2))))]:St}) none) (K .normal {fr:=[(0,.str s0),(4,.ptr 10000 0 0 0),(6,.ptr 10002 0 0 0),(7,.ptr 10003 0 0 0),(8,.int .i64 i8),(10,.int .i64 (IntKind.wrap .i64 (i10+1)))],tab:=[(10001,.sl yR yG 0),(10000,.var z3),(10002,.var [V.str (bY.s z2),.int .i64 (bY.at' z2),.int .i64 (bY.code z2)]),(10004,.sl yR wF 0),(10003,.var z4)]:St})) none) none) z0) z0):=by kernel_rfl
  dsimp only at h;exact h):=by kernel_rfl
theorem adu:dM GY 28 5:=by
 refine bn rfl fun l K q h=>?_
 unfold ahL at h
 split at h
 .rename_i s0 i8 i9 yG l7 gq cO yJ yK iM wF uG gU G5
  replace h:=Z4 h;obtain ⟨h1,h2,h3,h4,h⟩:=h
  have e4:=List.eq_nil_of_length_eq_zero (kT h3)
  subst e4
  have h1:=bK h1
  have h2:=bK h2
  have main:=dN (E:=GY) (f:=28) (id:=5) (σ:=Int × bY × List fE) (fun x=>{ fr:=[(0,.str s0),(4,.ptr 10000 0 0 0),(6,.ptr 10002 0 0 0),(7,.ptr 10003 0 0 0),(8,.int .i64 i8),(9,.int .i64 x.1)],tab:=[(10001,.sl yR yG 0),(10000,.var ([.int .u64 l7,.int .i64 gq,.own 10001 0]++aF (aA.drop 3) 0 cO)),(10002,.var [.str x.2.1.s,.int .i64 x.2.1.at',.int .i64 x.2.1.code]),(10004,.sl yR (x.2.2.map bf.enc) 0),(10003,.var ([.int .u64 uG,.int .i64 gU,.own 10004 0]++aF (aA.drop 3) 0 G5))] })
   (fun x=>0<=x.1∧x.2.2.length+(i8-x.1).toNat<=255∧N.bU x.2.1=true) (fun x=>(i8-x.1).toNat) (fun x K=>K (.exit 0) { fr:=[(0,.str s0),(4,.ptr 10000 0 0 0),(6,.ptr 10002 0 0 0),(7,.ptr 10003 0 0 0)],tab:=[(10001,.sl yR yG 0),(10000,.var ([.int .u64 l7,.int .i64 gq,.own 10001 0]++aF (aA.drop 3) 0 cO)),(10002,.var [.str (N.iR (i8-x.1).toNat x.2.1 x.2.2).2.s,.int .i64 (N.iR (i8-x.1).toNat x.2.1 x.2.2).2.at',.int .i64 (N.iR (i8-x.1).toNat x.2.1 x.2.2).2.code]),(10004,.sl yR ((N.iR (i8-x.1).toNat x.2.1 x.2.2).1.map bf.enc) 0),(10003,.var ([.int .u64 uG,.int .i64 gU,.own 10004 0]++aF (aA.drop 3) 0 G5))] }) (fun x hx=>?_) (i9,(⟨yJ,yK,iM⟩:bY),[]) ⟨h1,by show 0+(i8-i9).toNat<=255; omega,h4⟩ K q h
  .exact main
  .obtain ⟨k,i,acc⟩:=x
   obtain ⟨hk,hx,hg⟩:=hx
   have hk:0<=k:=hk
   have hx:acc.length+(i8-k).toNat<=255:=hx
   have hg:N.bU i=true:=hg
   have hn:=fun K=>ahM s0 i8 k yG l7 gq cO i.s i.at' i.code (acc.map bf.enc) uG gU G5 K
   have ei:(⟨i.s,i.at',i.code⟩:bY)=i:=rfl
   rw [ei] at hn
   cases hc:aU k i8 with
   | false =>
    have hc':=dP hc
    have e0:(i8-k).toNat=0:=by omega
    refine .inr ⟨.exit 0,{ fr:=[(0,.str s0),(4,.ptr 10000 0 0 0),(6,.ptr 10002 0 0 0),(7,.ptr 10003 0 0 0)],tab:=[(10001,.sl yR yG 0),(10000,.var ([.int .u64 l7,.int .i64 gq,.own 10001 0]++aF (aA.drop 3) 0 cO)),(10002,.var [.str i.s,.int .i64 i.at',.int .i64 i.code]),(10004,.sl yR (acc.map bf.enc) 0),(10003,.var ([.int .u64 uG,.int .i64 gU,.own 10004 0]++aF (aA.drop 3) 0 G5))] },by simp,fun K=>?_,fun K=>?_⟩
    .refine (hn K).trans ?_
     rw [hc]; rfl
    .simp only [e0]; rfl
   | true =>
    have hc':=jv hc
    obtain ⟨j,hj⟩:∃ j,(i8-k).toNat=j+1:=⟨(i8-k).toNat-1,by omega⟩
    have hj' : (i8-(k+1)).toNat=j:=by omega
    have t2:IntKind.wrap .i64 (k+1)=k+1:=dQ (by omega) (by omega)
    have t3:decide (((acc.map bf.enc).length+1)*72<=140737488355328)=true:=decide_eq_true (by rw [List.length_map]; omega)
    have g3:=(OG hg).1
    simp only [hc,t2,t3,hg,cond_true] at hn
    have er:N.iR (j+1) i acc=cond (i.code==0) (N.iR j (N.qO i).2 (acc++[(N.qO i).1])) (acc,i):=rfl
    cases he:i.code==0 with
    | true =>
     refine .inl ⟨(k+1,(N.qO i).2,acc++[(N.qO i).1]),⟨by show 0<=k+1; omega,by simp only [List.length_append,List.length_singleton]; omega,g3⟩,by simp only; omega,fun K=>?_,fun K=>?_⟩
     .refine (hn K).trans ?_
      rw [he]
      simp only [List.map_append]
      try rfl
     .simp only [hj',hj,er,he,cond_true]
    | false =>
     refine .inr ⟨.exit 0,{ fr:=[(0,.str s0),(4,.ptr 10000 0 0 0),(6,.ptr 10002 0 0 0),(7,.ptr 10003 0 0 0)],tab:=[(10001,.sl yR yG 0),(10000,.var ([.int .u64 l7,.int .i64 gq,.own 10001 0]++aF (aA.drop 3) 0 cO)),(10002,.var [.str i.s,.int .i64 i.at',.int .i64 i.code]),(10004,.sl yR (acc.map bf.enc) 0),(10003,.var ([.int .u64 uG,.int .i64 gU,.own 10004 0]++aF (aA.drop 3) 0 G5))] },by simp,fun K=>?_,fun K=>?_⟩
     .refine (hn K).trans ?_
      rw [he]; rfl
     .simp only [hj,er,he,cond_false]
 .cases h
theorem ZF:dM GY 28 10:=by
 refine bn rfl fun l K q h=>?_
 unfold abA at h
 split at h
 .rename_i s0 i8 i10 yG l7 gq cO yJ yK iM wF uG gU G5
  replace h:=Z4 h;obtain ⟨h1,h2,h3,h4,h⟩:=h
  have g5:=Gy h4
  have h1:=bK h1
  have h2:=bK h2
  show ∃ n,o9 GY 28 10 n { fr:=[(0,.str s0),(4,.ptr 10000 0 0 0),(6,.ptr 10002 0 0 0),(7,.ptr 10003 0 0 0),(8,.int .i64 i8),(10,.int .i64 i10)],tab:=[(10001,.sl yR yG 0),(10000,.var ([.int .u64 l7,.int .i64 gq,.own 10001 0]++aF (aA.drop 3) 0 cO)),(10002,.var [.str (⟨yJ,yK,iM⟩:bY).s,.int .i64 (⟨yJ,yK,iM⟩:bY).at',.int .i64 (⟨yJ,yK,iM⟩:bY).code]),(10004,.sl yR wF 0),(10003,.var ([.int .u64 uG,.int .i64 gU,.own 10004 0]++aF (aA.drop 3) 0 G5))] } K=some q
  rw [g5]
  have main:=dN (E:=GY) (f:=28) (id:=10) (σ:=Int × bY × dW aG) (fun x=>{ fr:=[(0,.str s0),(4,.ptr 10000 0 0 0),(6,.ptr 10002 0 0 0),(7,.ptr 10003 0 0 0),(8,.int .i64 i8),(10,.int .i64 x.1)],tab:=[(10001,.sl yR yG 0),(10000,.var ([.int .u64 l7,.int .i64 gq,.own 10001 0]++aF (aA.drop 3) 0 cO)),(10002,.var [.str x.2.1.s,.int .i64 x.2.1.at',.int .i64 x.2.1.code]),(10004,.sl yR wF 0),(10003,.var ([.int .u64 uG,.int .i64 gU,.own 10004 0]++dn x.2.2))] })
   (fun x=>0<=x.1∧N.bU x.2.1=true) (fun x=>(i8-x.1).toNat) (fun x K=>K (.exit 2) { fr:=[(0,.str s0),(4,.ptr 10000 0 0 0),(6,.ptr 10002 0 0 0),(7,.ptr 10003 0 0 0)],tab:=[(10001,.sl yR yG 0),(10000,.var ([.int .u64 l7,.int .i64 gq,.own 10001 0]++aF (aA.drop 3) 0 cO)),(10002,.var [.str (N.iV (i8-x.1).toNat x.2.1 x.2.2).2.s,.int .i64 (N.iV (i8-x.1).toNat x.2.1 x.2.2).2.at',.int .i64 (N.iV (i8-x.1).toNat x.2.1 x.2.2).2.code]),(10004,.sl yR wF 0),(10003,.var ([.int .u64 uG,.int .i64 gU,.own 10004 0]++dn (N.iV (i8-x.1).toNat x.2.1 x.2.2).1))] }) (fun x hx=>?_) (i10,(⟨yJ,yK,iM⟩:bY),fD.rises) ⟨h1,h3⟩ K q h
  .exact main
  .obtain ⟨k,i,acc⟩:=x
   obtain ⟨hk,hg⟩:=hx
   have hk:0<=k:=hk
   have hg:N.bU i=true:=hg
   have hn:=fun K=>adt s0 i8 k yG l7 gq cO i.s i.at' i.code wF uG gU acc K
   have ei:(⟨i.s,i.at',i.code⟩:bY)=i:=rfl
   rw [ei] at hn
   cases hc:aU k i8 with
   | false =>
    have hc':=dP hc
    have e0:(i8-k).toNat=0:=by omega
    refine .inr ⟨.exit 2,{ fr:=[(0,.str s0),(4,.ptr 10000 0 0 0),(6,.ptr 10002 0 0 0),(7,.ptr 10003 0 0 0)],tab:=[(10001,.sl yR yG 0),(10000,.var ([.int .u64 l7,.int .i64 gq,.own 10001 0]++aF (aA.drop 3) 0 cO)),(10002,.var [.str i.s,.int .i64 i.at',.int .i64 i.code]),(10004,.sl yR wF 0),(10003,.var ([.int .u64 uG,.int .i64 gU,.own 10004 0]++dn acc))] },by simp,fun K=>?_,fun K=>?_⟩
    .refine (hn K).trans ?_
     rw [hc]; rfl
    .simp only [e0]; rfl
   | true =>
    have hc':=jv hc
    obtain ⟨j,hj⟩:∃ j,(i8-k).toNat=j+1:=⟨(i8-k).toNat-1,by omega⟩
    have hj' : (i8-(k+1)).toNat=j:=by omega
    have t2:IntKind.wrap .i64 (k+1)=k+1:=dQ (by omega) (by omega)
    have g2:=fG hg 1
    have g3:=(OH g2).1
    have hN:=Rf hg
    have w:IntKind.wrap .i64 (N.bD i 1).1=(N.bD i 1).1:=dQ (by omega) (by omega)
    simp only [hc,t2,hg,g2,w,cond_true] at hn
    have er:N.iV (j+1) i acc=cond (i.code==0) (N.iV j (N.ni (N.bD i 1).2).2 (cond (aU (N.bD i 1).1 16) (acc.set (N.bD i 1).1.toNat (N.ni (N.bD i 1).2).1) acc)) (acc,i):=rfl
    cases he:i.code==0 with
    | true =>
     refine .inl ⟨(k+1,(N.ni (N.bD i 1).2).2,cond (aU (N.bD i 1).1 16) (acc.set (N.bD i 1).1.toNat (N.ni (N.bD i 1).2).1) acc),⟨by show 0<=k+1; omega,g3⟩,by simp only; omega,fun K=>?_,fun K=>?_⟩
     .refine (hn K).trans ?_
      rw [he]
      cases h16:aU (N.bD i 1).1 16 with
      | false=>rfl
      | true =>
       have aor:=jv h16
       have t5:decide ((0:Int)<=(N.bD i 1).1∧(N.bD i 1).1<((16:Nat):Int))=true:=decide_eq_true (by omega)
       rw [t5]
       have e:=setCells_eq acc (N.bD i 1).1.toNat (N.ni (N.bD i 1).2).1
       show K .normal _=K .normal { fr:=[(0,.str s0),(4,.ptr 10000 0 0 0),(6,.ptr 10002 0 0 0),(7,.ptr 10003 0 0 0),(8,.int .i64 i8),(10,.int .i64 (k+1))],tab:=[(10001,.sl yR yG 0),(10000,.var ([.int .u64 l7,.int .i64 gq,.own 10001 0]++aF (aA.drop 3) 0 cO)),(10002,.var [.str (N.ni (N.bD i 1).2).2.s,.int .i64 (N.ni (N.bD i 1).2).2.at',.int .i64 (N.ni (N.bD i 1).2).2.code]),(10004,.sl yR wF 0),(10003,.var ([.int .u64 uG,.int .i64 gU,.own 10004 0]++dn (acc.set (N.bD i 1).1.toNat (N.ni (N.bD i 1).2).1)))] }
       rw [<- e]
       try rfl
     .simp only [hj',hj,er,he,cond_true]
    | false =>
     refine .inr ⟨.exit 2,{ fr:=[(0,.str s0),(4,.ptr 10000 0 0 0),(6,.ptr 10002 0 0 0),(7,.ptr 10003 0 0 0)],tab:=[(10001,.sl yR yG 0),(10000,.var ([.int .u64 l7,.int .i64 gq,.own 10001 0]++aF (aA.drop 3) 0 cO)),(10002,.var [.str i.s,.int .i64 i.at',.int .i64 i.code]),(10004,.sl yR wF 0),(10003,.var ([.int .u64 uG,.int .i64 gU,.own 10004 0]++dn acc))] },by simp,fun K=>?_,fun K=>?_⟩
     .refine (hn K).trans ?_
      rw [he]; rfl
     .simp only [hj,er,he,cond_false]
 .cases h
theorem ajL:bH Tryz.prog 28 akF:=by
 refine aN (aQ ((((((((gu.nil _).cons Zr).cons ahF).cons ahH).cons afO).cons ahD).cons adr).cons CY)) (E:=GY) Tryz.func28 [5,10] (by kernel_rfl) (FH adu ZF) fun a b hp=>?_
 obtain ⟨t,n⟩:=a
 obtain ⟨ht,hb⟩:=aX (show cond (Nat.ble t.length 3000) (bW n 9223372036854775807) false=true from hp)
 have ht:=aV ht
 have hb:=bK hb
 refine (amm t n).trans ?_
 have h0:=Xz ht
 have h8:=fG h0 8
 have hn:=Rf h8
 have g1:=fG h8 1
 have hr:=BM (N.bD (N.bD ⟨t,0,0⟩ 8).2 1).1.toNat [] g1 (fun _ hx=>by cases hx)
 have hn2:=Rf hr.1
 have g2:=fG hr.1 1
 have e0:∀ n:Int,n-0=n:=fun n=>by omega
 have w1:IntKind.wrap .i64 (N.bD (N.bD ⟨t,0,0⟩ 8).2 1).1=(N.bD (N.bD ⟨t,0,0⟩ 8).2 1).1:=dQ (by omega) (by omega)
 have w2:IntKind.wrap .i64 (N.bD (N.iR (N.bD (N.bD ⟨t,0,0⟩ 8).2 1).1.toNat (N.bD (N.bD ⟨t,0,0⟩ 8).2 1).2 []).2 1).1=(N.bD (N.iR (N.bD (N.bD ⟨t,0,0⟩ 8).2 1).1.toNat (N.bD (N.bD ⟨t,0,0⟩ 8).2 1).2 []).2 1).1:=dQ (by omega) (by omega)
 have v1:bW (N.bD (N.bD ⟨t,0,0⟩ 8).2 1).1 255=true:=dY (by omega)
 have v2:bW (N.bD (N.iR (N.bD (N.bD ⟨t,0,0⟩ 8).2 1).1.toNat (N.bD (N.bD ⟨t,0,0⟩ 8).2 1).2 []).2 1).1 255=true:=dY (by omega)
 have gz:oM (dn (N.sNew (N.bD ⟨t,0,0⟩ 8).1 n).rises)=true:=Jw rfl
 simp only [h0,h8,w1,e0,g1,hr.1,w2,g2,v1,v2,gz,cond_true,bT,al4]
 show cond (N.OD (N.gW t n).2 != 0) (some (⟨.jc [.agg (aH.enc fD),.int .i64 4],[],[]⟩:aJ)) (cond (GX (N.gW t n).1) (cond (!N.IB (N.gW t n).1) (some (⟨.jc [.agg (aH.enc fD),.int .i64 4],[],[]⟩:aJ))
  (cond (lI (N.gW t n).1) (cond (!(N.nM (N.gW t n).1==t)) (some (⟨.jc [.agg (aH.enc fD),.int .i64 4],[],[]⟩:aJ)) (some (⟨.jc [.agg (aH.enc (N.gW t n).1),.int .i64 0],[],[]⟩:aJ))) none)) none) =
  some (⟨.jc [.agg (aH.enc (N.qP t n).1),.int .i64 (N.qP t n).2],[],[]⟩:aJ)
 obtain ⟨a1,a2,a3,a4,a5,a6,a7,a8⟩:=GV ht n
 have hb0:0<=cond (aU 0 n) n 0∧cond (aU 0 n) n 0<=9223372036854775807:=by
  cases hc:aU 0 n with
  | true=>have:=jv hc; exact ⟨by show 0<=n; omega,hb⟩
  | false=>exact ⟨Int.le_refl 0,show (0:Int)<=9223372036854775807 by omega⟩
 unfold N.qP
 generalize N.gW t n=z at *
 have hm:N.IB z.1=true->lI z.1=true:=fun hm =>
  (abx a5 a6 (by rw [a7]; exact hb0.1) (by rw [a7]; exact hb0.2) (fun x hx=>(a2 x hx).1) a3 hm).QT
 have gm:GX z.1=true:=by
  unfold GX
  cases hc:aU 8 (z.1.rows.length:Int) with
  | true=>rfl
  | false =>
   have hc:=dP hc
   refine sSF (n:=z.1.next) (b:=z.1.bytes) (rows:=z.1.rows) (rises:=z.1.rises) (by omega) (List.all_eq_true.2 fun x hx=>?_) (List.all_eq_true.2 fun x hx=>Jt (List.all_eq_true.1 a3 x hx))
   obtain ⟨r1,r2⟩:=a2 x hx
   show cond (Nat.ble x.line.length 300) (cond (x.line.all eX) (x.line.all fun x=>N.lJ x.aY) false) false=true
   rw [fA (by omega),r1.small]
   exact r1.fine
 rw [gm]
 cases N.OD z.2 != 0 with
 | true=>rfl
 | false =>
  cases hs:N.IB z.1 with
  | false=>rfl
  | true =>
   rw [hm hs]
   cases N.nM z.1==t<;>rfl
end Go.Ev

namespace Go.Ev
open Go Go.Proofs
set_option maxRecDepth 100000
-- FOLD2
def ajM:Den:=den (bg gy (aT (dA .i64))) dV (oV lC) (fun a _=>bW a.2 9223372036854775807) fun _ _=>(true,())
noncomputable def abB:Env:=env Tryz.prog [(8,mJ),(27,anX),(28,akF),(30,aky),(29,ahc)] [] []
theorem ahN (t:Bytes) (b:Int):type_of% (by
  have h:bV abB 6 ((bg gy (aT (dA .i64))).enc (t,b)) ([]) some =(
   let z1:=(Prod.fst (N.ig t b));let z0:=z1.rises;let z2:=(List.map (aj.enc ah) (List.map (aj.dec ah) (List.map (aj.enc ah) (aG.kept (dW.a10 z0)))));let z3:=(List.map (aj.enc ah) (List.map (aj.dec ah) (List.map (aj.enc ah) (aG.kept (dW.a11 z0)))));let z4:=(List.map (aj.enc ah) (List.map (aj.dec ah) (List.map (aj.enc ah) (aG.kept (dW.a12 z0)))));let z5:=(List.map (aj.enc ah) (List.map (aj.dec ah) (List.map (aj.enc ah) (aG.kept (dW.NR z0)))));let z6:=(List.map (aj.enc ah) (List.map (aj.dec ah) (List.map (aj.enc ah) (aG.kept (dW.NS z0)))));let z7:=(List.map (aj.enc ah) (List.map (aj.dec ah) (List.map (aj.enc ah) (aG.kept (dW.NT z0)))));let z8:=(List.map (aj.enc ah) (List.map (aj.dec ah) (List.map (aj.enc ah) (aG.kept (dW.a0 z0)))));let z9:=(List.map (aj.enc ah) (List.map (aj.dec ah) (List.map (aj.enc ah) (aG.kept (dW.a1 z0)))));let z10:=(List.map (aj.enc ah) (List.map (aj.dec ah) (List.map (aj.enc ah) (aG.kept (dW.a2 z0)))));let z11:=(List.map (aj.enc ah) (List.map (aj.dec ah) (List.map (aj.enc ah) (aG.kept (dW.a3 z0)))));let z12:=(List.map (aj.enc ah) (List.map (aj.dec ah) (List.map (aj.enc ah) (aG.kept (dW.a4 z0)))));let z13:=(List.map (aj.enc ah) (List.map (aj.dec ah) (List.map (aj.enc ah) (aG.kept (dW.a5 z0)))));let z14:=(List.map (aj.enc ah) (List.map (aj.dec ah) (List.map (aj.enc ah) (aG.kept (dW.a6 z0)))));let z15:=(List.map (aj.enc ah) (List.map (aj.dec ah) (List.map (aj.enc ah) (aG.kept (dW.a7 z0)))));let z16:=(List.map (aj.enc ah) (List.map (aj.dec ah) (List.map (aj.enc ah) (aG.kept (dW.a8 z0)))));let z17:=(List.map (aj.enc ah) (List.map (aj.dec ah) (List.map (aj.enc ah) (aG.kept (dW.a9 z0)))));let z18:=(List.map (aj.enc bf) (List.map (aj.dec bf) (List.map (aj.enc bf) z1.rows)));let z19:=(aj.dec aH (aj.enc aH (Prod.fst (N.qP t b))));cond (aU 3000 (↑(List.length t):Int)) (some {v:=.bool true,bx:=[]:aJ}) (cond (bW b 9223372036854775807) (cond (bif Nat.ble (List.length t) 3000 then bW b 9223372036854775807 else false) (cond (Prod.snd (N.ig t b)==Prod.snd (N.qP t b)) (cond (BJ (aj.dec aH (aj.enc aH z1))) (cond (bif ny {next:=aI.next z1,bytes:=aI.bytes z1,rows:=List.map (aj.dec bf) z18,rises:={a0:={total:=aG.total (dW.a0 z0),kept:=List.map (aj.dec ah) z8:aG},a1:={total:=aG.total (dW.a1 z0),kept:=List.map (aj.dec ah) z9:aG},a2:={total:=aG.total (dW.a2 z0),kept:=List.map (aj.dec ah) z10:aG},a3:={total:=aG.total (dW.a3 z0),kept:=List.map (aj.dec ah) z11:aG},a4:={total:=aG.total (dW.a4 z0),kept:=List.map (aj.dec ah) z12:aG},a5:={total:=aG.total (dW.a5 z0),kept:=List.map (aj.dec ah) z13:aG},a6:={total:=aG.total (dW.a6 z0),kept:=List.map (aj.dec ah) z14:aG},a7:={total:=aG.total (dW.a7 z0),kept:=List.map (aj.dec ah) z15:aG},a8:={total:=aG.total (dW.a8 z0),kept:=List.map (aj.dec ah) z16:aG},a9:={total:=aG.total (dW.a9 z0),kept:=List.map (aj.dec ah) z17:aG},a10:={total:=aG.total (dW.a10 z0),kept:=List.map (aj.dec ah) z2:aG},a11:={total:=aG.total (dW.a11 z0),kept:=List.map (aj.dec ah) z3:aG},a12:={total:=aG.total (dW.a12 z0),kept:=List.map (aj.dec ah) z4:aG},NR:={total:=aG.total (dW.NR z0),kept:=List.map (aj.dec ah) z5:aG},NS:={total:=aG.total (dW.NS z0),kept:=List.map (aj.dec ah) z6:aG},NT:={total:=aG.total (dW.NT z0),kept:=List.map (aj.dec ah) z7:aG}:dW aG}:aI} then ny z19 else false) (some {v:=.bool (N.NY {next:=aI.next z1,bytes:=aI.bytes z1,rows:=List.map (aj.dec bf) z18,rises:={a0:={total:=aG.total (dW.a0 z0),kept:=List.map (aj.dec ah) z8:aG},a1:={total:=aG.total (dW.a1 z0),kept:=List.map (aj.dec ah) z9:aG},a2:={total:=aG.total (dW.a2 z0),kept:=List.map (aj.dec ah) z10:aG},a3:={total:=aG.total (dW.a3 z0),kept:=List.map (aj.dec ah) z11:aG},a4:={total:=aG.total (dW.a4 z0),kept:=List.map (aj.dec ah) z12:aG},a5:={total:=aG.total (dW.a5 z0),kept:=List.map (aj.dec ah) z13:aG},a6:={total:=aG.total (dW.a6 z0),kept:=List.map (aj.dec ah) z14:aG},a7:={total:=aG.total (dW.a7 z0),kept:=List.map (aj.dec ah) z15:aG},a8:={total:=aG.total (dW.a8 z0),kept:=List.map (aj.dec ah) z16:aG},a9:={total:=aG.total (dW.a9 z0),kept:=List.map (aj.dec ah) z17:aG},a10:={total:=aG.total (dW.a10 z0),kept:=List.map (aj.dec ah) z2:aG},a11:={total:=aG.total (dW.a11 z0),kept:=List.map (aj.dec ah) z3:aG},a12:={total:=aG.total (dW.a12 z0),kept:=List.map (aj.dec ah) z4:aG},NR:={total:=aG.total (dW.NR z0),kept:=List.map (aj.dec ah) z5:aG},NS:={total:=aG.total (dW.NS z0),kept:=List.map (aj.dec ah) z6:aG},NT:={total:=aG.total (dW.NT z0),kept:=List.map (aj.dec ah) z7:aG}:dW aG}:aI} z19),bx:=[]:aJ}) none) none) (some {v:=.bool false,bx:=[]:aJ})) none) none)):=by kernel_rfl
  dsimp only at h;exact h):=by kernel_rfl
theorem adv (hN:bH Tryz.prog 95 fP):bH Tryz.prog 6 ajM:=by
 refine aN (aQ ((((((gu.nil _).cons adi).cons (Zp hN)).cons ajL).cons (amj hN)).cons (ajy hN))) (E:=abB) Tryz.func6 [] (by kernel_rfl) (none0) fun a b hp=>?_
 obtain ⟨t,n⟩:=a
 have hb:=bK (show bW n 9223372036854775807=true from hp)
 refine (ahN t n).trans ?_
 cases h3:aU 3000 (t.length:Int) with
 | true=>rfl
 | false =>
  have h3:=dP h3
  have ht:t.length<=3000:=by omega
  obtain ⟨e,hs⟩:=ZA ht hb
  have hi:jo (N.ig t n).1:=by
   rcases hs with ⟨_,h⟩ | h
   .exact h
   .rw [h]; exact ajv 0 0 (by decide) (by decide) (by decide)
  rw [fA ht,dY hb,e]
  generalize N.ig t n=z at *
  simp only [bT,aH.de,beq_self_eq_true,cond_true,cond_false,Zo hi]
  show cond (cond (ny z.1) (ny z.1) false) (some (⟨.bool (N.NY z.1 z.1),[],[]⟩:aJ)) none=some (⟨.bool true,[],[]⟩:aJ)
  rw [hi.ny,Zk]; rfl
theorem adw {n:Int} (h1:LX ((vw .i64).enc n)=true):bW n 9223372036854775807=true:=by
 have h1:cond (wfV (.int .i64 n)) true false=true:=h1
 obtain ⟨_,b2⟩:=alL (aX h1).1
 have e1:IntKind.i64.max=9223372036854775807:=rfl
 exact dY (by omega)
end Go.Ev

namespace Go.Ev
open Go Go.Proofs Go.RowKit Go.Shelf
theorem akG:(Tryz.prog.info? 223).map (·.size)=some 2:=by kernel_rfl
theorem an0:liesAt Tryz.prog Tryz.prog.depth 223 (2 / Tryz.prog.cellsOf 223) 0 223 1=true:=by kernel_rfl
theorem bByte:(Tryz.prog.info? 5).map (fun i=>(i.zero,i.size,i.bytes))=some (some (.int .u8 0),1,1):=by kernel_rfl
set_option maxHeartbeats 1000000 in
set_option maxRecDepth 100000 in
theorem ajN (b : Nat) (w : World) (h0 : w.cell? ⟨b, 0, none⟩ = some (.pointer (some ⟨b, 0, none⟩))) :
    Calls Tryz.prog 190 #[.pointer (some ⟨b, 0, none⟩)] w fun e w' => e = .returned (.tuple #[]) ∧ w' = w := by
  obtain ⟨j, hj, _⟩ := Option.map_eq_some_iff.1 akG
  go_enter Tryz.func190, Tryz.ntmps190
  go_wp2
  rw [Lib.run_neq_ptr_same w _ Tryz.underlying221 hj]
  go_wp2
  go_end0
  exact ⟨rfl, rfl⟩
set_option maxHeartbeats 1000000 in
set_option maxRecDepth 100000 in
theorem ahO (b : Nat) (w : World) (h0 : w.cell? ⟨b, 0, none⟩ = some (.pointer none)) (hsh : w.shape? b = some (223, 2)) (hfz : w.frozen? ⟨b, 0, none⟩ = false) :
    Calls Tryz.prog 190 #[.pointer (some ⟨b, 0, none⟩)] w fun e w' => e = .returned (.tuple #[]) ∧ w' = w.setCell ⟨b, 0, none⟩ (.pointer (some ⟨b, 0, none⟩)) := by
  obtain ⟨j, hj, hjs⟩ := Option.map_eq_some_iff.1 akG
  go_enter Tryz.func190, Tryz.ntmps190
  go_wp2
  rw [Lib.run_to_unsafe w ⟨b, 0, none⟩ Tryz.underlying221 Tryz.underlying256 hj (by rw [hjs]; decide) hsh (Nat.zero_lt_succ 1)]
  simp only [Result.andThen]
  rw [Oper.upon_value]
  go_wp2
  rw [run_callFunc_extern Tryz.func198 (by kernel_rfl) (by kernel_rfl) (by kernel_rfl) (e := Extern.AbiNoEscape.same) (by kernel_rfl)]
  rw [Lib.run_noEscape]
  simp only [Result.andThen]
  rw [Oper.upon_value]
  go_wp2
  rw [Lib.run_from_unsafe w ⟨b, 0, none⟩ Tryz.underlying256 Tryz.underlying221 hj hsh an0]
  simp only [Result.andThen]
  rw [Oper.upon_value]
  go_wp2
  go_end0
  exact ⟨rfl, rfl⟩
theorem cc (B b:Nat) (bs:List Value) (w:World) (h:Lib.IsBuilder 223 5 B b bs w) :
  Calls Tryz.prog 190 #[.pointer (some ⟨b,0,none⟩)] w fun e w'=>e = .returned (.tuple #[])∧(Lib.BuilderAt 223 5 B b (.pointer (some ⟨b,0,none⟩)) bs w'∧Below B w w'):=by
 rcases h with h | h
 .refine (ahO b w h.cell0 h.shape h.frozen0).mono ?_
  rintro e w' ⟨rfl,rfl⟩
  exact ⟨rfl,h.used _,(Below.refl B w).setCell (p:=⟨b,0,none⟩) h.1 _⟩
 .refine (ajN b w h.cell0).mono ?_
  rintro e w' ⟨rfl,rfl⟩
  exact ⟨rfl,h,Below.refl B _⟩
set_option maxHeartbeats 2000000 in
set_option maxRecDepth 100000 in
theorem writeByte (B b : Nat) (bs : List Value) (c : Int) (w : World) (h : Lib.IsBuilder 223 5 B b bs w) (hlen : bs.length + 1 <= 140737488355328) (hBw : B <= w.heap.size) :
    Calls Tryz.prog 161 #[.pointer (some ⟨b, 0, none⟩), .int .u8 c] w fun e w' => e = .returned .nilIface ∧ (Lib.BuilderAt 223 5 B b (.pointer (some ⟨b, 0, none⟩)) (bs ++ [.int .u8 c]) w' ∧ Below B w w') := by
  obtain ⟨i0, hi, hz0, hz1, hz2⟩ := info_parts bByte
  go_enter Tryz.func161, Tryz.ntmps161
  go_wp2_with (go_at_call 190; refine (cc B b bs _ h).mono ?_)
  rintro e w1 ⟨rfl, h1, hb1⟩
  obtain ⟨hB, v, hbk, hown, hne⟩ := h1
  have c0 : w1.cell? ⟨b, 0, none⟩ = some (.pointer (some ⟨b, 0, none⟩)) := by rw [Lib.cell_of_heap hbk]; rfl
  have c1 : w1.cell? ⟨b, 1, none⟩ = some v := by rw [Lib.cell_of_heap hbk]; rfl
  go_wp2_with (at_builtin; refine wpList_append_own _ rfl _ _ 208 rfl B 5 i0 (.int .u8 0) 1 1 Tryz.underlying208 hi hz0 hz1 hz2 rfl (by decide) _ _ _ rfl (hown.alloc _) ⟨w1.heap.size, 0, none⟩ 1 1 [.int .u8 c] rfl rfl ?c1 ?c2 ?c3 ?c4 ?c5 ?_)
  case c1 =>
    intro j u hj
    match j, hj with
    | 0, hj => simp at hj; subst hj; simp [Addr.add]
  case c2 => intro u hu; simp at hu; subst hu; rfl
  case c3 => unfold maxLen; omega
  case c4 => omega
  case c5 => have := hb1.size; simp; omega
  intro v' w2 hown' hgrow _
  have hlt : b < w1.heap.size := by
    rcases Nat.lt_or_ge b w1.heap.size with h' | h'
    . exact h'
    . simp [Array.getElem?_eq_none h'] at hbk
  have hb2 : w2.heap[b]? = some (.cells #[.pointer (some ⟨b, 0, none⟩), v] 223 (0, 0)) := by
    rw [hgrow.block b (by simp; omega) (fun e => hne e.symm), Lib.alloc_old w1 _ b hlt]
    exact hbk
  have d0 : w2.cell? ⟨b, 0, none⟩ = some (.pointer (some ⟨b, 0, none⟩)) := by rw [Lib.cell_of_heap hb2]; rfl
  have d1 : w2.cell? ⟨b, 1, none⟩ = some v := by rw [Lib.cell_of_heap hb2]; rfl
  have f1 : w2.frozen? ⟨b, 1, none⟩ = false := Lib.frozen_of_heap hb2 1
  obtain ⟨g, cap, rfl⟩ : ∃ g cap, v' = .slice (some ⟨g, 0, none⟩) (bs.length + 1) cap := by
    rcases hown'.2 with ⟨_, h0⟩ | ⟨g, cap, cur, hv, _⟩
    . omega
    . exact ⟨g, cap, hv⟩
  go_wp2
  go_ret
  refine ⟨rfl, ?_, ?_⟩
  . exact Lib.BuilderAt.put (T := 223) (e := 5) hB hb2 (bs' := bs ++ [.int .u8 c]) (by simpa using hown') (by decide)
  . exact ((hb1.alloc (by have := hb1.size; omega) _).grown hgrow (by have := hb1.size; simp; omega) (fun k hk => (hown.lt k hk).1)).setCell (p := ⟨b, 1, none⟩) hB _
def lays169_ren:Go.Shelf.Ren:=⟨fun | 169=>162 | n=>n,fun | 70=>221 | 9=>9 | 0=>0 | 72=>223 | 37=>208 | 127=>249 | 3=>3 | 5=>5 | n=>n,fun | n=>n⟩
theorem lays169:Go.Proofs.Lays.n169 Tryz.prog lays169_ren:={
 mixed:=by kernel_rfl
 f169:=Tryz.func162.trans (congrArg some (by kernel_rfl))
 t0:=Tryz.underlying0
 a0:=Tryz.isAgg0
 z0:=Tryz.sizeOf0
 v0:=Tryz.zeroValue0
 t3:=Tryz.underlying3
 a3:=Tryz.isAgg3
 z3:=Tryz.sizeOf3
 v3:=Tryz.zeroValue3
 t9:=Tryz.underlying9
 a9:=Tryz.isAgg9
 z9:=Tryz.sizeOf9
 v9:=Tryz.zeroValue9
 t37:=Tryz.underlying208
 a37:=Tryz.isAgg208
 z37:=Tryz.sizeOf208
 v37:=Tryz.zeroValue208
 t70:=Tryz.underlying221
 a70:=Tryz.isAgg221
 z70:=Tryz.sizeOf221
 v70:=Tryz.zeroValue221
 t72:=Tryz.underlying223
 a72:=Tryz.isAgg223
 z72:=Tryz.sizeOf223
 v72:=Tryz.zeroValue223
 t127:=Tryz.underlying249
 a127:=Tryz.isAgg249
 z127:=Tryz.sizeOf249
 v127:=Tryz.zeroValue249 }
theorem ahP:Builder.Extra Tryz.prog lays169_ren:={
 sizeBuilder:=by kernel_rfl
 liesBuilder:=by kernel_rfl
 t5:=Tryz.underlying5
 a5:=Tryz.isAgg5
 z5:=Tryz.sizeOf5
 v5:=Tryz.zeroValue5
 infoByte:=by kernel_rfl
 cellsByte:=by kernel_rfl
 sizeByte:=by kernel_rfl
 neB5:=by decide }
theorem ajO (B b:Nat) (l:List UInt8) (w:World) (h:Lib.IsBuilder 223 5 B b (Lib.byteCells l) w) (hBw:B<=w.heap.size) :
  Calls Tryz.prog 162 #[.pointer (some ⟨b,0,none⟩)] w fun e w'=>e = .returned (.string ⟨l.toArray⟩)∧Below B w w':=Any.Builder_String_any lays169 ahP B b l w h hBw
end Go.Ev
