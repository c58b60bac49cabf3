/- Counting,giving,waking and making lines; sameness: lemmas. -/
import Derived.Test.YtpdaepodhfdplaaGreatDoorGd
import Derived.Test.YtpdaepodhfdplaaGreatDoorGc
import Derived.Test.YtpdaepodhfdplaaGreatDoorProg
import Derived.KernelRfl
import Derived.Shelf.Strings.Builder1
import Derived.RegionTactic
import Derived.Deep.RegionWith
namespace Go.Ev
open Go Go.Proofs
set_option maxRecDepth 100000
-- FOLD
theorem all_rowI {p:HItem→Bool} {r:List (List V)} (h:(r.map cItem.dec).all p=true) {i:Nat} (hi:i<r.length):p (cItem.dec (r.getD i []))=true:=by
 refine List.all_eq_true.1 h _ (List.mem_map_of_mem ?_)
 rw [List.getD_eq_getElem?_getD,List.getElem?_eq_getElem hi]
 exact List.getElem_mem hi
theorem take_rowsI {r:List (List V)} {i:Nat} (h:i<r.length):((r.take (i+1)).map cItem.dec).map cItem.enc=((r.take i).map cItem.dec).map cItem.enc++[cItem.enc (cItem.dec (r.getD i []))]:=by
 rw [List.take_add_one,List.getD_eq_getElem?_getD,List.getElem?_eq_getElem h]
 simp only [Option.toList_some,List.map_append,List.map_cons,List.map_nil,Option.getD_some]
def schLReady:SSch:={ fr:=[(3,.int .i64),(7,.slc [.int .u64,.str,.str,.slc [.str,.int .u8,.int .i64,.str],.str,.int .u64,.int .u8,.bool,.bool]),(8,.int .i64),(9,.int .i64)],tab:=[] }
def gLReady:List Leaf→(Ex→St→Option R)→Option R
 | [.i a,.r r,.i n,.i i],K=>cond (n==r.length) (cond (i==0) (cond (a==0) (cond (Nat.ble r.length 1000) (K (.exit 0) { fr:=[(3,.int .i64 (N.lReady (r.map cItem.dec)))],tab:=[] }) none) none) none) none
 | _,_=>none
noncomputable def eLReady:Env:=env Tryz.prog [] [(3,loopF schLReady gLReady)] [(3,[(0,[3,7,8,9]),(1,[3]),(1000,[2])])]
theorem q_lReadyN (l:List HItem):evFn eLReady 16 ((aOne (vAgg cLine)).enc l) ([]) some =
 cond ((↑(List.length (List.map (RCod.enc cItem) l)):Int)==(↑(List.length (List.map (RCod.enc cItem) l)):Int)) (cond (Nat.ble (List.length (List.map (RCod.enc cItem) l)) 1000) (some {v:=V.int .i64 (N.lReady (List.map (RCod.dec cItem) (List.map (RCod.enc cItem) l))),bx:=[]:DRes}) (none)) (none):=by kernel_rfl
theorem q_lReadyNR (a:Int) (r:List (List V)) (n i:Int) (K:Ex→St→Option R):evRound eLReady 16 3 { fr:=[(3,.int .i64 a),(7,.slc [.int .u64,.str,.str,.slc [.str,.int .u8,.int .i64,.str],.str,.int .u64,.int .u8,.bool,.bool] r),(8,.int .i64 n),(9,.int .i64 i)],tab:=[] } K =
 cond (ilt i n) (cond (decide ((0:Int)≤i∧i<(↑(List.length r):Int))) (cond (!V.toBool (List.getD (List.getD r (Int.toNat i) []) 7 V.undef)) (K Ex.normal {fr:=[(3,V.int .i64 (IntKind.wrap .i64 (a+(1:Int)))),(7,V.slc [.int .u64,.str,.str,.slc [.str,.int .u8,.int .i64,.str],.str,.int .u64,.int .u8,.bool,.bool] r),(8,V.int .i64 n),(9,V.int .i64 (IntKind.wrap .i64 (i+(1:Int))))],tab:=[]:St}) (K Ex.normal {fr:=[(3,V.int .i64 a),(7,V.slc [.int .u64,.str,.str,.slc [.str,.int .u8,.int .i64,.str],.str,.int .u64,.int .u8,.bool,.bool] r),(8,V.int .i64 n),(9,V.int .i64 (IntKind.wrap .i64 (i+(1:Int))))],tab:=[]:St})) (none)) (K (Ex.exit 0) {fr:=[(3,V.int .i64 a)],tab:=[]:St}):=by kernel_rfl
theorem ok_lReadyN:FnOk Tryz.prog 16 dLReadyN:=by
 refine den_okF (env_ok (TOk.nil _)) (E:=eLReady) Tryz.func16 [3] (by kernel_rfl) (one1 (rounds_of rfl fun l K q h=>?_)) fun l _ hp=>?_
 ·unfold gLReady at h
  split at h
  ·rename_i a r n i
   have h1:=(cond_none h).1; replace h:=(cond_none h).2; have h2:=(cond_none h).1; replace h:=(cond_none h).2; have h3:=(cond_none h).1; replace h:=(cond_none h).2; have h4:=(cond_none h).1; replace h:=(cond_none h).2
   have e1:=ieq_of h1
   have e2:=ieq_of h2
   have e3:=ieq_of h3
   subst e1 e2 e3
   have h4:r.length≤1000:=ble_of h4
   have main:=range_ind (E:=eLReady) (f:=16) (id:=3) (A:=Int) r (fun a i=>{ fr:=[(3,.int .i64 a),(7,.slc [.int .u64,.str,.str,.slc [.str,.int .u8,.int .i64,.str],.str,.int .u64,.int .u8,.bool,.bool] r),(8,.int .i64 r.length),(9,.int .i64 i)],tab:=[] }) (fun a i=>0≤a∧a≤i)
    (fun a rows K=>K (.exit 0) { fr:=[(3,.int .i64 (a+N.lReady (rows.map cItem.dec)))],tab:=[] }) (fun a i ha hi=>?_) (fun a _=>?_) 0 0 (Int.le_refl _) (by omega) ⟨Int.le_refl _,Int.le_refl _⟩ K q (by rw [Int.zero_add]; exact h)
   ·exact main
   ·have e:N.lReady ((r.getD i []::r.drop (i+1)).map cItem.dec)=cond (cItem.dec (r.getD i [])).lent (N.lReady ((r.drop (i+1)).map cItem.dec)) (1+N.lReady ((r.drop (i+1)).map cItem.dec)):=rfl
    rw [e]
    cases hc:(cItem.dec (r.getD i [])).lent with
    | true =>
     refine .inl ⟨a,⟨ha.1,by omega⟩,fun K=>?_,fun K=>rfl⟩
     rw [q_lReadyNR]
     have hc:V.toBool (List.getD (List.getD r i []) 7 V.undef)=true:=hc
     simp (disch:=omega) only [evs,Int.toNat_natCast,hc,Bool.not_true]
    | false =>
     refine .inl ⟨a+1,⟨by omega,by omega⟩,fun K=>?_,fun K=>by rw [Int.add_assoc]; rfl⟩
     rw [q_lReadyNR]
     have hc:V.toBool (List.getD (List.getD r i []) 7 V.undef)=false:=hc
     simp (disch:=omega) only [evs,Int.toNat_natCast,hc,Bool.not_false]
   ·refine ⟨.exit 0,{ fr:=[(3,.int .i64 (a+0))],tab:=[] },by simp,fun K=>?_,fun K=>rfl⟩
    rw [q_lReadyNR,Int.add_zero]
    simp (disch:=omega) only [evs]
  ·cases h
 ·have hp:Nat.ble l.length 1000=true:=hp
  refine (q_lReadyN l).trans ?_
  simp only [List.length_map,dec_encs,hp,beq_self_eq_true,cond_true]
  try rfl
def schLAll:SSch:={ fr:=[(3,.own 10000),(7,.slc [.int .u64,.str,.str,.slc [.str,.int .u8,.int .i64,.str],.str,.int .u64,.int .u8,.bool,.bool]),(8,.int .i64),(9,.int .i64)],tab:=[(10000,.sl [.int .u64,.str,.str,.slc [.str,.int .u8,.int .i64,.str],.str,.int .u64,.int .u8,.bool,.bool])] }
def gLAll:List Leaf→(Ex→St→Option R)→Option R
 | [.r r7,.i i8,.i i9,.r rx0],K=>cond (i8==r7.length) (cond (i9==0) (cond (Nat.beq rx0.length 0) (cond (Nat.ble r7.length 1000) (cond ((r7.map cItem.dec).all smallI)
   (K (.exit 0) { fr:=[(3,.own 10000 0)],tab:=[(10000,.sl [.int .u64,.str,.str,.slc [.str,.int .u8,.int .i64,.str],.str,.int .u64,.int .u8,.bool,.bool] ((r7.map cItem.dec).map cItem.enc) 0)] }) none) none) none) none) none
 | _,_=>none
noncomputable def eLAll:Env:=env Tryz.prog [(54,dIClone)] [(3,loopF schLAll gLAll)] [(3,[(0,[3,7,8,9]),(1,[3]),(1000,[2])])]
theorem q_lAll (l:List HItem):evFn eLAll 15 ((aOne (vAgg cLine)).enc l) ([]) some =
 cond ((↑(List.length (List.map (RCod.enc cItem) l)):Int)==(↑(List.length (List.map (RCod.enc cItem) l)):Int)) (cond (Nat.ble (List.length (List.map (RCod.enc cItem) l)) 1000) (cond (List.all (List.map (RCod.dec cItem) (List.map (RCod.enc cItem) l)) smallI) (some {v:=V.slc [.int .u64,.str,.str,.slc [.str,.int .u8,.int .i64,.str],.str,.int .u64,.int .u8,.bool,.bool] (List.map (RCod.enc cItem) (List.map (RCod.dec cItem) (List.map (RCod.enc cItem) l))),bx:=[]:DRes}) (none)) (none)) (none):=by kernel_rfl
theorem q_lAllR (r7:List (List V)) (i8:Int) (i9:Int) (rx0:List (List V)) (K:Ex→St→Option R):evRound eLAll 15 3 { fr:=[(3,.own 10000 0),(7,.slc [.int .u64,.str,.str,.slc [.str,.int .u8,.int .i64,.str],.str,.int .u64,.int .u8,.bool,.bool] r7),(8,.int .i64 i8),(9,.int .i64 i9)],tab:=[(10000,.sl [.int .u64,.str,.str,.slc [.str,.int .u8,.int .i64,.str],.str,.int .u64,.int .u8,.bool,.bool] rx0 0)] } K =
 cond (ilt i9 i8) (cond (decide ((0:Int)≤i9∧i9<(↑(List.length r7):Int))) (cond (smallI {mail:={id:=V.toInt (List.getD (List.getD r7 (Int.toNat i9) []) 0 V.undef),shop:=V.toStr (List.getD (List.getD r7 (Int.toNat i9) []) 1 V.undef),key:=V.toStr (List.getD (List.getD r7 (Int.toNat i9) []) 2 V.undef),head:=List.map (fun r=>{key:=V.toStr (List.getD r 0 .undef),kind:=V.toInt (List.getD r 1 .undef),num:=V.toInt (List.getD r 2 .undef),text:=V.toStr (List.getD r 3 .undef):HPair}) (V.toRows (List.getD (List.getD r7 (Int.toNat i9) []) 3 V.undef)),body:=V.toStr (List.getD (List.getD r7 (Int.toNat i9) []) 4 V.undef),due:=V.toInt (List.getD (List.getD r7 (Int.toNat i9) []) 5 V.undef),hops:=V.toInt (List.getD (List.getD r7 (Int.toNat i9) []) 6 V.undef):HMail},lent:=V.toBool (List.getD (List.getD r7 (Int.toNat i9) []) 7 V.undef),again:=V.toBool (List.getD (List.getD r7 (Int.toNat i9) []) 8 V.undef):HItem}) (cond (decide ((List.length rx0+1)*104≤140737488355328)) (K Ex.normal {fr:=[(3,V.own 10000 0),(7,V.slc [.int .u64,.str,.str,.slc [.str,.int .u8,.int .i64,.str],.str,.int .u64,.int .u8,.bool,.bool] r7),(8,V.int .i64 i8),(9,V.int .i64 (IntKind.wrap .i64 (i9+(1:Int))))],tab:=[(10000,Box.sl [.int .u64,.str,.str,.slc [.str,.int .u8,.int .i64,.str],.str,.int .u64,.int .u8,.bool,.bool] (rx0++[[V.int .u64 (V.toInt (List.getD (List.getD r7 (Int.toNat i9) []) 0 V.undef)),V.str (V.toStr (List.getD (List.getD r7 (Int.toNat i9) []) 1 V.undef)),V.str (V.toStr (List.getD (List.getD r7 (Int.toNat i9) []) 2 V.undef)),V.slc [.str,.int .u8,.int .i64,.str] (List.map (fun p=>[V.str (HPair.key p),V.int .u8 (HPair.kind p),V.int .i64 (HPair.num p),V.str (HPair.text p)]) (List.map (fun r=>{key:=V.toStr (List.getD r 0 .undef),kind:=V.toInt (List.getD r 1 .undef),num:=V.toInt (List.getD r 2 .undef),text:=V.toStr (List.getD r 3 .undef):HPair}) (V.toRows (List.getD (List.getD r7 (Int.toNat i9) []) 3 V.undef)))),V.str (V.toStr (List.getD (List.getD r7 (Int.toNat i9) []) 4 V.undef)),V.int .u64 (V.toInt (List.getD (List.getD r7 (Int.toNat i9) []) 5 V.undef)),V.int .u8 (V.toInt (List.getD (List.getD r7 (Int.toNat i9) []) 6 V.undef)),V.bool (V.toBool (List.getD (List.getD r7 (Int.toNat i9) []) 7 V.undef)),V.bool (V.toBool (List.getD (List.getD r7 (Int.toNat i9) []) 8 V.undef))]]) 0)]:St}) (none)) (none)) (none)) (K (Ex.exit 0) {fr:=[(3,V.own 10000 0)],tab:=[(10000,Box.sl [.int .u64,.str,.str,.slc [.str,.int .u8,.int .i64,.str],.str,.int .u64,.int .u8,.bool,.bool] rx0 0)]:St}):=by kernel_rfl
theorem ok_lAll:FnOk Tryz.prog 15 dLAll:=by
 refine den_okF (env_ok ((TOk.nil _).cons ok_iClone)) (E:=eLAll) Tryz.func15 [3] (by kernel_rfl) (one1 (rounds_of rfl fun l K q h=>?_)) fun l _ hp=>?_
 ·unfold gLAll at h
  split at h
  ·rename_i r n i o
   have h1:=(cond_none h).1; replace h:=(cond_none h).2; have h2:=(cond_none h).1; replace h:=(cond_none h).2; have h3:=(cond_none h).1; replace h:=(cond_none h).2; have h4:=(cond_none h).1; replace h:=(cond_none h).2; have h5:=(cond_none h).1; replace h:=(cond_none h).2
   have e1:=ieq_of h1
   have e2:=ieq_of h2
   have e3:=List.eq_nil_of_length_eq_zero (nbeq_of h3)
   subst e1 e2 e3
   have h4:r.length≤1000:=ble_of h4
   have main:=range_ind (E:=eLAll) (f:=15) (id:=3) (A:=Unit) r (fun _ i=>{ fr:=[(3,.own 10000 0),(7,.slc [.int .u64,.str,.str,.slc [.str,.int .u8,.int .i64,.str],.str,.int .u64,.int .u8,.bool,.bool] r),(8,.int .i64 r.length),(9,.int .i64 i)],tab:=[(10000,.sl [.int .u64,.str,.str,.slc [.str,.int .u8,.int .i64,.str],.str,.int .u64,.int .u8,.bool,.bool] (((r.take i.toNat).map cItem.dec).map cItem.enc) 0)] }) (fun _ _=>True)
    (fun _ _ K=>K (.exit 0) { fr:=[(3,.own 10000 0)],tab:=[(10000,.sl [.int .u64,.str,.str,.slc [.str,.int .u8,.int .i64,.str],.str,.int .u64,.int .u8,.bool,.bool] ((r.map cItem.dec).map cItem.enc) 0)] }) (fun _ i _ hi=>?_) (fun _ _=>?_) () 0 (Int.le_refl _) (by omega) trivial K q (by assumption)
   ·exact main
   ·refine .inl ⟨(),trivial,fun K=>?_,fun K=>rfl⟩
    rw [q_lAllR]
    have hl:(((r.take i).map cItem.dec).map cItem.enc).length=i:=by simp; omega
    have ht:=take_rowsI hi
    have hs:=all_rowI h5 hi
    simp (disch:=omega) only [evs,Int.toNat_natCast,fold_item,fold_itemR,hs,hl]
    rw [← ht]
    try rfl
   ·refine ⟨.exit 0,_,by simp,fun K=>?_,fun K=>rfl⟩
    rw [q_lAllR]
    simp (disch:=omega) only [evs,Int.toNat_natCast,List.take_length]
  ·cases h
 ·refine (q_lAll l).trans ?_
  have hp:smallL l=true:=hp
  obtain ⟨_,h1,h2⟩:=smallL_of hp
  show _=some (⟨.slc [.int .u64,.str,.str,.slc [.str,.int .u8,.int .i64,.str],.str,.int .u64,.int .u8,.bool,.bool] (l.map cItem.enc),[],[]⟩:DRes)
  simp only [List.length_map,dec_encs,beq_self_eq_true,cond_true,h1,h2]
namespace N
def wakes:List HItem→Nat→List HItem→List HItem
 | [],_,l=>l
 | x::r,k,l=>wakes r (k+1) (cond x.lent (setAt backI l k) l)
end N
theorem wakes_eq:∀ (r pre:List HItem),N.wakes r pre.length (pre++r)=pre++N.lWake r
 | [],pre=>rfl
 | x::r,pre=>by
  unfold N.wakes
  have hg:(pre++x::r).getD pre.length item0=x:=by
   rw [List.getD_eq_getElem?_getD,List.getElem?_append_right (Nat.le_refl _)]
   simp
  have e:cond x.lent (N.setAt N.backI (pre++x::r) pre.length) (pre++x::r)=(pre++[N.wakeI x])++r:=by
   unfold N.wakeI
   cases x.lent with
   | true =>
    show N.setAt N.backI (pre++x::r) pre.length=_
    unfold N.setAt
    rw [hg]
    simp [List.set_append]
   | false=>simp
  have:=wakes_eq r (pre++[N.wakeI x])
  rw [List.length_append] at this
  rw [e]
  rw [show pre.length+1=pre.length+[N.wakeI x].length from rfl,this,List.append_assoc]
  try rfl
def schLWake:SSch:={ fr:=[(1,.ptr 10000 0 0),(2,.ptr 10001 0 0),(6,.slc [.int .u64,.str,.str,.slc [.str,.int .u8,.int .i64,.str],.str,.int .u64,.int .u8,.bool,.bool]),(7,.int .i64),(8,.int .i64)],tab:=[(10000,.var [.slc [.int .u64,.str,.str,.slc [.str,.int .u8,.int .i64,.str],.str,.int .u64,.int .u8,.bool,.bool]]),(10001,.var [.slc [.int .u64,.str,.str,.slc [.str,.int .u8,.int .i64,.str],.str,.int .u64,.int .u8,.bool,.bool]])] }
def gLWake:List Leaf→(Ex→St→Option R)→Option R
 | [.r r,.i n,.i i,.r a,.r b],K=>cond (n==r.length) (cond (i==0) (cond (Nat.beq a.length r.length) (cond (Nat.ble r.length 1000)
   (K (.exit 0) { fr:=[(1,.ptr 10000 0 0 0),(2,.ptr 10001 0 0 0)],tab:=[(10000,.var [.slc [.int .u64,.str,.str,.slc [.str,.int .u8,.int .i64,.str],.str,.int .u64,.int .u8,.bool,.bool] (cond ((r.map cItem.dec).any fun x=>x.lent) ((N.wakes (r.map cItem.dec) 0 (a.map cItem.dec)).map cItem.enc) a)]),(10001,.var [.slc [.int .u64,.str,.str,.slc [.str,.int .u8,.int .i64,.str],.str,.int .u64,.int .u8,.bool,.bool] b])] }) none) none) none) none
 | _,_=>none
noncomputable def eLWake:Env:={ env Tryz.prog [(65,dWith 66 N.backI)] [(2,loopF schLWake gLWake)] [(2,[(0,[1,2,6,7,8]),(1,[1,2]),(1000,[2])])] with fz:=true }
theorem q_lWake (l:List HItem):evFn eLWake 27 ((aOne (vAgg cLine)).enc l) ([]) some =
 cond ((↑(List.length (List.map (RCod.enc cItem) l)):Int)==(↑(List.length (List.map (RCod.enc cItem) l)):Int)) (cond (Nat.beq (List.length (List.map (RCod.enc cItem) l)) (List.length (List.map (RCod.enc cItem) l))) (cond (Nat.ble (List.length (List.map (RCod.enc cItem) l)) 1000) (some {v:=V.agg [V.slc [.int .u64,.str,.str,.slc [.str,.int .u8,.int .i64,.str],.str,.int .u64,.int .u8,.bool,.bool] (bif List.any (List.map (RCod.dec cItem) (List.map (RCod.enc cItem) l)) fun x=>HItem.lent x then List.map (RCod.enc cItem) (N.wakes (List.map (RCod.dec cItem) (List.map (RCod.enc cItem) l)) 0 (List.map (RCod.dec cItem) (List.map (RCod.enc cItem) l))) else List.map (RCod.enc cItem) l)],bx:=[]:DRes}) (none)) (none)) (none):=by kernel_rfl
theorem q_lWakeR (r:List (List V)) (n i:Int) (a b:List (List V)) (K:Ex→St→Option R):evRound eLWake 27 2 { fr:=[(1,.ptr 10000 0 0 0),(2,.ptr 10001 0 0 0),(6,.slc [.int .u64,.str,.str,.slc [.str,.int .u8,.int .i64,.str],.str,.int .u64,.int .u8,.bool,.bool] r),(7,.int .i64 n),(8,.int .i64 i)],tab:=[(10000,.var [.slc [.int .u64,.str,.str,.slc [.str,.int .u8,.int .i64,.str],.str,.int .u64,.int .u8,.bool,.bool] a]),(10001,.var [.slc [.int .u64,.str,.str,.slc [.str,.int .u8,.int .i64,.str],.str,.int .u64,.int .u8,.bool,.bool] b])] } K =
 cond (ilt i n) (cond (decide ((0:Int)≤i∧i<(↑(List.length r):Int))) (cond (V.toBool (List.getD (List.getD r (Int.toNat i) []) 7 V.undef)) (cond (goodAt (List.map (RCod.dec cItem) a) i) (K Ex.normal {fr:=[(1,V.ptr 10000 0 0 0),(2,V.ptr 10001 0 0 0),(6,V.slc [.int .u64,.str,.str,.slc [.str,.int .u8,.int .i64,.str],.str,.int .u64,.int .u8,.bool,.bool] r),(7,V.int .i64 n),(8,V.int .i64 (IntKind.wrap .i64 (i+(1:Int))))],tab:=[(10000,Box.var [V.slc [.int .u64,.str,.str,.slc [.str,.int .u8,.int .i64,.str],.str,.int .u64,.int .u8,.bool,.bool] (List.map (RCod.enc cItem) (N.setAt N.backI (List.map (RCod.dec cItem) a) (Int.toNat i)))]),(10001,Box.var [V.slc [.int .u64,.str,.str,.slc [.str,.int .u8,.int .i64,.str],.str,.int .u64,.int .u8,.bool,.bool] b])]:St}) (none)) (K Ex.normal {fr:=[(1,V.ptr 10000 0 0 0),(2,V.ptr 10001 0 0 0),(6,V.slc [.int .u64,.str,.str,.slc [.str,.int .u8,.int .i64,.str],.str,.int .u64,.int .u8,.bool,.bool] r),(7,V.int .i64 n),(8,V.int .i64 (IntKind.wrap .i64 (i+(1:Int))))],tab:=[(10000,Box.var [V.slc [.int .u64,.str,.str,.slc [.str,.int .u8,.int .i64,.str],.str,.int .u64,.int .u8,.bool,.bool] a]),(10001,Box.var [V.slc [.int .u64,.str,.str,.slc [.str,.int .u8,.int .i64,.str],.str,.int .u64,.int .u8,.bool,.bool] b])]:St})) (none)) (K (Ex.exit 0) {fr:=[(1,V.ptr 10000 0 0 0),(2,V.ptr 10001 0 0 0)],tab:=[(10000,Box.var [V.slc [.int .u64,.str,.str,.slc [.str,.int .u8,.int .i64,.str],.str,.int .u64,.int .u8,.bool,.bool] a]),(10001,Box.var [V.slc [.int .u64,.str,.str,.slc [.str,.int .u8,.int .i64,.str],.str,.int .u64,.int .u8,.bool,.bool] b])]:St}):=by kernel_rfl
theorem wakes_none:∀ (r:List HItem) (k:Nat) (l:List HItem),(r.any fun x=>x.lent)=false→N.wakes r k l=l
 | [],_,_,_=>rfl
 | x::r,k,l,h=>by
  rw [List.any_cons,Bool.or_eq_false_iff] at h
  unfold N.wakes
  rw [h.1]
  exact wakes_none r (k+1) l h.2
theorem ok_lWake2:RoundsOk eLWake 27 2:=by
 refine rounds_of rfl fun l K q h=>?_
 unfold gLWake at h
 split at h
 ·rename_i r n i a b
  have h1:=(cond_none h).1; replace h:=(cond_none h).2; have h2:=(cond_none h).1; replace h:=(cond_none h).2; have h3:=(cond_none h).1; replace h:=(cond_none h).2; have h4:=(cond_none h).1; replace h:=(cond_none h).2
  have e1:=ieq_of h1
  have e2:=ieq_of h2
  have e3:=nbeq_of h3
  subst e1 e2
  have h4:r.length≤1000:=ble_of h4
  have main:=loop_ind (E:=eLWake) (f:=27) (id:=2) (σ:=Nat × List (List V)) (fun s=>{ fr:=[(1,.ptr 10000 0 0 0),(2,.ptr 10001 0 0 0),(6,.slc [.int .u64,.str,.str,.slc [.str,.int .u8,.int .i64,.str],.str,.int .u64,.int .u8,.bool,.bool] r),(7,.int .i64 r.length),(8,.int .i64 (s.1:Int))],tab:=[(10000,.var [.slc [.int .u64,.str,.str,.slc [.str,.int .u8,.int .i64,.str],.str,.int .u64,.int .u8,.bool,.bool] s.2]),(10001,.var [.slc [.int .u64,.str,.str,.slc [.str,.int .u8,.int .i64,.str],.str,.int .u64,.int .u8,.bool,.bool] b])] })
   (fun s=>s.1≤r.length∧s.2.length=r.length) (fun s=>r.length-s.1)
   (fun s K=>K (.exit 0) { fr:=[(1,.ptr 10000 0 0 0),(2,.ptr 10001 0 0 0)],tab:=[(10000,.var [.slc [.int .u64,.str,.str,.slc [.str,.int .u8,.int .i64,.str],.str,.int .u64,.int .u8,.bool,.bool] (cond (((r.drop s.1).map cItem.dec).any fun x=>x.lent) ((N.wakes ((r.drop s.1).map cItem.dec) s.1 (s.2.map cItem.dec)).map cItem.enc) s.2)]),(10001,.var [.slc [.int .u64,.str,.str,.slc [.str,.int .u8,.int .i64,.str],.str,.int .u64,.int .u8,.bool,.bool] b])] })
   (fun s hs=>?_) (0,a) ⟨Nat.zero_le _,e3⟩ K q (by assumption)
  ·exact main
  ·obtain ⟨i,a⟩:=s
   obtain ⟨k1,k2⟩:=hs
   simp only at k1 k2 ⊢
   by_cases hl:i<r.length
   ·rw [drop_decI hl,List.any_cons]
    cases hc:(cItem.dec (r.getD i [])).lent with
    | true =>
     have hc' : V.toBool (List.getD (List.getD r i []) 7 V.undef)=true:=hc
     have ga:goodAt (a.map cItem.dec) i=true:=by
      unfold goodAt
      rw [List.length_map,ile_t (by omega),ilt_t (by omega),ble_t (by omega)]; rfl
     refine .inl ⟨(i+1,(N.setAt N.backI (a.map cItem.dec) i).map cItem.enc),⟨hl,by simp only [List.length_map,setAt_len]; exact k2⟩,by simp only; omega,fun K=>?_,fun K=>?_⟩
     ·rw [q_lWakeR]
      simp (disch:=omega) only [evs,Int.toNat_natCast,hc',ga]
      try rfl
     ·have e:N.wakes (cItem.dec (r.getD i [])::(r.drop (i+1)).map cItem.dec) i (a.map cItem.dec)=N.wakes ((r.drop (i+1)).map cItem.dec) (i+1) (N.setAt N.backI (a.map cItem.dec) i):=by
       show N.wakes _ _ (cond (cItem.dec (r.getD i [])).lent _ _)=_
       rw [hc]; rfl
      rw [e,Bool.true_or,cond_true]
      simp only [dec_encs]
      cases hn:((r.drop (i+1)).map cItem.dec).any fun x=>x.lent with
      | true=>rfl
      | false=>rw [wakes_none _ _ _ hn]; rfl
    | false =>
     have hc' : V.toBool (List.getD (List.getD r i []) 7 V.undef)=false:=hc
     refine .inl ⟨(i+1,a),⟨hl,k2⟩,by simp only; omega,fun K=>?_,fun K=>?_⟩
     ·rw [q_lWakeR]
      simp (disch:=omega) only [evs,Int.toNat_natCast,hc']
      try rfl
     ·have e:N.wakes (cItem.dec (r.getD i [])::(r.drop (i+1)).map cItem.dec) i (a.map cItem.dec)=N.wakes ((r.drop (i+1)).map cItem.dec) (i+1) (a.map cItem.dec):=by
       show N.wakes _ _ (cond (cItem.dec (r.getD i [])).lent _ _)=_
       rw [hc]; rfl
      rw [e,Bool.false_or]
   ·have ei:i=r.length:=by omega
    subst ei
    refine .inr ⟨.exit 0,{ fr:=[(1,.ptr 10000 0 0 0),(2,.ptr 10001 0 0 0)],tab:=[(10000,.var [.slc [.int .u64,.str,.str,.slc [.str,.int .u8,.int .i64,.str],.str,.int .u64,.int .u8,.bool,.bool] a]),(10001,.var [.slc [.int .u64,.str,.str,.slc [.str,.int .u8,.int .i64,.str],.str,.int .u64,.int .u8,.bool,.bool] b])] },by simp,fun K=>?_,fun K=>?_⟩
    ·rw [q_lWakeR]
     simp (disch:=omega) only [evs]
    ·rw [List.drop_eq_nil_of_le (Nat.le_refl _)]; rfl
 ·cases h
theorem ok_lWake:FnOk Tryz.prog 27 dLWake:=by
 refine den_okF (env_ok ((TOk.nil _).cons ok_withW)) (E:=eLWake) Tryz.func27 [2] (by kernel_rfl) (one1 ok_lWake2) fun l _ hp=>?_
 have hp:Nat.ble l.length 1000=true:=hp
 refine (q_lWake l).trans ?_
 simp only [List.length_map,dec_encs,hp,beq_self_eq_true,cond_true,Nat.beq_refl]
 have e:=wakes_eq l []
 show _=some (⟨.agg [.slc [.int .u64,.str,.str,.slc [.str,.int .u8,.int .i64,.str],.str,.int .u64,.int .u8,.bool,.bool] ((N.lWake l).map cItem.enc)],[],[]⟩:DRes)
 have e:N.wakes l 0 l=N.lWake l:=e
 rw [e]
 cases hn:l.any fun x=>x.lent with
 | true=>rfl
 | false =>
  have:=wakes_none l 0 l hn
  rw [e] at this
  rw [this]; rfl
def schEqFI:SSch:={ fr:=[(1,.slc [.int .u64,.str,.str,.slc [.str,.int .u8,.int .i64,.str],.str,.int .u64,.int .u8,.bool,.bool]),(2,.fn 63 [] []),(15,.slc [.int .u64,.str,.str,.slc [.str,.int .u8,.int .i64,.str],.str,.int .u64,.int .u8,.bool,.bool]),(16,.int .i64),(17,.int .i64)],tab:=[] }
def gEqFI:List Leaf→(Ex→St→Option R)→Option R
 | [.r r1,.r r,.i n,.i i],K=>cond (n==r.length) (cond (i==0) (cond (Nat.beq r.length r1.length) (cond (Nat.ble r.length 1000) (cond ((r.map cItem.dec).all smallI)
   (cond (N.sameL (r.map cItem.dec) (r1.map cItem.dec)) (K (.exit 0) { fr:=[],tab:=[] }) (K .ret { fr:=[(6,.bool false)],tab:=[] })) none) none) none) none) none
 | _,_=>none
noncomputable def eEqFI:Env:=env Tryz.prog [(63,dSameI)] [(4,loopF schEqFI gEqFI)] [(4,[(0,[1,2,15,16,17]),(1,[]),(1000,[6])])]
theorem q_eqFI (a b:List HItem):evFn eEqFI 62 ((aCons (vSl cItem) (aCons (vSl cItem) (aOne (vFn0 63)))).enc (a,b,())) ([]) some =
 cond ((↑(List.length (List.map (RCod.enc cItem) a)):Int) != (↑(List.length (List.map (RCod.enc cItem) b)):Int)) (some {v:=V.bool false,bx:=[]:DRes}) (cond ((↑(List.length (List.map (RCod.enc cItem) a)):Int)==(↑(List.length (List.map (RCod.enc cItem) a)):Int)) (cond (Nat.beq (List.length (List.map (RCod.enc cItem) a)) (List.length (List.map (RCod.enc cItem) b))) (cond (Nat.ble (List.length (List.map (RCod.enc cItem) a)) 1000) (cond (List.all (List.map (RCod.dec cItem) (List.map (RCod.enc cItem) a)) smallI) (cond (N.sameL (List.map (RCod.dec cItem) (List.map (RCod.enc cItem) a)) (List.map (RCod.dec cItem) (List.map (RCod.enc cItem) b))) (some {v:=V.bool true,bx:=[]:DRes}) (some {v:=V.bool false,bx:=[]:DRes})) (none)) (none)) (none)) (none)):=by kernel_rfl
theorem q_eqFIR (n i:Int) (r r1:List (List V)) (K:Ex→St→Option R):evRound eEqFI 62 4 { fr:=[(1,.slc [.int .u64,.str,.str,.slc [.str,.int .u8,.int .i64,.str],.str,.int .u64,.int .u8,.bool,.bool] r1),(2,.fn 63 [] []),(15,.slc [.int .u64,.str,.str,.slc [.str,.int .u8,.int .i64,.str],.str,.int .u64,.int .u8,.bool,.bool] r),(16,.int .i64 n),(17,.int .i64 i)],tab:=[] } K =
 cond (ilt i n) (cond (decide ((0:Int)≤i∧i<(↑(List.length r):Int))) (cond (decide ((0:Int)≤i∧i<(↑(List.length r1):Int))) (cond (smallI {mail:={id:=V.toInt (List.getD (List.getD r (Int.toNat i) []) 0 V.undef),shop:=V.toStr (List.getD (List.getD r (Int.toNat i) []) 1 V.undef),key:=V.toStr (List.getD (List.getD r (Int.toNat i) []) 2 V.undef),head:=List.map (fun r=>{key:=V.toStr (List.getD r 0 .undef),kind:=V.toInt (List.getD r 1 .undef),num:=V.toInt (List.getD r 2 .undef),text:=V.toStr (List.getD r 3 .undef):HPair}) (V.toRows (List.getD (List.getD r (Int.toNat i) []) 3 V.undef)),body:=V.toStr (List.getD (List.getD r (Int.toNat i) []) 4 V.undef),due:=V.toInt (List.getD (List.getD r (Int.toNat i) []) 5 V.undef),hops:=V.toInt (List.getD (List.getD r (Int.toNat i) []) 6 V.undef):HMail},lent:=V.toBool (List.getD (List.getD r (Int.toNat i) []) 7 V.undef),again:=V.toBool (List.getD (List.getD r (Int.toNat i) []) 8 V.undef):HItem}) (cond (!N.sameI {mail:={id:=V.toInt (List.getD (List.getD r (Int.toNat i) []) 0 V.undef),shop:=V.toStr (List.getD (List.getD r (Int.toNat i) []) 1 V.undef),key:=V.toStr (List.getD (List.getD r (Int.toNat i) []) 2 V.undef),head:=List.map (fun r=>{key:=V.toStr (List.getD r 0 .undef),kind:=V.toInt (List.getD r 1 .undef),num:=V.toInt (List.getD r 2 .undef),text:=V.toStr (List.getD r 3 .undef):HPair}) (V.toRows (List.getD (List.getD r (Int.toNat i) []) 3 V.undef)),body:=V.toStr (List.getD (List.getD r (Int.toNat i) []) 4 V.undef),due:=V.toInt (List.getD (List.getD r (Int.toNat i) []) 5 V.undef),hops:=V.toInt (List.getD (List.getD r (Int.toNat i) []) 6 V.undef):HMail},lent:=V.toBool (List.getD (List.getD r (Int.toNat i) []) 7 V.undef),again:=V.toBool (List.getD (List.getD r (Int.toNat i) []) 8 V.undef):HItem} {mail:={id:=V.toInt (List.getD (List.getD r1 (Int.toNat i) []) 0 V.undef),shop:=V.toStr (List.getD (List.getD r1 (Int.toNat i) []) 1 V.undef),key:=V.toStr (List.getD (List.getD r1 (Int.toNat i) []) 2 V.undef),head:=List.map (fun r=>{key:=V.toStr (List.getD r 0 .undef),kind:=V.toInt (List.getD r 1 .undef),num:=V.toInt (List.getD r 2 .undef),text:=V.toStr (List.getD r 3 .undef):HPair}) (V.toRows (List.getD (List.getD r1 (Int.toNat i) []) 3 V.undef)),body:=V.toStr (List.getD (List.getD r1 (Int.toNat i) []) 4 V.undef),due:=V.toInt (List.getD (List.getD r1 (Int.toNat i) []) 5 V.undef),hops:=V.toInt (List.getD (List.getD r1 (Int.toNat i) []) 6 V.undef):HMail},lent:=V.toBool (List.getD (List.getD r1 (Int.toNat i) []) 7 V.undef),again:=V.toBool (List.getD (List.getD r1 (Int.toNat i) []) 8 V.undef):HItem}) (K Ex.ret {fr:=[(6,V.bool false)],tab:=[]:St}) (K Ex.normal {fr:=[(1,V.slc [.int .u64,.str,.str,.slc [.str,.int .u8,.int .i64,.str],.str,.int .u64,.int .u8,.bool,.bool] r1),(2,V.fn 63 [] []),(15,V.slc [.int .u64,.str,.str,.slc [.str,.int .u8,.int .i64,.str],.str,.int .u64,.int .u8,.bool,.bool] r),(16,V.int .i64 n),(17,V.int .i64 (IntKind.wrap .i64 (i+(1:Int))))],tab:=[]:St})) (none)) (none)) (none)) (K (Ex.exit 0) {fr:=[],tab:=[]:St}):=by kernel_rfl
theorem ok_eqFI4:RoundsOk eEqFI 62 4:=by
 refine rounds_of rfl fun l K q h=>?_
 unfold gEqFI at h
 split at h
 ·rename_i r1 r n i
  have h1:=(cond_none h).1; replace h:=(cond_none h).2; have h2:=(cond_none h).1; replace h:=(cond_none h).2; have h3:=(cond_none h).1; replace h:=(cond_none h).2; have h4:=(cond_none h).1; replace h:=(cond_none h).2; have h5:=(cond_none h).1; replace h:=(cond_none h).2
  have e1:=ieq_of h1
  have e2:=ieq_of h2
  have e3:=nbeq_of h3
  subst e1 e2
  have h4:r.length≤1000:=ble_of h4
  refine loop_ind (E:=eEqFI) (f:=62) (id:=4) (σ:=Nat) (fun i=>{ fr:=[(1,.slc [.int .u64,.str,.str,.slc [.str,.int .u8,.int .i64,.str],.str,.int .u64,.int .u8,.bool,.bool] r1),(2,.fn 63 [] []),(15,.slc [.int .u64,.str,.str,.slc [.str,.int .u8,.int .i64,.str],.str,.int .u64,.int .u8,.bool,.bool] r),(16,.int .i64 r.length),(17,.int .i64 i)],tab:=[] }) (fun i=>i≤r.length) (fun i=>r.length-i)
   (fun i K=>cond (N.sameL ((r.drop i).map cItem.dec) ((r1.drop i).map cItem.dec)) (K (.exit 0) { fr:=[],tab:=[] }) (K .ret { fr:=[(6,.bool false)],tab:=[] })) (fun i hi=>?_) 0 (Nat.zero_le _) K q (by assumption)
  by_cases hl:i<r.length
  ·rw [drop_decI hl,drop_decI (show i<r1.length by omega),sameL_cons]
   have hs:=all_rowI h5 hl
   cases hc:N.sameI (cItem.dec (r.getD i [])) (cItem.dec (r1.getD i [])) with
   | true =>
    refine .inl ⟨i+1,hl,by omega,fun K=>?_,fun K=>rfl⟩
    rw [q_eqFIR]
    simp (disch:=omega) only [evs,Int.toNat_natCast,fold_item,hs,hc,Bool.not_true]
    try rfl
   | false =>
    refine .inr ⟨.ret,{ fr:=[(6,.bool false)],tab:=[] },by simp,fun K=>?_,fun K=>rfl⟩
    rw [q_eqFIR]
    simp (disch:=omega) only [evs,Int.toNat_natCast,fold_item,hs,hc,Bool.not_false]
  ·refine .inr ⟨.exit 0,{ fr:=[],tab:=[] },by simp,fun K=>?_,fun K=>?_⟩
   ·rw [q_eqFIR]
    simp (disch:=omega) only [evs]
   ·rw [List.drop_eq_nil_of_le (show r.length≤i by omega),List.drop_eq_nil_of_le (show r1.length≤i by omega)]; rfl
 ·cases h
theorem ok_eqFI:FnOk Tryz.prog 62 (dEqFI 63):=by
 refine den_okF (env_ok ((TOk.nil _).cons ok_sameI)) (E:=eEqFI) Tryz.func62 [4] (by kernel_rfl) (one1 ok_eqFI4) fun a _ h=>?_
 obtain ⟨a,b,⟨⟩⟩:=a
 have h:smallL a=true:=h
 obtain ⟨h0,h2,h3⟩:=smallL_of h
 refine (q_eqFI a b).trans ?_
 show _=some (⟨.bool (N.sameL a b),[],[]⟩:DRes)
 by_cases hl:a.length=b.length
 ·simp (disch:=omega) only [evs,dec_encs,hl,h3,Nat.beq_refl]
  cases N.sameL a b<;>rfl
 ·rw [sameL_len _ _ hl]
  simp (disch:=omega) only [evs]
noncomputable def eSameL:Env:=env Tryz.prog [(62,dEqFI 63)] [] []
theorem q_sameL (a b:List HItem):evFn eSameL 26 ((aCons (vAgg cLine) (aOne (vAgg cLine))).enc (a,b)) ([]) some =
 cond (smallL (List.map (RCod.dec cItem) (List.map (RCod.enc cItem) a))) (some {v:=V.bool (N.sameL (List.map (RCod.dec cItem) (List.map (RCod.enc cItem) a)) (List.map (RCod.dec cItem) (List.map (RCod.enc cItem) b))),bx:=[]:DRes}) (none):=by kernel_rfl
theorem ok_sameL:FnOk Tryz.prog 26 dSameL:=by
 refine den_okF (env_ok ((TOk.nil _).cons ok_eqFI)) (E:=eSameL) Tryz.func26 [] (by kernel_rfl) none0 fun a _ h=>?_
 obtain ⟨a,b⟩:=a
 have h:smallL a=true:=h
 refine (q_sameL a b).trans ?_
 simp only [dec_encs,h,cond_true]
 try rfl
end Go.Ev

/- The document's lines: putting,making,sameness: lemmas. -/
namespace Go.Ev
open Go Go.Proofs
set_option maxRecDepth 100000
-- FOLD
def N.geE (id:Int) (l:List HItem) (e:Int):Int:=cond (cond (e==0) (l.any fun y=>ile id y.mail.id) false) 13 e
def dRPut:Den:=den (aCons (vSl cItem) (aOne (vAgg cItem))) bNil (oTup (aCons (vSl cItem) (aOne (vInt .i64)))) (fun a _=>Nat.ble a.1.length 1000) fun a _=>(N.rPut a.1 a.2,())
def dRSame:Den:=den (aCons (vSl cItem) (aOne (vSl cItem))) bNil (oV vBool) (fun a _=>smallL a.1) fun a _=>(N.sameL a.1 a.2,())
def schRPut:SSch:={ fr:=[(0,.slc [.int .u64,.str,.str,.slc [.str,.int .u8,.int .i64,.str],.str,.int .u64,.int .u8,.bool,.bool]),(3,.ptr 10000 0 0),(6,.int .i64),(13,.slc [.int .u64,.str,.str,.slc [.str,.int .u8,.int .i64,.str],.str,.int .u64,.int .u8,.bool,.bool]),(14,.int .i64),(15,.int .i64)],tab:=[(10000,.var [.int .u64,.str,.str,.slc [.str,.int .u8,.int .i64,.str],.str,.int .u64,.int .u8,.bool,.bool])] }
def gRPut:List Leaf→(Ex→St→Option R)→Option R
 | [.r l0,.i e,.r r,.i n,.i i,.i id,.s s1,.s s2,.r hd,.s s3,.i due,.i hops,.b b1,.b b2],K=>cond (n==r.length) (cond (i==0) (cond (Nat.ble r.length 1000)
   (K (.exit 0) { fr:=[(0,.slc [.int .u64,.str,.str,.slc [.str,.int .u8,.int .i64,.str],.str,.int .u64,.int .u8,.bool,.bool] l0),(3,.ptr 10000 0 0 0),(6,.int .i64 (N.geE id (r.map cItem.dec) e))],tab:=[(10000,.var [.int .u64 id,.str s1,.str s2,.slc [.str,.int .u8,.int .i64,.str] hd,.str s3,.int .u64 due,.int .u8 hops,.bool b1,.bool b2])] }) none) none) none
 | _,_=>none
noncomputable def eRPut:Env:=env Tryz.prog [(111,dMailCheck)] [(3,loopF schRPut gRPut)] [(3,[(0,[0,3,6,13,14,15]),(1,[0,3,6]),(1000,[4,5])])]
theorem q_rPut (l:List HItem) (x:HItem):evFn eRPut 61 ((aCons (vSl cItem) (aOne (vAgg cItem))).enc (l,x)) ([]) some =
 cond ((↑(List.length (List.map (RCod.enc cItem) l)):Int)==(↑(List.length (List.map (RCod.enc cItem) l)):Int)) (cond (Nat.ble (List.length (List.map (RCod.enc cItem) l)) 1000) (cond (N.geE (HMail.id (HItem.mail x)) (List.map (RCod.dec cItem) (List.map (RCod.enc cItem) l)) (N.mailCheck {id:=HMail.id (HItem.mail x),shop:=HMail.shop (HItem.mail x),key:=HMail.key (HItem.mail x),head:=List.map (fun r=>{key:=V.toStr (List.getD r 0 .undef),kind:=V.toInt (List.getD r 1 .undef),num:=V.toInt (List.getD r 2 .undef),text:=V.toStr (List.getD r 3 .undef):HPair}) (List.map (fun p=>[V.str (HPair.key p),V.int .u8 (HPair.kind p),V.int .i64 (HPair.num p),V.str (HPair.text p)]) (HMail.head (HItem.mail x))),body:=HMail.body (HItem.mail x),due:=HMail.due (HItem.mail x),hops:=HMail.hops (HItem.mail x):HMail})==(0:Int)) (cond (ile (64:Int) (↑(List.length (List.map (RCod.enc cItem) l)):Int)) (some {v:=V.tup [V.slc [.int .u64,.str,.str,.slc [.str,.int .u8,.int .i64,.str],.str,.int .u64,.int .u8,.bool,.bool] (List.map (RCod.enc cItem) l),V.int .i64 (12:Int)],bx:=[]:DRes}) (cond (N.geE (HMail.id (HItem.mail x)) (List.map (RCod.dec cItem) (List.map (RCod.enc cItem) l)) (N.mailCheck {id:=HMail.id (HItem.mail x),shop:=HMail.shop (HItem.mail x),key:=HMail.key (HItem.mail x),head:=List.map (fun r=>{key:=V.toStr (List.getD r 0 .undef),kind:=V.toInt (List.getD r 1 .undef),num:=V.toInt (List.getD r 2 .undef),text:=V.toStr (List.getD r 3 .undef):HPair}) (List.map (fun p=>[V.str (HPair.key p),V.int .u8 (HPair.kind p),V.int .i64 (HPair.num p),V.str (HPair.text p)]) (HMail.head (HItem.mail x))),body:=HMail.body (HItem.mail x),due:=HMail.due (HItem.mail x),hops:=HMail.hops (HItem.mail x):HMail}) != (0:Int)) (some {v:=V.tup [V.slc [.int .u64,.str,.str,.slc [.str,.int .u8,.int .i64,.str],.str,.int .u64,.int .u8,.bool,.bool] (List.map (RCod.enc cItem) l),V.int .i64 (N.geE (HMail.id (HItem.mail x)) (List.map (RCod.dec cItem) (List.map (RCod.enc cItem) l)) (N.mailCheck {id:=HMail.id (HItem.mail x),shop:=HMail.shop (HItem.mail x),key:=HMail.key (HItem.mail x),head:=List.map (fun r=>{key:=V.toStr (List.getD r 0 .undef),kind:=V.toInt (List.getD r 1 .undef),num:=V.toInt (List.getD r 2 .undef),text:=V.toStr (List.getD r 3 .undef):HPair}) (List.map (fun p=>[V.str (HPair.key p),V.int .u8 (HPair.kind p),V.int .i64 (HPair.num p),V.str (HPair.text p)]) (HMail.head (HItem.mail x))),body:=HMail.body (HItem.mail x),due:=HMail.due (HItem.mail x),hops:=HMail.hops (HItem.mail x):HMail}))],bx:=[]:DRes}) (cond (decide (List.length (List.map (RCod.enc cItem) l)*104≤140737488355328)) (cond (decide ((List.length (List.map (RCod.enc cItem) l)+1)*104≤140737488355328)) (some {v:=V.tup [V.slc [.int .u64,.str,.str,.slc [.str,.int .u8,.int .i64,.str],.str,.int .u64,.int .u8,.bool,.bool] (List.map (RCod.enc cItem) l++[[V.int .u64 (HMail.id (HItem.mail x)),V.str (HMail.shop (HItem.mail x)),V.str (HMail.key (HItem.mail x)),V.slc [.str,.int .u8,.int .i64,.str] (List.map (fun p=>[V.str (HPair.key p),V.int .u8 (HPair.kind p),V.int .i64 (HPair.num p),V.str (HPair.text p)]) (HMail.head (HItem.mail x))),V.str (HMail.body (HItem.mail x)),V.int .u64 (HMail.due (HItem.mail x)),V.int .u8 (HMail.hops (HItem.mail x)),V.bool (HItem.lent x),V.bool (HItem.again x)]]),V.int .i64 (0:Int)],bx:=[]:DRes}) (none)) (none)))) (cond (N.geE (HMail.id (HItem.mail x)) (List.map (RCod.dec cItem) (List.map (RCod.enc cItem) l)) (N.mailCheck {id:=HMail.id (HItem.mail x),shop:=HMail.shop (HItem.mail x),key:=HMail.key (HItem.mail x),head:=List.map (fun r=>{key:=V.toStr (List.getD r 0 .undef),kind:=V.toInt (List.getD r 1 .undef),num:=V.toInt (List.getD r 2 .undef),text:=V.toStr (List.getD r 3 .undef):HPair}) (List.map (fun p=>[V.str (HPair.key p),V.int .u8 (HPair.kind p),V.int .i64 (HPair.num p),V.str (HPair.text p)]) (HMail.head (HItem.mail x))),body:=HMail.body (HItem.mail x),due:=HMail.due (HItem.mail x),hops:=HMail.hops (HItem.mail x):HMail}) != (0:Int)) (some {v:=V.tup [V.slc [.int .u64,.str,.str,.slc [.str,.int .u8,.int .i64,.str],.str,.int .u64,.int .u8,.bool,.bool] (List.map (RCod.enc cItem) l),V.int .i64 (N.geE (HMail.id (HItem.mail x)) (List.map (RCod.dec cItem) (List.map (RCod.enc cItem) l)) (N.mailCheck {id:=HMail.id (HItem.mail x),shop:=HMail.shop (HItem.mail x),key:=HMail.key (HItem.mail x),head:=List.map (fun r=>{key:=V.toStr (List.getD r 0 .undef),kind:=V.toInt (List.getD r 1 .undef),num:=V.toInt (List.getD r 2 .undef),text:=V.toStr (List.getD r 3 .undef):HPair}) (List.map (fun p=>[V.str (HPair.key p),V.int .u8 (HPair.kind p),V.int .i64 (HPair.num p),V.str (HPair.text p)]) (HMail.head (HItem.mail x))),body:=HMail.body (HItem.mail x),due:=HMail.due (HItem.mail x),hops:=HMail.hops (HItem.mail x):HMail}))],bx:=[]:DRes}) (cond (decide (List.length (List.map (RCod.enc cItem) l)*104≤140737488355328)) (cond (decide ((List.length (List.map (RCod.enc cItem) l)+1)*104≤140737488355328)) (some {v:=V.tup [V.slc [.int .u64,.str,.str,.slc [.str,.int .u8,.int .i64,.str],.str,.int .u64,.int .u8,.bool,.bool] (List.map (RCod.enc cItem) l++[[V.int .u64 (HMail.id (HItem.mail x)),V.str (HMail.shop (HItem.mail x)),V.str (HMail.key (HItem.mail x)),V.slc [.str,.int .u8,.int .i64,.str] (List.map (fun p=>[V.str (HPair.key p),V.int .u8 (HPair.kind p),V.int .i64 (HPair.num p),V.str (HPair.text p)]) (HMail.head (HItem.mail x))),V.str (HMail.body (HItem.mail x)),V.int .u64 (HMail.due (HItem.mail x)),V.int .u8 (HMail.hops (HItem.mail x)),V.bool (HItem.lent x),V.bool (HItem.again x)]]),V.int .i64 (0:Int)],bx:=[]:DRes}) (none)) (none)))) (none)) (none):=by kernel_rfl
theorem q_rPutR (l0:List (List V)) (e:Int) (r:List (List V)) (n i id:Int) (s1 s2:Bytes) (hd:List (List V)) (s3:Bytes) (due hops:Int) (b1 b2:Bool) (K:Ex→St→Option R):evRound eRPut 61 3 { fr:=[(0,.slc [.int .u64,.str,.str,.slc [.str,.int .u8,.int .i64,.str],.str,.int .u64,.int .u8,.bool,.bool] l0),(3,.ptr 10000 0 0 0),(6,.int .i64 e),(13,.slc [.int .u64,.str,.str,.slc [.str,.int .u8,.int .i64,.str],.str,.int .u64,.int .u8,.bool,.bool] r),(14,.int .i64 n),(15,.int .i64 i)],tab:=[(10000,.var [.int .u64 id,.str s1,.str s2,.slc [.str,.int .u8,.int .i64,.str] hd,.str s3,.int .u64 due,.int .u8 hops,.bool b1,.bool b2])] } K =
 cond (ilt i n) (cond (decide ((0:Int)≤i∧i<(↑(List.length r):Int))) (cond (e==(0:Int)) (cond (ile id (V.toInt (List.getD (List.getD r (Int.toNat i) []) 0 V.undef))) (K Ex.normal {fr:=[(0,V.slc [.int .u64,.str,.str,.slc [.str,.int .u8,.int .i64,.str],.str,.int .u64,.int .u8,.bool,.bool] l0),(3,V.ptr 10000 0 0 0),(6,V.int .i64 (13:Int)),(13,V.slc [.int .u64,.str,.str,.slc [.str,.int .u8,.int .i64,.str],.str,.int .u64,.int .u8,.bool,.bool] r),(14,V.int .i64 n),(15,V.int .i64 (IntKind.wrap .i64 (i+(1:Int))))],tab:=[(10000,Box.var [V.int .u64 id,V.str s1,V.str s2,V.slc [.str,.int .u8,.int .i64,.str] hd,V.str s3,V.int .u64 due,V.int .u8 hops,V.bool b1,V.bool b2])]:St}) (K Ex.normal {fr:=[(0,V.slc [.int .u64,.str,.str,.slc [.str,.int .u8,.int .i64,.str],.str,.int .u64,.int .u8,.bool,.bool] l0),(3,V.ptr 10000 0 0 0),(6,V.int .i64 e),(13,V.slc [.int .u64,.str,.str,.slc [.str,.int .u8,.int .i64,.str],.str,.int .u64,.int .u8,.bool,.bool] r),(14,V.int .i64 n),(15,V.int .i64 (IntKind.wrap .i64 (i+(1:Int))))],tab:=[(10000,Box.var [V.int .u64 id,V.str s1,V.str s2,V.slc [.str,.int .u8,.int .i64,.str] hd,V.str s3,V.int .u64 due,V.int .u8 hops,V.bool b1,V.bool b2])]:St})) (K Ex.normal {fr:=[(0,V.slc [.int .u64,.str,.str,.slc [.str,.int .u8,.int .i64,.str],.str,.int .u64,.int .u8,.bool,.bool] l0),(3,V.ptr 10000 0 0 0),(6,V.int .i64 e),(13,V.slc [.int .u64,.str,.str,.slc [.str,.int .u8,.int .i64,.str],.str,.int .u64,.int .u8,.bool,.bool] r),(14,V.int .i64 n),(15,V.int .i64 (IntKind.wrap .i64 (i+(1:Int))))],tab:=[(10000,Box.var [V.int .u64 id,V.str s1,V.str s2,V.slc [.str,.int .u8,.int .i64,.str] hd,V.str s3,V.int .u64 due,V.int .u8 hops,V.bool b1,V.bool b2])]:St})) (none)) (K (Ex.exit 0) {fr:=[(0,V.slc [.int .u64,.str,.str,.slc [.str,.int .u8,.int .i64,.str],.str,.int .u64,.int .u8,.bool,.bool] l0),(3,V.ptr 10000 0 0 0),(6,V.int .i64 e)],tab:=[(10000,Box.var [V.int .u64 id,V.str s1,V.str s2,V.slc [.str,.int .u8,.int .i64,.str] hd,V.str s3,V.int .u64 due,V.int .u8 hops,V.bool b1,V.bool b2])]:St}):=by kernel_rfl
theorem ok_rPut3:RoundsOk eRPut 61 3:=by
 refine rounds_of rfl fun l K q h=>?_
 unfold gRPut at h
 split at h
 ·rename_i l0 e r n i id s1 s2 hd s3 due hops b1 b2
  have h1:=(cond_none h).1; replace h:=(cond_none h).2; have h2:=(cond_none h).1; replace h:=(cond_none h).2; have h3:=(cond_none h).1; replace h:=(cond_none h).2
  have e1:=ieq_of h1
  have e2:=ieq_of h2
  subst e1 e2
  have h3:r.length≤1000:=ble_of h3
  have main:=range_ind (E:=eRPut) (f:=61) (id:=3) (A:=Int) r (fun e i=>{ fr:=[(0,.slc [.int .u64,.str,.str,.slc [.str,.int .u8,.int .i64,.str],.str,.int .u64,.int .u8,.bool,.bool] l0),(3,.ptr 10000 0 0 0),(6,.int .i64 e),(13,.slc [.int .u64,.str,.str,.slc [.str,.int .u8,.int .i64,.str],.str,.int .u64,.int .u8,.bool,.bool] r),(14,.int .i64 r.length),(15,.int .i64 i)],tab:=[(10000,.var [.int .u64 id,.str s1,.str s2,.slc [.str,.int .u8,.int .i64,.str] hd,.str s3,.int .u64 due,.int .u8 hops,.bool b1,.bool b2])] }) (fun _ _=>True)
   (fun e rows K=>K (.exit 0) { fr:=[(0,.slc [.int .u64,.str,.str,.slc [.str,.int .u8,.int .i64,.str],.str,.int .u64,.int .u8,.bool,.bool] l0),(3,.ptr 10000 0 0 0),(6,.int .i64 (N.geE id (rows.map cItem.dec) e))],tab:=[(10000,.var [.int .u64 id,.str s1,.str s2,.slc [.str,.int .u8,.int .i64,.str] hd,.str s3,.int .u64 due,.int .u8 hops,.bool b1,.bool b2])] }) (fun e i _ hi=>?_) (fun e _=>?_) e 0 (Int.le_refl _) (by omega) trivial K q (by assumption)
  ·exact main
  ·refine .inl ⟨cond (cond (e==0) (ile id (cItem.dec (r.getD i [])).mail.id) false) 13 e,trivial,fun K=>?_,fun K=>?_⟩
   ·rw [q_rPutR]
    have hm:V.toInt (List.getD (List.getD r i []) 0 V.undef)=(cItem.dec (r.getD i [])).mail.id:=rfl
    simp (disch:=omega) only [evs,Int.toNat_natCast,hm]
    cases e==0 with
    | false=>rfl
    | true=>cases ile id (cItem.dec (r.getD i [])).mail.id<;>rfl
   ·have he:N.geE id ((r.getD i []::r.drop (i+1)).map cItem.dec) e=N.geE id ((r.drop (i+1)).map cItem.dec) (cond (cond (e==0) (ile id (cItem.dec (r.getD i [])).mail.id) false) 13 e):=by
     unfold N.geE
     rw [List.map_cons,List.any_cons]
     cases hz:e==0 with
     | false=>simp only [cond_false,hz]
     | true =>
      cases ile id (cItem.dec (r.getD i [])).mail.id with
      | true=>rfl
      | false=>simp only [cond_true,cond_false,hz,Bool.false_or]
    rw [he]
  ·have he:N.geE id (([]:List (List V)).map cItem.dec) e=e:=by
    unfold N.geE
    cases e==0<;>rfl
   refine ⟨.exit 0,{ fr:=[(0,.slc [.int .u64,.str,.str,.slc [.str,.int .u8,.int .i64,.str],.str,.int .u64,.int .u8,.bool,.bool] l0),(3,.ptr 10000 0 0 0),(6,.int .i64 (e))],tab:=[(10000,.var [.int .u64 id,.str s1,.str s2,.slc [.str,.int .u8,.int .i64,.str] hd,.str s3,.int .u64 due,.int .u8 hops,.bool b1,.bool b2])] },by simp,fun K=>?_,fun K=>by rw [he]⟩
   rw [q_rPutR]
   simp (disch:=omega) only [evs]
 ·cases h
noncomputable def eRSameI:Env:=env Tryz.prog [(20,dMailSame)] [] []
theorem q_rSameI (a b:HItem):evFn eRSameI 48 ((aCons (vAgg cItem) (aOne (vAgg cItem))).enc (a,b)) ([]) some =
 cond (smallM {id:=HMail.id (HItem.mail a),shop:=HMail.shop (HItem.mail a),key:=HMail.key (HItem.mail a),head:=List.map (fun r=>{key:=V.toStr (List.getD r 0 .undef),kind:=V.toInt (List.getD r 1 .undef),num:=V.toInt (List.getD r 2 .undef),text:=V.toStr (List.getD r 3 .undef):HPair}) (List.map (fun p=>[V.str (HPair.key p),V.int .u8 (HPair.kind p),V.int .i64 (HPair.num p),V.str (HPair.text p)]) (HMail.head (HItem.mail a))),body:=HMail.body (HItem.mail a),due:=HMail.due (HItem.mail a),hops:=HMail.hops (HItem.mail a):HMail}) (cond (N.mailSame {id:=HMail.id (HItem.mail a),shop:=HMail.shop (HItem.mail a),key:=HMail.key (HItem.mail a),head:=List.map (fun r=>{key:=V.toStr (List.getD r 0 .undef),kind:=V.toInt (List.getD r 1 .undef),num:=V.toInt (List.getD r 2 .undef),text:=V.toStr (List.getD r 3 .undef):HPair}) (List.map (fun p=>[V.str (HPair.key p),V.int .u8 (HPair.kind p),V.int .i64 (HPair.num p),V.str (HPair.text p)]) (HMail.head (HItem.mail a))),body:=HMail.body (HItem.mail a),due:=HMail.due (HItem.mail a),hops:=HMail.hops (HItem.mail a):HMail} {id:=HMail.id (HItem.mail b),shop:=HMail.shop (HItem.mail b),key:=HMail.key (HItem.mail b),head:=List.map (fun r=>{key:=V.toStr (List.getD r 0 .undef),kind:=V.toInt (List.getD r 1 .undef),num:=V.toInt (List.getD r 2 .undef),text:=V.toStr (List.getD r 3 .undef):HPair}) (List.map (fun p=>[V.str (HPair.key p),V.int .u8 (HPair.kind p),V.int .i64 (HPair.num p),V.str (HPair.text p)]) (HMail.head (HItem.mail b))),body:=HMail.body (HItem.mail b),due:=HMail.due (HItem.mail b),hops:=HMail.hops (HItem.mail b):HMail}) (cond (HItem.lent a==HItem.lent b) (some {v:=V.bool (HItem.again a==HItem.again b),bx:=[]:DRes}) (some {v:=V.bool false,bx:=[]:DRes})) (some {v:=V.bool false,bx:=[]:DRes})) (none):=by kernel_rfl
theorem ok_rSameI:FnOk Tryz.prog 48 dSameI:=by
 refine den_okF (env_ok ((TOk.nil _).cons ok_refMailSame)) (E:=eRSameI) Tryz.func48 [] (by kernel_rfl) none0 fun a _ h=>?_
 obtain ⟨a,b⟩:=a
 have h:smallM a.mail=true:=h
 refine (q_rSameI a b).trans ?_
 show _=some (⟨.bool (N.sameI a b),[],[]⟩:DRes)
 unfold N.sameI
 simp only [fold_de,h,cond_true]
 cases N.mailSame a.mail b.mail<;>cases a.lent==b.lent<;>rfl
def schRSame:SSch:={ fr:=[(0,.slc [.int .u64,.str,.str,.slc [.str,.int .u8,.int .i64,.str],.str,.int .u64,.int .u8,.bool,.bool]),(1,.slc [.int .u64,.str,.str,.slc [.str,.int .u8,.int .i64,.str],.str,.int .u64,.int .u8,.bool,.bool]),(12,.int .i64),(13,.int .i64)],tab:=[] }
def gRSame:List Leaf→(Ex→St→Option R)→Option R
 | [.r r,.r r1,.i n,.i i],K=>cond (n==r.length) (cond (i==0) (cond (Nat.beq r.length r1.length) (cond (Nat.ble r.length 1000) (cond ((r.map cItem.dec).all smallI)
   (cond (N.sameL (r.map cItem.dec) (r1.map cItem.dec)) (K (.exit 0) { fr:=[],tab:=[] }) (K .ret { fr:=[(4,.bool false)],tab:=[] })) none) none) none) none) none
 | _,_=>none
noncomputable def eRSame18:Env:=env Tryz.prog [(48,dSameI)] [(4,loopF schRSame gRSame)] [(4,[(0,[0,1,12,13]),(1,[]),(1000,[4])])]
theorem q_rSame18 (a b:List HItem):evFn eRSame18 24 ((aCons (vSl cItem) (aOne (vSl cItem))).enc (a,b)) ([]) some =
 cond ((↑(List.length (List.map (RCod.enc cItem) a)):Int) != (↑(List.length (List.map (RCod.enc cItem) b)):Int)) (some {v:=V.bool false,bx:=[]:DRes}) (cond ((↑(List.length (List.map (RCod.enc cItem) a)):Int)==(↑(List.length (List.map (RCod.enc cItem) a)):Int)) (cond (Nat.beq (List.length (List.map (RCod.enc cItem) a)) (List.length (List.map (RCod.enc cItem) b))) (cond (Nat.ble (List.length (List.map (RCod.enc cItem) a)) 1000) (cond (List.all (List.map (RCod.dec cItem) (List.map (RCod.enc cItem) a)) smallI) (cond (N.sameL (List.map (RCod.dec cItem) (List.map (RCod.enc cItem) a)) (List.map (RCod.dec cItem) (List.map (RCod.enc cItem) b))) (some {v:=V.bool true,bx:=[]:DRes}) (some {v:=V.bool false,bx:=[]:DRes})) (none)) (none)) (none)) (none)):=by kernel_rfl
theorem q_rSame18R (r r1:List (List V)) (n i:Int) (K:Ex→St→Option R):evRound eRSame18 24 4 { fr:=[(0,.slc [.int .u64,.str,.str,.slc [.str,.int .u8,.int .i64,.str],.str,.int .u64,.int .u8,.bool,.bool] r),(1,.slc [.int .u64,.str,.str,.slc [.str,.int .u8,.int .i64,.str],.str,.int .u64,.int .u8,.bool,.bool] r1),(12,.int .i64 n),(13,.int .i64 i)],tab:=[] } K =
 cond (ilt i n) (cond (decide ((0:Int)≤i∧i<(↑(List.length r):Int))) (cond (decide ((0:Int)≤i∧i<(↑(List.length r1):Int))) (cond (smallI {mail:={id:=V.toInt (List.getD (List.getD r (Int.toNat i) []) 0 V.undef),shop:=V.toStr (List.getD (List.getD r (Int.toNat i) []) 1 V.undef),key:=V.toStr (List.getD (List.getD r (Int.toNat i) []) 2 V.undef),head:=List.map (fun r=>{key:=V.toStr (List.getD r 0 .undef),kind:=V.toInt (List.getD r 1 .undef),num:=V.toInt (List.getD r 2 .undef),text:=V.toStr (List.getD r 3 .undef):HPair}) (V.toRows (List.getD (List.getD r (Int.toNat i) []) 3 V.undef)),body:=V.toStr (List.getD (List.getD r (Int.toNat i) []) 4 V.undef),due:=V.toInt (List.getD (List.getD r (Int.toNat i) []) 5 V.undef),hops:=V.toInt (List.getD (List.getD r (Int.toNat i) []) 6 V.undef):HMail},lent:=V.toBool (List.getD (List.getD r (Int.toNat i) []) 7 V.undef),again:=V.toBool (List.getD (List.getD r (Int.toNat i) []) 8 V.undef):HItem}) (cond (!N.sameI {mail:={id:=V.toInt (List.getD (List.getD r (Int.toNat i) []) 0 V.undef),shop:=V.toStr (List.getD (List.getD r (Int.toNat i) []) 1 V.undef),key:=V.toStr (List.getD (List.getD r (Int.toNat i) []) 2 V.undef),head:=List.map (fun r=>{key:=V.toStr (List.getD r 0 .undef),kind:=V.toInt (List.getD r 1 .undef),num:=V.toInt (List.getD r 2 .undef),text:=V.toStr (List.getD r 3 .undef):HPair}) (V.toRows (List.getD (List.getD r (Int.toNat i) []) 3 V.undef)),body:=V.toStr (List.getD (List.getD r (Int.toNat i) []) 4 V.undef),due:=V.toInt (List.getD (List.getD r (Int.toNat i) []) 5 V.undef),hops:=V.toInt (List.getD (List.getD r (Int.toNat i) []) 6 V.undef):HMail},lent:=V.toBool (List.getD (List.getD r (Int.toNat i) []) 7 V.undef),again:=V.toBool (List.getD (List.getD r (Int.toNat i) []) 8 V.undef):HItem} {mail:={id:=V.toInt (List.getD (List.getD r1 (Int.toNat i) []) 0 V.undef),shop:=V.toStr (List.getD (List.getD r1 (Int.toNat i) []) 1 V.undef),key:=V.toStr (List.getD (List.getD r1 (Int.toNat i) []) 2 V.undef),head:=List.map (fun r=>{key:=V.toStr (List.getD r 0 .undef),kind:=V.toInt (List.getD r 1 .undef),num:=V.toInt (List.getD r 2 .undef),text:=V.toStr (List.getD r 3 .undef):HPair}) (V.toRows (List.getD (List.getD r1 (Int.toNat i) []) 3 V.undef)),body:=V.toStr (List.getD (List.getD r1 (Int.toNat i) []) 4 V.undef),due:=V.toInt (List.getD (List.getD r1 (Int.toNat i) []) 5 V.undef),hops:=V.toInt (List.getD (List.getD r1 (Int.toNat i) []) 6 V.undef):HMail},lent:=V.toBool (List.getD (List.getD r1 (Int.toNat i) []) 7 V.undef),again:=V.toBool (List.getD (List.getD r1 (Int.toNat i) []) 8 V.undef):HItem}) (K Ex.ret {fr:=[(4,V.bool false)],tab:=[]:St}) (K Ex.normal {fr:=[(0,V.slc [.int .u64,.str,.str,.slc [.str,.int .u8,.int .i64,.str],.str,.int .u64,.int .u8,.bool,.bool] r),(1,V.slc [.int .u64,.str,.str,.slc [.str,.int .u8,.int .i64,.str],.str,.int .u64,.int .u8,.bool,.bool] r1),(12,V.int .i64 n),(13,V.int .i64 (IntKind.wrap .i64 (i+(1:Int))))],tab:=[]:St})) (none)) (none)) (none)) (K (Ex.exit 0) {fr:=[],tab:=[]:St}):=by kernel_rfl
theorem ok_rSame4:RoundsOk eRSame18 24 4:=by
 refine rounds_of rfl fun l K q h=>?_
 unfold gRSame at h
 split at h
 ·rename_i r r1 n i
  have h1:=(cond_none h).1; replace h:=(cond_none h).2; have h2:=(cond_none h).1; replace h:=(cond_none h).2; have h3:=(cond_none h).1; replace h:=(cond_none h).2; have h4:=(cond_none h).1; replace h:=(cond_none h).2; have h5:=(cond_none h).1; replace h:=(cond_none h).2
  have e1:=ieq_of h1
  have e2:=ieq_of h2
  have e3:=nbeq_of h3
  subst e1 e2
  have h4:r.length≤1000:=ble_of h4
  refine loop_ind (E:=eRSame18) (f:=24) (id:=4) (σ:=Nat) (fun i=>{ fr:=[(0,.slc [.int .u64,.str,.str,.slc [.str,.int .u8,.int .i64,.str],.str,.int .u64,.int .u8,.bool,.bool] r),(1,.slc [.int .u64,.str,.str,.slc [.str,.int .u8,.int .i64,.str],.str,.int .u64,.int .u8,.bool,.bool] r1),(12,.int .i64 r.length),(13,.int .i64 i)],tab:=[] }) (fun i=>i≤r.length) (fun i=>r.length-i)
   (fun i K=>cond (N.sameL ((r.drop i).map cItem.dec) ((r1.drop i).map cItem.dec)) (K (.exit 0) { fr:=[],tab:=[] }) (K .ret { fr:=[(4,.bool false)],tab:=[] })) (fun i hi=>?_) 0 (Nat.zero_le _) K q (by assumption)
  by_cases hl:i<r.length
  ·rw [drop_decI hl,drop_decI (show i<r1.length by omega),sameL_cons]
   have hs:=all_rowI h5 hl
   cases hc:N.sameI (cItem.dec (r.getD i [])) (cItem.dec (r1.getD i [])) with
   | true =>
    refine .inl ⟨i+1,hl,by omega,fun K=>?_,fun K=>rfl⟩
    rw [q_rSame18R]
    simp (disch:=omega) only [evs,Int.toNat_natCast,fold_item,hs,hc,Bool.not_true]
    try rfl
   | false =>
    refine .inr ⟨.ret,{ fr:=[(4,.bool false)],tab:=[] },by simp,fun K=>?_,fun K=>rfl⟩
    rw [q_rSame18R]
    simp (disch:=omega) only [evs,Int.toNat_natCast,fold_item,hs,hc,Bool.not_false]
  ·refine .inr ⟨.exit 0,{ fr:=[],tab:=[] },by simp,fun K=>?_,fun K=>?_⟩
   ·rw [q_rSame18R]
    simp (disch:=omega) only [evs]
   ·rw [List.drop_eq_nil_of_le (show r.length≤i by omega),List.drop_eq_nil_of_le (show r1.length≤i by omega)]; rfl
 ·cases h
theorem ok_rSame18:FnOk Tryz.prog 24 dRSame:=by
 refine den_okF (env_ok ((TOk.nil _).cons ok_rSameI)) (E:=eRSame18) Tryz.func24 [4] (by kernel_rfl) (one1 ok_rSame4) fun a _ h=>?_
 obtain ⟨a,b⟩:=a
 have h:smallL a=true:=h
 obtain ⟨h0,h2,h3⟩:=smallL_of h
 refine (q_rSame18 a b).trans ?_
 show _=some (⟨.bool (N.sameL a b),[],[]⟩:DRes)
 by_cases hl:a.length=b.length
 ·simp (disch:=omega) only [evs,dec_encs,hl,h3,Nat.beq_refl]
  cases N.sameL a b<;>rfl
 ·rw [sameL_len _ _ hl]
  simp (disch:=omega) only [evs]
theorem ok_rPut:FnOk Tryz.prog 61 dRPut:=by
 refine den_okF (env_ok ((TOk.nil _).cons ok_refMailCheck)) (E:=eRPut) Tryz.func61 [3] (by kernel_rfl) (one1 ok_rPut3) fun a _ h=>?_
 obtain ⟨l,x⟩:=a
 have h1:Nat.ble l.length 1000=true:=h
 have h2:l.length≤1000:=ble_of h1
 refine (q_rPut l x).trans ?_
 show _=some (⟨.tup [.slc [.int .u64,.str,.str,.slc [.str,.int .u8,.int .i64,.str],.str,.int .u64,.int .u8,.bool,.bool] ((N.rPut l x).1.map cItem.enc),.int .i64 (N.rPut l x).2],[],[]⟩:DRes)
 simp only [fold_de,dec_encs,List.length_map,h1,beq_self_eq_true,cond_true]
 unfold N.rPut N.rRc N.geE
 cases hc:N.mailCheck x.mail != 0 with
 | true =>
  have hz:(N.mailCheck x.mail==0)=false:=by rw [bne] at hc; simpa using hc
  simp (disch:=omega) only [evs,hz,hc]
 | false =>
  have hz:N.mailCheck x.mail=0:=by simpa using hc
  rw [hz]
  cases ha:l.any fun y=>ile x.mail.id y.mail.id with
  | true=>simp (disch:=omega) only [evs,ha]
  | false =>
   by_cases h64:64≤l.length
   ·simp (disch:=omega) only [evs,ha]
   ·simp (disch:=omega) only [evs,ha,pairs_enc,fold_itemE]
    rw [show List.map cItem.enc l++[cItem.enc x]=List.map cItem.enc (l++[x]) by simp]
end Go.Ev

/- What the statements on lines share: the example,a line as the document's; the statement on how a line is made: lemmas; the function that writes numbers is a premise. -/
namespace Go.Ev
open Go Go.Proofs
set_option maxRecDepth 100000
-- FOLD
noncomputable def eAw18:Env:=env Tryz.prog [(44,dLAdd),(28,dLLend),(45,dLBack),(18,dLFirst),(46,dTrue)] [] []
theorem q_aw18  : evFn eAw18 11 [] [] some =
 some {v:=V.bool true,bx:=[]:DRes}:=by kernel_rfl
theorem ok_aw18 (hN:FnOk Tryz.prog 158 dOutNum):FnOk Tryz.prog 11 dTrue :=
 den_okF (env_ok ((((((TOk.nil _).cons (ok_aw13' hN)).cons ok_lFirst).cons ok_lBack).cons ok_lLend).cons ok_lAdd)) (E:=eAw18) Tryz.func11 [] (by kernel_rfl) none0 fun _ _ _=>q_aw18
def reRowI (r:List V):List V:=[V.int .u64 (V.toInt (List.getD r 0 .undef)),V.str (V.toStr (List.getD r 1 .undef)),V.str (V.toStr (List.getD r 2 .undef)),V.slc [.str,.int .u8,.int .i64,.str] (V.toRows (List.getD r 3 .undef)),V.str (V.toStr (List.getD r 4 .undef)),V.int .u64 (V.toInt (List.getD r 5 .undef)),V.int .u8 (V.toInt (List.getD r 6 .undef)),V.bool (V.toBool (List.getD r 7 .undef)),V.bool (V.toBool (List.getD r 8 .undef))]
def N.reRowsI (r:List (List V)):List (List V):=r.map reRowI
theorem fold_reRowI (r:List V):[V.int .u64 (V.toInt (List.getD r 0 .undef)),V.str (V.toStr (List.getD r 1 .undef)),V.str (V.toStr (List.getD r 2 .undef)),V.slc [.str,.int .u8,.int .i64,.str] (V.toRows (List.getD r 3 .undef)),V.str (V.toStr (List.getD r 4 .undef)),V.int .u64 (V.toInt (List.getD r 5 .undef)),V.int .u8 (V.toInt (List.getD r 6 .undef)),V.bool (V.toBool (List.getD r 7 .undef)),V.bool (V.toBool (List.getD r 8 .undef))]=reRowI r:=rfl
theorem reRowsI_enc (l:List HItem):N.reRowsI (l.map cItem.enc)=l.map cItem.enc:=by
 unfold N.reRowsI
 rw [List.map_map]; rfl
theorem reRowsI_succ {r:List (List V)} {i:Nat} (h:i<r.length):N.reRowsI (r.take (i+1))=N.reRowsI (r.take i)++[reRowI (r.getD i [])]:=by
 unfold N.reRowsI
 rw [List.take_add_one,List.getD_eq_getElem?_getD,List.getElem?_eq_getElem h]
 simp only [Option.toList_some,List.map_append,List.map_cons,List.map_nil,Option.getD_some]
def dLawOf:Den:=den (aOne (vAgg cLine)) bNil (oV (vSl cItem)) (fun l _=>smallL l) fun l _=>(l,())
def schLawOf:SSch:={ fr:=[(3,.own 10000),(7,.slc [.int .u64,.str,.str,.slc [.str,.int .u8,.int .i64,.str],.str,.int .u64,.int .u8,.bool,.bool]),(8,.int .i64),(9,.int .i64)],tab:=[(10000,.sl [.int .u64,.str,.str,.slc [.str,.int .u8,.int .i64,.str],.str,.int .u64,.int .u8,.bool,.bool])] }
def gLawOf:List Leaf→(Ex→St→Option R)→Option R
 | [.r r,.i n,.i i,.r a],K=>cond (n==r.length) (cond (i==0) (cond (Nat.beq a.length 0) (cond (Nat.ble r.length 1000)
   (K (.exit 0) { fr:=[(3,.own 10000 0)],tab:=[(10000,.sl [.int .u64,.str,.str,.slc [.str,.int .u8,.int .i64,.str],.str,.int .u64,.int .u8,.bool,.bool] (N.reRowsI r) 0)] }) none) none) none) none
 | _,_=>none
noncomputable def eLawOf:Env:=env Tryz.prog [(15,dLAll)] [(3,loopF schLawOf gLawOf)] [(3,[(0,[3,7,8,9]),(1,[3]),(1000,[2])])]
theorem q_lawOf (l:List HItem):evFn eLawOf 25 ((aOne (vAgg cLine)).enc l) ([]) some =
 cond (smallL (List.map (RCod.dec cItem) (List.map (RCod.enc cItem) l))) (cond ((↑(List.length (List.map (RCod.enc cItem) (List.map (RCod.dec cItem) (List.map (RCod.enc cItem) l)))):Int)==(↑(List.length (List.map (RCod.enc cItem) (List.map (RCod.dec cItem) (List.map (RCod.enc cItem) l)))):Int)) (cond (Nat.ble (List.length (List.map (RCod.enc cItem) (List.map (RCod.dec cItem) (List.map (RCod.enc cItem) l)))) 1000) (some {v:=V.slc [.int .u64,.str,.str,.slc [.str,.int .u8,.int .i64,.str],.str,.int .u64,.int .u8,.bool,.bool] (N.reRowsI (List.map (RCod.enc cItem) (List.map (RCod.dec cItem) (List.map (RCod.enc cItem) l)))),bx:=[]:DRes}) (none)) (none)) (none):=by kernel_rfl
theorem q_lawOfR (r:List (List V)) (n i:Int) (a:List (List V)) (K:Ex→St→Option R):evRound eLawOf 25 3 { fr:=[(3,.own 10000 0),(7,.slc [.int .u64,.str,.str,.slc [.str,.int .u8,.int .i64,.str],.str,.int .u64,.int .u8,.bool,.bool] r),(8,.int .i64 n),(9,.int .i64 i)],tab:=[(10000,.sl [.int .u64,.str,.str,.slc [.str,.int .u8,.int .i64,.str],.str,.int .u64,.int .u8,.bool,.bool] a 0)] } K =
 cond (ilt i n) (cond (decide ((0:Int)≤i∧i<(↑(List.length r):Int))) (cond (decide ((List.length a+1)*104≤140737488355328)) (K Ex.normal {fr:=[(3,V.own 10000 0),(7,V.slc [.int .u64,.str,.str,.slc [.str,.int .u8,.int .i64,.str],.str,.int .u64,.int .u8,.bool,.bool] r),(8,V.int .i64 n),(9,V.int .i64 (IntKind.wrap .i64 (i+(1:Int))))],tab:=[(10000,Box.sl [.int .u64,.str,.str,.slc [.str,.int .u8,.int .i64,.str],.str,.int .u64,.int .u8,.bool,.bool] (a++[[V.int .u64 (V.toInt (List.getD (List.getD r (Int.toNat i) []) 0 V.undef)),V.str (V.toStr (List.getD (List.getD r (Int.toNat i) []) 1 V.undef)),V.str (V.toStr (List.getD (List.getD r (Int.toNat i) []) 2 V.undef)),V.slc [.str,.int .u8,.int .i64,.str] (V.toRows (List.getD (List.getD r (Int.toNat i) []) 3 V.undef)),V.str (V.toStr (List.getD (List.getD r (Int.toNat i) []) 4 V.undef)),V.int .u64 (V.toInt (List.getD (List.getD r (Int.toNat i) []) 5 V.undef)),V.int .u8 (V.toInt (List.getD (List.getD r (Int.toNat i) []) 6 V.undef)),V.bool (V.toBool (List.getD (List.getD r (Int.toNat i) []) 7 V.undef)),V.bool (V.toBool (List.getD (List.getD r (Int.toNat i) []) 8 V.undef))]]) 0)]:St}) (none)) (none)) (K (Ex.exit 0) {fr:=[(3,V.own 10000 0)],tab:=[(10000,Box.sl [.int .u64,.str,.str,.slc [.str,.int .u8,.int .i64,.str],.str,.int .u64,.int .u8,.bool,.bool] a 0)]:St}):=by kernel_rfl
theorem ok_lawOf:FnOk Tryz.prog 25 dLawOf:=by
 refine den_okF (env_ok ((TOk.nil _).cons ok_lAll)) (E:=eLawOf) Tryz.func25 [3] (by kernel_rfl) (one1 (rounds_of rfl fun l K q h=>?_)) fun l _ hp=>?_
 ·unfold gLawOf at h
  split at h
  ·rename_i r n i o
   have h1:=(cond_none h).1; replace h:=(cond_none h).2; have h2:=(cond_none h).1; replace h:=(cond_none h).2; have h3:=(cond_none h).1; replace h:=(cond_none h).2; have h4:=(cond_none h).1; replace h:=(cond_none h).2
   have e1:=ieq_of h1
   have e2:=ieq_of h2
   have e3:=List.eq_nil_of_length_eq_zero (nbeq_of h3)
   subst e1 e2 e3
   have h4:r.length≤1000:=ble_of h4
   have main:=range_ind (E:=eLawOf) (f:=25) (id:=3) (A:=Unit) r (fun _ i=>{ fr:=[(3,.own 10000 0),(7,.slc [.int .u64,.str,.str,.slc [.str,.int .u8,.int .i64,.str],.str,.int .u64,.int .u8,.bool,.bool] r),(8,.int .i64 r.length),(9,.int .i64 i)],tab:=[(10000,.sl [.int .u64,.str,.str,.slc [.str,.int .u8,.int .i64,.str],.str,.int .u64,.int .u8,.bool,.bool] (N.reRowsI (r.take i.toNat)) 0)] }) (fun _ _=>True)
    (fun _ _ K=>K (.exit 0) { fr:=[(3,.own 10000 0)],tab:=[(10000,.sl [.int .u64,.str,.str,.slc [.str,.int .u8,.int .i64,.str],.str,.int .u64,.int .u8,.bool,.bool] (N.reRowsI r) 0)] }) (fun _ i _ hi=>?_) (fun _ _=>?_) () 0 (Int.le_refl _) (by omega) trivial K q (by assumption)
   ·exact main
   ·refine .inl ⟨(),trivial,fun K=>?_,fun K=>rfl⟩
    rw [q_lawOfR]
    have hl:(N.reRowsI (r.take i)).length=i:=by unfold N.reRowsI; simp; omega
    have ht:=reRowsI_succ hi
    simp (disch:=omega) only [evs,Int.toNat_natCast,fold_reRowI,hl]
    rw [← ht]
    try rfl
   ·refine ⟨.exit 0,_,by simp,fun K=>?_,fun K=>rfl⟩
    rw [q_lawOfR]
    simp (disch:=omega) only [evs,Int.toNat_natCast,List.take_length]
  ·cases h
 ·refine (q_lawOf l).trans ?_
  have hp:smallL l=true:=hp
  obtain ⟨_,h1,h2⟩:=smallL_of hp
  show _=some (⟨.slc [.int .u64,.str,.str,.slc [.str,.int .u8,.int .i64,.str],.str,.int .u64,.int .u8,.bool,.bool] (l.map cItem.enc),[],[]⟩:DRes)
  simp only [List.length_map,dec_encs,beq_self_eq_true,cond_true,h1,hp,reRowsI_enc]
theorem LInv.smallL {l:List HItem} (h:LInv l):Go.Ev.smallL l=true:=by
 unfold Go.Ev.smallL
 rw [ble_t (Nat.le_trans h.few (by decide)),h.small]; rfl
end Go.Ev

/- What acts do to a line,in plain terms: lemmas,no condition. -/
namespace Go.Ev
open Go
set_option maxRecDepth 100000
structure HAct where
 op:Int
 mail:HMail
namespace N
def act (l:List HItem) (a:HAct):List HItem :=
 cond (Int.tmod a.op 6==2) (lLend l).1 (cond (Int.tmod a.op 6==3) (lBack l a.mail.id).1 (cond (Int.tmod a.op 6==4) (lRemove l a.mail.id).1 (cond (Int.tmod a.op 6==5) (lWake l) (lPut l ⟨a.mail,false,false⟩).1)))
def acts:List HItem→List HAct→List HItem
 | l,[]=>l
 | l,a::r=>acts (act l a) r
def rises:List HItem→Bool→Int→Bool
 | [],_,_=>true
 | x::r,first,last=>cond (cond first false (ile x.mail.id last)) false (rises r false x.mail.id)
end N
theorem act_linv {l:List HItem} (h:LInv l) {a:HAct} (hs:smallM a.mail=true):LInv (N.act l a):=by
 unfold N.act
 cases Int.tmod a.op 6==2 with
 | true=>exact lend_linv h
 | false =>
  cases Int.tmod a.op 6==3 with
  | true=>exact back_linv h _
  | false =>
   cases Int.tmod a.op 6==4 with
   | true=>exact remove_linv h _
   | false =>
    cases Int.tmod a.op 6==5 with
    | true=>exact wake_linv h
    | false=>exact put_linv h hs
theorem split_at {l:List HItem} {k:Nat} (h:k<l.length):l=l.take k++l.getD k item0::l.drop (k+1):=by
 have:=List.take_append_drop k l
 rw [getD_drop item0 h] at this
 exact this.symm
end Go.Ev

/- The document's lines: finding,lending,giving back,removing,waking: lemmas. -/
namespace Go.Ev
open Go Go.Proofs
set_option maxRecDepth 100000
-- FOLD
def dRFind:Den:=den (aCons (vSl cItem) (aOne (vInt .u64))) bNil (oV (vInt .i64)) (fun a _=>Nat.ble a.1.length 1000) fun a _=>(N.ix (N.isId a.2) a.1 0,())
def dRTurned:Den:=den (aCons (vSl cItem) (aCons (vInt .i64) (aOne (vAgg cItem)))) bNil (oV (vSl cItem)) (fun a _=>goodAt a.1 a.2.1) fun a _=>(a.1.set a.2.1.toNat a.2.2,())
def dRLend:Den:=den (aOne (vSl cItem)) bNil (oTup (aCons (vSl cItem) (aCons (vAgg cItem) (aOne vBool)))) (fun l _=>Nat.ble l.length 1000) fun l _=>(N.lLend l,())
def dRBack:Den:=den (aCons (vSl cItem) (aOne (vInt .u64))) bNil (oTup (aCons (vSl cItem) (aOne (vInt .i64)))) (fun a _=>Nat.ble a.1.length 1000) fun a _=>(N.lBack a.1 a.2,())
def dRRemove:Den:=den (aCons (vSl cItem) (aOne (vInt .u64))) bNil (oTup (aCons (vSl cItem) (aCons (vAgg cItem) (aOne (vInt .i64))))) (fun a _=>Nat.ble a.1.length 1000) fun a _=>(N.lRemove a.1 a.2,())
def dRWake:Den:=den (aOne (vSl cItem)) bNil (oV (vSl cItem)) (fun l _=>Nat.ble l.length 1000) fun l _=>(N.lWake l,())
def dRAdd:Den:=den (aCons (vSl cItem) (aOne (vAgg cMail))) bNil (oTup (aCons (vSl cItem) (aOne (vInt .i64)))) (fun a _=>Nat.ble a.1.length 1000) fun a _=>(N.rPut a.1 ⟨a.2,false,false⟩,())
def schRFind:SSch:={ fr:=[(1,.int .u64),(7,.slc [.int .u64,.str,.str,.slc [.str,.int .u8,.int .i64,.str],.str,.int .u64,.int .u8,.bool,.bool]),(8,.int .i64),(9,.int .i64)],tab:=[] }
def gRFind:List Leaf→(Ex→St→Option R)→Option R
 | [.i id,.r r,.i n,.i i],K=>cond (n==r.length) (cond (i==0) (cond (Nat.ble r.length 1000) (cond (ile 0 (N.ix (N.isId id) (r.map cItem.dec) 0)) (K .ret { fr:=[(4,.int .i64 (N.ix (N.isId id) (r.map cItem.dec) 0))],tab:=[] }) (K (.exit 0) { fr:=[],tab:=[] })) none) none) none
 | _,_=>none
noncomputable def eRFind:Env:=env Tryz.prog [] [(2,loopF schRFind gRFind)] [(2,[(0,[1,7,8,9]),(1,[]),(1000,[4])])]
theorem q_rFind (l:List HItem) (id:Int):evFn eRFind 105 ((aCons (vSl cItem) (aOne (vInt .u64))).enc (l,id)) ([]) some =
 cond ((↑(List.length (List.map (RCod.enc cItem) l)):Int)==(↑(List.length (List.map (RCod.enc cItem) l)):Int)) (cond (Nat.ble (List.length (List.map (RCod.enc cItem) l)) 1000) (cond (ile (0:Int) (N.ix (N.isId id) (List.map (RCod.dec cItem) (List.map (RCod.enc cItem) l)) (0:Int))) (some {v:=V.int .i64 (N.ix (N.isId id) (List.map (RCod.dec cItem) (List.map (RCod.enc cItem) l)) (0:Int)),bx:=[]:DRes}) (some {v:=V.int .i64 (-1:Int),bx:=[]:DRes})) (none)) (none):=by kernel_rfl
theorem q_rFindR (id:Int) (r:List (List V)) (n i:Int) (K:Ex→St→Option R):evRound eRFind 105 2 { fr:=[(1,.int .u64 id),(7,.slc [.int .u64,.str,.str,.slc [.str,.int .u8,.int .i64,.str],.str,.int .u64,.int .u8,.bool,.bool] r),(8,.int .i64 n),(9,.int .i64 i)],tab:=[] } K =
 cond (ilt i n) (cond (decide ((0:Int)≤i∧i<(↑(List.length r):Int))) (cond (V.toInt (List.getD (List.getD r (Int.toNat i) []) 0 V.undef)==id) (K Ex.ret {fr:=[(4,V.int .i64 i)],tab:=[]:St}) (K Ex.normal {fr:=[(1,V.int .u64 id),(7,V.slc [.int .u64,.str,.str,.slc [.str,.int .u8,.int .i64,.str],.str,.int .u64,.int .u8,.bool,.bool] r),(8,V.int .i64 n),(9,V.int .i64 (IntKind.wrap .i64 (i+(1:Int))))],tab:=[]:St})) (none)) (K (Ex.exit 0) {fr:=[],tab:=[]:St}):=by kernel_rfl
theorem ok_rFind:FnOk Tryz.prog 105 dRFind:=by
 refine den_okF (env_ok (TOk.nil _)) (E:=eRFind) Tryz.func105 [2] (by kernel_rfl) (one1 (rounds_of rfl fun l K q h=>?_)) fun a _ hp=>?_
 ·unfold gRFind at h
  split at h
  ·rename_i id r n i
   have h1:=(cond_none h).1; replace h:=(cond_none h).2; have h2:=(cond_none h).1; replace h:=(cond_none h).2; have h3:=(cond_none h).1; replace h:=(cond_none h).2
   have e1:=ieq_of h1
   have e2:=ieq_of h2
   subst e1 e2
   have h3:r.length≤1000:=ble_of h3
   have main:=loop_ind (E:=eRFind) (f:=105) (id:=2) (σ:=Nat) (fun i=>{ fr:=[(1,.int .u64 id),(7,.slc [.int .u64,.str,.str,.slc [.str,.int .u8,.int .i64,.str],.str,.int .u64,.int .u8,.bool,.bool] r),(8,.int .i64 r.length),(9,.int .i64 (i:Int))],tab:=[] }) (fun i=>i≤r.length) (fun i=>r.length-i)
    (fun i K=>cond (ile 0 (N.ix (N.isId id) ((r.drop i).map cItem.dec) i)) (K .ret { fr:=[(4,.int .i64 (N.ix (N.isId id) ((r.drop i).map cItem.dec) i))],tab:=[] }) (K (.exit 0) { fr:=[],tab:=[] })) (fun i hi=>?_) 0 (Nat.zero_le _) K q (by assumption)
   ·exact main
   ·by_cases hl:i<r.length
    ·rw [drop_decI hl,ix_cons]
     have hm:V.toInt (List.getD (List.getD r i []) 0 V.undef)=(cItem.dec (r.getD i [])).mail.id:=rfl
     cases hc:N.isId id (cItem.dec (r.getD i [])) with
     | true =>
      have hc' : ((cItem.dec (r.getD i [])).mail.id==id)=true:=hc
      refine .inr ⟨.ret,{ fr:=[(4,.int .i64 (i:Int))],tab:=[] },by simp,fun K=>?_,fun K=>?_⟩
      ·rw [q_rFindR]
       simp (disch:=omega) only [evs,Int.toNat_natCast,hm,hc']
      ·simp only [cond_true]
       rw [ile_t (by omega)]; rfl
     | false =>
      have hc' : ((cItem.dec (r.getD i [])).mail.id==id)=false:=hc
      refine .inl ⟨i+1,hl,by omega,fun K=>?_,fun K=>rfl⟩
      rw [q_rFindR]
      simp (disch:=omega) only [evs,Int.toNat_natCast,hm,hc']
      try rfl
    ·refine .inr ⟨.exit 0,{ fr:=[],tab:=[] },by simp,fun K=>?_,fun K=>?_⟩
     ·rw [q_rFindR]
      simp (disch:=omega) only [evs]
     ·rw [List.drop_eq_nil_of_le (by omega)]; rfl
  ·cases h
 ·obtain ⟨l,id⟩:=a
  have hp:Nat.ble l.length 1000=true:=hp
  refine (q_rFind l id).trans ?_
  simp only [List.length_map,dec_encs,hp,beq_self_eq_true,cond_true]
  show _=some (⟨.int .i64 (N.ix (N.isId id) l 0),[],[]⟩:DRes)
  cases hc:ile 0 (N.ix (N.isId id) l 0) with
  | true=>rfl
  | false=>rw [ix_end hc]; rfl
def N.turnRows (k:Int) (x:List V):List (List V)→Int→List (List V)
 | [],_=>[]
 | r::rs,i=>cond (i==k) x (reRowI r)::N.turnRows k x rs (i+1)
theorem turnRows_enc (k:Nat) (x:HItem):∀ (l:List HItem) (i:Nat),N.turnRows (((i+k:Nat):Int)) (cItem.enc x) (l.map cItem.enc) i=(l.set k x).map cItem.enc
 | [],_=>rfl
 | y::r,i=>by
  show cond ((i:Int)==((i+k:Nat):Int)) (cItem.enc x) (reRowI (cItem.enc y))::N.turnRows (((i+k:Nat):Int)) (cItem.enc x) (r.map cItem.enc) ((i:Int)+1)=_
  cases k with
  | zero =>
   have hne:∀ (l:List HItem) (j:Nat),i<j→N.turnRows (((i+0:Nat):Int)) (cItem.enc x) (l.map cItem.enc) j=l.map cItem.enc:=fun l=>by
    induction l with
    | nil=>intro j _; rfl
    | cons z r ih =>
     intro j hj
     show cond ((j:Int)==((i+0:Nat):Int)) (cItem.enc x) (reRowI (cItem.enc z))::N.turnRows _ _ (r.map cItem.enc) ((j:Int)+1)=_
     rw [ieq_f (by omega)]
     have:=ih (j+1) (by omega)
     rw [show ((j:Int)+1)=((j+1:Nat):Int) from rfl,this]
     try rfl
   rw [show ((i:Int)==((i+0:Nat):Int))=true from ieq_t (by omega)]
   rw [show ((i:Int)+1)=((i+1:Nat):Int) from rfl,hne r (i+1) (by omega)]
   try rfl
  | succ k =>
   rw [ieq_f (show (i:Int) ≠ ((i+(k+1):Nat):Int) by omega)]
   have ih:=turnRows_enc k x r (i+1)
   rw [show i+1+k=i+(k+1) by omega] at ih
   rw [show ((i:Int)+1)=((i+1:Nat):Int) from rfl,ih]
   try rfl
theorem turnRows_len (k:Int) (x:List V):∀ (r:List (List V)) (i:Int),(N.turnRows k x r i).length=r.length
 | [],_=>rfl
 | _::rs,i=>by
  show (N.turnRows k x rs (i+1)).length+1=rs.length+1
  rw [turnRows_len k x rs]
def schRTurned:SSch:={ fr:=[(1,.int .i64),(5,.ptr 10000 0 0),(7,.own 10001),(10,.slc [.int .u64,.str,.str,.slc [.str,.int .u8,.int .i64,.str],.str,.int .u64,.int .u8,.bool,.bool]),(11,.int .i64),(12,.int .i64)],tab:=[(10000,.var [.int .u64,.str,.str,.slc [.str,.int .u8,.int .i64,.str],.str,.int .u64,.int .u8,.bool,.bool]),(10001,.sl [.int .u64,.str,.str,.slc [.str,.int .u8,.int .i64,.str],.str,.int .u64,.int .u8,.bool,.bool])] }
def gRTurned:List Leaf→(Ex→St→Option R)→Option R
 | [.i k,.r r,.i n,.i i,.i id,.s s1,.s s2,.r hd,.s s3,.i due,.i hops,.b b1,.b b2,.r a],K=>cond (n==r.length) (cond (i==0) (cond (Nat.beq a.length 0) (cond (Nat.ble r.length 1000)
   (K (.exit 0) { fr:=[(7,.own 10000 0)],tab:=[(10000,.sl [.int .u64,.str,.str,.slc [.str,.int .u8,.int .i64,.str],.str,.int .u64,.int .u8,.bool,.bool] (N.turnRows k [V.int .u64 id,.str s1,.str s2,.slc [.str,.int .u8,.int .i64,.str] hd,.str s3,.int .u64 due,.int .u8 hops,.bool b1,.bool b2] r 0) 0)] }) none) none) none) none
 | _,_=>none
noncomputable def eRTurned:Env:=env Tryz.prog [] [(3,loopF schRTurned gRTurned)] [(3,[(0,[1,5,7,10,11,12]),(1,[7]),(1000,[6])])]
theorem q_rTurned (l:List HItem) (k:Int) (x:HItem):evFn eRTurned 104 ((aCons (vSl cItem) (aCons (vInt .i64) (aOne (vAgg cItem)))).enc (l,k,x)) ([]) some =
 cond ((↑(List.length (List.map (RCod.enc cItem) l)):Int)==(↑(List.length (List.map (RCod.enc cItem) l)):Int)) (cond (Nat.ble (List.length (List.map (RCod.enc cItem) l)) 1000) (some {v:=V.slc [.int .u64,.str,.str,.slc [.str,.int .u8,.int .i64,.str],.str,.int .u64,.int .u8,.bool,.bool] (N.turnRows k [V.int .u64 (HMail.id (HItem.mail x)),V.str (HMail.shop (HItem.mail x)),V.str (HMail.key (HItem.mail x)),V.slc [.str,.int .u8,.int .i64,.str] (List.map (fun p=>[V.str (HPair.key p),V.int .u8 (HPair.kind p),V.int .i64 (HPair.num p),V.str (HPair.text p)]) (HMail.head (HItem.mail x))),V.str (HMail.body (HItem.mail x)),V.int .u64 (HMail.due (HItem.mail x)),V.int .u8 (HMail.hops (HItem.mail x)),V.bool (HItem.lent x),V.bool (HItem.again x)] (List.map (RCod.enc cItem) l) (0:Int)),bx:=[]:DRes}) (none)) (none):=by kernel_rfl
theorem q_rTurnedR (k:Int) (r:List (List V)) (n i:Int) (id:Int) (s1 s2:Bytes) (hd:List (List V)) (s3:Bytes) (due hops:Int) (b1 b2:Bool) (a:List (List V)) (K:Ex→St→Option R):evRound eRTurned 104 3 { fr:=[(1,.int .i64 k),(5,.ptr 10000 0 0 0),(7,.own 10001 0),(10,.slc [.int .u64,.str,.str,.slc [.str,.int .u8,.int .i64,.str],.str,.int .u64,.int .u8,.bool,.bool] r),(11,.int .i64 n),(12,.int .i64 i)],tab:=[(10000,.var [.int .u64 id,.str s1,.str s2,.slc [.str,.int .u8,.int .i64,.str] hd,.str s3,.int .u64 due,.int .u8 hops,.bool b1,.bool b2]),(10001,.sl [.int .u64,.str,.str,.slc [.str,.int .u8,.int .i64,.str],.str,.int .u64,.int .u8,.bool,.bool] a 0)] } K =
 cond (ilt i n) (cond (decide ((0:Int)≤i∧i<(↑(List.length r):Int))) (cond (i==k) (cond (decide ((List.length a+1)*104≤140737488355328)) (K Ex.normal {fr:=[(1,V.int .i64 k),(5,V.ptr 10000 0 0 0),(7,V.own 10001 0),(10,V.slc [.int .u64,.str,.str,.slc [.str,.int .u8,.int .i64,.str],.str,.int .u64,.int .u8,.bool,.bool] r),(11,V.int .i64 n),(12,V.int .i64 (IntKind.wrap .i64 (i+(1:Int))))],tab:=[(10000,Box.var [V.int .u64 id,V.str s1,V.str s2,V.slc [.str,.int .u8,.int .i64,.str] hd,V.str s3,V.int .u64 due,V.int .u8 hops,V.bool b1,V.bool b2]),(10001,Box.sl [.int .u64,.str,.str,.slc [.str,.int .u8,.int .i64,.str],.str,.int .u64,.int .u8,.bool,.bool] (a++[[V.int .u64 id,V.str s1,V.str s2,V.slc [.str,.int .u8,.int .i64,.str] hd,V.str s3,V.int .u64 due,V.int .u8 hops,V.bool b1,V.bool b2]]) 0)]:St}) (none)) (cond (decide ((List.length a+1)*104≤140737488355328)) (K Ex.normal {fr:=[(1,V.int .i64 k),(5,V.ptr 10000 0 0 0),(7,V.own 10001 0),(10,V.slc [.int .u64,.str,.str,.slc [.str,.int .u8,.int .i64,.str],.str,.int .u64,.int .u8,.bool,.bool] r),(11,V.int .i64 n),(12,V.int .i64 (IntKind.wrap .i64 (i+(1:Int))))],tab:=[(10000,Box.var [V.int .u64 id,V.str s1,V.str s2,V.slc [.str,.int .u8,.int .i64,.str] hd,V.str s3,V.int .u64 due,V.int .u8 hops,V.bool b1,V.bool b2]),(10001,Box.sl [.int .u64,.str,.str,.slc [.str,.int .u8,.int .i64,.str],.str,.int .u64,.int .u8,.bool,.bool] (a++[[V.int .u64 (V.toInt (List.getD (List.getD r (Int.toNat i) []) 0 V.undef)),V.str (V.toStr (List.getD (List.getD r (Int.toNat i) []) 1 V.undef)),V.str (V.toStr (List.getD (List.getD r (Int.toNat i) []) 2 V.undef)),V.slc [.str,.int .u8,.int .i64,.str] (V.toRows (List.getD (List.getD r (Int.toNat i) []) 3 V.undef)),V.str (V.toStr (List.getD (List.getD r (Int.toNat i) []) 4 V.undef)),V.int .u64 (V.toInt (List.getD (List.getD r (Int.toNat i) []) 5 V.undef)),V.int .u8 (V.toInt (List.getD (List.getD r (Int.toNat i) []) 6 V.undef)),V.bool (V.toBool (List.getD (List.getD r (Int.toNat i) []) 7 V.undef)),V.bool (V.toBool (List.getD (List.getD r (Int.toNat i) []) 8 V.undef))]]) 0)]:St}) (none))) (none)) (K (Ex.exit 0) {fr:=[(7,V.own 10000 0)],tab:=[(10000,Box.sl [.int .u64,.str,.str,.slc [.str,.int .u8,.int .i64,.str],.str,.int .u64,.int .u8,.bool,.bool] a 0)]:St}):=by kernel_rfl
def wakeRow (r:List V):List V:=[V.int .u64 (V.toInt (List.getD r 0 .undef)),V.str (V.toStr (List.getD r 1 .undef)),V.str (V.toStr (List.getD r 2 .undef)),V.slc [.str,.int .u8,.int .i64,.str] (V.toRows (List.getD r 3 .undef)),V.str (V.toStr (List.getD r 4 .undef)),V.int .u64 (V.toInt (List.getD r 5 .undef)),V.int .u8 (V.toInt (List.getD r 6 .undef)),V.bool false,V.bool (cond (V.toBool (List.getD r 8 .undef)) true (V.toBool (List.getD r 7 .undef)))]
def N.wakeRows (r:List (List V)):List (List V):=r.map wakeRow
theorem wakeRows_enc (l:List HItem):N.wakeRows (l.map cItem.enc)=(N.lWake l).map cItem.enc:=by
 unfold N.wakeRows N.lWake
 rw [List.map_map,List.map_map]
 refine List.map_congr_left fun x _=>?_
 show wakeRow (cItem.enc x)=cItem.enc (N.wakeI x)
 obtain ⟨m,a,b⟩:=x
 cases a<;>cases b<;>rfl
theorem wakeRows_succ {r:List (List V)} {i:Nat} (h:i<r.length):N.wakeRows (r.take (i+1))=N.wakeRows (r.take i)++[wakeRow (r.getD i [])]:=by
 unfold N.wakeRows
 rw [List.take_add_one,List.getD_eq_getElem?_getD,List.getElem?_eq_getElem h]
 simp only [Option.toList_some,List.map_append,List.map_cons,List.map_nil,Option.getD_some]
def schRWake:SSch:={ fr:=[(3,.own 10000),(6,.slc [.int .u64,.str,.str,.slc [.str,.int .u8,.int .i64,.str],.str,.int .u64,.int .u8,.bool,.bool]),(7,.int .i64),(8,.int .i64)],tab:=[(10000,.sl [.int .u64,.str,.str,.slc [.str,.int .u8,.int .i64,.str],.str,.int .u64,.int .u8,.bool,.bool])] }
def gRWake:List Leaf→(Ex→St→Option R)→Option R
 | [.r r,.i n,.i i,.r a],K=>cond (n==r.length) (cond (i==0) (cond (Nat.beq a.length 0) (cond (Nat.ble r.length 1000)
   (K (.exit 0) { fr:=[(3,.own 10000 0)],tab:=[(10000,.sl [.int .u64,.str,.str,.slc [.str,.int .u8,.int .i64,.str],.str,.int .u64,.int .u8,.bool,.bool] (N.wakeRows r) 0)] }) none) none) none) none
 | _,_=>none
noncomputable def eRWake:Env:=env Tryz.prog [] [(3,loopF schRWake gRWake)] [(3,[(0,[3,6,7,8]),(1,[3]),(1000,[2])])]
theorem q_rWake (l:List HItem):evFn eRWake 52 ((aOne (vSl cItem)).enc l) ([]) some =
 cond ((↑(List.length (List.map (RCod.enc cItem) l)):Int)==(↑(List.length (List.map (RCod.enc cItem) l)):Int)) (cond (Nat.ble (List.length (List.map (RCod.enc cItem) l)) 1000) (some {v:=V.slc [.int .u64,.str,.str,.slc [.str,.int .u8,.int .i64,.str],.str,.int .u64,.int .u8,.bool,.bool] (N.wakeRows (List.map (RCod.enc cItem) l)),bx:=[]:DRes}) (none)) (none):=by kernel_rfl
theorem q_rWakeR (r:List (List V)) (n i:Int) (a:List (List V)) (K:Ex→St→Option R):evRound eRWake 52 3 { fr:=[(3,.own 10000 0),(6,.slc [.int .u64,.str,.str,.slc [.str,.int .u8,.int .i64,.str],.str,.int .u64,.int .u8,.bool,.bool] r),(7,.int .i64 n),(8,.int .i64 i)],tab:=[(10000,.sl [.int .u64,.str,.str,.slc [.str,.int .u8,.int .i64,.str],.str,.int .u64,.int .u8,.bool,.bool] a 0)] } K =
 cond (ilt i n) (cond (decide ((0:Int)≤i∧i<(↑(List.length r):Int))) (cond (V.toBool (List.getD (List.getD r (Int.toNat i) []) 8 V.undef)) (cond (decide ((List.length a+1)*104≤140737488355328)) (K Ex.normal {fr:=[(3,V.own 10000 0),(6,V.slc [.int .u64,.str,.str,.slc [.str,.int .u8,.int .i64,.str],.str,.int .u64,.int .u8,.bool,.bool] r),(7,V.int .i64 n),(8,V.int .i64 (IntKind.wrap .i64 (i+(1:Int))))],tab:=[(10000,Box.sl [.int .u64,.str,.str,.slc [.str,.int .u8,.int .i64,.str],.str,.int .u64,.int .u8,.bool,.bool] (a++[[V.int .u64 (V.toInt (List.getD (List.getD r (Int.toNat i) []) 0 V.undef)),V.str (V.toStr (List.getD (List.getD r (Int.toNat i) []) 1 V.undef)),V.str (V.toStr (List.getD (List.getD r (Int.toNat i) []) 2 V.undef)),V.slc [.str,.int .u8,.int .i64,.str] (V.toRows (List.getD (List.getD r (Int.toNat i) []) 3 V.undef)),V.str (V.toStr (List.getD (List.getD r (Int.toNat i) []) 4 V.undef)),V.int .u64 (V.toInt (List.getD (List.getD r (Int.toNat i) []) 5 V.undef)),V.int .u8 (V.toInt (List.getD (List.getD r (Int.toNat i) []) 6 V.undef)),V.bool false,V.bool true]]) 0)]:St}) (none)) (cond (decide ((List.length a+1)*104≤140737488355328)) (K Ex.normal {fr:=[(3,V.own 10000 0),(6,V.slc [.int .u64,.str,.str,.slc [.str,.int .u8,.int .i64,.str],.str,.int .u64,.int .u8,.bool,.bool] r),(7,V.int .i64 n),(8,V.int .i64 (IntKind.wrap .i64 (i+(1:Int))))],tab:=[(10000,Box.sl [.int .u64,.str,.str,.slc [.str,.int .u8,.int .i64,.str],.str,.int .u64,.int .u8,.bool,.bool] (a++[[V.int .u64 (V.toInt (List.getD (List.getD r (Int.toNat i) []) 0 V.undef)),V.str (V.toStr (List.getD (List.getD r (Int.toNat i) []) 1 V.undef)),V.str (V.toStr (List.getD (List.getD r (Int.toNat i) []) 2 V.undef)),V.slc [.str,.int .u8,.int .i64,.str] (V.toRows (List.getD (List.getD r (Int.toNat i) []) 3 V.undef)),V.str (V.toStr (List.getD (List.getD r (Int.toNat i) []) 4 V.undef)),V.int .u64 (V.toInt (List.getD (List.getD r (Int.toNat i) []) 5 V.undef)),V.int .u8 (V.toInt (List.getD (List.getD r (Int.toNat i) []) 6 V.undef)),V.bool false,V.bool (V.toBool (List.getD (List.getD r (Int.toNat i) []) 7 V.undef))]]) 0)]:St}) (none))) (none)) (K (Ex.exit 0) {fr:=[(3,V.own 10000 0)],tab:=[(10000,Box.sl [.int .u64,.str,.str,.slc [.str,.int .u8,.int .i64,.str],.str,.int .u64,.int .u8,.bool,.bool] a 0)]:St}):=by kernel_rfl
noncomputable def eRAdd:Env:=env Tryz.prog [(61,dRPut)] [] []
theorem q_rAdd (l:List HItem) (m:HMail):evFn eRAdd 53 ((aCons (vSl cItem) (aOne (vAgg cMail))).enc (l,m)) ([]) some =
 cond (Nat.ble (List.length (List.map (RCod.dec cItem) (List.map (RCod.enc cItem) l))) 1000) (some {v:=V.tup [V.slc [.int .u64,.str,.str,.slc [.str,.int .u8,.int .i64,.str],.str,.int .u64,.int .u8,.bool,.bool] (List.map (RCod.enc cItem) (Prod.fst (N.rPut (List.map (RCod.dec cItem) (List.map (RCod.enc cItem) l)) {mail:={id:=HMail.id m,shop:=HMail.shop m,key:=HMail.key m,head:=List.map (fun r=>{key:=V.toStr (List.getD r 0 .undef),kind:=V.toInt (List.getD r 1 .undef),num:=V.toInt (List.getD r 2 .undef),text:=V.toStr (List.getD r 3 .undef):HPair}) (List.map (fun p=>[V.str (HPair.key p),V.int .u8 (HPair.kind p),V.int .i64 (HPair.num p),V.str (HPair.text p)]) (HMail.head m)),body:=HMail.body m,due:=HMail.due m,hops:=HMail.hops m:HMail},lent:=false,again:=false:HItem}))),V.int .i64 (Prod.snd (N.rPut (List.map (RCod.dec cItem) (List.map (RCod.enc cItem) l)) {mail:={id:=HMail.id m,shop:=HMail.shop m,key:=HMail.key m,head:=List.map (fun r=>{key:=V.toStr (List.getD r 0 .undef),kind:=V.toInt (List.getD r 1 .undef),num:=V.toInt (List.getD r 2 .undef),text:=V.toStr (List.getD r 3 .undef):HPair}) (List.map (fun p=>[V.str (HPair.key p),V.int .u8 (HPair.kind p),V.int .i64 (HPair.num p),V.str (HPair.text p)]) (HMail.head m)),body:=HMail.body m,due:=HMail.due m,hops:=HMail.hops m:HMail},lent:=false,again:=false:HItem}))],bx:=[]:DRes}) (none):=by kernel_rfl
noncomputable def eRBack:Env:=env Tryz.prog [(105,dRFind),(104,dRTurned)] [] []
theorem q_rBack (l:List HItem) (id:Int):evFn eRBack 49 ((aCons (vSl cItem) (aOne (vInt .u64))).enc (l,id)) ([]) some =
 cond (Nat.ble (List.length (List.map (RCod.dec cItem) (List.map (RCod.enc cItem) l))) 1000) (cond (ilt (N.ix (N.isId id) (List.map (RCod.dec cItem) (List.map (RCod.enc cItem) l)) (0:Int)) (0:Int)) (some {v:=V.tup [V.slc [.int .u64,.str,.str,.slc [.str,.int .u8,.int .i64,.str],.str,.int .u64,.int .u8,.bool,.bool] (List.map (RCod.enc cItem) l),V.int .i64 (10:Int)],bx:=[]:DRes}) (cond (decide ((0:Int)≤N.ix (N.isId id) (List.map (RCod.dec cItem) (List.map (RCod.enc cItem) l)) (0:Int)∧N.ix (N.isId id) (List.map (RCod.dec cItem) (List.map (RCod.enc cItem) l)) (0:Int)<(↑(List.length (List.map (RCod.enc cItem) l)):Int))) (cond (!V.toBool (List.getD (List.getD (List.map (RCod.enc cItem) l) (Int.toNat (N.ix (N.isId id) (List.map (RCod.dec cItem) (List.map (RCod.enc cItem) l)) (0:Int))) []) 7 V.undef)) (some {v:=V.tup [V.slc [.int .u64,.str,.str,.slc [.str,.int .u8,.int .i64,.str],.str,.int .u64,.int .u8,.bool,.bool] (List.map (RCod.enc cItem) l),V.int .i64 (13:Int)],bx:=[]:DRes}) (cond (decide ((0:Int)≤N.ix (N.isId id) (List.map (RCod.dec cItem) (List.map (RCod.enc cItem) l)) (0:Int)∧N.ix (N.isId id) (List.map (RCod.dec cItem) (List.map (RCod.enc cItem) l)) (0:Int)<(↑(List.length (List.map (RCod.enc cItem) l)):Int))) (cond (goodAt (List.map (RCod.dec cItem) (List.map (RCod.enc cItem) l)) (N.ix (N.isId id) (List.map (RCod.dec cItem) (List.map (RCod.enc cItem) l)) (0:Int))) (some {v:=V.tup [V.slc [.int .u64,.str,.str,.slc [.str,.int .u8,.int .i64,.str],.str,.int .u64,.int .u8,.bool,.bool] (List.map (RCod.enc cItem) (List.set (List.map (RCod.dec cItem) (List.map (RCod.enc cItem) l)) (Int.toNat (N.ix (N.isId id) (List.map (RCod.dec cItem) (List.map (RCod.enc cItem) l)) (0:Int))) {mail:={id:=V.toInt (List.getD (List.getD (List.map (RCod.enc cItem) l) (Int.toNat (N.ix (N.isId id) (List.map (RCod.dec cItem) (List.map (RCod.enc cItem) l)) (0:Int))) []) 0 V.undef),shop:=V.toStr (List.getD (List.getD (List.map (RCod.enc cItem) l) (Int.toNat (N.ix (N.isId id) (List.map (RCod.dec cItem) (List.map (RCod.enc cItem) l)) (0:Int))) []) 1 V.undef),key:=V.toStr (List.getD (List.getD (List.map (RCod.enc cItem) l) (Int.toNat (N.ix (N.isId id) (List.map (RCod.dec cItem) (List.map (RCod.enc cItem) l)) (0:Int))) []) 2 V.undef),head:=List.map (fun r=>{key:=V.toStr (List.getD r 0 .undef),kind:=V.toInt (List.getD r 1 .undef),num:=V.toInt (List.getD r 2 .undef),text:=V.toStr (List.getD r 3 .undef):HPair}) (V.toRows (List.getD (List.getD (List.map (RCod.enc cItem) l) (Int.toNat (N.ix (N.isId id) (List.map (RCod.dec cItem) (List.map (RCod.enc cItem) l)) (0:Int))) []) 3 V.undef)),body:=V.toStr (List.getD (List.getD (List.map (RCod.enc cItem) l) (Int.toNat (N.ix (N.isId id) (List.map (RCod.dec cItem) (List.map (RCod.enc cItem) l)) (0:Int))) []) 4 V.undef),due:=V.toInt (List.getD (List.getD (List.map (RCod.enc cItem) l) (Int.toNat (N.ix (N.isId id) (List.map (RCod.dec cItem) (List.map (RCod.enc cItem) l)) (0:Int))) []) 5 V.undef),hops:=V.toInt (List.getD (List.getD (List.map (RCod.enc cItem) l) (Int.toNat (N.ix (N.isId id) (List.map (RCod.dec cItem) (List.map (RCod.enc cItem) l)) (0:Int))) []) 6 V.undef):HMail},lent:=false,again:=true:HItem})),V.int .i64 (0:Int)],bx:=[]:DRes}) (none)) (none))) (none))) (none):=by kernel_rfl
def lendRow (r:List V):List V:=[V.int .u64 (V.toInt (List.getD r 0 .undef)),V.str (V.toStr (List.getD r 1 .undef)),V.str (V.toStr (List.getD r 2 .undef)),V.slc [.str,.int .u8,.int .i64,.str] (V.toRows (List.getD r 3 .undef)),V.str (V.toStr (List.getD r 4 .undef)),V.int .u64 (V.toInt (List.getD r 5 .undef)),V.int .u8 (V.toInt (List.getD r 6 .undef)),V.bool true,V.bool (V.toBool (List.getD r 8 .undef))]
def schRLend:SSch:={ fr:=[(0,.slc [.int .u64,.str,.str,.slc [.str,.int .u8,.int .i64,.str],.str,.int .u64,.int .u8,.bool,.bool]),(3,.ptr 10000 0 0),(7,.slc [.int .u64,.str,.str,.slc [.str,.int .u8,.int .i64,.str],.str,.int .u64,.int .u8,.bool,.bool]),(8,.int .i64),(9,.int .i64)],tab:=[(10000,.var [.int .u64,.str,.str,.slc [.str,.int .u8,.int .i64,.str],.str,.int .u64,.int .u8,.bool,.bool])] }
def gRLend:List Leaf→(Ex→St→Option R)→Option R
 | [.r l0,.r r,.i n,.i i,.i id,.s s1,.s s2,.r hd,.s s3,.i due,.i hops,.b b1,.b b2],K=>cond (n==r.length) (cond (i==0) (cond (Nat.beq l0.length r.length) (cond (Nat.ble r.length 1000)
   (cond (ile 0 (N.ix N.isReady (r.map cItem.dec) 0)) (K .ret { fr:=[(2,.slc [.int .u64,.str,.str,.slc [.str,.int .u8,.int .i64,.str],.str,.int .u64,.int .u8,.bool,.bool] (((l0.map cItem.dec).set (N.ix N.isReady (r.map cItem.dec) 0).toNat (N.lendI (cItem.dec (r.getD (N.ix N.isReady (r.map cItem.dec) 0).toNat [])))).map cItem.enc)),(3,.ptr 10000 0 0 0),(4,.bool true)],tab:=[(10000,.var (Go.Ev.lendRow (r.getD (N.ix N.isReady (r.map cItem.dec) 0).toNat [])))] })
    (K (.exit 0) { fr:=[(0,.slc [.int .u64,.str,.str,.slc [.str,.int .u8,.int .i64,.str],.str,.int .u64,.int .u8,.bool,.bool] l0),(3,.ptr 10000 0 0 0)],tab:=[(10000,.var [.int .u64 id,.str s1,.str s2,.slc [.str,.int .u8,.int .i64,.str] hd,.str s3,.int .u64 due,.int .u8 hops,.bool b1,.bool b2])] })) none) none) none) none
 | _,_=>none
noncomputable def eRLend:Env:={ env Tryz.prog [(104,dRTurned)] [(2,loopF schRLend gRLend)] [(2,[(0,[0,3,7,8,9]),(1,[0,3]),(1000,[2,3,4])])] with fz:=true }
theorem q_rLend (l:List HItem):evFn eRLend 47 ((aOne (vSl cItem)).enc l) ([]) some =
 cond ((↑(List.length (List.map (RCod.enc cItem) l)):Int)==(↑(List.length (List.map (RCod.enc cItem) l)):Int)) (cond (Nat.beq (List.length (List.map (RCod.enc cItem) l)) (List.length (List.map (RCod.enc cItem) l))) (cond (Nat.ble (List.length (List.map (RCod.enc cItem) l)) 1000) (cond (ile (0:Int) (N.ix N.isReady (List.map (RCod.dec cItem) (List.map (RCod.enc cItem) l)) (0:Int))) (some {v:=V.tup [V.slc [.int .u64,.str,.str,.slc [.str,.int .u8,.int .i64,.str],.str,.int .u64,.int .u8,.bool,.bool] (List.map (RCod.enc cItem) (List.set (List.map (RCod.dec cItem) (List.map (RCod.enc cItem) l)) (Int.toNat (N.ix N.isReady (List.map (RCod.dec cItem) (List.map (RCod.enc cItem) l)) (0:Int))) (N.lendI {mail:={id:=V.toInt (List.getD (List.getD (List.map (RCod.enc cItem) l) (Int.toNat (N.ix N.isReady (List.map (RCod.dec cItem) (List.map (RCod.enc cItem) l)) (0:Int))) []) 0 V.undef),shop:=V.toStr (List.getD (List.getD (List.map (RCod.enc cItem) l) (Int.toNat (N.ix N.isReady (List.map (RCod.dec cItem) (List.map (RCod.enc cItem) l)) (0:Int))) []) 1 V.undef),key:=V.toStr (List.getD (List.getD (List.map (RCod.enc cItem) l) (Int.toNat (N.ix N.isReady (List.map (RCod.dec cItem) (List.map (RCod.enc cItem) l)) (0:Int))) []) 2 V.undef),head:=List.map (fun r=>{key:=V.toStr (List.getD r 0 .undef),kind:=V.toInt (List.getD r 1 .undef),num:=V.toInt (List.getD r 2 .undef),text:=V.toStr (List.getD r 3 .undef):HPair}) (V.toRows (List.getD (List.getD (List.map (RCod.enc cItem) l) (Int.toNat (N.ix N.isReady (List.map (RCod.dec cItem) (List.map (RCod.enc cItem) l)) (0:Int))) []) 3 V.undef)),body:=V.toStr (List.getD (List.getD (List.map (RCod.enc cItem) l) (Int.toNat (N.ix N.isReady (List.map (RCod.dec cItem) (List.map (RCod.enc cItem) l)) (0:Int))) []) 4 V.undef),due:=V.toInt (List.getD (List.getD (List.map (RCod.enc cItem) l) (Int.toNat (N.ix N.isReady (List.map (RCod.dec cItem) (List.map (RCod.enc cItem) l)) (0:Int))) []) 5 V.undef),hops:=V.toInt (List.getD (List.getD (List.map (RCod.enc cItem) l) (Int.toNat (N.ix N.isReady (List.map (RCod.dec cItem) (List.map (RCod.enc cItem) l)) (0:Int))) []) 6 V.undef):HMail},lent:=V.toBool (List.getD (List.getD (List.map (RCod.enc cItem) l) (Int.toNat (N.ix N.isReady (List.map (RCod.dec cItem) (List.map (RCod.enc cItem) l)) (0:Int))) []) 7 V.undef),again:=V.toBool (List.getD (List.getD (List.map (RCod.enc cItem) l) (Int.toNat (N.ix N.isReady (List.map (RCod.dec cItem) (List.map (RCod.enc cItem) l)) (0:Int))) []) 8 V.undef):HItem}))),V.agg [V.int .u64 (V.toInt (List.getD (List.getD (List.map (RCod.enc cItem) l) (Int.toNat (N.ix N.isReady (List.map (RCod.dec cItem) (List.map (RCod.enc cItem) l)) (0:Int))) []) 0 V.undef)),V.str (V.toStr (List.getD (List.getD (List.map (RCod.enc cItem) l) (Int.toNat (N.ix N.isReady (List.map (RCod.dec cItem) (List.map (RCod.enc cItem) l)) (0:Int))) []) 1 V.undef)),V.str (V.toStr (List.getD (List.getD (List.map (RCod.enc cItem) l) (Int.toNat (N.ix N.isReady (List.map (RCod.dec cItem) (List.map (RCod.enc cItem) l)) (0:Int))) []) 2 V.undef)),V.slc [.str,.int .u8,.int .i64,.str] (V.toRows (List.getD (List.getD (List.map (RCod.enc cItem) l) (Int.toNat (N.ix N.isReady (List.map (RCod.dec cItem) (List.map (RCod.enc cItem) l)) (0:Int))) []) 3 V.undef)),V.str (V.toStr (List.getD (List.getD (List.map (RCod.enc cItem) l) (Int.toNat (N.ix N.isReady (List.map (RCod.dec cItem) (List.map (RCod.enc cItem) l)) (0:Int))) []) 4 V.undef)),V.int .u64 (V.toInt (List.getD (List.getD (List.map (RCod.enc cItem) l) (Int.toNat (N.ix N.isReady (List.map (RCod.dec cItem) (List.map (RCod.enc cItem) l)) (0:Int))) []) 5 V.undef)),V.int .u8 (V.toInt (List.getD (List.getD (List.map (RCod.enc cItem) l) (Int.toNat (N.ix N.isReady (List.map (RCod.dec cItem) (List.map (RCod.enc cItem) l)) (0:Int))) []) 6 V.undef)),V.bool true,V.bool (V.toBool (List.getD (List.getD (List.map (RCod.enc cItem) l) (Int.toNat (N.ix N.isReady (List.map (RCod.dec cItem) (List.map (RCod.enc cItem) l)) (0:Int))) []) 8 V.undef))],V.bool true],bx:=[]:DRes}) (some {v:=V.tup [V.slc [.int .u64,.str,.str,.slc [.str,.int .u8,.int .i64,.str],.str,.int .u64,.int .u8,.bool,.bool] (List.map (RCod.enc cItem) l),V.agg [V.int .u64 (0:Int),V.str [],V.str [],V.slc [.str,.int .u8,.int .i64,.str] [],V.str [],V.int .u64 (0:Int),V.int .u8 (0:Int),V.bool false,V.bool false],V.bool false],bx:=[]:DRes})) (none)) (none)) (none):=by kernel_rfl
theorem q_rLendR (l0 r:List (List V)) (n i:Int) (id:Int) (s1 s2:Bytes) (hd:List (List V)) (s3:Bytes) (due hops:Int) (b1 b2:Bool) (K:Ex→St→Option R):evRound eRLend 47 2 { fr:=[(0,.slc [.int .u64,.str,.str,.slc [.str,.int .u8,.int .i64,.str],.str,.int .u64,.int .u8,.bool,.bool] l0),(3,.ptr 10000 0 0 0),(7,.slc [.int .u64,.str,.str,.slc [.str,.int .u8,.int .i64,.str],.str,.int .u64,.int .u8,.bool,.bool] r),(8,.int .i64 n),(9,.int .i64 i)],tab:=[(10000,.var [.int .u64 id,.str s1,.str s2,.slc [.str,.int .u8,.int .i64,.str] hd,.str s3,.int .u64 due,.int .u8 hops,.bool b1,.bool b2])] } K =
 cond (ilt i n) (cond (decide ((0:Int)≤i∧i<(↑(List.length r):Int))) (cond (!V.toBool (List.getD (List.getD r (Int.toNat i) []) 7 V.undef)) (cond (goodAt (List.map (RCod.dec cItem) l0) i) (K Ex.ret {fr:=[(2,V.slc [.int .u64,.str,.str,.slc [.str,.int .u8,.int .i64,.str],.str,.int .u64,.int .u8,.bool,.bool] (List.map (RCod.enc cItem) (List.set (List.map (RCod.dec cItem) l0) (Int.toNat i) {mail:={id:=V.toInt (List.getD (List.getD r (Int.toNat i) []) 0 V.undef),shop:=V.toStr (List.getD (List.getD r (Int.toNat i) []) 1 V.undef),key:=V.toStr (List.getD (List.getD r (Int.toNat i) []) 2 V.undef),head:=List.map (fun r=>{key:=V.toStr (List.getD r 0 .undef),kind:=V.toInt (List.getD r 1 .undef),num:=V.toInt (List.getD r 2 .undef),text:=V.toStr (List.getD r 3 .undef):HPair}) (V.toRows (List.getD (List.getD r (Int.toNat i) []) 3 V.undef)),body:=V.toStr (List.getD (List.getD r (Int.toNat i) []) 4 V.undef),due:=V.toInt (List.getD (List.getD r (Int.toNat i) []) 5 V.undef),hops:=V.toInt (List.getD (List.getD r (Int.toNat i) []) 6 V.undef):HMail},lent:=true,again:=V.toBool (List.getD (List.getD r (Int.toNat i) []) 8 V.undef):HItem}))),(3,V.ptr 10000 0 0 0),(4,V.bool true)],tab:=[(10000,Box.var [V.int .u64 (V.toInt (List.getD (List.getD r (Int.toNat i) []) 0 V.undef)),V.str (V.toStr (List.getD (List.getD r (Int.toNat i) []) 1 V.undef)),V.str (V.toStr (List.getD (List.getD r (Int.toNat i) []) 2 V.undef)),V.slc [.str,.int .u8,.int .i64,.str] (V.toRows (List.getD (List.getD r (Int.toNat i) []) 3 V.undef)),V.str (V.toStr (List.getD (List.getD r (Int.toNat i) []) 4 V.undef)),V.int .u64 (V.toInt (List.getD (List.getD r (Int.toNat i) []) 5 V.undef)),V.int .u8 (V.toInt (List.getD (List.getD r (Int.toNat i) []) 6 V.undef)),V.bool true,V.bool (V.toBool (List.getD (List.getD r (Int.toNat i) []) 8 V.undef))])]:St}) (none)) (K Ex.normal {fr:=[(0,V.slc [.int .u64,.str,.str,.slc [.str,.int .u8,.int .i64,.str],.str,.int .u64,.int .u8,.bool,.bool] l0),(3,V.ptr 10000 0 0 0),(7,V.slc [.int .u64,.str,.str,.slc [.str,.int .u8,.int .i64,.str],.str,.int .u64,.int .u8,.bool,.bool] r),(8,V.int .i64 n),(9,V.int .i64 (IntKind.wrap .i64 (i+(1:Int))))],tab:=[(10000,Box.var [V.int .u64 id,V.str s1,V.str s2,V.slc [.str,.int .u8,.int .i64,.str] hd,V.str s3,V.int .u64 due,V.int .u8 hops,V.bool b1,V.bool b2])]:St})) (none)) (K (Ex.exit 0) {fr:=[(0,V.slc [.int .u64,.str,.str,.slc [.str,.int .u8,.int .i64,.str],.str,.int .u64,.int .u8,.bool,.bool] l0),(3,V.ptr 10000 0 0 0)],tab:=[(10000,Box.var [V.int .u64 id,V.str s1,V.str s2,V.slc [.str,.int .u8,.int .i64,.str] hd,V.str s3,V.int .u64 due,V.int .u8 hops,V.bool b1,V.bool b2])]:St}):=by kernel_rfl
def N.cutRows (k:Int):List (List V)→Int→List (List V)
 | [],_=>[]
 | r::rs,i=>cond (i==k) (N.cutRows k rs (i+1)) (reRowI r::N.cutRows k rs (i+1))
def schRRemove:SSch:={ fr:=[(0,.slc [.int .u64,.str,.str,.slc [.str,.int .u8,.int .i64,.str],.str,.int .u64,.int .u8,.bool,.bool]),(5,.ptr 10000 0 0),(7,.int .i64),(8,.own 10001),(18,.slc [.int .u64,.str,.str,.slc [.str,.int .u8,.int .i64,.str],.str,.int .u64,.int .u8,.bool,.bool]),(19,.int .i64),(20,.int .i64)],tab:=[(10000,.var [.int .u64,.str,.str,.slc [.str,.int .u8,.int .i64,.str],.str,.int .u64,.int .u8,.bool,.bool]),(10001,.sl [.int .u64,.str,.str,.slc [.str,.int .u8,.int .i64,.str],.str,.int .u64,.int .u8,.bool,.bool])] }
def gRRemove:List Leaf→(Ex→St→Option R)→Option R
 | [.r l0,.i k,.r r,.i n,.i i,.i id,.s s1,.s s2,.r hd,.s s3,.i due,.i hops,.b b1,.b b2,.r a],K=>cond (n==r.length) (cond (i==0) (cond (Nat.beq a.length 0) (cond (Nat.ble r.length 1000)
   (K (.exit 0) { fr:=[(0,.slc [.int .u64,.str,.str,.slc [.str,.int .u8,.int .i64,.str],.str,.int .u64,.int .u8,.bool,.bool] l0),(5,.ptr 10000 0 0 0),(7,.int .i64 k),(8,.own 10001 0)],tab:=[(10000,.var [.int .u64 id,.str s1,.str s2,.slc [.str,.int .u8,.int .i64,.str] hd,.str s3,.int .u64 due,.int .u8 hops,.bool b1,.bool b2]),(10001,.sl [.int .u64,.str,.str,.slc [.str,.int .u8,.int .i64,.str],.str,.int .u64,.int .u8,.bool,.bool] (N.cutRows k r 0) 0)] }) none) none) none) none
 | _,_=>none
noncomputable def eRRemove:Env:={ env Tryz.prog [(105,dRFind)] [(6,loopF schRRemove gRRemove)] [(6,[(0,[0,5,7,8,18,19,20]),(1,[0,5,7,8]),(1000,[4,5,6])])] with fz:=true }
theorem q_rRemove (l:List HItem) (id:Int):evFn eRRemove 51 ((aCons (vSl cItem) (aOne (vInt .u64))).enc (l,id)) ([]) some =
 cond (Nat.ble (List.length (List.map (RCod.dec cItem) (List.map (RCod.enc cItem) l))) 1000) (cond (ilt (N.ix (N.isId id) (List.map (RCod.dec cItem) (List.map (RCod.enc cItem) l)) (0:Int)) (0:Int)) (some {v:=V.tup [V.slc [.int .u64,.str,.str,.slc [.str,.int .u8,.int .i64,.str],.str,.int .u64,.int .u8,.bool,.bool] (List.map (RCod.enc cItem) l),V.agg [V.int .u64 (0:Int),V.str [],V.str [],V.slc [.str,.int .u8,.int .i64,.str] [],V.str [],V.int .u64 (0:Int),V.int .u8 (0:Int),V.bool false,V.bool false],V.int .i64 (10:Int)],bx:=[]:DRes}) (cond ((↑(List.length (List.map (RCod.enc cItem) l)):Int)==(↑(List.length (List.map (RCod.enc cItem) l)):Int)) (cond (Nat.ble (List.length (List.map (RCod.enc cItem) l)) 1000) (cond (decide ((0:Int)≤N.ix (N.isId id) (List.map (RCod.dec cItem) (List.map (RCod.enc cItem) l)) (0:Int)∧N.ix (N.isId id) (List.map (RCod.dec cItem) (List.map (RCod.enc cItem) l)) (0:Int)<(↑(List.length (List.map (RCod.enc cItem) l)):Int))) (some {v:=V.tup [V.slc [.int .u64,.str,.str,.slc [.str,.int .u8,.int .i64,.str],.str,.int .u64,.int .u8,.bool,.bool] (N.cutRows (N.ix (N.isId id) (List.map (RCod.dec cItem) (List.map (RCod.enc cItem) l)) (0:Int)) (List.map (RCod.enc cItem) l) (0:Int)),V.agg [V.int .u64 (V.toInt (List.getD (List.getD (List.map (RCod.enc cItem) l) (Int.toNat (N.ix (N.isId id) (List.map (RCod.dec cItem) (List.map (RCod.enc cItem) l)) (0:Int))) []) 0 V.undef)),V.str (V.toStr (List.getD (List.getD (List.map (RCod.enc cItem) l) (Int.toNat (N.ix (N.isId id) (List.map (RCod.dec cItem) (List.map (RCod.enc cItem) l)) (0:Int))) []) 1 V.undef)),V.str (V.toStr (List.getD (List.getD (List.map (RCod.enc cItem) l) (Int.toNat (N.ix (N.isId id) (List.map (RCod.dec cItem) (List.map (RCod.enc cItem) l)) (0:Int))) []) 2 V.undef)),V.slc [.str,.int .u8,.int .i64,.str] (V.toRows (List.getD (List.getD (List.map (RCod.enc cItem) l) (Int.toNat (N.ix (N.isId id) (List.map (RCod.dec cItem) (List.map (RCod.enc cItem) l)) (0:Int))) []) 3 V.undef)),V.str (V.toStr (List.getD (List.getD (List.map (RCod.enc cItem) l) (Int.toNat (N.ix (N.isId id) (List.map (RCod.dec cItem) (List.map (RCod.enc cItem) l)) (0:Int))) []) 4 V.undef)),V.int .u64 (V.toInt (List.getD (List.getD (List.map (RCod.enc cItem) l) (Int.toNat (N.ix (N.isId id) (List.map (RCod.dec cItem) (List.map (RCod.enc cItem) l)) (0:Int))) []) 5 V.undef)),V.int .u8 (V.toInt (List.getD (List.getD (List.map (RCod.enc cItem) l) (Int.toNat (N.ix (N.isId id) (List.map (RCod.dec cItem) (List.map (RCod.enc cItem) l)) (0:Int))) []) 6 V.undef)),V.bool (V.toBool (List.getD (List.getD (List.map (RCod.enc cItem) l) (Int.toNat (N.ix (N.isId id) (List.map (RCod.dec cItem) (List.map (RCod.enc cItem) l)) (0:Int))) []) 7 V.undef)),V.bool (V.toBool (List.getD (List.getD (List.map (RCod.enc cItem) l) (Int.toNat (N.ix (N.isId id) (List.map (RCod.dec cItem) (List.map (RCod.enc cItem) l)) (0:Int))) []) 8 V.undef))],V.int .i64 (0:Int)],bx:=[]:DRes}) (none)) (none)) (none))) (none):=by kernel_rfl
theorem q_rRemoveR (l0:List (List V)) (k:Int) (r:List (List V)) (n i:Int) (id:Int) (s1 s2:Bytes) (hd:List (List V)) (s3:Bytes) (due hops:Int) (b1 b2:Bool) (a:List (List V)) (K:Ex→St→Option R):evRound eRRemove 51 6 { fr:=[(0,.slc [.int .u64,.str,.str,.slc [.str,.int .u8,.int .i64,.str],.str,.int .u64,.int .u8,.bool,.bool] l0),(5,.ptr 10000 0 0 0),(7,.int .i64 k),(8,.own 10001 0),(18,.slc [.int .u64,.str,.str,.slc [.str,.int .u8,.int .i64,.str],.str,.int .u64,.int .u8,.bool,.bool] r),(19,.int .i64 n),(20,.int .i64 i)],tab:=[(10000,.var [.int .u64 id,.str s1,.str s2,.slc [.str,.int .u8,.int .i64,.str] hd,.str s3,.int .u64 due,.int .u8 hops,.bool b1,.bool b2]),(10001,.sl [.int .u64,.str,.str,.slc [.str,.int .u8,.int .i64,.str],.str,.int .u64,.int .u8,.bool,.bool] a 0)] } K =
 cond (ilt i n) (cond (decide ((0:Int)≤i∧i<(↑(List.length r):Int))) (cond (i != k) (cond (decide ((List.length a+1)*104≤140737488355328)) (K Ex.normal {fr:=[(0,V.slc [.int .u64,.str,.str,.slc [.str,.int .u8,.int .i64,.str],.str,.int .u64,.int .u8,.bool,.bool] l0),(5,V.ptr 10000 0 0 0),(7,V.int .i64 k),(8,V.own 10001 0),(18,V.slc [.int .u64,.str,.str,.slc [.str,.int .u8,.int .i64,.str],.str,.int .u64,.int .u8,.bool,.bool] r),(19,V.int .i64 n),(20,V.int .i64 (IntKind.wrap .i64 (i+(1:Int))))],tab:=[(10000,Box.var [V.int .u64 id,V.str s1,V.str s2,V.slc [.str,.int .u8,.int .i64,.str] hd,V.str s3,V.int .u64 due,V.int .u8 hops,V.bool b1,V.bool b2]),(10001,Box.sl [.int .u64,.str,.str,.slc [.str,.int .u8,.int .i64,.str],.str,.int .u64,.int .u8,.bool,.bool] (a++[[V.int .u64 (V.toInt (List.getD (List.getD r (Int.toNat i) []) 0 V.undef)),V.str (V.toStr (List.getD (List.getD r (Int.toNat i) []) 1 V.undef)),V.str (V.toStr (List.getD (List.getD r (Int.toNat i) []) 2 V.undef)),V.slc [.str,.int .u8,.int .i64,.str] (V.toRows (List.getD (List.getD r (Int.toNat i) []) 3 V.undef)),V.str (V.toStr (List.getD (List.getD r (Int.toNat i) []) 4 V.undef)),V.int .u64 (V.toInt (List.getD (List.getD r (Int.toNat i) []) 5 V.undef)),V.int .u8 (V.toInt (List.getD (List.getD r (Int.toNat i) []) 6 V.undef)),V.bool (V.toBool (List.getD (List.getD r (Int.toNat i) []) 7 V.undef)),V.bool (V.toBool (List.getD (List.getD r (Int.toNat i) []) 8 V.undef))]]) 0)]:St}) (none)) (K Ex.normal {fr:=[(0,V.slc [.int .u64,.str,.str,.slc [.str,.int .u8,.int .i64,.str],.str,.int .u64,.int .u8,.bool,.bool] l0),(5,V.ptr 10000 0 0 0),(7,V.int .i64 k),(8,V.own 10001 0),(18,V.slc [.int .u64,.str,.str,.slc [.str,.int .u8,.int .i64,.str],.str,.int .u64,.int .u8,.bool,.bool] r),(19,V.int .i64 n),(20,V.int .i64 (IntKind.wrap .i64 (i+(1:Int))))],tab:=[(10000,Box.var [V.int .u64 id,V.str s1,V.str s2,V.slc [.str,.int .u8,.int .i64,.str] hd,V.str s3,V.int .u64 due,V.int .u8 hops,V.bool b1,V.bool b2]),(10001,Box.sl [.int .u64,.str,.str,.slc [.str,.int .u8,.int .i64,.str],.str,.int .u64,.int .u8,.bool,.bool] a 0)]:St})) (none)) (K (Ex.exit 0) {fr:=[(0,V.slc [.int .u64,.str,.str,.slc [.str,.int .u8,.int .i64,.str],.str,.int .u64,.int .u8,.bool,.bool] l0),(5,V.ptr 10000 0 0 0),(7,V.int .i64 k),(8,V.own 10001 0)],tab:=[(10000,Box.var [V.int .u64 id,V.str s1,V.str s2,V.slc [.str,.int .u8,.int .i64,.str] hd,V.str s3,V.int .u64 due,V.int .u8 hops,V.bool b1,V.bool b2]),(10001,Box.sl [.int .u64,.str,.str,.slc [.str,.int .u8,.int .i64,.str],.str,.int .u64,.int .u8,.bool,.bool] a 0)]:St}):=by kernel_rfl
theorem turnRows_app (k:Int) (x:List V):∀ (a b:List (List V)) (i:Int),N.turnRows k x (a++b) i=N.turnRows k x a i++N.turnRows k x b (i+a.length)
 | [],b,i=>by
  show N.turnRows k x b i=N.turnRows k x b (i+((0:Nat):Int))
  rw [show i+((0:Nat):Int)=i by omega]
 | r::a,b,i=>by
  show cond (i==k) x (reRowI r)::N.turnRows k x (a++b) (i+1)=cond (i==k) x (reRowI r)::(N.turnRows k x a (i+1)++N.turnRows k x b (i+((a.length+1:Nat):Int)))
  rw [turnRows_app k x a b (i+1),show i+1+(a.length:Int)=i+((a.length+1:Nat):Int) by omega]
theorem take_succ {r:List (List V)} {i:Nat} (h:i<r.length):r.take (i+1)=r.take i++[r.getD i []]:=by
 rw [List.take_add_one,List.getD_eq_getElem?_getD,List.getElem?_eq_getElem h]; rfl
theorem turnRows_succ (k:Int) (x:List V) {r:List (List V)} {i:Nat} (h:i<r.length):N.turnRows k x (r.take (i+1)) 0=N.turnRows k x (r.take i) 0++[cond ((i:Int)==k) x (reRowI (r.getD i []))]:=by
 rw [take_succ h,turnRows_app,List.length_take,show (0:Int)+((min i r.length:Nat):Int)=i by omega]
 try rfl
theorem ok_rTurned:FnOk Tryz.prog 104 dRTurned:=by
 refine den_okF (env_ok (TOk.nil _)) (E:=eRTurned) Tryz.func104 [3] (by kernel_rfl) (one1 (rounds_of rfl fun l K q h=>?_)) fun a _ hp=>?_
 ·unfold gRTurned at h
  split at h
  ·rename_i k r n i id s1 s2 hd s3 due hops b1 b2 a
   have h1:=(cond_none h).1; replace h:=(cond_none h).2; have h2:=(cond_none h).1; replace h:=(cond_none h).2; have h3:=(cond_none h).1; replace h:=(cond_none h).2; have h4:=(cond_none h).1; replace h:=(cond_none h).2
   have e1:=ieq_of h1
   have e2:=ieq_of h2
   have e3:=List.eq_nil_of_length_eq_zero (nbeq_of h3)
   subst e1 e2 e3
   have h4:r.length≤1000:=ble_of h4
   have main:=loop_ind (E:=eRTurned) (f:=104) (id:=3) (σ:=Nat) (fun i=>{ fr:=[(1,.int .i64 k),(5,.ptr 10000 0 0 0),(7,.own 10001 0),(10,.slc [.int .u64,.str,.str,.slc [.str,.int .u8,.int .i64,.str],.str,.int .u64,.int .u8,.bool,.bool] r),(11,.int .i64 r.length),(12,.int .i64 (i:Int))],tab:=[(10000,.var [.int .u64 id,.str s1,.str s2,.slc [.str,.int .u8,.int .i64,.str] hd,.str s3,.int .u64 due,.int .u8 hops,.bool b1,.bool b2]),(10001,.sl [.int .u64,.str,.str,.slc [.str,.int .u8,.int .i64,.str],.str,.int .u64,.int .u8,.bool,.bool] (N.turnRows k [V.int .u64 id,.str s1,.str s2,.slc [.str,.int .u8,.int .i64,.str] hd,.str s3,.int .u64 due,.int .u8 hops,.bool b1,.bool b2] (r.take i) 0) 0)] }) (fun i=>i≤r.length) (fun i=>r.length-i)
    (fun _ K=>K (.exit 0) { fr:=[(7,.own 10000 0)],tab:=[(10000,.sl [.int .u64,.str,.str,.slc [.str,.int .u8,.int .i64,.str],.str,.int .u64,.int .u8,.bool,.bool] (N.turnRows k [V.int .u64 id,.str s1,.str s2,.slc [.str,.int .u8,.int .i64,.str] hd,.str s3,.int .u64 due,.int .u8 hops,.bool b1,.bool b2] r 0) 0)] }) (fun i hi=>?_) 0 (Nat.zero_le _) K q (by assumption)
   ·exact main
   ·by_cases hl:i<r.length
    ·have hln:(N.turnRows k [V.int .u64 id,.str s1,.str s2,.slc [.str,.int .u8,.int .i64,.str] hd,.str s3,.int .u64 due,.int .u8 hops,.bool b1,.bool b2] (r.take i) 0).length=i:=by rw [turnRows_len,List.length_take]; omega
     have ht:=turnRows_succ k [V.int .u64 id,.str s1,.str s2,.slc [.str,.int .u8,.int .i64,.str] hd,.str s3,.int .u64 due,.int .u8 hops,.bool b1,.bool b2] hl
     refine .inl ⟨i+1,hl,by omega,fun K=>?_,fun K=>rfl⟩
     rw [q_rTurnedR]
     cases hc:(i:Int)==k with
     | true =>
      rw [hc] at ht
      simp (disch:=omega) only [evs,Int.toNat_natCast,hc,hln]
      rw [ht]
      try rfl
     | false =>
      rw [hc] at ht
      simp (disch:=omega) only [evs,Int.toNat_natCast,hc,hln,fold_reRowI]
      rw [ht]
      try rfl
    ·have ei:i=r.length:=by omega
     subst ei
     refine .inr ⟨.exit 0,{ fr:=[(7,.own 10000 0)],tab:=[(10000,.sl [.int .u64,.str,.str,.slc [.str,.int .u8,.int .i64,.str],.str,.int .u64,.int .u8,.bool,.bool] (N.turnRows k [V.int .u64 id,.str s1,.str s2,.slc [.str,.int .u8,.int .i64,.str] hd,.str s3,.int .u64 due,.int .u8 hops,.bool b1,.bool b2] r 0) 0)] },by simp,fun K=>?_,fun K=>rfl⟩
     rw [q_rTurnedR]
     simp (disch:=omega) only [evs,List.take_length]
  ·cases h
 ·obtain ⟨l,k,x⟩:=a
  obtain ⟨h1,h2⟩:=bcond hp
  obtain ⟨h2,h3⟩:=bcond h2
  have h1:0≤k:=ile_of h1
  have h2:k<l.length:=ilt_of h2
  have h3:Nat.ble l.length 1000=true:=h3
  refine (q_rTurned l k x).trans ?_
  have e:=turnRows_enc k.toNat x l 0
  rw [show ((0+k.toNat:Nat):Int)=k by omega] at e
  simp only [List.length_map,h3,beq_self_eq_true,cond_true,fold_itemE]
  show _=some (⟨.slc [.int .u64,.str,.str,.slc [.str,.int .u8,.int .i64,.str],.str,.int .u64,.int .u8,.bool,.bool] ((l.set k.toNat x).map cItem.enc),[],[]⟩:DRes)
  rw [← e]
  try rfl
theorem ok_rWake:FnOk Tryz.prog 52 dRWake:=by
 refine den_okF (env_ok (TOk.nil _)) (E:=eRWake) Tryz.func52 [3] (by kernel_rfl) (one1 (rounds_of rfl fun l K q h=>?_)) fun l _ hp=>?_
 ·unfold gRWake at h
  split at h
  ·rename_i r n i o
   have h1:=(cond_none h).1; replace h:=(cond_none h).2; have h2:=(cond_none h).1; replace h:=(cond_none h).2; have h3:=(cond_none h).1; replace h:=(cond_none h).2; have h4:=(cond_none h).1; replace h:=(cond_none h).2
   have e1:=ieq_of h1
   have e2:=ieq_of h2
   have e3:=List.eq_nil_of_length_eq_zero (nbeq_of h3)
   subst e1 e2 e3
   have h4:r.length≤1000:=ble_of h4
   have main:=range_ind (E:=eRWake) (f:=52) (id:=3) (A:=Unit) r (fun _ i=>{ fr:=[(3,.own 10000 0),(6,.slc [.int .u64,.str,.str,.slc [.str,.int .u8,.int .i64,.str],.str,.int .u64,.int .u8,.bool,.bool] r),(7,.int .i64 r.length),(8,.int .i64 i)],tab:=[(10000,.sl [.int .u64,.str,.str,.slc [.str,.int .u8,.int .i64,.str],.str,.int .u64,.int .u8,.bool,.bool] (N.wakeRows (r.take i.toNat)) 0)] }) (fun _ _=>True)
    (fun _ _ K=>K (.exit 0) { fr:=[(3,.own 10000 0)],tab:=[(10000,.sl [.int .u64,.str,.str,.slc [.str,.int .u8,.int .i64,.str],.str,.int .u64,.int .u8,.bool,.bool] (N.wakeRows r) 0)] }) (fun _ i _ hi=>?_) (fun _ _=>?_) () 0 (Int.le_refl _) (by omega) trivial K q (by assumption)
   ·exact main
   ·refine .inl ⟨(),trivial,fun K=>?_,fun K=>rfl⟩
    rw [q_rWakeR]
    have hl:(N.wakeRows (r.take i)).length=i:=by unfold N.wakeRows; simp; omega
    have ht:=wakeRows_succ hi
    unfold wakeRow at ht
    cases hc:V.toBool (List.getD (List.getD r i []) 8 V.undef) with
    | true =>
     rw [hc] at ht
     simp (disch:=omega) only [evs,Int.toNat_natCast,hl,hc]
     show K .normal { fr:=_,tab:=[(10000,.sl [.int .u64,.str,.str,.slc [.str,.int .u8,.int .i64,.str],.str,.int .u64,.int .u8,.bool,.bool] _ 0)] }=K .normal { fr:=_,tab:=[(10000,.sl [.int .u64,.str,.str,.slc [.str,.int .u8,.int .i64,.str],.str,.int .u64,.int .u8,.bool,.bool] (N.wakeRows (r.take (i+1))) 0)] }
     rw [ht]
     try rfl
    | false =>
     rw [hc] at ht
     simp (disch:=omega) only [evs,Int.toNat_natCast,hl,hc]
     show K .normal { fr:=_,tab:=[(10000,.sl [.int .u64,.str,.str,.slc [.str,.int .u8,.int .i64,.str],.str,.int .u64,.int .u8,.bool,.bool] _ 0)] }=K .normal { fr:=_,tab:=[(10000,.sl [.int .u64,.str,.str,.slc [.str,.int .u8,.int .i64,.str],.str,.int .u64,.int .u8,.bool,.bool] (N.wakeRows (r.take (i+1))) 0)] }
     rw [ht]
     try rfl
   ·refine ⟨.exit 0,_,by simp,fun K=>?_,fun K=>rfl⟩
    rw [q_rWakeR]
    simp (disch:=omega) only [evs,Int.toNat_natCast,List.take_length]
  ·cases h
 ·refine (q_rWake l).trans ?_
  have hp:Nat.ble l.length 1000=true:=hp
  simp only [List.length_map,beq_self_eq_true,cond_true,hp,wakeRows_enc]
  try rfl
theorem ok_rAdd:FnOk Tryz.prog 53 dRAdd:=by
 refine den_okF (env_ok ((TOk.nil _).cons ok_rPut)) (E:=eRAdd) Tryz.func53 [] (by kernel_rfl) none0 fun a _ h=>?_
 obtain ⟨l,m⟩:=a
 have h1:Nat.ble l.length 1000=true:=h
 refine (q_rAdd l m).trans ?_
 simp only [dec_encs,fold_de,h1,cond_true]
 try rfl
theorem ok_rBack:FnOk Tryz.prog 49 dRBack:=by
 refine den_okF (env_ok (((TOk.nil _).cons ok_rTurned).cons ok_rFind)) (E:=eRBack) Tryz.func49 [] (by kernel_rfl) none0 fun a _ h=>?_
 obtain ⟨l,id⟩:=a
 have h2:Nat.ble l.length 1000=true:=h
 have h1:l.length≤1000:=ble_of h2
 refine (q_rBack l id).trans ?_
 show _=some (⟨.tup [.slc [.int .u64,.str,.str,.slc [.str,.int .u8,.int .i64,.str],.str,.int .u64,.int .u8,.bool,.bool] ((N.lBack l id).1.map cItem.enc),.int .i64 (N.lBack l id).2],[],[]⟩:DRes)
 unfold N.lBack
 simp only [dec_encs]
 rcases ix_spec (N.isId id) l 0 (Int.le_refl _) with ⟨e,_⟩ | ⟨k,e,hk,_⟩
 ·rw [e]
  simp (disch:=omega) only [evs,h2]
 ·rw [Int.zero_add] at e
  have hg:=getD_enc cItem l k item0 hk
  have ga:goodAt l k=true:=by unfold goodAt; rw [ile_t (by omega),ilt_t (by omega),h2]; rfl
  rw [e]
  simp (disch:=omega) only [evs,h2,ga,Int.toNat_natCast,hg,fold_mail,item_mail,cItem.de]
  show cond (!(l.getD k item0).lent) _ _=_
  cases (l.getD k item0).lent<;>rfl
theorem cutRows_app (k:Int):∀ (a b:List (List V)) (i:Int),N.cutRows k (a++b) i=N.cutRows k a i++N.cutRows k b (i+a.length)
 | [],b,i=>by
  show N.cutRows k b i=N.cutRows k b (i+((0:Nat):Int))
  rw [show i+((0:Nat):Int)=i by omega]
 | r::a,b,i=>by
  show cond (i==k) (N.cutRows k (a++b) (i+1)) (reRowI r::N.cutRows k (a++b) (i+1))=cond (i==k) (N.cutRows k a (i+1)) (reRowI r::N.cutRows k a (i+1))++N.cutRows k b (i+((a.length+1:Nat):Int))
  rw [cutRows_app k a b (i+1),show i+1+(a.length:Int)=i+((a.length+1:Nat):Int) by omega]
  cases i==k<;>rfl
theorem cutRows_succ (k:Int) {r:List (List V)} {i:Nat} (h:i<r.length):N.cutRows k (r.take (i+1)) 0=N.cutRows k (r.take i) 0++cond ((i:Int)==k) [] [reRowI (r.getD i [])]:=by
 rw [take_succ h,cutRows_app,List.length_take,show (0:Int)+((min i r.length:Nat):Int)=i by omega]
 try rfl
theorem cutRows_len (k:Int):∀ (r:List (List V)) (i:Int),(N.cutRows k r i).length≤r.length
 | [],_=>Nat.le_refl _
 | r::rs,i=>by
  have ih:=cutRows_len k rs (i+1)
  show (cond (i==k) (N.cutRows k rs (i+1)) (reRowI r::N.cutRows k rs (i+1))).length≤rs.length+1
  cases i==k with
  | true=>exact Nat.le_succ_of_le ih
  | false=>exact Nat.succ_le_succ ih
theorem cutRows_far (k:Int):∀ (l:List HItem) (i:Int),(k<i∨i+l.length≤k)→N.cutRows k (l.map cItem.enc) i=l.map cItem.enc
 | [],_,_=>rfl
 | x::r,i,h=>by
  rw [List.length_cons] at h
  show cond (i==k) _ (reRowI (cItem.enc x)::N.cutRows k (r.map cItem.enc) (i+1))=_
  rw [ieq_f (by omega),cutRows_far k r (i+1) (by omega)]
  try rfl
theorem cutRows_enc {l:List HItem} {k:Nat} (h:k<l.length):N.cutRows k (l.map cItem.enc) 0=(N.cutAt l k).map cItem.enc:=by
 have e:=split_at h
 have hl:(l.take k).length=k:=by rw [List.length_take]; omega
 have e2:l.map cItem.enc=(l.take k).map cItem.enc++(l.getD k item0::l.drop (k+1)).map cItem.enc:=by rw [← List.map_append,← e]
 rw [e2,cutRows_app,List.length_map,hl,cutRows_far k (l.take k) 0 (by rw [hl]; omega)]
 have e3:N.cutRows k ((l.getD k item0::l.drop (k+1)).map cItem.enc) (0+(k:Int))=(l.drop (k+1)).map cItem.enc:=by
  show cond ((0+(k:Int))==(k:Int)) (N.cutRows k ((l.drop (k+1)).map cItem.enc) (0+(k:Int)+1)) _=_
  rw [ieq_t (by omega),cond_true,cutRows_far k _ _ (by omega)]
 rw [e3]
 unfold N.cutAt
 rw [List.map_append]
theorem ok_rRemove:FnOk Tryz.prog 51 dRRemove:=by
 refine den_okF (env_ok ((TOk.nil _).cons ok_rFind)) (E:=eRRemove) Tryz.func51 [6] (by kernel_rfl) (one1 (rounds_of rfl fun l K q h=>?_)) fun a _ hp=>?_
 ·unfold gRRemove at h
  split at h
  ·rename_i l0 k r n i id s1 s2 hd s3 due hops b1 b2 a
   have h1:=(cond_none h).1; replace h:=(cond_none h).2; have h2:=(cond_none h).1; replace h:=(cond_none h).2; have h3:=(cond_none h).1; replace h:=(cond_none h).2; have h4:=(cond_none h).1; replace h:=(cond_none h).2
   have e1:=ieq_of h1
   have e2:=ieq_of h2
   have e3:=List.eq_nil_of_length_eq_zero (nbeq_of h3)
   subst e1 e2 e3
   have h4:r.length≤1000:=ble_of h4
   have main:=loop_ind (E:=eRRemove) (f:=51) (id:=6) (σ:=Nat) (fun i=>{ fr:=[(0,.slc [.int .u64,.str,.str,.slc [.str,.int .u8,.int .i64,.str],.str,.int .u64,.int .u8,.bool,.bool] l0),(5,.ptr 10000 0 0 0),(7,.int .i64 k),(8,.own 10001 0),(18,.slc [.int .u64,.str,.str,.slc [.str,.int .u8,.int .i64,.str],.str,.int .u64,.int .u8,.bool,.bool] r),(19,.int .i64 r.length),(20,.int .i64 (i:Int))],tab:=[(10000,.var [.int .u64 id,.str s1,.str s2,.slc [.str,.int .u8,.int .i64,.str] hd,.str s3,.int .u64 due,.int .u8 hops,.bool b1,.bool b2]),(10001,.sl [.int .u64,.str,.str,.slc [.str,.int .u8,.int .i64,.str],.str,.int .u64,.int .u8,.bool,.bool] (N.cutRows k (r.take i) 0) 0)] }) (fun i=>i≤r.length) (fun i=>r.length-i)
    (fun _ K=>K (.exit 0) { fr:=[(0,.slc [.int .u64,.str,.str,.slc [.str,.int .u8,.int .i64,.str],.str,.int .u64,.int .u8,.bool,.bool] l0),(5,.ptr 10000 0 0 0),(7,.int .i64 k),(8,.own 10001 0)],tab:=[(10000,.var [.int .u64 id,.str s1,.str s2,.slc [.str,.int .u8,.int .i64,.str] hd,.str s3,.int .u64 due,.int .u8 hops,.bool b1,.bool b2]),(10001,.sl [.int .u64,.str,.str,.slc [.str,.int .u8,.int .i64,.str],.str,.int .u64,.int .u8,.bool,.bool] (N.cutRows k r 0) 0)] }) (fun i hi=>?_) 0 (Nat.zero_le _) K q (by assumption)
   ·exact main
   ·by_cases hl:i<r.length
    ·have hln:(N.cutRows k (r.take i) 0).length≤i:=by have:=cutRows_len k (r.take i) 0; rw [List.length_take] at this; omega
     have ht:=cutRows_succ k hl
     refine .inl ⟨i+1,hl,by omega,fun K=>?_,fun K=>rfl⟩
     rw [q_rRemoveR]
     by_cases hc:(i:Int)=k
     ·rw [ieq_t hc,cond_true,List.append_nil] at ht
      simp (disch:=omega) only [evs,Int.toNat_natCast]
      rw [ht]
      try rfl
     ·rw [ieq_f hc,cond_false] at ht
      simp (disch:=omega) only [evs,Int.toNat_natCast,fold_reRowI]
      rw [ht]
      try rfl
    ·have ei:i=r.length:=by omega
     subst ei
     refine .inr ⟨.exit 0,{ fr:=[(0,.slc [.int .u64,.str,.str,.slc [.str,.int .u8,.int .i64,.str],.str,.int .u64,.int .u8,.bool,.bool] l0),(5,.ptr 10000 0 0 0),(7,.int .i64 k),(8,.own 10001 0)],tab:=[(10000,.var [.int .u64 id,.str s1,.str s2,.slc [.str,.int .u8,.int .i64,.str] hd,.str s3,.int .u64 due,.int .u8 hops,.bool b1,.bool b2]),(10001,.sl [.int .u64,.str,.str,.slc [.str,.int .u8,.int .i64,.str],.str,.int .u64,.int .u8,.bool,.bool] (N.cutRows k r 0) 0)] },by simp,fun K=>?_,fun K=>rfl⟩
     rw [q_rRemoveR]
     simp (disch:=omega) only [evs,List.take_length]
  ·cases h
 ·obtain ⟨l,id⟩:=a
  have h2:Nat.ble l.length 1000=true:=hp
  have h1:l.length≤1000:=ble_of h2
  refine (q_rRemove l id).trans ?_
  show _=some (⟨.tup [.slc [.int .u64,.str,.str,.slc [.str,.int .u8,.int .i64,.str],.str,.int .u64,.int .u8,.bool,.bool] ((N.lRemove l id).1.map cItem.enc),.agg (cItem.enc (N.lRemove l id).2.1),.int .i64 (N.lRemove l id).2.2],[],[]⟩:DRes)
  unfold N.lRemove
  simp only [dec_encs]
  rcases ix_spec (N.isId id) l 0 (Int.le_refl _) with ⟨e,_⟩ | ⟨k,e,hk,_⟩
  ·rw [e]
   simp (disch:=omega) only [evs,h2]
   try rfl
  ·rw [Int.zero_add] at e
   have hg:=getD_enc cItem l k item0 hk
   have hcut:=cutRows_enc hk
   rw [e]
   simp (disch:=omega) only [evs,h2,Int.toNat_natCast,hg,hcut,fold_reRowI]
   try rfl
theorem ok_rLend:FnOk Tryz.prog 47 dRLend:=by
 refine den_okF (env_ok ((TOk.nil _).cons ok_rTurned)) (E:=eRLend) Tryz.func47 [2] (by kernel_rfl) (one1 (rounds_of rfl fun l K q h=>?_)) fun l _ hp=>?_
 ·unfold gRLend at h
  split at h
  ·rename_i l0 r n i id s1 s2 hd s3 due hops b1 b2
   have h1:=(cond_none h).1; replace h:=(cond_none h).2; have h2:=(cond_none h).1; replace h:=(cond_none h).2; have h3:=(cond_none h).1; replace h:=(cond_none h).2; have h4:=(cond_none h).1; replace h:=(cond_none h).2
   have e1:=ieq_of h1
   have e2:=ieq_of h2
   have e3:=nbeq_of h3
   subst e1 e2
   have h4:r.length≤1000:=ble_of h4
   have main:=loop_ind (E:=eRLend) (f:=47) (id:=2) (σ:=Nat) (fun i=>{ fr:=[(0,.slc [.int .u64,.str,.str,.slc [.str,.int .u8,.int .i64,.str],.str,.int .u64,.int .u8,.bool,.bool] l0),(3,.ptr 10000 0 0 0),(7,.slc [.int .u64,.str,.str,.slc [.str,.int .u8,.int .i64,.str],.str,.int .u64,.int .u8,.bool,.bool] r),(8,.int .i64 r.length),(9,.int .i64 (i:Int))],tab:=[(10000,.var [.int .u64 id,.str s1,.str s2,.slc [.str,.int .u8,.int .i64,.str] hd,.str s3,.int .u64 due,.int .u8 hops,.bool b1,.bool b2])] }) (fun i=>i≤r.length) (fun i=>r.length-i)
    (fun i K=>cond (ile 0 (N.ix N.isReady ((r.drop i).map cItem.dec) i)) (K .ret { fr:=[(2,.slc [.int .u64,.str,.str,.slc [.str,.int .u8,.int .i64,.str],.str,.int .u64,.int .u8,.bool,.bool] (((l0.map cItem.dec).set (N.ix N.isReady ((r.drop i).map cItem.dec) i).toNat (N.lendI (cItem.dec (r.getD (N.ix N.isReady ((r.drop i).map cItem.dec) i).toNat [])))).map cItem.enc)),(3,.ptr 10000 0 0 0),(4,.bool true)],tab:=[(10000,.var (lendRow (r.getD (N.ix N.isReady ((r.drop i).map cItem.dec) i).toNat [])))] })
     (K (.exit 0) { fr:=[(0,.slc [.int .u64,.str,.str,.slc [.str,.int .u8,.int .i64,.str],.str,.int .u64,.int .u8,.bool,.bool] l0),(3,.ptr 10000 0 0 0)],tab:=[(10000,.var [.int .u64 id,.str s1,.str s2,.slc [.str,.int .u8,.int .i64,.str] hd,.str s3,.int .u64 due,.int .u8 hops,.bool b1,.bool b2])] })) (fun i hi=>?_) 0 (Nat.zero_le _) K q (by assumption)
   ·exact main
   ·by_cases hl:i<r.length
    ·rw [drop_decI hl,ix_cons]
     have hm:V.toBool (List.getD (List.getD r i []) 7 V.undef)=(cItem.dec (r.getD i [])).lent:=rfl
     have ga:goodAt (l0.map cItem.dec) i=true:=by
      unfold goodAt
      rw [List.length_map,ile_t (by omega),ilt_t (by omega),ble_t (by omega)]; rfl
     cases hc:(cItem.dec (r.getD i [])).lent with
     | false =>
      have hr:N.isReady (cItem.dec (r.getD i []))=true:=by unfold N.isReady; rw [hc]; rfl
      refine .inr ⟨.ret,{ fr:=[(2,.slc [.int .u64,.str,.str,.slc [.str,.int .u8,.int .i64,.str],.str,.int .u64,.int .u8,.bool,.bool] (((l0.map cItem.dec).set i (N.lendI (cItem.dec (r.getD i [])))).map cItem.enc)),(3,.ptr 10000 0 0 0),(4,.bool true)],tab:=[(10000,.var (lendRow (r.getD i [])))] },by simp,fun K=>?_,fun K=>?_⟩
      ·rw [q_rLendR]
       simp (disch:=omega) only [evs,Int.toNat_natCast,hm,hc,Bool.not_false,ga,fold_mail]
       try rfl
      ·rw [hr]
       simp only [cond_true]
       rw [ile_t (by omega),Int.toNat_natCast]; rfl
     | true =>
      have hr:N.isReady (cItem.dec (r.getD i []))=false:=by unfold N.isReady; rw [hc]; rfl
      refine .inl ⟨i+1,hl,by omega,fun K=>?_,fun K=>by rw [hr]; rfl⟩
      rw [q_rLendR]
      simp (disch:=omega) only [evs,Int.toNat_natCast,hm,hc,Bool.not_true]
      try rfl
    ·refine .inr ⟨.exit 0,{ fr:=[(0,.slc [.int .u64,.str,.str,.slc [.str,.int .u8,.int .i64,.str],.str,.int .u64,.int .u8,.bool,.bool] l0),(3,.ptr 10000 0 0 0)],tab:=[(10000,.var [.int .u64 id,.str s1,.str s2,.slc [.str,.int .u8,.int .i64,.str] hd,.str s3,.int .u64 due,.int .u8 hops,.bool b1,.bool b2])] },by simp,fun K=>?_,fun K=>?_⟩
     ·rw [q_rLendR]
      simp (disch:=omega) only [evs]
     ·rw [List.drop_eq_nil_of_le (by omega)]; rfl
  ·cases h
 ·have h2:Nat.ble l.length 1000=true:=hp
  refine (q_rLend l).trans ?_
  show _=some (⟨.tup [.slc [.int .u64,.str,.str,.slc [.str,.int .u8,.int .i64,.str],.str,.int .u64,.int .u8,.bool,.bool] ((N.lLend l).1.map cItem.enc),.agg (cItem.enc (N.lLend l).2.1),.bool (N.lLend l).2.2],[],[]⟩:DRes)
  unfold N.lLend
  simp only [dec_encs,List.length_map,h2,beq_self_eq_true,Nat.beq_refl,cond_true]
  rcases ix_spec N.isReady l 0 (Int.le_refl _) with ⟨e,_⟩ | ⟨k,e,hk,_⟩
  ·rw [e]; rfl
  ·rw [Int.zero_add] at e
   have hg:=getD_enc cItem l k item0 hk
   rw [e]
   simp (disch:=omega) only [evs,Int.toNat_natCast,hg,fold_item,cItem.de]
   try rfl
end Go.Ev

/- Acts on lines,done to both: lemmas; the function that writes numbers is a premise. -/
namespace Go.Ev
open Go Go.Proofs
set_option maxRecDepth 100000
-- FOLD
def rowAct (r:List V):HAct:=⟨(r.getD 0 .undef).toInt,⟨(r.getD 1 .undef).toInt,(r.getD 2 .undef).toStr,(r.getD 3 .undef).toStr,rowsP (r.getD 4 .undef).toRows,(r.getD 5 .undef).toStr,(r.getD 6 .undef).toInt,(r.getD 7 .undef).toInt⟩⟩
def cAct:RCod HAct:=(((rInt .u8).and cMail).iso (fun p=>(⟨p.1,p.2⟩:HAct)) (fun o=>(o.op,o.mail)) (fun _=>rfl) fun _=>rfl).spelt
 [.int .u8,.int .u64,.str,.str,.slc [.str,.int .u8,.int .i64,.str],.str,.int .u64,.int .u8]
 (fun a=>[.int .u8 a.op,.int .u64 a.mail.id,.str a.mail.shop,.str a.mail.key,.slc [.str,.int .u8,.int .i64,.str] (a.mail.head.map fun p=>[V.str p.key,V.int .u8 p.kind,V.int .i64 p.num,V.str p.text]),.str a.mail.body,.int .u64 a.mail.due,.int .u8 a.mail.hops])
 rowAct rfl (fun _=>rfl) fun r=>by
  show (⟨((r.take 1).getD 0 .undef).toInt,rowM (r.drop 1)⟩:HAct)=rowAct r
  unfold rowM
  simp only [getD_take_one,getD_drop_one]; rfl
theorem fold_actM (r:List V):({ id:=V.toInt (List.getD r 1 .undef),shop:=V.toStr (List.getD r 2 .undef),key:=V.toStr (List.getD r 3 .undef),head:=(V.toRows (List.getD r 4 .undef)).map fun r=>({ key:=V.toStr (List.getD r 0 .undef),kind:=V.toInt (List.getD r 1 .undef),num:=V.toInt (List.getD r 2 .undef),text:=V.toStr (List.getD r 3 .undef) }:HPair),body:=V.toStr (List.getD r 5 .undef),due:=V.toInt (List.getD r 6 .undef),hops:=V.toInt (List.getD r 7 .undef) }:HMail)=(cAct.dec r).mail:=rfl
namespace N
def lightActs:List HAct→Bool
 | []=>true | a::r=>cond (lightM a.mail) (lightActs r) false
def done18 (l q:List HItem) (a:HAct):List HItem × List HItem × Bool :=
 cond (Int.tmod a.op 6==2) ((lLend l).1,(lLend q).1,cond ((lLend l).2.2==(lLend q).2.2) (sameI (lLend l).2.1 (lLend q).2.1) false)
  (cond (Int.tmod a.op 6==3) ((lBack l a.mail.id).1,(lBack q a.mail.id).1,(lBack l a.mail.id).2==(lBack q a.mail.id).2)
  (cond (Int.tmod a.op 6==4) ((lRemove l a.mail.id).1,(lRemove q a.mail.id).1,cond ((lRemove l a.mail.id).2.2==(lRemove q a.mail.id).2.2) (sameI (lRemove l a.mail.id).2.1 (lRemove q a.mail.id).2.1) false)
  (cond (Int.tmod a.op 6==5) (lWake l,lWake q,true) ((lPut l ⟨a.mail,false,false⟩).1,(rPut q ⟨a.mail,false,false⟩).1,(lPut l ⟨a.mail,false,false⟩).2==(rPut q ⟨a.mail,false,false⟩).2))))
end N
def dLight18:Den:=den (aOne (vSl cAct)) bNil (oV vBool) (fun l _=>Nat.ble l.length 9223372036854775807) fun l _=>(cond (N.lightActs l) (ile l.length 100) false,())
def dDone18:Den:=den (aCons (vAgg cLine) (aCons (vSl cItem) (aOne (vAgg cAct)))) bNil (oTup (aCons (vAgg cLine) (aCons (vSl cItem) (aOne vBool)))) (fun a _=>cond (smallL a.1) (cond (Nat.ble a.2.1.length 1000) (smallM a.2.2.mail) false) false) fun a _=>(N.done18 a.1 a.2.1 a.2.2,())
def schLight18:SSch:={ fr:=[(0,.slc [.int .u8,.int .u64,.str,.str,.slc [.str,.int .u8,.int .i64,.str],.str,.int .u64,.int .u8]),(5,.slc [.int .u8,.int .u64,.str,.str,.slc [.str,.int .u8,.int .i64,.str],.str,.int .u64,.int .u8]),(6,.int .i64),(7,.int .i64)],tab:=[] }
def gLight18:List Leaf→(Ex→St→Option R)→Option R
 | [.r r0,.r r,.i n,.i i],K=>cond (n==r.length) (cond (i==0) (cond (Nat.ble r.length 9223372036854775807) (cond (N.lightActs (r.map cAct.dec)) (K (.exit 0) { fr:=[(0,.slc [.int .u8,.int .u64,.str,.str,.slc [.str,.int .u8,.int .i64,.str],.str,.int .u64,.int .u8] r0)],tab:=[] }) (K .ret { fr:=[(2,.bool false)],tab:=[] })) none) none) none
 | _,_=>none
noncomputable def eLight18:Env:=env Tryz.prog [(21,dLightM)] [(2,loopF schLight18 gLight18)] [(2,[(0,[0,5,6,7]),(1,[0]),(1000,[2])])]
theorem q_light18 (l:List HAct):evFn eLight18 12 ((aOne (vSl cAct)).enc l) ([]) some =
 cond ((↑(List.length (List.map (RCod.enc cAct) l)):Int)==(↑(List.length (List.map (RCod.enc cAct) l)):Int)) (cond (Nat.ble (List.length (List.map (RCod.enc cAct) l)) 9223372036854775807) (cond (N.lightActs (List.map (RCod.dec cAct) (List.map (RCod.enc cAct) l))) (some {v:=V.bool (ile (↑(List.length (List.map (RCod.enc cAct) l)):Int) (100:Int)),bx:=[]:DRes}) (some {v:=V.bool false,bx:=[]:DRes})) (none)) (none):=by kernel_rfl
theorem q_light18R (r0 r:List (List V)) (n i:Int) (K:Ex→St→Option R):evRound eLight18 12 2 { fr:=[(0,.slc [.int .u8,.int .u64,.str,.str,.slc [.str,.int .u8,.int .i64,.str],.str,.int .u64,.int .u8] r0),(5,.slc [.int .u8,.int .u64,.str,.str,.slc [.str,.int .u8,.int .i64,.str],.str,.int .u64,.int .u8] r),(6,.int .i64 n),(7,.int .i64 i)],tab:=[] } K =
 cond (ilt i n) (cond (decide ((0:Int)≤i∧i<(↑(List.length r):Int))) (cond (!N.lightM {id:=V.toInt (List.getD (List.getD r (Int.toNat i) []) 1 V.undef),shop:=V.toStr (List.getD (List.getD r (Int.toNat i) []) 2 V.undef),key:=V.toStr (List.getD (List.getD r (Int.toNat i) []) 3 V.undef),head:=List.map (fun r=>{key:=V.toStr (List.getD r 0 .undef),kind:=V.toInt (List.getD r 1 .undef),num:=V.toInt (List.getD r 2 .undef),text:=V.toStr (List.getD r 3 .undef):HPair}) (V.toRows (List.getD (List.getD r (Int.toNat i) []) 4 V.undef)),body:=V.toStr (List.getD (List.getD r (Int.toNat i) []) 5 V.undef),due:=V.toInt (List.getD (List.getD r (Int.toNat i) []) 6 V.undef),hops:=V.toInt (List.getD (List.getD r (Int.toNat i) []) 7 V.undef):HMail}) (K Ex.ret {fr:=[(2,V.bool false)],tab:=[]:St}) (K Ex.normal {fr:=[(0,V.slc [.int .u8,.int .u64,.str,.str,.slc [.str,.int .u8,.int .i64,.str],.str,.int .u64,.int .u8] r0),(5,V.slc [.int .u8,.int .u64,.str,.str,.slc [.str,.int .u8,.int .i64,.str],.str,.int .u64,.int .u8] r),(6,V.int .i64 n),(7,V.int .i64 (IntKind.wrap .i64 (i+(1:Int))))],tab:=[]:St})) (none)) (K (Ex.exit 0) {fr:=[(0,V.slc [.int .u8,.int .u64,.str,.str,.slc [.str,.int .u8,.int .i64,.str],.str,.int .u64,.int .u8] r0)],tab:=[]:St}):=by kernel_rfl
theorem ok_light18:FnOk Tryz.prog 12 dLight18:=by
 refine den_okF (env_ok ((TOk.nil _).cons ok_lightM)) (E:=eLight18) Tryz.func12 [2] (by kernel_rfl) (one1 (rounds_of rfl fun l K q h=>?_)) fun l _ hp=>?_
 ·unfold gLight18 at h
  split at h
  ·rename_i r0 r n i
   have h1:=(cond_none h).1; replace h:=(cond_none h).2; have h2:=(cond_none h).1; replace h:=(cond_none h).2; have h3:=(cond_none h).1; replace h:=(cond_none h).2
   have e1:=ieq_of h1
   have e2:=ieq_of h2
   subst e1 e2
   have h3:r.length≤9223372036854775807:=ble_of h3
   have main:=range_ind (E:=eLight18) (f:=12) (id:=2) (A:=Unit) r (fun _ i=>{ fr:=[(0,.slc [.int .u8,.int .u64,.str,.str,.slc [.str,.int .u8,.int .i64,.str],.str,.int .u64,.int .u8] r0),(5,.slc [.int .u8,.int .u64,.str,.str,.slc [.str,.int .u8,.int .i64,.str],.str,.int .u64,.int .u8] r),(6,.int .i64 r.length),(7,.int .i64 i)],tab:=[] }) (fun _ _=>True)
    (fun _ rows K=>cond (N.lightActs (rows.map cAct.dec)) (K (.exit 0) { fr:=[(0,.slc [.int .u8,.int .u64,.str,.str,.slc [.str,.int .u8,.int .i64,.str],.str,.int .u64,.int .u8] r0)],tab:=[] }) (K .ret { fr:=[(2,.bool false)],tab:=[] })) (fun _ i _ hi=>?_) (fun _ _=>?_) () 0 (Int.le_refl _) (by omega) trivial K q (by assumption)
   ·exact main
   ·rw [List.map_cons]
    cases hc:N.lightM (cAct.dec (r.getD i [])).mail with
    | true =>
     refine .inl ⟨(),trivial,fun K=>?_,fun K=>?_⟩
     ·rw [q_light18R]
      simp (disch:=omega) only [evs,Int.toNat_natCast,fold_actM,hc,Bool.not_true]
     ·show cond (cond (N.lightM (cAct.dec (r.getD i [])).mail) _ false) _ _=_
      rw [hc]; rfl
    | false =>
     refine .inr ⟨.ret,{ fr:=[(2,.bool false)],tab:=[] },by simp,fun K=>?_,fun K=>?_⟩
     ·rw [q_light18R]
      simp (disch:=omega) only [evs,Int.toNat_natCast,fold_actM,hc,Bool.not_false]
     ·show cond (cond (N.lightM (cAct.dec (r.getD i [])).mail) _ false) _ _=_
      rw [hc]; rfl
   ·refine ⟨.exit 0,{ fr:=[(0,.slc [.int .u8,.int .u64,.str,.str,.slc [.str,.int .u8,.int .i64,.str],.str,.int .u64,.int .u8] r0)],tab:=[] },by simp,fun K=>?_,fun K=>rfl⟩
    rw [q_light18R]
    simp (disch:=omega) only [evs]
  ·cases h
 ·refine (q_light18 l).trans ?_
  have hp:Nat.ble l.length 9223372036854775807=true:=hp
  show _=some (⟨.bool (cond (N.lightActs l) (ile l.length 100) false),[],[]⟩:DRes)
  simp only [List.length_map,dec_encs,hp,beq_self_eq_true,cond_true]
  cases N.lightActs l<;>rfl
noncomputable def eDone18:Env:=env Tryz.prog [(28,dLLend),(47,dRLend),(48,dSameI),(45,dLBack),(49,dRBack),(50,dLRemove),(51,dRRemove),(27,dLWake),(52,dRWake),(44,dLAdd),(53,dRAdd)] [] []
theorem q_done18 (l q:List HItem) (a:HAct):evFn eDone18 14 ((aCons (vAgg cLine) (aCons (vSl cItem) (aOne (vAgg cAct)))).enc (l,q,a)) ([]) some =
 cond (Int.tmod (HAct.op a) (6:Int)==(2:Int)) (cond (smallL (List.map (RCod.dec cItem) (List.map (RCod.enc cItem) l))) (cond (Nat.ble (List.length (List.map (RCod.dec cItem) (List.map (RCod.enc cItem) q))) 1000) (cond (Prod.snd (Prod.snd (N.lLend (List.map (RCod.dec cItem) (List.map (RCod.enc cItem) l))))==Prod.snd (Prod.snd (N.lLend (List.map (RCod.dec cItem) (List.map (RCod.enc cItem) q))))) (cond (smallI {mail:={id:=HMail.id (HItem.mail (Prod.fst (Prod.snd (N.lLend (List.map (RCod.dec cItem) (List.map (RCod.enc cItem) l)))))),shop:=HMail.shop (HItem.mail (Prod.fst (Prod.snd (N.lLend (List.map (RCod.dec cItem) (List.map (RCod.enc cItem) l)))))),key:=HMail.key (HItem.mail (Prod.fst (Prod.snd (N.lLend (List.map (RCod.dec cItem) (List.map (RCod.enc cItem) l)))))),head:=List.map (fun r=>{key:=V.toStr (List.getD r 0 .undef),kind:=V.toInt (List.getD r 1 .undef),num:=V.toInt (List.getD r 2 .undef),text:=V.toStr (List.getD r 3 .undef):HPair}) (List.map (fun p=>[V.str (HPair.key p),V.int .u8 (HPair.kind p),V.int .i64 (HPair.num p),V.str (HPair.text p)]) (HMail.head (HItem.mail (Prod.fst (Prod.snd (N.lLend (List.map (RCod.dec cItem) (List.map (RCod.enc cItem) l)))))))),body:=HMail.body (HItem.mail (Prod.fst (Prod.snd (N.lLend (List.map (RCod.dec cItem) (List.map (RCod.enc cItem) l)))))),due:=HMail.due (HItem.mail (Prod.fst (Prod.snd (N.lLend (List.map (RCod.dec cItem) (List.map (RCod.enc cItem) l)))))),hops:=HMail.hops (HItem.mail (Prod.fst (Prod.snd (N.lLend (List.map (RCod.dec cItem) (List.map (RCod.enc cItem) l)))))):HMail},lent:=HItem.lent (Prod.fst (Prod.snd (N.lLend (List.map (RCod.dec cItem) (List.map (RCod.enc cItem) l))))),again:=HItem.again (Prod.fst (Prod.snd (N.lLend (List.map (RCod.dec cItem) (List.map (RCod.enc cItem) l))))):HItem}) (some {v:=V.tup [V.agg [V.slc [.int .u64,.str,.str,.slc [.str,.int .u8,.int .i64,.str],.str,.int .u64,.int .u8,.bool,.bool] (List.map (RCod.enc cItem) (Prod.fst (N.lLend (List.map (RCod.dec cItem) (List.map (RCod.enc cItem) l)))))],V.slc [.int .u64,.str,.str,.slc [.str,.int .u8,.int .i64,.str],.str,.int .u64,.int .u8,.bool,.bool] (List.map (RCod.enc cItem) (Prod.fst (N.lLend (List.map (RCod.dec cItem) (List.map (RCod.enc cItem) q))))),V.bool (N.sameI {mail:={id:=HMail.id (HItem.mail (Prod.fst (Prod.snd (N.lLend (List.map (RCod.dec cItem) (List.map (RCod.enc cItem) l)))))),shop:=HMail.shop (HItem.mail (Prod.fst (Prod.snd (N.lLend (List.map (RCod.dec cItem) (List.map (RCod.enc cItem) l)))))),key:=HMail.key (HItem.mail (Prod.fst (Prod.snd (N.lLend (List.map (RCod.dec cItem) (List.map (RCod.enc cItem) l)))))),head:=List.map (fun r=>{key:=V.toStr (List.getD r 0 .undef),kind:=V.toInt (List.getD r 1 .undef),num:=V.toInt (List.getD r 2 .undef),text:=V.toStr (List.getD r 3 .undef):HPair}) (List.map (fun p=>[V.str (HPair.key p),V.int .u8 (HPair.kind p),V.int .i64 (HPair.num p),V.str (HPair.text p)]) (HMail.head (HItem.mail (Prod.fst (Prod.snd (N.lLend (List.map (RCod.dec cItem) (List.map (RCod.enc cItem) l)))))))),body:=HMail.body (HItem.mail (Prod.fst (Prod.snd (N.lLend (List.map (RCod.dec cItem) (List.map (RCod.enc cItem) l)))))),due:=HMail.due (HItem.mail (Prod.fst (Prod.snd (N.lLend (List.map (RCod.dec cItem) (List.map (RCod.enc cItem) l)))))),hops:=HMail.hops (HItem.mail (Prod.fst (Prod.snd (N.lLend (List.map (RCod.dec cItem) (List.map (RCod.enc cItem) l)))))):HMail},lent:=HItem.lent (Prod.fst (Prod.snd (N.lLend (List.map (RCod.dec cItem) (List.map (RCod.enc cItem) l))))),again:=HItem.again (Prod.fst (Prod.snd (N.lLend (List.map (RCod.dec cItem) (List.map (RCod.enc cItem) l))))):HItem} {mail:={id:=HMail.id (HItem.mail (Prod.fst (Prod.snd (N.lLend (List.map (RCod.dec cItem) (List.map (RCod.enc cItem) q)))))),shop:=HMail.shop (HItem.mail (Prod.fst (Prod.snd (N.lLend (List.map (RCod.dec cItem) (List.map (RCod.enc cItem) q)))))),key:=HMail.key (HItem.mail (Prod.fst (Prod.snd (N.lLend (List.map (RCod.dec cItem) (List.map (RCod.enc cItem) q)))))),head:=List.map (fun r=>{key:=V.toStr (List.getD r 0 .undef),kind:=V.toInt (List.getD r 1 .undef),num:=V.toInt (List.getD r 2 .undef),text:=V.toStr (List.getD r 3 .undef):HPair}) (List.map (fun p=>[V.str (HPair.key p),V.int .u8 (HPair.kind p),V.int .i64 (HPair.num p),V.str (HPair.text p)]) (HMail.head (HItem.mail (Prod.fst (Prod.snd (N.lLend (List.map (RCod.dec cItem) (List.map (RCod.enc cItem) q)))))))),body:=HMail.body (HItem.mail (Prod.fst (Prod.snd (N.lLend (List.map (RCod.dec cItem) (List.map (RCod.enc cItem) q)))))),due:=HMail.due (HItem.mail (Prod.fst (Prod.snd (N.lLend (List.map (RCod.dec cItem) (List.map (RCod.enc cItem) q)))))),hops:=HMail.hops (HItem.mail (Prod.fst (Prod.snd (N.lLend (List.map (RCod.dec cItem) (List.map (RCod.enc cItem) q)))))):HMail},lent:=HItem.lent (Prod.fst (Prod.snd (N.lLend (List.map (RCod.dec cItem) (List.map (RCod.enc cItem) q))))),again:=HItem.again (Prod.fst (Prod.snd (N.lLend (List.map (RCod.dec cItem) (List.map (RCod.enc cItem) q))))):HItem})],bx:=[]:DRes}) (none)) (some {v:=V.tup [V.agg [V.slc [.int .u64,.str,.str,.slc [.str,.int .u8,.int .i64,.str],.str,.int .u64,.int .u8,.bool,.bool] (List.map (RCod.enc cItem) (Prod.fst (N.lLend (List.map (RCod.dec cItem) (List.map (RCod.enc cItem) l)))))],V.slc [.int .u64,.str,.str,.slc [.str,.int .u8,.int .i64,.str],.str,.int .u64,.int .u8,.bool,.bool] (List.map (RCod.enc cItem) (Prod.fst (N.lLend (List.map (RCod.dec cItem) (List.map (RCod.enc cItem) q))))),V.bool false],bx:=[]:DRes})) (none)) (none)) (cond (Int.tmod (HAct.op a) (6:Int)==(3:Int)) (cond (smallL (List.map (RCod.dec cItem) (List.map (RCod.enc cItem) l))) (cond (Nat.ble (List.length (List.map (RCod.dec cItem) (List.map (RCod.enc cItem) q))) 1000) (some {v:=V.tup [V.agg [V.slc [.int .u64,.str,.str,.slc [.str,.int .u8,.int .i64,.str],.str,.int .u64,.int .u8,.bool,.bool] (List.map (RCod.enc cItem) (Prod.fst (N.lBack (List.map (RCod.dec cItem) (List.map (RCod.enc cItem) l)) (HMail.id (HAct.mail a)))))],V.slc [.int .u64,.str,.str,.slc [.str,.int .u8,.int .i64,.str],.str,.int .u64,.int .u8,.bool,.bool] (List.map (RCod.enc cItem) (Prod.fst (N.lBack (List.map (RCod.dec cItem) (List.map (RCod.enc cItem) q)) (HMail.id (HAct.mail a))))),V.bool (Prod.snd (N.lBack (List.map (RCod.dec cItem) (List.map (RCod.enc cItem) l)) (HMail.id (HAct.mail a)))==Prod.snd (N.lBack (List.map (RCod.dec cItem) (List.map (RCod.enc cItem) q)) (HMail.id (HAct.mail a))))],bx:=[]:DRes}) (none)) (none)) (cond (Int.tmod (HAct.op a) (6:Int)==(4:Int)) (cond (smallL (List.map (RCod.dec cItem) (List.map (RCod.enc cItem) l))) (cond (Nat.ble (List.length (List.map (RCod.dec cItem) (List.map (RCod.enc cItem) q))) 1000) (cond (Prod.snd (Prod.snd (N.lRemove (List.map (RCod.dec cItem) (List.map (RCod.enc cItem) l)) (HMail.id (HAct.mail a))))==Prod.snd (Prod.snd (N.lRemove (List.map (RCod.dec cItem) (List.map (RCod.enc cItem) q)) (HMail.id (HAct.mail a))))) (cond (smallI {mail:={id:=HMail.id (HItem.mail (Prod.fst (Prod.snd (N.lRemove (List.map (RCod.dec cItem) (List.map (RCod.enc cItem) l)) (HMail.id (HAct.mail a)))))),shop:=HMail.shop (HItem.mail (Prod.fst (Prod.snd (N.lRemove (List.map (RCod.dec cItem) (List.map (RCod.enc cItem) l)) (HMail.id (HAct.mail a)))))),key:=HMail.key (HItem.mail (Prod.fst (Prod.snd (N.lRemove (List.map (RCod.dec cItem) (List.map (RCod.enc cItem) l)) (HMail.id (HAct.mail a)))))),head:=List.map (fun r=>{key:=V.toStr (List.getD r 0 .undef),kind:=V.toInt (List.getD r 1 .undef),num:=V.toInt (List.getD r 2 .undef),text:=V.toStr (List.getD r 3 .undef):HPair}) (List.map (fun p=>[V.str (HPair.key p),V.int .u8 (HPair.kind p),V.int .i64 (HPair.num p),V.str (HPair.text p)]) (HMail.head (HItem.mail (Prod.fst (Prod.snd (N.lRemove (List.map (RCod.dec cItem) (List.map (RCod.enc cItem) l)) (HMail.id (HAct.mail a)))))))),body:=HMail.body (HItem.mail (Prod.fst (Prod.snd (N.lRemove (List.map (RCod.dec cItem) (List.map (RCod.enc cItem) l)) (HMail.id (HAct.mail a)))))),due:=HMail.due (HItem.mail (Prod.fst (Prod.snd (N.lRemove (List.map (RCod.dec cItem) (List.map (RCod.enc cItem) l)) (HMail.id (HAct.mail a)))))),hops:=HMail.hops (HItem.mail (Prod.fst (Prod.snd (N.lRemove (List.map (RCod.dec cItem) (List.map (RCod.enc cItem) l)) (HMail.id (HAct.mail a)))))):HMail},lent:=HItem.lent (Prod.fst (Prod.snd (N.lRemove (List.map (RCod.dec cItem) (List.map (RCod.enc cItem) l)) (HMail.id (HAct.mail a))))),again:=HItem.again (Prod.fst (Prod.snd (N.lRemove (List.map (RCod.dec cItem) (List.map (RCod.enc cItem) l)) (HMail.id (HAct.mail a))))):HItem}) (some {v:=V.tup [V.agg [V.slc [.int .u64,.str,.str,.slc [.str,.int .u8,.int .i64,.str],.str,.int .u64,.int .u8,.bool,.bool] (List.map (RCod.enc cItem) (Prod.fst (N.lRemove (List.map (RCod.dec cItem) (List.map (RCod.enc cItem) l)) (HMail.id (HAct.mail a)))))],V.slc [.int .u64,.str,.str,.slc [.str,.int .u8,.int .i64,.str],.str,.int .u64,.int .u8,.bool,.bool] (List.map (RCod.enc cItem) (Prod.fst (N.lRemove (List.map (RCod.dec cItem) (List.map (RCod.enc cItem) q)) (HMail.id (HAct.mail a))))),V.bool (N.sameI {mail:={id:=HMail.id (HItem.mail (Prod.fst (Prod.snd (N.lRemove (List.map (RCod.dec cItem) (List.map (RCod.enc cItem) l)) (HMail.id (HAct.mail a)))))),shop:=HMail.shop (HItem.mail (Prod.fst (Prod.snd (N.lRemove (List.map (RCod.dec cItem) (List.map (RCod.enc cItem) l)) (HMail.id (HAct.mail a)))))),key:=HMail.key (HItem.mail (Prod.fst (Prod.snd (N.lRemove (List.map (RCod.dec cItem) (List.map (RCod.enc cItem) l)) (HMail.id (HAct.mail a)))))),head:=List.map (fun r=>{key:=V.toStr (List.getD r 0 .undef),kind:=V.toInt (List.getD r 1 .undef),num:=V.toInt (List.getD r 2 .undef),text:=V.toStr (List.getD r 3 .undef):HPair}) (List.map (fun p=>[V.str (HPair.key p),V.int .u8 (HPair.kind p),V.int .i64 (HPair.num p),V.str (HPair.text p)]) (HMail.head (HItem.mail (Prod.fst (Prod.snd (N.lRemove (List.map (RCod.dec cItem) (List.map (RCod.enc cItem) l)) (HMail.id (HAct.mail a)))))))),body:=HMail.body (HItem.mail (Prod.fst (Prod.snd (N.lRemove (List.map (RCod.dec cItem) (List.map (RCod.enc cItem) l)) (HMail.id (HAct.mail a)))))),due:=HMail.due (HItem.mail (Prod.fst (Prod.snd (N.lRemove (List.map (RCod.dec cItem) (List.map (RCod.enc cItem) l)) (HMail.id (HAct.mail a)))))),hops:=HMail.hops (HItem.mail (Prod.fst (Prod.snd (N.lRemove (List.map (RCod.dec cItem) (List.map (RCod.enc cItem) l)) (HMail.id (HAct.mail a)))))):HMail},lent:=HItem.lent (Prod.fst (Prod.snd (N.lRemove (List.map (RCod.dec cItem) (List.map (RCod.enc cItem) l)) (HMail.id (HAct.mail a))))),again:=HItem.again (Prod.fst (Prod.snd (N.lRemove (List.map (RCod.dec cItem) (List.map (RCod.enc cItem) l)) (HMail.id (HAct.mail a))))):HItem} {mail:={id:=HMail.id (HItem.mail (Prod.fst (Prod.snd (N.lRemove (List.map (RCod.dec cItem) (List.map (RCod.enc cItem) q)) (HMail.id (HAct.mail a)))))),shop:=HMail.shop (HItem.mail (Prod.fst (Prod.snd (N.lRemove (List.map (RCod.dec cItem) (List.map (RCod.enc cItem) q)) (HMail.id (HAct.mail a)))))),key:=HMail.key (HItem.mail (Prod.fst (Prod.snd (N.lRemove (List.map (RCod.dec cItem) (List.map (RCod.enc cItem) q)) (HMail.id (HAct.mail a)))))),head:=List.map (fun r=>{key:=V.toStr (List.getD r 0 .undef),kind:=V.toInt (List.getD r 1 .undef),num:=V.toInt (List.getD r 2 .undef),text:=V.toStr (List.getD r 3 .undef):HPair}) (List.map (fun p=>[V.str (HPair.key p),V.int .u8 (HPair.kind p),V.int .i64 (HPair.num p),V.str (HPair.text p)]) (HMail.head (HItem.mail (Prod.fst (Prod.snd (N.lRemove (List.map (RCod.dec cItem) (List.map (RCod.enc cItem) q)) (HMail.id (HAct.mail a)))))))),body:=HMail.body (HItem.mail (Prod.fst (Prod.snd (N.lRemove (List.map (RCod.dec cItem) (List.map (RCod.enc cItem) q)) (HMail.id (HAct.mail a)))))),due:=HMail.due (HItem.mail (Prod.fst (Prod.snd (N.lRemove (List.map (RCod.dec cItem) (List.map (RCod.enc cItem) q)) (HMail.id (HAct.mail a)))))),hops:=HMail.hops (HItem.mail (Prod.fst (Prod.snd (N.lRemove (List.map (RCod.dec cItem) (List.map (RCod.enc cItem) q)) (HMail.id (HAct.mail a)))))):HMail},lent:=HItem.lent (Prod.fst (Prod.snd (N.lRemove (List.map (RCod.dec cItem) (List.map (RCod.enc cItem) q)) (HMail.id (HAct.mail a))))),again:=HItem.again (Prod.fst (Prod.snd (N.lRemove (List.map (RCod.dec cItem) (List.map (RCod.enc cItem) q)) (HMail.id (HAct.mail a))))):HItem})],bx:=[]:DRes}) (none)) (some {v:=V.tup [V.agg [V.slc [.int .u64,.str,.str,.slc [.str,.int .u8,.int .i64,.str],.str,.int .u64,.int .u8,.bool,.bool] (List.map (RCod.enc cItem) (Prod.fst (N.lRemove (List.map (RCod.dec cItem) (List.map (RCod.enc cItem) l)) (HMail.id (HAct.mail a)))))],V.slc [.int .u64,.str,.str,.slc [.str,.int .u8,.int .i64,.str],.str,.int .u64,.int .u8,.bool,.bool] (List.map (RCod.enc cItem) (Prod.fst (N.lRemove (List.map (RCod.dec cItem) (List.map (RCod.enc cItem) q)) (HMail.id (HAct.mail a))))),V.bool false],bx:=[]:DRes})) (none)) (none)) (cond (Int.tmod (HAct.op a) (6:Int)==(5:Int)) (cond (Nat.ble (List.length (List.map (RCod.dec cItem) (List.map (RCod.enc cItem) l))) 1000) (cond (Nat.ble (List.length (List.map (RCod.dec cItem) (List.map (RCod.enc cItem) q))) 1000) (some {v:=V.tup [V.agg [V.slc [.int .u64,.str,.str,.slc [.str,.int .u8,.int .i64,.str],.str,.int .u64,.int .u8,.bool,.bool] (List.map (RCod.enc cItem) (N.lWake (List.map (RCod.dec cItem) (List.map (RCod.enc cItem) l))))],V.slc [.int .u64,.str,.str,.slc [.str,.int .u8,.int .i64,.str],.str,.int .u64,.int .u8,.bool,.bool] (List.map (RCod.enc cItem) (N.lWake (List.map (RCod.dec cItem) (List.map (RCod.enc cItem) q)))),V.bool true],bx:=[]:DRes}) (none)) (none)) (cond (bif Nat.ble (List.length (List.map (RCod.dec cItem) (List.map (RCod.enc cItem) l))) 1000 then smallM {id:=HMail.id (HAct.mail a),shop:=HMail.shop (HAct.mail a),key:=HMail.key (HAct.mail a),head:=List.map (fun r=>{key:=V.toStr (List.getD r 0 .undef),kind:=V.toInt (List.getD r 1 .undef),num:=V.toInt (List.getD r 2 .undef),text:=V.toStr (List.getD r 3 .undef):HPair}) (List.map (fun p=>[V.str (HPair.key p),V.int .u8 (HPair.kind p),V.int .i64 (HPair.num p),V.str (HPair.text p)]) (HMail.head (HAct.mail a))),body:=HMail.body (HAct.mail a),due:=HMail.due (HAct.mail a),hops:=HMail.hops (HAct.mail a):HMail} else false) (cond (Nat.ble (List.length (List.map (RCod.dec cItem) (List.map (RCod.enc cItem) q))) 1000) (some {v:=V.tup [V.agg [V.slc [.int .u64,.str,.str,.slc [.str,.int .u8,.int .i64,.str],.str,.int .u64,.int .u8,.bool,.bool] (List.map (RCod.enc cItem) (Prod.fst (N.lPut (List.map (RCod.dec cItem) (List.map (RCod.enc cItem) l)) {mail:={id:=HMail.id (HAct.mail a),shop:=HMail.shop (HAct.mail a),key:=HMail.key (HAct.mail a),head:=List.map (fun r=>{key:=V.toStr (List.getD r 0 .undef),kind:=V.toInt (List.getD r 1 .undef),num:=V.toInt (List.getD r 2 .undef),text:=V.toStr (List.getD r 3 .undef):HPair}) (List.map (fun p=>[V.str (HPair.key p),V.int .u8 (HPair.kind p),V.int .i64 (HPair.num p),V.str (HPair.text p)]) (HMail.head (HAct.mail a))),body:=HMail.body (HAct.mail a),due:=HMail.due (HAct.mail a),hops:=HMail.hops (HAct.mail a):HMail},lent:=false,again:=false:HItem})))],V.slc [.int .u64,.str,.str,.slc [.str,.int .u8,.int .i64,.str],.str,.int .u64,.int .u8,.bool,.bool] (List.map (RCod.enc cItem) (Prod.fst (N.rPut (List.map (RCod.dec cItem) (List.map (RCod.enc cItem) q)) {mail:={id:=HMail.id (HAct.mail a),shop:=HMail.shop (HAct.mail a),key:=HMail.key (HAct.mail a),head:=List.map (fun r=>{key:=V.toStr (List.getD r 0 .undef),kind:=V.toInt (List.getD r 1 .undef),num:=V.toInt (List.getD r 2 .undef),text:=V.toStr (List.getD r 3 .undef):HPair}) (List.map (fun p=>[V.str (HPair.key p),V.int .u8 (HPair.kind p),V.int .i64 (HPair.num p),V.str (HPair.text p)]) (HMail.head (HAct.mail a))),body:=HMail.body (HAct.mail a),due:=HMail.due (HAct.mail a),hops:=HMail.hops (HAct.mail a):HMail},lent:=false,again:=false:HItem}))),V.bool (Prod.snd (N.lPut (List.map (RCod.dec cItem) (List.map (RCod.enc cItem) l)) {mail:={id:=HMail.id (HAct.mail a),shop:=HMail.shop (HAct.mail a),key:=HMail.key (HAct.mail a),head:=List.map (fun r=>{key:=V.toStr (List.getD r 0 .undef),kind:=V.toInt (List.getD r 1 .undef),num:=V.toInt (List.getD r 2 .undef),text:=V.toStr (List.getD r 3 .undef):HPair}) (List.map (fun p=>[V.str (HPair.key p),V.int .u8 (HPair.kind p),V.int .i64 (HPair.num p),V.str (HPair.text p)]) (HMail.head (HAct.mail a))),body:=HMail.body (HAct.mail a),due:=HMail.due (HAct.mail a),hops:=HMail.hops (HAct.mail a):HMail},lent:=false,again:=false:HItem})==Prod.snd (N.rPut (List.map (RCod.dec cItem) (List.map (RCod.enc cItem) q)) {mail:={id:=HMail.id (HAct.mail a),shop:=HMail.shop (HAct.mail a),key:=HMail.key (HAct.mail a),head:=List.map (fun r=>{key:=V.toStr (List.getD r 0 .undef),kind:=V.toInt (List.getD r 1 .undef),num:=V.toInt (List.getD r 2 .undef),text:=V.toStr (List.getD r 3 .undef):HPair}) (List.map (fun p=>[V.str (HPair.key p),V.int .u8 (HPair.kind p),V.int .i64 (HPair.num p),V.str (HPair.text p)]) (HMail.head (HAct.mail a))),body:=HMail.body (HAct.mail a),due:=HMail.due (HAct.mail a),hops:=HMail.hops (HAct.mail a):HMail},lent:=false,again:=false:HItem}))],bx:=[]:DRes}) (none)) (none))))):=by kernel_rfl
theorem lend_small {l:List HItem} (h:l.all smallI=true):smallI (N.lLend l).2.1=true:=by
 unfold N.lLend
 rcases ix_spec N.isReady l 0 (Int.le_refl _) with ⟨e,_⟩ | ⟨k,e,hk,_⟩
 ·rw [e]; rfl
 ·rw [e,ilt_f (by omega)]
  have e1:(0+(k:Int)).toNat=k:=by omega
  rw [e1]
  exact small_at h hk
theorem remove_small {l:List HItem} (h:l.all smallI=true) (id:Int):smallI (N.lRemove l id).2.1=true:=by
 unfold N.lRemove
 rcases ix_spec (N.isId id) l 0 (Int.le_refl _) with ⟨e,_⟩ | ⟨k,e,hk,_⟩
 ·rw [e]; rfl
 ·rw [e,ilt_f (by omega)]
  have e1:(0+(k:Int)).toNat=k:=by omega
  rw [e1]
  exact small_at h hk
theorem ok_done18:FnOk Tryz.prog 14 dDone18:=by
 refine den_okF (env_ok ((((((((((((TOk.nil _).cons ok_rAdd).cons ok_lAdd).cons ok_rWake).cons ok_lWake).cons ok_rRemove).cons ok_lRemove).cons ok_rBack).cons ok_lBack).cons ok_rSameI).cons ok_rLend).cons ok_lLend)) (E:=eDone18) Tryz.func14 [] (by kernel_rfl) none0 fun a _ h=>?_
 obtain ⟨l,q,a⟩:=a
 obtain ⟨h1,h2⟩:=bcond h
 obtain ⟨h2,h3⟩:=bcond h2
 have h1:smallL l=true:=h1
 have h2:Nat.ble q.length 1000=true:=h2
 have h3:smallM a.mail=true:=h3
 obtain ⟨_,hb,hs⟩:=smallL_of h1
 have s1:=lend_small hs
 have s2:=remove_small hs a.mail.id
 refine (q_done18 l q a).trans ?_
 show _=some (⟨.tup [.agg (cLine.enc (N.done18 l q a).1),.slc [.int .u64,.str,.str,.slc [.str,.int .u8,.int .i64,.str],.str,.int .u64,.int .u8,.bool,.bool] ((N.done18 l q a).2.1.map cItem.enc),.bool (N.done18 l q a).2.2],[],[]⟩:DRes)
 simp only [fold_de,fold_itemD,dec_encs,h1,h2,h3,hb,s1,s2,cond_true]
 unfold N.done18
 cases Int.tmod a.op 6==2 with
 | true=>cases (N.lLend l).2.2<;>cases (N.lLend q).2.2<;>rfl
 | false =>
  cases Int.tmod a.op 6==3 with
  | true=>rfl
  | false =>
   cases Int.tmod a.op 6==4 with
   | true=>cases (N.lRemove l a.mail.id).2.2==(N.lRemove q a.mail.id).2.2<;>rfl
   | false=>cases Int.tmod a.op 6==5<;>rfl
end Go.Ev

/- What the statement on waking reckons: it is true; lemmas; the function that writes numbers is a premise. -/
namespace Go.Ev
open Go Go.Proofs
set_option maxRecDepth 100000
-- FOLD
def smallA (a:HAct):Bool:=smallM a.mail
theorem all_rowA {p:HAct→Bool} {r:List (List V)} (h:(r.map cAct.dec).all p=true) {i:Nat} (hi:i<r.length):p (cAct.dec (r.getD i []))=true:=by
 refine List.all_eq_true.1 h _ (List.mem_map_of_mem ?_)
 rw [List.getD_eq_getElem?_getD,List.getElem?_eq_getElem hi]
 exact List.getElem_mem hi
theorem acts_small {l:List HAct} (h:N.lightActs l=true):l.all smallA=true:=by
 induction l with
 | nil=>rfl
 | cons a r ih =>
  obtain ⟨h1,h2⟩:=bcond h
  rw [List.all_cons,ih h2,Bool.and_true]
  obtain ⟨_,h1⟩:=bcond h1
  obtain ⟨_,h1⟩:=bcond h1
  obtain ⟨h1,_⟩:=bcond h1
  exact ble_t (Nat.le_trans (light_small h1) (by decide))
end Go.Ev

/- Of the first and the late one of a line,in plain terms: lemmas,no condition. -/
namespace Go.Ev
open Go
set_option maxRecDepth 100000
def allM (p:HMail→Bool) (l:List HItem):Bool:=l.all fun x=>p x.mail
theorem allM_of {p:HMail→Bool} {l l' : List HItem} (h:l'.map HItem.mail=l.map HItem.mail) (hs:allM p l=true):allM p l' = true:=by
 have e:∀ l:List HItem,allM p l=(l.map HItem.mail).all p:=fun l=>by unfold allM; rw [List.all_map]; rfl
 rw [e,h,← e]; exact hs
theorem act_all {p:HMail→Bool} {l:List HItem} (h:allM p l=true) {a:HAct} (hs:p a.mail=true):allM p (N.act l a)=true:=by
 unfold N.act
 cases Int.tmod a.op 6==2 with
 | true =>
  show allM p (N.lLend l).1=true
  unfold N.lLend
  rcases ix_spec N.isReady l 0 (Int.le_refl _) with ⟨h1,_⟩ | ⟨k,h1,h2,_⟩
  ·rw [h1]; exact h
  ·rw [h1,ilt_f (by omega)]
   have e:(0+(k:Int)).toNat=k:=by omega
   rw [e]
   exact allM_of (set_ids (f:=N.lendI) (fun _=>rfl) l k h2) h
 | false =>
  cases Int.tmod a.op 6==3 with
  | true =>
   show allM p (N.lBack l a.mail.id).1=true
   unfold N.lBack
   rcases ix_spec (N.isId a.mail.id) l 0 (Int.le_refl _) with ⟨h1,_⟩ | ⟨k,h1,h2,_⟩
   ·rw [h1]; exact h
   ·rw [h1,ilt_f (by omega)]
    have e:(0+(k:Int)).toNat=k:=by omega
    rw [e]
    simp only [cond_false]
    cases (l.getD k item0).lent with
    | true=>exact allM_of (set_ids (f:=N.backI) (fun _=>rfl) l k h2) h
    | false=>exact h
  | false =>
   cases Int.tmod a.op 6==4 with
   | true =>
    show allM p (N.lRemove l a.mail.id).1=true
    unfold N.lRemove
    cases ilt (N.ix (N.isId a.mail.id) l 0) 0 with
    | true=>exact h
    | false=>exact List.all_eq_true.2 fun x hx=>List.all_eq_true.1 h x ((cut_sub l _).subset hx)
   | false =>
    cases Int.tmod a.op 6==5 with
    | true =>
     refine allM_of (l:=l) ?_ h
     show (N.lWake l).map HItem.mail=_
     unfold N.lWake
     rw [List.map_map]
     exact List.map_congr_left fun x _=>wake_mail x
    | false =>
     show allM p (N.lPut l ⟨a.mail,false,false⟩).1=true
     unfold N.lPut
     cases N.lCheck l a.mail != 0 with
     | true=>exact h
     | false =>
      show ((l++[(⟨a.mail,false,false⟩:HItem)]).all fun x=>p x.mail)=true
      rw [List.all_append,show (l.all fun x=>p x.mail)=true from h]
      simp [hs]
theorem act_wf {a:HAct} (h:wfL (cAct.enc a)=true):N.fineM a.mail=true:=by
 have h:cond (wfV (.int .u8 a.op)) (wfL (cMail.enc a.mail)) false=true:=h
 exact mail_wf (bcond h).2
theorem acts_wfR:∀ l:List HAct,wfRs (l.map cAct.enc)=true→(l.all fun a=>N.fineM a.mail)=true
 | [],_=>rfl
 | m::r,h=>by
  have h:cond (wfL (cAct.enc m)) (wfRs (r.map cAct.enc)) false=true:=h
  obtain ⟨h1,h2⟩:=bcond h
  rw [List.all_cons,acts_wfR r h2,act_wf h1]; rfl
theorem acts_wf {l:List HAct} (h:wfL ((rSl cAct).enc l)=true):(l.all fun a=>N.fineM a.mail)=true:=by
 have h:cond (cond (Nat.ble (l.map cAct.enc).length 9223372036854775807) (cond (fitsRows cAct.sh (l.map cAct.enc)) (wfRs (l.map cAct.enc)) false) false) true false=true:=h
 exact acts_wfR l (bcond (bcond (bcond h).1).2).2
theorem fine_due {m:HMail} (h:N.fineM m=true):0≤m.due:=by
 have h1:N.okM m=true:=(bcond h).1
 exact ile_of (bcond (bcond (bcond h1).2).1).1
theorem ix_at {p:HItem→Bool} {y:HItem} {r:List HItem} (hy:p y=true):∀ (l:List HItem) (i:Int),l.any p=false→N.ix p (l++y::r) i=i+l.length
 | [],i,_=>by
  show N.ix p (y::r) i=_
  unfold N.ix; rw [hy]; simp
 | x::l,i,h=>by
  rw [List.any_cons,Bool.or_eq_false_iff] at h
  show N.ix p (x::(l++y::r)) i=_
  unfold N.ix
  rw [h.1,cond_false,ix_at hy l (i+1) h.2]
  simp; omega
theorem told_at {p:HItem→Bool} {y:HItem} {r l:List HItem} (hy:p y=true) (hl:l.any p=false):N.lTold (l++y::r) (N.ix p (l++y::r) 0)=(y.mail,true):=by
 rw [ix_at hy l 0 hl]
 unfold N.lTold
 rw [ilt_f (by omega)]
 have e:(0+(l.length:Int)).toNat=l.length:=by omega
 rw [e]
 simp [List.getD_eq_getElem?_getD]
theorem told_none {p:HItem→Bool} {l:List HItem} (hl:l.any p=false):N.lTold l (N.ix p l 0)=(mail0,false):=by
 have e:∀ (l:List HItem) (i:Int),l.any p=false→N.ix p l i = -1:=fun l=>by
  induction l with
  | nil=>intro i _; rfl
  | cons x r ih =>
   intro i h
   rw [List.any_cons,Bool.or_eq_false_iff] at h
   unfold N.ix
   rw [h.1,cond_false]; exact ih (i+1) h.2
 rw [e l 0 hl]; rfl
end Go.Ev

/- The late one of a line: lemmas. -/
namespace Go.Ev
open Go Go.Proofs
set_option maxRecDepth 100000
-- FOLD
def vTick:VCod Int where
 ok:=fun | .cref [.int k _]=>decide (k = .u64) | _=>false
 enc t:=.cref [.int .u64 t]
 dec:=fun | .cref [.int _ n]=>n | _=>0
 ed _:=⟨rfl,rfl⟩
 law w I ρ v x h hx:=by
  split at h
  ·have:=of_decide_eq_true h; subst this
   exact hx
  ·cases h
def vFnT (f:FuncId):VCod Int where
 ok:=fun | .fn g [] [.cref [.int k _]]=>cond (Nat.beq f g) (decide (k = .u64)) false | _=>false
 enc t:=.fn f [] [.cref [.int .u64 t]]
 dec:=fun | .fn _ _ [.cref [.int _ n]]=>n | _=>0
 ed _:=⟨by show cond (Nat.beq f f) true false=true; rw [Nat.beq_refl]; rfl,rfl⟩
 law w I ρ v x h hx:=by
  split at h
  ·obtain ⟨h1,h2⟩:=bcond h
   have:=Nat.eq_of_beq_eq_true h1; subst this
   have:=of_decide_eq_true h2; subst this
   exact hx
  ·cases h
def bFnT (f:FuncId):BCod Int where
 ok:=fun | [[.fn g [] [.cref [.int k _]]]]=>cond (Nat.beq f g) (decide (k = .u64)) false | _=>false
 enc t:=[[.fn f [] [.cref [.int .u64 t]]]]
 dec:=fun | [[.fn _ _ [.cref [.int _ n]]]]=>n | _=>0
 len bx h:=by
  split at h
  ·rfl
  ·cases h
 law bx h j cs cs' hj hj':=by
  split at h
  ·rename_i g k t
   obtain ⟨h1,h2⟩:=bcond h
   have:=Nat.eq_of_beq_eq_true h1; subst this
   have:=of_decide_eq_true h2; subst this
   have e:cs' = cs:=by rw [hj] at hj'; exact (Option.some.inj hj').symm
   subst e
   exact ⟨rfl,fun w J ρ k y hk hy val hv hall=>hy⟩
  ·cases h
namespace N
def lateM (t:Int) (m:HMail):Bool:=cond (m.due != 0) (ile m.due t) false
end N
def dLateF:Den:=den (aCons (vAgg cMail) (aOne vTick)) bNil (oV vBool) (fun _ _=>true) fun a _=>(N.lateM a.2 a.1,())
def dReadyT (f:FuncId):Den:=den (aCons (vAgg cItem) (aOne (vPtr 0))) (bFnT f) (oV vBool) (fun _ _=>true) fun a t=>(N.isLate t a.1,t)
def dIxT (f g:FuncId):Den:=den (aCons (vSl cItem) (aOne (vFn f 0))) (bFnT g) (oV (vInt .i64)) (fun a _=>Nat.ble a.1.length 1000) fun a t=>(N.ix (N.isLate t) a.1 0,t)
def dReadyTL (g:FuncId):Den:=den (aCons (vAgg cLine) (aOne (vFnT g))) bNil (oV (vInt .i64)) (fun a _=>Nat.ble a.1.length 1000) fun a _=>(N.ix (N.isLate a.2) a.1 0,())
def dLLate:Den:=den (aCons (vAgg cLine) (aOne (vInt .u64))) bNil (oTup (aCons (vAgg cMail) (aOne vBool))) (fun a _=>smallL a.1) fun a _=>(N.lLate a.1 a.2,())
theorem q_lateF (m:HMail) (t:Int):evFn eNone 58 ((aCons (vAgg cMail) (aOne vTick)).enc (m,t)) ([]) some =
 cond (HMail.due m != (0:Int)) (some {v:=V.bool (ile (HMail.due m) t),bx:=[]:DRes}) (some {v:=V.bool false,bx:=[]:DRes}):=by kernel_rfl
noncomputable def eReadyT:Env:=env Tryz.prog [(58,dLateF)] [] []
theorem q_readyT (x:HItem) (t:Int):evFn eReadyT 109 ((aCons (vAgg cItem) (aOne (vPtr 0))).enc (x,())) ((bFnT 58).enc t) some =
 cond (!HItem.lent x) (some {v:=V.bool (N.lateM t {id:=HMail.id (HItem.mail x),shop:=HMail.shop (HItem.mail x),key:=HMail.key (HItem.mail x),head:=List.map (fun r=>{key:=V.toStr (List.getD r 0 .undef),kind:=V.toInt (List.getD r 1 .undef),num:=V.toInt (List.getD r 2 .undef),text:=V.toStr (List.getD r 3 .undef):HPair}) (List.map (fun p=>[V.str (HPair.key p),V.int .u8 (HPair.kind p),V.int .i64 (HPair.num p),V.str (HPair.text p)]) (HMail.head (HItem.mail x))),body:=HMail.body (HItem.mail x),due:=HMail.due (HItem.mail x),hops:=HMail.hops (HItem.mail x):HMail}),bx:=[[V.fn 58 [] [V.cref [V.int .u64 t]]]]:DRes}) (some {v:=V.bool false,bx:=[[V.fn 58 [] [V.cref [V.int .u64 t]]]]:DRes}):=by kernel_rfl
noncomputable def eReadyTL:Env:=env Tryz.prog [(108,dIxT 109 58)] [] []
theorem q_readyTL (l:List HItem) (t:Int):evFn eReadyTL 56 ((aCons (vAgg cLine) (aOne (vFnT 58))).enc (l,t)) ([]) some =
 cond (Nat.ble (List.length (List.map (RCod.dec cItem) (List.map (RCod.enc cItem) l))) 1000) (some {v:=V.int .i64 (N.ix (N.isLate t) (List.map (RCod.dec cItem) (List.map (RCod.enc cItem) l)) (0:Int)),bx:=[]:DRes}) (none):=by kernel_rfl
noncomputable def eLLate:Env:={ env Tryz.prog [(56,dReadyTL 58),(55,dLTold)] [] [] with cb:=fun d=>Nat.beq d 3 }
theorem q_lLate (l:List HItem) (t:Int):evFn eLLate 19 ((aCons (vAgg cLine) (aOne (vInt .u64))).enc (l,t)) ([]) some =
 cond (Nat.ble (List.length (List.map (RCod.dec cItem) (List.map (RCod.enc cItem) l))) 1000) (cond (goodTold (List.map (RCod.dec cItem) (List.map (RCod.enc cItem) l)) (N.ix (N.isLate t) (List.map (RCod.dec cItem) (List.map (RCod.enc cItem) l)) (0:Int))) (some {v:=V.tup [V.agg [V.int .u64 (HMail.id (Prod.fst (N.lTold (List.map (RCod.dec cItem) (List.map (RCod.enc cItem) l)) (N.ix (N.isLate t) (List.map (RCod.dec cItem) (List.map (RCod.enc cItem) l)) (0:Int))))),V.str (HMail.shop (Prod.fst (N.lTold (List.map (RCod.dec cItem) (List.map (RCod.enc cItem) l)) (N.ix (N.isLate t) (List.map (RCod.dec cItem) (List.map (RCod.enc cItem) l)) (0:Int))))),V.str (HMail.key (Prod.fst (N.lTold (List.map (RCod.dec cItem) (List.map (RCod.enc cItem) l)) (N.ix (N.isLate t) (List.map (RCod.dec cItem) (List.map (RCod.enc cItem) l)) (0:Int))))),V.slc [.str,.int .u8,.int .i64,.str] (List.map (fun p=>[V.str (HPair.key p),V.int .u8 (HPair.kind p),V.int .i64 (HPair.num p),V.str (HPair.text p)]) (HMail.head (Prod.fst (N.lTold (List.map (RCod.dec cItem) (List.map (RCod.enc cItem) l)) (N.ix (N.isLate t) (List.map (RCod.dec cItem) (List.map (RCod.enc cItem) l)) (0:Int)))))),V.str (HMail.body (Prod.fst (N.lTold (List.map (RCod.dec cItem) (List.map (RCod.enc cItem) l)) (N.ix (N.isLate t) (List.map (RCod.dec cItem) (List.map (RCod.enc cItem) l)) (0:Int))))),V.int .u64 (HMail.due (Prod.fst (N.lTold (List.map (RCod.dec cItem) (List.map (RCod.enc cItem) l)) (N.ix (N.isLate t) (List.map (RCod.dec cItem) (List.map (RCod.enc cItem) l)) (0:Int))))),V.int .u8 (HMail.hops (Prod.fst (N.lTold (List.map (RCod.dec cItem) (List.map (RCod.enc cItem) l)) (N.ix (N.isLate t) (List.map (RCod.dec cItem) (List.map (RCod.enc cItem) l)) (0:Int)))))],V.bool (Prod.snd (N.lTold (List.map (RCod.dec cItem) (List.map (RCod.enc cItem) l)) (N.ix (N.isLate t) (List.map (RCod.dec cItem) (List.map (RCod.enc cItem) l)) (0:Int))))],bx:=[]:DRes}) (none)) (none):=by kernel_rfl
theorem ok_lateF:FnOk Tryz.prog 58 dLateF:=by
 refine den_okF (env_ok (TOk.nil _)) (E:=eNone) Tryz.func58 [] (by kernel_rfl) none0 fun a _ _=>?_
 obtain ⟨m,t⟩:=a
 refine (q_lateF m t).trans ?_
 show _=some (⟨.bool (N.lateM t m),[],[]⟩:DRes)
 unfold N.lateM
 cases m.due != 0<;>rfl
theorem ok_readyT:FnOk Tryz.prog 109 (dReadyT 58):=by
 refine den_okF (env_ok ((TOk.nil _).cons ok_lateF)) (E:=eReadyT) Tryz.func109 [] (by kernel_rfl) none0 fun a t _=>?_
 obtain ⟨x,⟨⟩⟩:=a
 refine (q_readyT x t).trans ?_
 show _=some (⟨.bool (N.isLate t x),[[V.fn 58 [] [.cref [.int .u64 t]]]],[]⟩:DRes)
 unfold N.isLate
 cases x.lent<;>rfl
def schIxT:SSch:={ fr:=[(0,.slc [.int .u64,.str,.str,.slc [.str,.int .u8,.int .i64,.str],.str,.int .u64,.int .u8,.bool,.bool]),(1,.fn 109 [] [.ptr 0 0 0]),(7,.int .i64),(8,.int .i64)],tab:=[(0,.var [.fn 58 [] [.cref [.int .u64]]])] }
def gIxT:List Leaf→(Ex→St→Option R)→Option R
 | [.r r,.i n,.i i,.i t],K=>cond (n==r.length) (cond (i==0) (cond (Nat.ble r.length 1000) (cond (ile 0 (N.ix (N.isLate t) (r.map cItem.dec) 0)) (K .ret { fr:=[(4,.int .i64 (N.ix (N.isLate t) (r.map cItem.dec) 0))],tab:=[(0,.var [.fn 58 [] [.cref [.int .u64 t]]])] }) (K (.exit 0) { fr:=[],tab:=[(0,.var [.fn 58 [] [.cref [.int .u64 t]]])] })) none) none) none
 | _,_=>none
noncomputable def eIxT:Env:=env Tryz.prog [(109,dReadyT 58)] [(2,loopF schIxT gIxT)] [(2,[(0,[0,1,7,8]),(1,[]),(1000,[4])])]
theorem q_IxT (l:List HItem) (t:Int):evFn eIxT 108 ((aCons (vSl cItem) (aOne (vFn 109 0))).enc (l,())) ((bFnT 58).enc t) some =
 cond ((↑(List.length (List.map (RCod.enc cItem) l)):Int)==(↑(List.length (List.map (RCod.enc cItem) l)):Int)) (cond (Nat.ble (List.length (List.map (RCod.enc cItem) l)) 1000) (cond (ile (0:Int) (N.ix (N.isLate t) (List.map (RCod.dec cItem) (List.map (RCod.enc cItem) l)) (0:Int))) (some {v:=V.int .i64 (N.ix (N.isLate t) (List.map (RCod.dec cItem) (List.map (RCod.enc cItem) l)) (0:Int)),bx:=[[V.fn 58 [] [V.cref [V.int .u64 t]]]]:DRes}) (some {v:=V.int .i64 (-1:Int),bx:=[[V.fn 58 [] [V.cref [V.int .u64 t]]]]:DRes})) (none)) (none):=by kernel_rfl
theorem q_IxTR (r:List (List V)) (n i:Int) (t:Int) (K:Ex→St→Option R):evRound eIxT 108 2 { fr:=[(0,.slc [.int .u64,.str,.str,.slc [.str,.int .u8,.int .i64,.str],.str,.int .u64,.int .u8,.bool,.bool] r),(1,.fn 109 [] [.ptr 0 0 0 0]),(7,.int .i64 n),(8,.int .i64 i)],tab:=[(0,.var [.fn 58 [] [.cref [.int .u64 t]]])] } K =
 cond (ilt i n) (cond (decide ((0:Int)≤i∧i<(↑(List.length r):Int))) (cond (N.isLate t {mail:={id:=V.toInt (List.getD (List.getD r (Int.toNat i) []) 0 V.undef),shop:=V.toStr (List.getD (List.getD r (Int.toNat i) []) 1 V.undef),key:=V.toStr (List.getD (List.getD r (Int.toNat i) []) 2 V.undef),head:=List.map (fun r=>{key:=V.toStr (List.getD r 0 .undef),kind:=V.toInt (List.getD r 1 .undef),num:=V.toInt (List.getD r 2 .undef),text:=V.toStr (List.getD r 3 .undef):HPair}) (V.toRows (List.getD (List.getD r (Int.toNat i) []) 3 V.undef)),body:=V.toStr (List.getD (List.getD r (Int.toNat i) []) 4 V.undef),due:=V.toInt (List.getD (List.getD r (Int.toNat i) []) 5 V.undef),hops:=V.toInt (List.getD (List.getD r (Int.toNat i) []) 6 V.undef):HMail},lent:=V.toBool (List.getD (List.getD r (Int.toNat i) []) 7 V.undef),again:=V.toBool (List.getD (List.getD r (Int.toNat i) []) 8 V.undef):HItem}) (K Ex.ret {fr:=[(4,V.int .i64 i)],tab:=[(0,Box.var [V.fn 58 [] [V.cref [V.int .u64 t]]])]:St}) (K Ex.normal {fr:=[(0,V.slc [.int .u64,.str,.str,.slc [.str,.int .u8,.int .i64,.str],.str,.int .u64,.int .u8,.bool,.bool] r),(1,V.fn 109 [] [V.ptr 0 0 0 0]),(7,V.int .i64 n),(8,V.int .i64 (IntKind.wrap .i64 (i+(1:Int))))],tab:=[(0,Box.var [V.fn 58 [] [V.cref [V.int .u64 t]]])]:St})) (none)) (K (Ex.exit 0) {fr:=[],tab:=[(0,Box.var [V.fn 58 [] [V.cref [V.int .u64 t]]])]:St}):=by kernel_rfl
theorem ok_IxT:FnOk Tryz.prog 108 (dIxT 109 58):=by
 refine den_okF (env_ok ((TOk.nil _).cons ok_readyT)) (E:=eIxT) Tryz.func108 [2] (by kernel_rfl) (one1 (rounds_of rfl fun l K q h=>?_)) fun a t hp=>?_
 ·unfold gIxT at h
  split at h
  ·rename_i r n i t
   have h1:=(cond_none h).1; replace h:=(cond_none h).2; have h2:=(cond_none h).1; replace h:=(cond_none h).2; have h3:=(cond_none h).1; replace h:=(cond_none h).2
   have e1:=ieq_of h1
   have e2:=ieq_of h2
   subst e1 e2
   have h3:r.length≤1000:=ble_of h3
   have main:=loop_ind (E:=eIxT) (f:=108) (id:=2) (σ:=Nat) (fun i=>{ fr:=[(0,.slc [.int .u64,.str,.str,.slc [.str,.int .u8,.int .i64,.str],.str,.int .u64,.int .u8,.bool,.bool] r),(1,.fn 109 [] [.ptr 0 0 0 0]),(7,.int .i64 r.length),(8,.int .i64 (i:Int))],tab:=[(0,.var [.fn 58 [] [.cref [.int .u64 t]]])] }) (fun i=>i≤r.length) (fun i=>r.length-i)
    (fun i K=>cond (ile 0 (N.ix (N.isLate t) ((r.drop i).map cItem.dec) i)) (K .ret { fr:=[(4,.int .i64 (N.ix (N.isLate t) ((r.drop i).map cItem.dec) i))],tab:=[(0,.var [.fn 58 [] [.cref [.int .u64 t]]])] }) (K (.exit 0) { fr:=[],tab:=[(0,.var [.fn 58 [] [.cref [.int .u64 t]]])] })) (fun i hi=>?_) 0 (Nat.zero_le _) K q (by assumption)
   ·exact main
   ·by_cases hl:i<r.length
    ·rw [drop_decI hl,ix_cons]
     cases hc:(N.isLate t) (cItem.dec (r.getD i [])) with
     | true =>
      refine .inr ⟨.ret,{ fr:=[(4,.int .i64 ((i:Int)))],tab:=[(0,.var [.fn 58 [] [.cref [.int .u64 t]]])] },by simp,fun K=>?_,fun K=>?_⟩
      ·rw [q_IxTR]
       simp (disch:=omega) only [evs,Int.toNat_natCast,fold_item,hc]
      ·simp only [cond_true]
       rw [ile_t (by omega)]; rfl
     | false =>
      refine .inl ⟨i+1,hl,by omega,fun K=>?_,fun K=>rfl⟩
      rw [q_IxTR]
      simp (disch:=omega) only [evs,Int.toNat_natCast,fold_item,hc]
      try rfl
    ·refine .inr ⟨.exit 0,{ fr:=[],tab:=[(0,.var [.fn 58 [] [.cref [.int .u64 t]]])] },by simp,fun K=>?_,fun K=>?_⟩
     ·rw [q_IxTR]
      simp (disch:=omega) only [evs]
     ·rw [List.drop_eq_nil_of_le (by omega)]; rfl
  ·cases h
 ·obtain ⟨l,⟨⟩⟩:=a
  have hp:Nat.ble l.length 1000=true:=hp
  refine (q_IxT l t).trans ?_
  simp only [List.length_map,dec_encs,hp,beq_self_eq_true,cond_true]
  show _=some (⟨.int .i64 (N.ix (N.isLate t) l 0),[[.fn 58 [] [.cref [.int .u64 t]]]],[]⟩:DRes)
  cases hc:ile 0 (N.ix (N.isLate t) l 0) with
  | true=>rfl
  | false=>rw [ix_end hc]; rfl
theorem ok_readyTL:FnOk Tryz.prog 56 (dReadyTL 58):=by
 refine den_okF (env_ok ((TOk.nil _).cons ok_IxT)) (E:=eReadyTL) Tryz.func56 [] (by kernel_rfl) none0 fun a _ h=>?_
 obtain ⟨l,t⟩:=a
 have h:Nat.ble l.length 1000=true:=h
 refine (q_readyTL l t).trans ?_
 simp only [dec_encs,h,cond_true]
 try rfl
theorem ok_lLate:FnOk Tryz.prog 19 dLLate:=by
 refine den_okF (env_ok (((TOk.nil _).cons ok_lTold).cons ok_readyTL)) (E:=eLLate) Tryz.func19 [] (by kernel_rfl) none0 fun a _ h=>?_
 obtain ⟨l,t⟩:=a
 have h:smallL l=true:=h
 obtain ⟨h1,h2,h3⟩:=smallL_of h
 refine (q_lLate l t).trans ?_
 show _=some (⟨.tup [.agg (cMail.enc (N.lLate l t).1),.bool (N.lLate l t).2],[],[]⟩:DRes)
 have hg:goodTold l (N.ix (N.isLate t) l 0)=true:=by
  unfold goodTold
  rw [h]
  rcases ix_spec (N.isLate t) l 0 (Int.le_refl _) with ⟨e,_⟩ | ⟨k,e,hk,_⟩
  ·rw [e]; rfl
  ·rw [e,ilt_f (by omega),ilt_t (by omega)]; rfl
 unfold N.lLate
 simp (disch:=omega) only [evs,dec_encs,hg,fold_enc]
end Go.Ev

/- What lines tell,by the document: lemmas; the function that writes numbers is a premise. -/
namespace Go.Ev
open Go Go.Proofs
set_option maxRecDepth 100000
-- FOLD
def mailCells (r:List V):List V:=[V.int .u64 (V.toInt (List.getD r 0 .undef)),V.str (V.toStr (List.getD r 1 .undef)),V.str (V.toStr (List.getD r 2 .undef)),V.slc [.str,.int .u8,.int .i64,.str] (V.toRows (List.getD r 3 .undef)),V.str (V.toStr (List.getD r 4 .undef)),V.int .u64 (V.toInt (List.getD r 5 .undef)),V.int .u8 (V.toInt (List.getD r 6 .undef))]
theorem fold_cells (r:List V):[V.int .u64 (V.toInt (List.getD r 0 .undef)),V.str (V.toStr (List.getD r 1 .undef)),V.str (V.toStr (List.getD r 2 .undef)),V.slc [.str,.int .u8,.int .i64,.str] (V.toRows (List.getD r 3 .undef)),V.str (V.toStr (List.getD r 4 .undef)),V.int .u64 (V.toInt (List.getD r 5 .undef)),V.int .u8 (V.toInt (List.getD r 6 .undef))]=mailCells r:=rfl
theorem cells_enc (x:HItem):mailCells (cItem.enc x)=cMail.enc x.mail:=rfl
def N.fRow (p:HItem→Bool):List (List V)→List V
 | []=>[]
 | r::rs=>cond (p (cItem.dec r)) r (N.fRow p rs)
theorem fRow_enc {p:HItem→Bool} {l:List HItem} (h:l.any p=true):mailCells (N.fRow p (l.map cItem.enc))=cMail.enc (N.lTold l (N.ix p l 0)).1∧(N.lTold l (N.ix p l 0)).2=true:=by
 have main:∀ (r pre:List HItem),l=pre++r→pre.any p=false→mailCells (N.fRow p (r.map cItem.enc))=cMail.enc (N.lTold l (N.ix p l 0)).1∧(N.lTold l (N.ix p l 0)).2=true:=fun r=>by
  induction r with
  | nil=>intro pre hl hp; rw [List.append_nil] at hl; subst hl; rw [hp] at h; cases h
  | cons x r ih =>
   intro pre hl hp
   rw [List.map_cons]
   unfold N.fRow
   rw [cItem.de x]
   cases hx:p x with
   | true =>
    have:=told_at (r:=r) hx hp
    rw [← hl] at this
    rw [this]
    exact ⟨cells_enc x,rfl⟩
   | false =>
    rw [cond_false]
    exact ih (pre++[x]) (by rw [hl]; simp) (by rw [List.any_append,hp,List.any_cons,hx]; rfl)
 exact main l [] rfl rfl
def N.isLateR (t:Int) (x:HItem):Bool:=cond x.lent false (cond (ilt 0 x.mail.due) (ile x.mail.due t) false)
theorem isLateR_eq {t:Int} {x:HItem} (h:0≤x.mail.due):N.isLateR t x=N.isLate t x:=by
 unfold N.isLateR N.isLate
 by_cases h0:x.mail.due=0
 ·rw [h0]; rfl
 ·rw [ilt_t (by omega),ine_t h0]
theorem lateR_ix {t:Int}:∀ (l:List HItem) (i:Int),allM N.fineM l=true→N.ix (N.isLateR t) l i=N.ix (N.isLate t) l i
 | [],_,_=>rfl
 | x::r,i,h=>by
  have h:(N.fineM x.mail && r.all fun x=>N.fineM x.mail)=true:=h
  rw [Bool.and_eq_true] at h
  unfold N.ix
  rw [isLateR_eq (fine_due h.1),lateR_ix r (i+1) h.2]
def dRFirst:Den:=den (aOne (vSl cItem)) bNil (oTup (aCons (vAgg cMail) (aOne vBool))) (fun l _=>Nat.ble l.length 1000) fun l _=>(N.lFirst l,())
def schRFirst:SSch:={ fr:=[(2,.ptr 10000 0 0),(6,.slc [.int .u64,.str,.str,.slc [.str,.int .u8,.int .i64,.str],.str,.int .u64,.int .u8,.bool,.bool]),(7,.int .i64),(8,.int .i64)],tab:=[(10000,.var [.int .u64,.str,.str,.slc [.str,.int .u8,.int .i64,.str],.str,.int .u64,.int .u8])] }
def gRFirst:List Leaf→(Ex→St→Option R)→Option R
 | [.r r,.i n,.i i,.i f0,.s f1,.s f2,.r f3,.s f4,.i f5,.i f6],K=>cond (n==r.length) (cond (i==0) (cond (Nat.ble r.length 1000) (cond ((r.map cItem.dec).any N.isReady) (K .ret { fr:=[(2,.ptr 10000 0 0 0),(3,.bool true)],tab:=[(10000,.var (mailCells (N.fRow N.isReady r)))] }) (K (.exit 0) { fr:=[(2,.ptr 10000 0 0 0)],tab:=[(10000,.var [.int .u64 f0,.str f1,.str f2,.slc [.str,.int .u8,.int .i64,.str] f3,.str f4,.int .u64 f5,.int .u8 f6])] })) none) none) none
 | _,_=>none
noncomputable def eRFirst:Env:={ env Tryz.prog [] [(2,loopF schRFirst gRFirst)] [(2,[(0,[2,6,7,8]),(1,[2]),(1000,[2,3])])] with fz:=true }
theorem q_rFirst (l:List HItem):evFn eRFirst 68 ((aOne (vSl cItem)).enc l) ([]) some =
 cond ((↑(List.length (List.map (RCod.enc cItem) l)):Int)==(↑(List.length (List.map (RCod.enc cItem) l)):Int)) (cond (Nat.ble (List.length (List.map (RCod.enc cItem) l)) 1000) (cond (List.any (List.map (RCod.dec cItem) (List.map (RCod.enc cItem) l)) N.isReady) (some {v:=V.tup [V.agg [V.int .u64 (V.toInt (List.getD (N.fRow N.isReady (List.map (RCod.enc cItem) l)) 0 V.undef)),V.str (V.toStr (List.getD (N.fRow N.isReady (List.map (RCod.enc cItem) l)) 1 V.undef)),V.str (V.toStr (List.getD (N.fRow N.isReady (List.map (RCod.enc cItem) l)) 2 V.undef)),V.slc [.str,.int .u8,.int .i64,.str] (V.toRows (List.getD (N.fRow N.isReady (List.map (RCod.enc cItem) l)) 3 V.undef)),V.str (V.toStr (List.getD (N.fRow N.isReady (List.map (RCod.enc cItem) l)) 4 V.undef)),V.int .u64 (V.toInt (List.getD (N.fRow N.isReady (List.map (RCod.enc cItem) l)) 5 V.undef)),V.int .u8 (V.toInt (List.getD (N.fRow N.isReady (List.map (RCod.enc cItem) l)) 6 V.undef))],V.bool true],bx:=[]:DRes}) (some {v:=V.tup [V.agg [V.int .u64 (0:Int),V.str [],V.str [],V.slc [.str,.int .u8,.int .i64,.str] [],V.str [],V.int .u64 (0:Int),V.int .u8 (0:Int)],V.bool false],bx:=[]:DRes})) (none)) (none):=by kernel_rfl
theorem q_rFirstR (r:List (List V)) (n i:Int) (f0:Int) (f1 f2:Bytes) (f3:List (List V)) (f4:Bytes) (f5 f6:Int) (K:Ex→St→Option R):evRound eRFirst 68 2 { fr:=[(2,.ptr 10000 0 0 0),(6,.slc [.int .u64,.str,.str,.slc [.str,.int .u8,.int .i64,.str],.str,.int .u64,.int .u8,.bool,.bool] r),(7,.int .i64 n),(8,.int .i64 i)],tab:=[(10000,.var [.int .u64 f0,.str f1,.str f2,.slc [.str,.int .u8,.int .i64,.str] f3,.str f4,.int .u64 f5,.int .u8 f6])] } K =
 cond (ilt i n) (cond (decide ((0:Int)≤i∧i<(↑(List.length r):Int))) (cond (!V.toBool (List.getD (List.getD r (Int.toNat i) []) 7 V.undef)) (K Ex.ret {fr:=[(2,V.ptr 10000 0 0 0),(3,V.bool true)],tab:=[(10000,Box.var [V.int .u64 (V.toInt (List.getD (List.getD r (Int.toNat i) []) 0 V.undef)),V.str (V.toStr (List.getD (List.getD r (Int.toNat i) []) 1 V.undef)),V.str (V.toStr (List.getD (List.getD r (Int.toNat i) []) 2 V.undef)),V.slc [.str,.int .u8,.int .i64,.str] (V.toRows (List.getD (List.getD r (Int.toNat i) []) 3 V.undef)),V.str (V.toStr (List.getD (List.getD r (Int.toNat i) []) 4 V.undef)),V.int .u64 (V.toInt (List.getD (List.getD r (Int.toNat i) []) 5 V.undef)),V.int .u8 (V.toInt (List.getD (List.getD r (Int.toNat i) []) 6 V.undef))])]:St}) (K Ex.normal {fr:=[(2,V.ptr 10000 0 0 0),(6,V.slc [.int .u64,.str,.str,.slc [.str,.int .u8,.int .i64,.str],.str,.int .u64,.int .u8,.bool,.bool] r),(7,V.int .i64 n),(8,V.int .i64 (IntKind.wrap .i64 (i+(1:Int))))],tab:=[(10000,Box.var [V.int .u64 f0,V.str f1,V.str f2,V.slc [.str,.int .u8,.int .i64,.str] f3,V.str f4,V.int .u64 f5,V.int .u8 f6])]:St})) (none)) (K (Ex.exit 0) {fr:=[(2,V.ptr 10000 0 0 0)],tab:=[(10000,Box.var [V.int .u64 f0,V.str f1,V.str f2,V.slc [.str,.int .u8,.int .i64,.str] f3,V.str f4,V.int .u64 f5,V.int .u8 f6])]:St}):=by kernel_rfl
theorem ok_rFirst_2:RoundsOk eRFirst 68 2:=by
 refine rounds_of rfl fun l K q h=>?_
 unfold gRFirst at h
 split at h
 ·rename_i r n i f0 f1 f2 f3 f4 f5 f6
  have h1:=(cond_none h).1; replace h:=(cond_none h).2; have h2:=(cond_none h).1; replace h:=(cond_none h).2; have h3:=(cond_none h).1; replace h:=(cond_none h).2
  have e1:=ieq_of h1
  have e2:=ieq_of h2
  subst e1 e2
  have h3:r.length≤1000:=ble_of h3
  have main:=range_ind (E:=eRFirst) (f:=68) (id:=2) (A:=Unit) r (fun _ i=>{ fr:=[(2,.ptr 10000 0 0 0),(6,.slc [.int .u64,.str,.str,.slc [.str,.int .u8,.int .i64,.str],.str,.int .u64,.int .u8,.bool,.bool] r),(7,.int .i64 r.length),(8,.int .i64 i)],tab:=[(10000,.var [.int .u64 f0,.str f1,.str f2,.slc [.str,.int .u8,.int .i64,.str] f3,.str f4,.int .u64 f5,.int .u8 f6])] }) (fun _ _=>True)
   (fun _ rows K=>cond ((rows.map cItem.dec).any N.isReady) (K .ret { fr:=[(2,.ptr 10000 0 0 0),(3,.bool true)],tab:=[(10000,.var (mailCells (N.fRow N.isReady rows)))] }) (K (.exit 0) { fr:=[(2,.ptr 10000 0 0 0)],tab:=[(10000,.var [.int .u64 f0,.str f1,.str f2,.slc [.str,.int .u8,.int .i64,.str] f3,.str f4,.int .u64 f5,.int .u8 f6])] })) (fun a i ha hi=>?_) (fun a ha=>?_) () 0 (Int.le_refl _) (by omega) trivial K q (by assumption)
  ·exact main
  ·rw [List.map_cons,List.any_cons]
   have hl:V.toBool (List.getD (List.getD r i []) 7 V.undef)=(cItem.dec (r.getD i [])).lent:=rfl
   have hq:=fun K=>q_rFirstR r r.length i f0 f1 f2 f3 f4 f5 f6 K
   have t1:ilt (i:Int) r.length=true:=ilt_t (by omega)
   have t2:decide ((0:Int)≤i∧(i:Int)<r.length)=true:=decide_eq_true (by omega)
   have t3:IntKind.wrap .i64 ((i:Int)+1)=(i:Int)+1:=wr_i64 (by omega) (by omega)
   simp only [Int.toNat_natCast,fold_cells] at hq
   simp only [hl,t1,t2,t3,cond_true] at hq
   cases hc:N.isReady (cItem.dec (r.getD i [])) with
   | true =>
    refine .inr ⟨.ret,{ fr:=[(2,.ptr 10000 0 0 0),(3,.bool true)],tab:=[(10000,.var (mailCells (r.getD i [])))] },by simp,fun K=>?_,fun K=>by rw [Bool.true_or]; show K _ { fr:=_,tab:=[(10000,.var (mailCells (cond (N.isReady (cItem.dec (r.getD i []))) _ _)))] }=_; rw [hc]; rfl⟩
    rw [hq]
    have hc:cond (cItem.dec (r.getD i [])).lent false true=true:=hc
    cases hL:(cItem.dec (r.getD i [])).lent with
    | true=>rw [hL] at hc; cases hc
    | false=>rfl
   | false =>
    refine .inl ⟨(),trivial,fun K=>?_,fun K=>by rw [Bool.false_or]; simp only [N.fRow,hc,cond_false]⟩
    rw [hq]
    have hc:cond (cItem.dec (r.getD i [])).lent false true=false:=hc
    cases hL:(cItem.dec (r.getD i [])).lent with
    | true=>rfl
    | false=>rw [hL] at hc; cases hc
  ·refine ⟨.exit 0,_,by simp,fun K=>?_,fun K=>rfl⟩
   rw [q_rFirstR]
   simp (disch:=omega) only [evs]
 ·cases h
theorem ok_rFirst:FnOk Tryz.prog 68 dRFirst:=by
 refine den_okF (env_ok (TOk.nil _)) (E:=eRFirst) Tryz.func68 [2] (by kernel_rfl) (one1 ok_rFirst_2) fun l _ hp=>?_
 have hp:Nat.ble l.length 1000=true:=hp
 refine (q_rFirst l).trans ?_
 show _=some (⟨.tup [.agg (cMail.enc (N.lTold l (N.ix N.isReady l 0)).1),.bool (N.lTold l (N.ix N.isReady l 0)).2],[],[]⟩:DRes)
 simp only [List.length_map,dec_encs,hp,beq_self_eq_true,cond_true]
 cases hc:l.any N.isReady with
 | true =>
  obtain ⟨h1,h2⟩:=fRow_enc hc
  simp only [fold_cells,h1,h2,cond_true]
 | false =>
  rw [told_none hc]
  try rfl
def dRLateI:Den:=den (aCons (vSl cItem) (aOne (vInt .u64))) bNil (oTup (aCons (vAgg cMail) (aOne vBool))) (fun a _=>Nat.ble a.1.length 1000) fun a _=>(N.lTold a.1 (N.ix (N.isLateR a.2) a.1 0),())
def schRLateI:SSch:={ fr:=[(1,.int .u64),(4,.ptr 10000 0 0),(8,.slc [.int .u64,.str,.str,.slc [.str,.int .u8,.int .i64,.str],.str,.int .u64,.int .u8,.bool,.bool]),(9,.int .i64),(10,.int .i64)],tab:=[(10000,.var [.int .u64,.str,.str,.slc [.str,.int .u8,.int .i64,.str],.str,.int .u64,.int .u8])] }
def gRLateI:List Leaf→(Ex→St→Option R)→Option R
 | [.i t,.r r,.i n,.i i,.i f0,.s f1,.s f2,.r f3,.s f4,.i f5,.i f6],K=>cond (n==r.length) (cond (i==0) (cond (Nat.ble r.length 1000) (cond ((r.map cItem.dec).any (N.isLateR t)) (K .ret { fr:=[(4,.ptr 10000 0 0 0),(5,.bool true)],tab:=[(10000,.var (mailCells (N.fRow (N.isLateR t) r)))] }) (K (.exit 0) { fr:=[(4,.ptr 10000 0 0 0)],tab:=[(10000,.var [.int .u64 f0,.str f1,.str f2,.slc [.str,.int .u8,.int .i64,.str] f3,.str f4,.int .u64 f5,.int .u8 f6])] })) none) none) none
 | _,_=>none
noncomputable def eRLateI:Env:={ env Tryz.prog [] [(2,loopF schRLateI gRLateI)] [(2,[(0,[1,4,8,9,10]),(1,[4]),(1000,[4,5])])] with fz:=true }
theorem q_rLateI (l:List HItem) (t:Int):evFn eRLateI 69 ((aCons (vSl cItem) (aOne (vInt .u64))).enc (l,t)) ([]) some =
 cond ((↑(List.length (List.map (RCod.enc cItem) l)):Int)==(↑(List.length (List.map (RCod.enc cItem) l)):Int)) (cond (Nat.ble (List.length (List.map (RCod.enc cItem) l)) 1000) (cond (List.any (List.map (RCod.dec cItem) (List.map (RCod.enc cItem) l)) (N.isLateR t)) (some {v:=V.tup [V.agg [V.int .u64 (V.toInt (List.getD (N.fRow (N.isLateR t) (List.map (RCod.enc cItem) l)) 0 V.undef)),V.str (V.toStr (List.getD (N.fRow (N.isLateR t) (List.map (RCod.enc cItem) l)) 1 V.undef)),V.str (V.toStr (List.getD (N.fRow (N.isLateR t) (List.map (RCod.enc cItem) l)) 2 V.undef)),V.slc [.str,.int .u8,.int .i64,.str] (V.toRows (List.getD (N.fRow (N.isLateR t) (List.map (RCod.enc cItem) l)) 3 V.undef)),V.str (V.toStr (List.getD (N.fRow (N.isLateR t) (List.map (RCod.enc cItem) l)) 4 V.undef)),V.int .u64 (V.toInt (List.getD (N.fRow (N.isLateR t) (List.map (RCod.enc cItem) l)) 5 V.undef)),V.int .u8 (V.toInt (List.getD (N.fRow (N.isLateR t) (List.map (RCod.enc cItem) l)) 6 V.undef))],V.bool true],bx:=[]:DRes}) (some {v:=V.tup [V.agg [V.int .u64 (0:Int),V.str [],V.str [],V.slc [.str,.int .u8,.int .i64,.str] [],V.str [],V.int .u64 (0:Int),V.int .u8 (0:Int)],V.bool false],bx:=[]:DRes})) (none)) (none):=by kernel_rfl
theorem q_rLateIR (t:Int) (r:List (List V)) (n i:Int) (f0:Int) (f1 f2:Bytes) (f3:List (List V)) (f4:Bytes) (f5 f6:Int) (K:Ex→St→Option R):evRound eRLateI 69 2 { fr:=[(1,.int .u64 t),(4,.ptr 10000 0 0 0),(8,.slc [.int .u64,.str,.str,.slc [.str,.int .u8,.int .i64,.str],.str,.int .u64,.int .u8,.bool,.bool] r),(9,.int .i64 n),(10,.int .i64 i)],tab:=[(10000,.var [.int .u64 f0,.str f1,.str f2,.slc [.str,.int .u8,.int .i64,.str] f3,.str f4,.int .u64 f5,.int .u8 f6])] } K =
 cond (ilt i n) (cond (decide ((0:Int)≤i∧i<(↑(List.length r):Int))) (cond (!V.toBool (List.getD (List.getD r (Int.toNat i) []) 7 V.undef)) (cond (ilt (0:Int) (V.toInt (List.getD (List.getD r (Int.toNat i) []) 5 V.undef))) (cond (ile (V.toInt (List.getD (List.getD r (Int.toNat i) []) 5 V.undef)) t) (K Ex.ret {fr:=[(4,V.ptr 10000 0 0 0),(5,V.bool true)],tab:=[(10000,Box.var [V.int .u64 (V.toInt (List.getD (List.getD r (Int.toNat i) []) 0 V.undef)),V.str (V.toStr (List.getD (List.getD r (Int.toNat i) []) 1 V.undef)),V.str (V.toStr (List.getD (List.getD r (Int.toNat i) []) 2 V.undef)),V.slc [.str,.int .u8,.int .i64,.str] (V.toRows (List.getD (List.getD r (Int.toNat i) []) 3 V.undef)),V.str (V.toStr (List.getD (List.getD r (Int.toNat i) []) 4 V.undef)),V.int .u64 (V.toInt (List.getD (List.getD r (Int.toNat i) []) 5 V.undef)),V.int .u8 (V.toInt (List.getD (List.getD r (Int.toNat i) []) 6 V.undef))])]:St}) (K Ex.normal {fr:=[(1,V.int .u64 t),(4,V.ptr 10000 0 0 0),(8,V.slc [.int .u64,.str,.str,.slc [.str,.int .u8,.int .i64,.str],.str,.int .u64,.int .u8,.bool,.bool] r),(9,V.int .i64 n),(10,V.int .i64 (IntKind.wrap .i64 (i+(1:Int))))],tab:=[(10000,Box.var [V.int .u64 f0,V.str f1,V.str f2,V.slc [.str,.int .u8,.int .i64,.str] f3,V.str f4,V.int .u64 f5,V.int .u8 f6])]:St})) (K Ex.normal {fr:=[(1,V.int .u64 t),(4,V.ptr 10000 0 0 0),(8,V.slc [.int .u64,.str,.str,.slc [.str,.int .u8,.int .i64,.str],.str,.int .u64,.int .u8,.bool,.bool] r),(9,V.int .i64 n),(10,V.int .i64 (IntKind.wrap .i64 (i+(1:Int))))],tab:=[(10000,Box.var [V.int .u64 f0,V.str f1,V.str f2,V.slc [.str,.int .u8,.int .i64,.str] f3,V.str f4,V.int .u64 f5,V.int .u8 f6])]:St})) (K Ex.normal {fr:=[(1,V.int .u64 t),(4,V.ptr 10000 0 0 0),(8,V.slc [.int .u64,.str,.str,.slc [.str,.int .u8,.int .i64,.str],.str,.int .u64,.int .u8,.bool,.bool] r),(9,V.int .i64 n),(10,V.int .i64 (IntKind.wrap .i64 (i+(1:Int))))],tab:=[(10000,Box.var [V.int .u64 f0,V.str f1,V.str f2,V.slc [.str,.int .u8,.int .i64,.str] f3,V.str f4,V.int .u64 f5,V.int .u8 f6])]:St})) (none)) (K (Ex.exit 0) {fr:=[(4,V.ptr 10000 0 0 0)],tab:=[(10000,Box.var [V.int .u64 f0,V.str f1,V.str f2,V.slc [.str,.int .u8,.int .i64,.str] f3,V.str f4,V.int .u64 f5,V.int .u8 f6])]:St}):=by kernel_rfl
theorem ok_rLateI_2:RoundsOk eRLateI 69 2:=by
 refine rounds_of rfl fun l K q h=>?_
 unfold gRLateI at h
 split at h
 ·rename_i t r n i f0 f1 f2 f3 f4 f5 f6
  have h1:=(cond_none h).1; replace h:=(cond_none h).2; have h2:=(cond_none h).1; replace h:=(cond_none h).2; have h3:=(cond_none h).1; replace h:=(cond_none h).2
  have e1:=ieq_of h1
  have e2:=ieq_of h2
  subst e1 e2
  have h3:r.length≤1000:=ble_of h3
  have main:=range_ind (E:=eRLateI) (f:=69) (id:=2) (A:=Unit) r (fun _ i=>{ fr:=[(1,.int .u64 t),(4,.ptr 10000 0 0 0),(8,.slc [.int .u64,.str,.str,.slc [.str,.int .u8,.int .i64,.str],.str,.int .u64,.int .u8,.bool,.bool] r),(9,.int .i64 r.length),(10,.int .i64 i)],tab:=[(10000,.var [.int .u64 f0,.str f1,.str f2,.slc [.str,.int .u8,.int .i64,.str] f3,.str f4,.int .u64 f5,.int .u8 f6])] }) (fun _ _=>True)
   (fun _ rows K=>cond ((rows.map cItem.dec).any (N.isLateR t)) (K .ret { fr:=[(4,.ptr 10000 0 0 0),(5,.bool true)],tab:=[(10000,.var (mailCells (N.fRow (N.isLateR t) rows)))] }) (K (.exit 0) { fr:=[(4,.ptr 10000 0 0 0)],tab:=[(10000,.var [.int .u64 f0,.str f1,.str f2,.slc [.str,.int .u8,.int .i64,.str] f3,.str f4,.int .u64 f5,.int .u8 f6])] })) (fun a i ha hi=>?_) (fun a ha=>?_) () 0 (Int.le_refl _) (by omega) trivial K q (by assumption)
  ·exact main
  ·rw [List.map_cons,List.any_cons]
   have hl:V.toBool (List.getD (List.getD r i []) 7 V.undef)=(cItem.dec (r.getD i [])).lent:=rfl
   have hd:V.toInt (List.getD (List.getD r i []) 5 V.undef)=(cItem.dec (r.getD i [])).mail.due:=rfl
   have hq:=fun K=>q_rLateIR t r r.length i f0 f1 f2 f3 f4 f5 f6 K
   have t1:ilt (i:Int) r.length=true:=ilt_t (by omega)
   have t2:decide ((0:Int)≤i∧(i:Int)<r.length)=true:=decide_eq_true (by omega)
   have t3:IntKind.wrap .i64 ((i:Int)+1)=(i:Int)+1:=wr_i64 (by omega) (by omega)
   simp only [Int.toNat_natCast,fold_cells] at hq
   simp only [hl,hd,t1,t2,t3,cond_true] at hq
   cases hc:(N.isLateR t) (cItem.dec (r.getD i [])) with
   | true =>
    refine .inr ⟨.ret,{ fr:=[(4,.ptr 10000 0 0 0),(5,.bool true)],tab:=[(10000,.var (mailCells (r.getD i [])))] },by simp,fun K=>?_,fun K=>by rw [Bool.true_or]; show K _ { fr:=_,tab:=[(10000,.var (mailCells (cond ((N.isLateR t) (cItem.dec (r.getD i []))) _ _)))] }=_; rw [hc]; rfl⟩
    rw [hq]
    have hc:cond (cItem.dec (r.getD i [])).lent false (cond (ilt 0 (cItem.dec (r.getD i [])).mail.due) (ile (cItem.dec (r.getD i [])).mail.due t) false)=true:=hc
    generalize (cItem.dec (r.getD i [])).lent=b1 at *
    generalize ilt 0 (cItem.dec (r.getD i [])).mail.due=b2 at *
    generalize ile (cItem.dec (r.getD i [])).mail.due t=b3 at *
    cases b1<;>cases b2<;>cases b3<;>first | rfl | exact absurd hc (by decide)
   | false =>
    refine .inl ⟨(),trivial,fun K=>?_,fun K=>by rw [Bool.false_or]; simp only [N.fRow,hc,cond_false]⟩
    rw [hq]
    have hc:cond (cItem.dec (r.getD i [])).lent false (cond (ilt 0 (cItem.dec (r.getD i [])).mail.due) (ile (cItem.dec (r.getD i [])).mail.due t) false)=false:=hc
    generalize (cItem.dec (r.getD i [])).lent=b1 at *
    generalize ilt 0 (cItem.dec (r.getD i [])).mail.due=b2 at *
    generalize ile (cItem.dec (r.getD i [])).mail.due t=b3 at *
    cases b1<;>cases b2<;>cases b3<;>first | rfl | exact absurd hc (by decide)
  ·refine ⟨.exit 0,_,by simp,fun K=>?_,fun K=>rfl⟩
   rw [q_rLateIR]
   simp (disch:=omega) only [evs]
 ·cases h
theorem ok_rLateI:FnOk Tryz.prog 69 dRLateI:=by
 refine den_okF (env_ok (TOk.nil _)) (E:=eRLateI) Tryz.func69 [2] (by kernel_rfl) (one1 ok_rLateI_2) fun l _ hp=>?_
 obtain ⟨l,t⟩:=l
 have hp:Nat.ble l.length 1000=true:=hp
 refine (q_rLateI l t).trans ?_
 show _=some (⟨.tup [.agg (cMail.enc (N.lTold l (N.ix (N.isLateR t) l 0)).1),.bool (N.lTold l (N.ix (N.isLateR t) l 0)).2],[],[]⟩:DRes)
 simp only [List.length_map,dec_encs,hp,beq_self_eq_true,cond_true]
 cases hc:l.any (N.isLateR t) with
 | true =>
  obtain ⟨h1,h2⟩:=fRow_enc hc
  simp only [fold_cells,h1,h2,cond_true]
 | false =>
  rw [told_none hc]
  try rfl
def dRSizeI:Den:=den (aOne (vSl cItem)) bNil (oV (vInt .i64)) (fun l _=>cond (Nat.ble l.length 1000) (allM N.fineM l) false) fun l _=>(N.lSize l,())
def schRSizeI:SSch:={ fr:=[(3,.int .i64),(6,.slc [.int .u64,.str,.str,.slc [.str,.int .u8,.int .i64,.str],.str,.int .u64,.int .u8,.bool,.bool]),(7,.int .i64),(8,.int .i64)],tab:=[] }
def gRSizeI:List Leaf→(Ex→St→Option R)→Option R
 | [.i a,.r r,.i n,.i i],K=>cond (n==r.length) (cond (i==0) (cond (a==0) (cond (Nat.ble r.length 1000) (cond (allM N.fineM (r.map cItem.dec))
   (K (.exit 0) { fr:=[(3,.int .i64 (N.lSize (r.map cItem.dec)))],tab:=[] }) none) none) none) none) none
 | _,_=>none
noncomputable def eRSizeI:Env:=env Tryz.prog [(115,dMailSizeP)] [(3,loopF schRSizeI gRSizeI)] [(3,[(0,[3,6,7,8]),(1,[3]),(1000,[2])])]
theorem q_rSizeI (l:List HItem):evFn eRSizeI 72 ((aOne (vSl cItem)).enc l) ([]) some =
 cond ((↑(List.length (List.map (RCod.enc cItem) l)):Int)==(↑(List.length (List.map (RCod.enc cItem) l)):Int)) (cond (Nat.ble (List.length (List.map (RCod.enc cItem) l)) 1000) (cond (List.all (List.map (RCod.dec cItem) (List.map (RCod.enc cItem) l)) fun x=>N.fineM (HItem.mail x)) (some {v:=V.int .i64 (N.lSize (List.map (RCod.dec cItem) (List.map (RCod.enc cItem) l))),bx:=[]:DRes}) (none)) (none)) (none):=by kernel_rfl
theorem q_rSizeIR (a:Int) (r:List (List V)) (n i:Int) (K:Ex→St→Option R):evRound eRSizeI 72 3 { fr:=[(3,.int .i64 a),(6,.slc [.int .u64,.str,.str,.slc [.str,.int .u8,.int .i64,.str],.str,.int .u64,.int .u8,.bool,.bool] r),(7,.int .i64 n),(8,.int .i64 i)],tab:=[] } K =
 cond (ilt i n) (cond (decide ((0:Int)≤i∧i<(↑(List.length r):Int))) (cond (bif N.okM {id:=V.toInt (List.getD (List.getD r (Int.toNat i) []) 0 V.undef),shop:=V.toStr (List.getD (List.getD r (Int.toNat i) []) 1 V.undef),key:=V.toStr (List.getD (List.getD r (Int.toNat i) []) 2 V.undef),head:=List.map (fun r=>{key:=V.toStr (List.getD r 0 .undef),kind:=V.toInt (List.getD r 1 .undef),num:=V.toInt (List.getD r 2 .undef),text:=V.toStr (List.getD r 3 .undef):HPair}) (V.toRows (List.getD (List.getD r (Int.toNat i) []) 3 V.undef)),body:=V.toStr (List.getD (List.getD r (Int.toNat i) []) 4 V.undef),due:=V.toInt (List.getD (List.getD r (Int.toNat i) []) 5 V.undef),hops:=V.toInt (List.getD (List.getD r (Int.toNat i) []) 6 V.undef):HMail} then List.all (List.map (fun r=>{key:=V.toStr (List.getD r 0 .undef),kind:=V.toInt (List.getD r 1 .undef),num:=V.toInt (List.getD r 2 .undef),text:=V.toStr (List.getD r 3 .undef):HPair}) (V.toRows (List.getD (List.getD r (Int.toNat i) []) 3 V.undef))) N.okP' else false) (K Ex.normal {fr:=[(3,V.int .i64 (IntKind.wrap .i64 (a+N.mailSize {id:=V.toInt (List.getD (List.getD r (Int.toNat i) []) 0 V.undef),shop:=V.toStr (List.getD (List.getD r (Int.toNat i) []) 1 V.undef),key:=V.toStr (List.getD (List.getD r (Int.toNat i) []) 2 V.undef),head:=List.map (fun r=>{key:=V.toStr (List.getD r 0 .undef),kind:=V.toInt (List.getD r 1 .undef),num:=V.toInt (List.getD r 2 .undef),text:=V.toStr (List.getD r 3 .undef):HPair}) (V.toRows (List.getD (List.getD r (Int.toNat i) []) 3 V.undef)),body:=V.toStr (List.getD (List.getD r (Int.toNat i) []) 4 V.undef),due:=V.toInt (List.getD (List.getD r (Int.toNat i) []) 5 V.undef),hops:=V.toInt (List.getD (List.getD r (Int.toNat i) []) 6 V.undef):HMail}))),(6,V.slc [.int .u64,.str,.str,.slc [.str,.int .u8,.int .i64,.str],.str,.int .u64,.int .u8,.bool,.bool] r),(7,V.int .i64 n),(8,V.int .i64 (IntKind.wrap .i64 (i+(1:Int))))],tab:=[]:St}) (none)) (none)) (K (Ex.exit 0) {fr:=[(3,V.int .i64 a)],tab:=[]:St}):=by kernel_rfl
theorem ok_rSizeI:FnOk Tryz.prog 72 dRSizeI:=by
 refine den_okF (env_ok ((TOk.nil _).cons ok_refMailSize)) (E:=eRSizeI) Tryz.func72 [3] (by kernel_rfl) (one1 (rounds_of rfl fun l K q h=>?_)) fun l _ hp=>?_
 ·unfold gRSizeI at h
  split at h
  ·rename_i a r n i
   have h1:=(cond_none h).1; replace h:=(cond_none h).2; have h2:=(cond_none h).1; replace h:=(cond_none h).2; have h3:=(cond_none h).1; replace h:=(cond_none h).2; have h4:=(cond_none h).1; replace h:=(cond_none h).2; have h5:=(cond_none h).1; replace h:=(cond_none h).2
   have e1:=ieq_of h1
   have e2:=ieq_of h2
   have e3:=ieq_of h3
   subst e1 e2 e3
   have h4:r.length≤1000:=ble_of h4
   have main:=range_ind (E:=eRSizeI) (f:=72) (id:=3) (A:=Int) r (fun a i=>{ fr:=[(3,.int .i64 a),(6,.slc [.int .u64,.str,.str,.slc [.str,.int .u8,.int .i64,.str],.str,.int .u64,.int .u8,.bool,.bool] r),(7,.int .i64 r.length),(8,.int .i64 i)],tab:=[] }) (fun a i=>0≤a∧a≤1570*i)
    (fun a rows K=>K (.exit 0) { fr:=[(3,.int .i64 (a+N.lSize (rows.map cItem.dec)))],tab:=[] }) (fun a i ha hi=>?_) (fun a _=>?_) 0 0 (Int.le_refl _) (by omega) ⟨Int.le_refl _,by decide⟩ K q (by rw [Int.zero_add]; exact h)
   ·exact main
   ·have hb:=mailSize_le (cItem.dec (r.getD i [])).mail
    have hm:cMail.dec (r.getD i [])=(cItem.dec (r.getD i [])).mail:=rfl
    have hs:N.fineM (cItem.dec (r.getD i [])).mail=true:=List.all_eq_true.1 h5 _ (List.mem_map_of_mem (by rw [List.getD_eq_getElem?_getD,List.getElem?_eq_getElem hi]; exact List.getElem_mem hi))
    refine .inl ⟨a+N.mailSize (cItem.dec (r.getD i [])).mail,⟨by omega,by omega⟩,fun K=>?_,fun K=>?_⟩
    ·rw [q_rSizeIR]
     simp (disch:=omega) only [evs,Int.toNat_natCast,fold_mail,hm]
     show cond (N.fineM (cItem.dec (r.getD i [])).mail) _ _=_
     rw [hs]; rfl
    ·show K _ { fr:=[(3,.int .i64 (a+(N.mailSize (cItem.dec (r.getD i [])).mail+N.lSize ((r.drop (i+1)).map cItem.dec))))],tab:=[] }=_
     rw [Int.add_assoc]
   ·refine ⟨.exit 0,_,by simp,fun K=>?_,fun K=>rfl⟩
    rw [q_rSizeIR]
    simp (disch:=omega) only [evs,List.map_nil]
    show _=K _ { fr:=[(3,.int .i64 (a+0))],tab:=[] }
    rw [Int.add_zero]
  ·cases h
 ·obtain ⟨h1,h2⟩:=bcond hp
  refine (q_rSizeI l).trans ?_
  show _=some (⟨.int .i64 (N.lSize l),[],[]⟩:DRes)
  have h2:_=true:=h2
  unfold allM at h2
  simp only [List.length_map,dec_encs,beq_self_eq_true,cond_true,h1,h2]
def dLSizeI:Den:=den (aOne (vAgg cLine)) bNil (oV (vInt .i64)) (fun l _=>cond (Nat.ble l.length 1000) (allM N.okM l) false) fun l _=>(N.lSize l,())
def schLSizeI:SSch:={ fr:=[(3,.int .i64),(7,.slc [.int .u64,.str,.str,.slc [.str,.int .u8,.int .i64,.str],.str,.int .u64,.int .u8,.bool,.bool]),(8,.int .i64),(9,.int .i64)],tab:=[] }
def gLSizeI:List Leaf→(Ex→St→Option R)→Option R
 | [.i a,.r r,.i n,.i i],K=>cond (n==r.length) (cond (i==0) (cond (a==0) (cond (Nat.ble r.length 1000) (cond (allM N.okM (r.map cItem.dec))
   (K (.exit 0) { fr:=[(3,.int .i64 (N.lSize (r.map cItem.dec)))],tab:=[] }) none) none) none) none) none
 | _,_=>none
noncomputable def eLSizeI:Env:=env Tryz.prog [(114,dMailSize)] [(3,loopF schLSizeI gLSizeI)] [(3,[(0,[3,7,8,9]),(1,[3]),(1000,[2])])]
theorem q_lSizeI (l:List HItem):evFn eLSizeI 71 ((aOne (vAgg cLine)).enc l) ([]) some =
 cond ((↑(List.length (List.map (RCod.enc cItem) l)):Int)==(↑(List.length (List.map (RCod.enc cItem) l)):Int)) (cond (Nat.ble (List.length (List.map (RCod.enc cItem) l)) 1000) (cond (List.all (List.map (RCod.dec cItem) (List.map (RCod.enc cItem) l)) fun x=>N.okM (HItem.mail x)) (some {v:=V.int .i64 (N.lSize (List.map (RCod.dec cItem) (List.map (RCod.enc cItem) l))),bx:=[]:DRes}) (none)) (none)) (none):=by kernel_rfl
theorem q_lSizeIR (a:Int) (r:List (List V)) (n i:Int) (K:Ex→St→Option R):evRound eLSizeI 71 3 { fr:=[(3,.int .i64 a),(7,.slc [.int .u64,.str,.str,.slc [.str,.int .u8,.int .i64,.str],.str,.int .u64,.int .u8,.bool,.bool] r),(8,.int .i64 n),(9,.int .i64 i)],tab:=[] } K =
 cond (ilt i n) (cond (decide ((0:Int)≤i∧i<(↑(List.length r):Int))) (cond (N.okM {id:=V.toInt (List.getD (List.getD r (Int.toNat i) []) 0 V.undef),shop:=V.toStr (List.getD (List.getD r (Int.toNat i) []) 1 V.undef),key:=V.toStr (List.getD (List.getD r (Int.toNat i) []) 2 V.undef),head:=List.map (fun r=>{key:=V.toStr (List.getD r 0 .undef),kind:=V.toInt (List.getD r 1 .undef),num:=V.toInt (List.getD r 2 .undef),text:=V.toStr (List.getD r 3 .undef):HPair}) (V.toRows (List.getD (List.getD r (Int.toNat i) []) 3 V.undef)),body:=V.toStr (List.getD (List.getD r (Int.toNat i) []) 4 V.undef),due:=V.toInt (List.getD (List.getD r (Int.toNat i) []) 5 V.undef),hops:=V.toInt (List.getD (List.getD r (Int.toNat i) []) 6 V.undef):HMail}) (K Ex.normal {fr:=[(3,V.int .i64 (IntKind.wrap .i64 (a+N.mailSize {id:=V.toInt (List.getD (List.getD r (Int.toNat i) []) 0 V.undef),shop:=V.toStr (List.getD (List.getD r (Int.toNat i) []) 1 V.undef),key:=V.toStr (List.getD (List.getD r (Int.toNat i) []) 2 V.undef),head:=List.map (fun r=>{key:=V.toStr (List.getD r 0 .undef),kind:=V.toInt (List.getD r 1 .undef),num:=V.toInt (List.getD r 2 .undef),text:=V.toStr (List.getD r 3 .undef):HPair}) (V.toRows (List.getD (List.getD r (Int.toNat i) []) 3 V.undef)),body:=V.toStr (List.getD (List.getD r (Int.toNat i) []) 4 V.undef),due:=V.toInt (List.getD (List.getD r (Int.toNat i) []) 5 V.undef),hops:=V.toInt (List.getD (List.getD r (Int.toNat i) []) 6 V.undef):HMail}))),(7,V.slc [.int .u64,.str,.str,.slc [.str,.int .u8,.int .i64,.str],.str,.int .u64,.int .u8,.bool,.bool] r),(8,V.int .i64 n),(9,V.int .i64 (IntKind.wrap .i64 (i+(1:Int))))],tab:=[]:St}) (none)) (none)) (K (Ex.exit 0) {fr:=[(3,V.int .i64 a)],tab:=[]:St}):=by kernel_rfl
theorem ok_lSizeI (hN:FnOk Tryz.prog 158 dOutNum):FnOk Tryz.prog 71 dLSizeI:=by
 refine den_okF (env_ok ((TOk.nil _).cons (ok_mailSize hN))) (E:=eLSizeI) Tryz.func71 [3] (by kernel_rfl) (one1 (rounds_of rfl fun l K q h=>?_)) fun l _ hp=>?_
 ·unfold gLSizeI at h
  split at h
  ·rename_i a r n i
   have h1:=(cond_none h).1; replace h:=(cond_none h).2; have h2:=(cond_none h).1; replace h:=(cond_none h).2; have h3:=(cond_none h).1; replace h:=(cond_none h).2; have h4:=(cond_none h).1; replace h:=(cond_none h).2; have h5:=(cond_none h).1; replace h:=(cond_none h).2
   have e1:=ieq_of h1
   have e2:=ieq_of h2
   have e3:=ieq_of h3
   subst e1 e2 e3
   have h4:r.length≤1000:=ble_of h4
   have main:=range_ind (E:=eLSizeI) (f:=71) (id:=3) (A:=Int) r (fun a i=>{ fr:=[(3,.int .i64 a),(7,.slc [.int .u64,.str,.str,.slc [.str,.int .u8,.int .i64,.str],.str,.int .u64,.int .u8,.bool,.bool] r),(8,.int .i64 r.length),(9,.int .i64 i)],tab:=[] }) (fun a i=>0≤a∧a≤1570*i)
    (fun a rows K=>K (.exit 0) { fr:=[(3,.int .i64 (a+N.lSize (rows.map cItem.dec)))],tab:=[] }) (fun a i ha hi=>?_) (fun a _=>?_) 0 0 (Int.le_refl _) (by omega) ⟨Int.le_refl _,by decide⟩ K q (by rw [Int.zero_add]; exact h)
   ·exact main
   ·have hb:=mailSize_le (cItem.dec (r.getD i [])).mail
    have hm:cMail.dec (r.getD i [])=(cItem.dec (r.getD i [])).mail:=rfl
    have hs:N.okM (cItem.dec (r.getD i [])).mail=true:=List.all_eq_true.1 h5 _ (List.mem_map_of_mem (by rw [List.getD_eq_getElem?_getD,List.getElem?_eq_getElem hi]; exact List.getElem_mem hi))
    refine .inl ⟨a+N.mailSize (cItem.dec (r.getD i [])).mail,⟨by omega,by omega⟩,fun K=>?_,fun K=>?_⟩
    ·rw [q_lSizeIR]
     simp (disch:=omega) only [evs,Int.toNat_natCast,fold_mail,hm,hs]
     try rfl
    ·show K _ { fr:=[(3,.int .i64 (a+(N.mailSize (cItem.dec (r.getD i [])).mail+N.lSize ((r.drop (i+1)).map cItem.dec))))],tab:=[] }=_
     rw [Int.add_assoc]
   ·refine ⟨.exit 0,_,by simp,fun K=>?_,fun K=>rfl⟩
    rw [q_lSizeIR]
    simp (disch:=omega) only [evs,List.map_nil]
    show _=K _ { fr:=[(3,.int .i64 (a+0))],tab:=[] }
    rw [Int.add_zero]
  ·cases h
 ·obtain ⟨h1,h2⟩:=bcond hp
  refine (q_lSizeI l).trans ?_
  show _=some (⟨.int .i64 (N.lSize l),[],[]⟩:DRes)
  have h2:_=true:=h2
  unfold allM at h2
  simp only [List.length_map,dec_encs,beq_self_eq_true,cond_true,h1,h2]
end Go.Ev

/- What the statement on what goes reckons: it is true; lemmas; the function that writes numbers is a premise. -/
namespace Go.Ev
open Go Go.Proofs
set_option maxRecDepth 100000
-- FOLD
theorem fold_act2 (r:List V):({ op:=V.toInt (List.getD r 0 .undef),mail:=(cAct.dec r).mail }:HAct)=cAct.dec r:=rfl
end Go.Ev

/- What the statement on acts and lines reckons: it is true; lemmas; the function that writes numbers is a premise. -/
namespace Go.Ev
open Go Go.Proofs
set_option maxRecDepth 100000
-- FOLD
def dRReadyI:Den:=den (aOne (vSl cItem)) bNil (oV (vInt .i64)) (fun l _=>Nat.ble l.length 1000) fun l _=>(N.lReady l,())
def schRReadyI:SSch:={ fr:=[(3,.int .i64),(6,.slc [.int .u64,.str,.str,.slc [.str,.int .u8,.int .i64,.str],.str,.int .u64,.int .u8,.bool,.bool]),(7,.int .i64),(8,.int .i64)],tab:=[] }
def gRReadyI:List Leaf→(Ex→St→Option R)→Option R
 | [.i a,.r r,.i n,.i i],K=>cond (n==r.length) (cond (i==0) (cond (a==0) (cond (Nat.ble r.length 1000) (K (.exit 0) { fr:=[(3,.int .i64 (N.lReady (r.map cItem.dec)))],tab:=[] }) none) none) none) none
 | _,_=>none
noncomputable def eRReadyI:Env:=env Tryz.prog [] [(3,loopF schRReadyI gRReadyI)] [(3,[(0,[3,6,7,8]),(1,[3]),(1000,[2])])]
theorem q_rReadyI (l:List HItem):evFn eRReadyI 70 ((aOne (vSl cItem)).enc l) ([]) some =
 cond ((↑(List.length (List.map (RCod.enc cItem) l)):Int)==(↑(List.length (List.map (RCod.enc cItem) l)):Int)) (cond (Nat.ble (List.length (List.map (RCod.enc cItem) l)) 1000) (some {v:=V.int .i64 (N.lReady (List.map (RCod.dec cItem) (List.map (RCod.enc cItem) l))),bx:=[]:DRes}) (none)) (none):=by kernel_rfl
theorem q_rReadyIR (a:Int) (r:List (List V)) (n i:Int) (K:Ex→St→Option R):evRound eRReadyI 70 3 { fr:=[(3,.int .i64 a),(6,.slc [.int .u64,.str,.str,.slc [.str,.int .u8,.int .i64,.str],.str,.int .u64,.int .u8,.bool,.bool] r),(7,.int .i64 n),(8,.int .i64 i)],tab:=[] } K =
 cond (ilt i n) (cond (decide ((0:Int)≤i∧i<(↑(List.length r):Int))) (cond (!V.toBool (List.getD (List.getD r (Int.toNat i) []) 7 V.undef)) (K Ex.normal {fr:=[(3,V.int .i64 (IntKind.wrap .i64 (a+(1:Int)))),(6,V.slc [.int .u64,.str,.str,.slc [.str,.int .u8,.int .i64,.str],.str,.int .u64,.int .u8,.bool,.bool] r),(7,V.int .i64 n),(8,V.int .i64 (IntKind.wrap .i64 (i+(1:Int))))],tab:=[]:St}) (K Ex.normal {fr:=[(3,V.int .i64 a),(6,V.slc [.int .u64,.str,.str,.slc [.str,.int .u8,.int .i64,.str],.str,.int .u64,.int .u8,.bool,.bool] r),(7,V.int .i64 n),(8,V.int .i64 (IntKind.wrap .i64 (i+(1:Int))))],tab:=[]:St})) (none)) (K (Ex.exit 0) {fr:=[(3,V.int .i64 a)],tab:=[]:St}):=by kernel_rfl
theorem ok_rReadyI:FnOk Tryz.prog 70 dRReadyI:=by
 refine den_okF (env_ok (TOk.nil _)) (E:=eRReadyI) Tryz.func70 [3] (by kernel_rfl) (one1 (rounds_of rfl fun l K q h=>?_)) fun l _ hp=>?_
 ·unfold gRReadyI at h
  split at h
  ·rename_i a r n i
   have h1:=(cond_none h).1; replace h:=(cond_none h).2; have h2:=(cond_none h).1; replace h:=(cond_none h).2; have h3:=(cond_none h).1; replace h:=(cond_none h).2; have h4:=(cond_none h).1; replace h:=(cond_none h).2
   have e1:=ieq_of h1
   have e2:=ieq_of h2
   have e3:=ieq_of h3
   subst e1 e2 e3
   have h4:r.length≤1000:=ble_of h4
   have main:=range_ind (E:=eRReadyI) (f:=70) (id:=3) (A:=Int) r (fun a i=>{ fr:=[(3,.int .i64 a),(6,.slc [.int .u64,.str,.str,.slc [.str,.int .u8,.int .i64,.str],.str,.int .u64,.int .u8,.bool,.bool] r),(7,.int .i64 r.length),(8,.int .i64 i)],tab:=[] }) (fun a i=>0≤a∧a≤i)
    (fun a rows K=>K (.exit 0) { fr:=[(3,.int .i64 (a+N.lReady (rows.map cItem.dec)))],tab:=[] }) (fun a i ha hi=>?_) (fun a _=>?_) 0 0 (Int.le_refl _) (by omega) ⟨Int.le_refl _,Int.le_refl _⟩ K q (by rw [Int.zero_add]; exact h)
   ·exact main
   ·have e:N.lReady ((r.getD i []::r.drop (i+1)).map cItem.dec)=cond (cItem.dec (r.getD i [])).lent (N.lReady ((r.drop (i+1)).map cItem.dec)) (1+N.lReady ((r.drop (i+1)).map cItem.dec)):=rfl
    rw [e]
    cases hc:(cItem.dec (r.getD i [])).lent with
    | true =>
     refine .inl ⟨a,⟨ha.1,by omega⟩,fun K=>?_,fun K=>rfl⟩
     rw [q_rReadyIR]
     have hc:V.toBool (List.getD (List.getD r i []) 7 V.undef)=true:=hc
     simp (disch:=omega) only [evs,Int.toNat_natCast,hc,Bool.not_true]
    | false =>
     refine .inl ⟨a+1,⟨by omega,by omega⟩,fun K=>?_,fun K=>by rw [Int.add_assoc]; rfl⟩
     rw [q_rReadyIR]
     have hc:V.toBool (List.getD (List.getD r i []) 7 V.undef)=false:=hc
     simp (disch:=omega) only [evs,Int.toNat_natCast,hc,Bool.not_false]
   ·refine ⟨.exit 0,{ fr:=[(3,.int .i64 (a+0))],tab:=[] },by simp,fun K=>?_,fun K=>rfl⟩
    rw [q_rReadyIR,Int.add_zero]
    simp (disch:=omega) only [evs]
  ·cases h
 ·have hp:Nat.ble l.length 1000=true:=hp
  refine (q_rReadyI l).trans ?_
  simp only [List.length_map,dec_encs,hp,beq_self_eq_true,cond_true]
  try rfl
def N.told18 (l q:List HItem) (t:Int):Bool:=cond (N.sameL l q) (cond ((N.lFirst l).2==(N.lFirst q).2) (cond (N.mailSame (N.lFirst l).1 (N.lFirst q).1) (cond ((N.lLate l t).2==(N.lTold q (N.ix (N.isLateR t) q 0)).2)
 (cond (N.mailSame (N.lLate l t).1 (N.lTold q (N.ix (N.isLateR t) q 0)).1) (cond ((l.length:Int)==(q.length:Int)) (cond (N.lReady l==N.lReady q) (N.lSize l==N.lSize q) false) false) false) false) false) false) false
theorem told18_self {l:List HItem} {t:Int} (h:allM N.fineM l=true):N.told18 l l t=true:=by
 unfold N.told18 N.lLate
 rw [lateR_ix l 0 h]
 simp only [sameL_refl,mailSame_refl,beq_self_eq_true,cond_true]
def dTold18:Den:=den (aCons (vAgg cLine) (aCons (vSl cItem) (aOne (vInt .u64)))) bNil (oV vBool) (fun a _=>cond (smallL a.1) (cond (smallL a.2.1) (cond (allM N.fineM a.1) (allM N.fineM a.2.1) false) false) false) fun a _=>(N.told18 a.1 a.2.1 a.2.2,())
noncomputable def eTold18:Env:=env Tryz.prog [(18,dLFirst),(68,dRFirst),(19,dLLate),(69,dRLateI),(25,dLawOf),(24,dRSame),(20,dMailSame),(13,dLLen),(16,dLReadyN),(70,dRReadyI),(71,dLSizeI),(72,dRSizeI)] [] []
theorem q_told18 (l q:List HItem) (t:Int):evFn eTold18 29 ((aCons (vAgg cLine) (aCons (vSl cItem) (aOne (vInt .u64)))).enc (l,q,t)) ([]) some =
 cond (smallL (List.map (RCod.dec cItem) (List.map (RCod.enc cItem) l))) (cond (Nat.ble (List.length (List.map (RCod.dec cItem) (List.map (RCod.enc cItem) q))) 1000) (cond (smallL (List.map (RCod.dec cItem) (List.map (RCod.enc cItem) l))) (cond (Nat.ble (List.length (List.map (RCod.dec cItem) (List.map (RCod.enc cItem) q))) 1000) (cond (smallL (List.map (RCod.dec cItem) (List.map (RCod.enc cItem) l))) (cond (smallL (List.map (RCod.dec cItem) (List.map (RCod.enc cItem) (List.map (RCod.dec cItem) (List.map (RCod.enc cItem) l))))) (cond (N.sameL (List.map (RCod.dec cItem) (List.map (RCod.enc cItem) (List.map (RCod.dec cItem) (List.map (RCod.enc cItem) l)))) (List.map (RCod.dec cItem) (List.map (RCod.enc cItem) q))) (cond (Prod.snd (N.lFirst (List.map (RCod.dec cItem) (List.map (RCod.enc cItem) l)))==Prod.snd (N.lFirst (List.map (RCod.dec cItem) (List.map (RCod.enc cItem) q)))) (cond (smallM {id:=HMail.id (Prod.fst (N.lFirst (List.map (RCod.dec cItem) (List.map (RCod.enc cItem) l)))),shop:=HMail.shop (Prod.fst (N.lFirst (List.map (RCod.dec cItem) (List.map (RCod.enc cItem) l)))),key:=HMail.key (Prod.fst (N.lFirst (List.map (RCod.dec cItem) (List.map (RCod.enc cItem) l)))),head:=List.map (fun r=>{key:=V.toStr (List.getD r 0 .undef),kind:=V.toInt (List.getD r 1 .undef),num:=V.toInt (List.getD r 2 .undef),text:=V.toStr (List.getD r 3 .undef):HPair}) (List.map (fun p=>[V.str (HPair.key p),V.int .u8 (HPair.kind p),V.int .i64 (HPair.num p),V.str (HPair.text p)]) (HMail.head (Prod.fst (N.lFirst (List.map (RCod.dec cItem) (List.map (RCod.enc cItem) l)))))),body:=HMail.body (Prod.fst (N.lFirst (List.map (RCod.dec cItem) (List.map (RCod.enc cItem) l)))),due:=HMail.due (Prod.fst (N.lFirst (List.map (RCod.dec cItem) (List.map (RCod.enc cItem) l)))),hops:=HMail.hops (Prod.fst (N.lFirst (List.map (RCod.dec cItem) (List.map (RCod.enc cItem) l)))):HMail}) (cond (N.mailSame {id:=HMail.id (Prod.fst (N.lFirst (List.map (RCod.dec cItem) (List.map (RCod.enc cItem) l)))),shop:=HMail.shop (Prod.fst (N.lFirst (List.map (RCod.dec cItem) (List.map (RCod.enc cItem) l)))),key:=HMail.key (Prod.fst (N.lFirst (List.map (RCod.dec cItem) (List.map (RCod.enc cItem) l)))),head:=List.map (fun r=>{key:=V.toStr (List.getD r 0 .undef),kind:=V.toInt (List.getD r 1 .undef),num:=V.toInt (List.getD r 2 .undef),text:=V.toStr (List.getD r 3 .undef):HPair}) (List.map (fun p=>[V.str (HPair.key p),V.int .u8 (HPair.kind p),V.int .i64 (HPair.num p),V.str (HPair.text p)]) (HMail.head (Prod.fst (N.lFirst (List.map (RCod.dec cItem) (List.map (RCod.enc cItem) l)))))),body:=HMail.body (Prod.fst (N.lFirst (List.map (RCod.dec cItem) (List.map (RCod.enc cItem) l)))),due:=HMail.due (Prod.fst (N.lFirst (List.map (RCod.dec cItem) (List.map (RCod.enc cItem) l)))),hops:=HMail.hops (Prod.fst (N.lFirst (List.map (RCod.dec cItem) (List.map (RCod.enc cItem) l)))):HMail} {id:=HMail.id (Prod.fst (N.lFirst (List.map (RCod.dec cItem) (List.map (RCod.enc cItem) q)))),shop:=HMail.shop (Prod.fst (N.lFirst (List.map (RCod.dec cItem) (List.map (RCod.enc cItem) q)))),key:=HMail.key (Prod.fst (N.lFirst (List.map (RCod.dec cItem) (List.map (RCod.enc cItem) q)))),head:=List.map (fun r=>{key:=V.toStr (List.getD r 0 .undef),kind:=V.toInt (List.getD r 1 .undef),num:=V.toInt (List.getD r 2 .undef),text:=V.toStr (List.getD r 3 .undef):HPair}) (List.map (fun p=>[V.str (HPair.key p),V.int .u8 (HPair.kind p),V.int .i64 (HPair.num p),V.str (HPair.text p)]) (HMail.head (Prod.fst (N.lFirst (List.map (RCod.dec cItem) (List.map (RCod.enc cItem) q)))))),body:=HMail.body (Prod.fst (N.lFirst (List.map (RCod.dec cItem) (List.map (RCod.enc cItem) q)))),due:=HMail.due (Prod.fst (N.lFirst (List.map (RCod.dec cItem) (List.map (RCod.enc cItem) q)))),hops:=HMail.hops (Prod.fst (N.lFirst (List.map (RCod.dec cItem) (List.map (RCod.enc cItem) q)))):HMail}) (cond (Prod.snd (N.lLate (List.map (RCod.dec cItem) (List.map (RCod.enc cItem) l)) t)==Prod.snd (N.lTold (List.map (RCod.dec cItem) (List.map (RCod.enc cItem) q)) (N.ix (N.isLateR t) (List.map (RCod.dec cItem) (List.map (RCod.enc cItem) q)) (0:Int)))) (cond (smallM {id:=HMail.id (Prod.fst (N.lLate (List.map (RCod.dec cItem) (List.map (RCod.enc cItem) l)) t)),shop:=HMail.shop (Prod.fst (N.lLate (List.map (RCod.dec cItem) (List.map (RCod.enc cItem) l)) t)),key:=HMail.key (Prod.fst (N.lLate (List.map (RCod.dec cItem) (List.map (RCod.enc cItem) l)) t)),head:=List.map (fun r=>{key:=V.toStr (List.getD r 0 .undef),kind:=V.toInt (List.getD r 1 .undef),num:=V.toInt (List.getD r 2 .undef),text:=V.toStr (List.getD r 3 .undef):HPair}) (List.map (fun p=>[V.str (HPair.key p),V.int .u8 (HPair.kind p),V.int .i64 (HPair.num p),V.str (HPair.text p)]) (HMail.head (Prod.fst (N.lLate (List.map (RCod.dec cItem) (List.map (RCod.enc cItem) l)) t)))),body:=HMail.body (Prod.fst (N.lLate (List.map (RCod.dec cItem) (List.map (RCod.enc cItem) l)) t)),due:=HMail.due (Prod.fst (N.lLate (List.map (RCod.dec cItem) (List.map (RCod.enc cItem) l)) t)),hops:=HMail.hops (Prod.fst (N.lLate (List.map (RCod.dec cItem) (List.map (RCod.enc cItem) l)) t)):HMail}) (cond (N.mailSame {id:=HMail.id (Prod.fst (N.lLate (List.map (RCod.dec cItem) (List.map (RCod.enc cItem) l)) t)),shop:=HMail.shop (Prod.fst (N.lLate (List.map (RCod.dec cItem) (List.map (RCod.enc cItem) l)) t)),key:=HMail.key (Prod.fst (N.lLate (List.map (RCod.dec cItem) (List.map (RCod.enc cItem) l)) t)),head:=List.map (fun r=>{key:=V.toStr (List.getD r 0 .undef),kind:=V.toInt (List.getD r 1 .undef),num:=V.toInt (List.getD r 2 .undef),text:=V.toStr (List.getD r 3 .undef):HPair}) (List.map (fun p=>[V.str (HPair.key p),V.int .u8 (HPair.kind p),V.int .i64 (HPair.num p),V.str (HPair.text p)]) (HMail.head (Prod.fst (N.lLate (List.map (RCod.dec cItem) (List.map (RCod.enc cItem) l)) t)))),body:=HMail.body (Prod.fst (N.lLate (List.map (RCod.dec cItem) (List.map (RCod.enc cItem) l)) t)),due:=HMail.due (Prod.fst (N.lLate (List.map (RCod.dec cItem) (List.map (RCod.enc cItem) l)) t)),hops:=HMail.hops (Prod.fst (N.lLate (List.map (RCod.dec cItem) (List.map (RCod.enc cItem) l)) t)):HMail} {id:=HMail.id (Prod.fst (N.lTold (List.map (RCod.dec cItem) (List.map (RCod.enc cItem) q)) (N.ix (N.isLateR t) (List.map (RCod.dec cItem) (List.map (RCod.enc cItem) q)) (0:Int)))),shop:=HMail.shop (Prod.fst (N.lTold (List.map (RCod.dec cItem) (List.map (RCod.enc cItem) q)) (N.ix (N.isLateR t) (List.map (RCod.dec cItem) (List.map (RCod.enc cItem) q)) (0:Int)))),key:=HMail.key (Prod.fst (N.lTold (List.map (RCod.dec cItem) (List.map (RCod.enc cItem) q)) (N.ix (N.isLateR t) (List.map (RCod.dec cItem) (List.map (RCod.enc cItem) q)) (0:Int)))),head:=List.map (fun r=>{key:=V.toStr (List.getD r 0 .undef),kind:=V.toInt (List.getD r 1 .undef),num:=V.toInt (List.getD r 2 .undef),text:=V.toStr (List.getD r 3 .undef):HPair}) (List.map (fun p=>[V.str (HPair.key p),V.int .u8 (HPair.kind p),V.int .i64 (HPair.num p),V.str (HPair.text p)]) (HMail.head (Prod.fst (N.lTold (List.map (RCod.dec cItem) (List.map (RCod.enc cItem) q)) (N.ix (N.isLateR t) (List.map (RCod.dec cItem) (List.map (RCod.enc cItem) q)) (0:Int)))))),body:=HMail.body (Prod.fst (N.lTold (List.map (RCod.dec cItem) (List.map (RCod.enc cItem) q)) (N.ix (N.isLateR t) (List.map (RCod.dec cItem) (List.map (RCod.enc cItem) q)) (0:Int)))),due:=HMail.due (Prod.fst (N.lTold (List.map (RCod.dec cItem) (List.map (RCod.enc cItem) q)) (N.ix (N.isLateR t) (List.map (RCod.dec cItem) (List.map (RCod.enc cItem) q)) (0:Int)))),hops:=HMail.hops (Prod.fst (N.lTold (List.map (RCod.dec cItem) (List.map (RCod.enc cItem) q)) (N.ix (N.isLateR t) (List.map (RCod.dec cItem) (List.map (RCod.enc cItem) q)) (0:Int)))):HMail}) (cond ((↑(List.length (List.map (RCod.dec cItem) (List.map (RCod.enc cItem) l))):Int)==(↑(List.length (List.map (RCod.enc cItem) q)):Int)) (cond (Nat.ble (List.length (List.map (RCod.dec cItem) (List.map (RCod.enc cItem) l))) 1000) (cond (Nat.ble (List.length (List.map (RCod.dec cItem) (List.map (RCod.enc cItem) q))) 1000) (cond (N.lReady (List.map (RCod.dec cItem) (List.map (RCod.enc cItem) l))==N.lReady (List.map (RCod.dec cItem) (List.map (RCod.enc cItem) q))) (cond (bif Nat.ble (List.length (List.map (RCod.dec cItem) (List.map (RCod.enc cItem) l))) 1000 then List.all (List.map (RCod.dec cItem) (List.map (RCod.enc cItem) l)) fun x=>N.okM (HItem.mail x) else false) (cond (bif Nat.ble (List.length (List.map (RCod.dec cItem) (List.map (RCod.enc cItem) q))) 1000 then List.all (List.map (RCod.dec cItem) (List.map (RCod.enc cItem) q)) fun x=>N.fineM (HItem.mail x) else false) (some {v:=V.bool (N.lSize (List.map (RCod.dec cItem) (List.map (RCod.enc cItem) l))==N.lSize (List.map (RCod.dec cItem) (List.map (RCod.enc cItem) q))),bx:=[]:DRes}) (none)) (none)) (some {v:=V.bool false,bx:=[]:DRes})) (none)) (none)) (some {v:=V.bool false,bx:=[]:DRes})) (some {v:=V.bool false,bx:=[]:DRes})) (none)) (some {v:=V.bool false,bx:=[]:DRes})) (some {v:=V.bool false,bx:=[]:DRes})) (none)) (some {v:=V.bool false,bx:=[]:DRes})) (some {v:=V.bool false,bx:=[]:DRes})) (none)) (none)) (none)) (none)) (none)) (none):=by kernel_rfl
theorem fine_ok {l:List HItem} (h:allM N.fineM l=true):allM N.okM l=true:=by
 unfold allM at *
 rw [List.all_eq_true] at *
 exact fun x hx=>(bcond (h x hx)).1
theorem told_smallM {l:List HItem} (h:l.all smallI=true) {p:HItem→Bool}:smallM (N.lTold l (N.ix p l 0)).1=true:=by
 rcases ix_spec p l 0 (Int.le_refl _) with ⟨e,_⟩ | ⟨k,e,hk,_⟩
 ·rw [e]; rfl
 ·rw [e]
  unfold N.lTold
  rw [ilt_f (by omega),cond_false]
  have e2:(0+(k:Int)).toNat=k:=by omega
  rw [e2,List.getD_eq_getElem?_getD,List.getElem?_eq_getElem hk]
  exact List.all_eq_true.1 h _ (List.getElem_mem hk)
theorem ok_told18 (hN:FnOk Tryz.prog 158 dOutNum):FnOk Tryz.prog 29 dTold18:=by
 refine den_okF (env_ok (((((((((((((TOk.nil _).cons ok_rSizeI).cons (ok_lSizeI hN)).cons ok_rReadyI).cons ok_lReadyN).cons ok_lLen).cons ok_refMailSame).cons ok_rSame18).cons ok_lawOf).cons ok_rLateI).cons ok_lLate).cons ok_rFirst).cons ok_lFirst)) (E:=eTold18) Tryz.func29 [] (by kernel_rfl) (none0) fun a b hp=>?_
 obtain ⟨l,q,t⟩:=a
 obtain ⟨h1,hp⟩:=bcond hp
 obtain ⟨h2,hp⟩:=bcond hp
 obtain ⟨h3,h4⟩:=bcond hp
 have h1:smallL l=true:=h1
 have h2:smallL q=true:=h2
 have h3:allM N.fineM l=true:=h3
 have h4:allM N.fineM q=true:=h4
 obtain ⟨_,b1,s1⟩:=smallL_of h1
 obtain ⟨_,b2,_⟩:=smallL_of h2
 have k1:smallM (N.lFirst l).1=true:=told_smallM s1
 have k2:smallM (N.lLate l t).1=true:=told_smallM s1
 have h5:=fine_ok h3
 refine (q_told18 l q t).trans ?_
 show _=some (⟨.bool (N.told18 l q t),[],[]⟩:DRes)
 unfold N.told18
 simp only [fold_de,dec_encs]
 have h4' : _=true:=h4
 have h5' : _=true:=h5
 unfold allM at h4' h5'
 simp (disch:=omega) only [evs,h1,h4',h5',k1,k2]
 cases N.sameL l q<;>cases (N.lFirst l).2==(N.lFirst q).2<;>cases N.mailSame (N.lFirst l).1 (N.lFirst q).1<;>cases (N.lLate l t).2==(N.lTold q (N.ix (N.isLateR t) q 0)).2<;>cases N.mailSame (N.lLate l t).1 (N.lTold q (N.ix (N.isLateR t) q 0)).1<;>cases (l.length:Int)==(q.length:Int)<;>cases N.lReady l==N.lReady q<;>rfl
def schPlays18:SSch:={ fr:=[(1,.int .u64),(5,.ptr 10000 0 0),(6,.slc [.int .u64,.str,.str,.slc [.str,.int .u8,.int .i64,.str],.str,.int .u64,.int .u8,.bool,.bool]),(17,.slc [.int .u8,.int .u64,.str,.str,.slc [.str,.int .u8,.int .i64,.str],.str,.int .u64,.int .u8]),(18,.int .i64),(19,.int .i64)],tab:=[(10000,.var [.slc [.int .u64,.str,.str,.slc [.str,.int .u8,.int .i64,.str],.str,.int .u64,.int .u8,.bool,.bool]])] }
def gPlays18:List Leaf→(Ex→St→Option R)→Option R
 | [.i _,.r q,.r r,.i n,.i i,.r x],K=>cond (n==r.length) (cond (i==0) (cond (Nat.ble r.length 100) (cond (Nat.beq x.length 0) (cond (Nat.beq q.length 0) (cond ((r.map cAct.dec).all smallA) (cond ((r.map cAct.dec).all fun a=>N.fineM a.mail)
   (K (.exit 0) { fr:=[],tab:=[] }) none) none) none) none) none) none) none
 | _,_=>none
noncomputable def ePlays18:Env:={ env Tryz.prog [(11,dTrue),(12,dLight18),(14,dDone18),(29,dTold18),(25,dLawOf),(24,dRSame),(26,dSameL)] [(8,loopF schPlays18 gPlays18)] [(8,[(0,[1,5,6,17,18,19]),(1,[]),(1000,[4])])] with fz:=true,fy:=true }
theorem q_plays18 (l:List HAct) (t:Int):evFn ePlays18 7 ((aCons (vSl cAct) (aOne (vInt .u64))).enc (l,t)) ([]) some =
 cond (Nat.ble (List.length (List.map (RCod.dec cAct) (List.map (RCod.enc cAct) l))) 9223372036854775807) (cond (!bif N.lightActs (List.map (RCod.dec cAct) (List.map (RCod.enc cAct) l)) then ile (↑(List.length (List.map (RCod.dec cAct) (List.map (RCod.enc cAct) l))):Int) (100:Int) else false) (some {v:=V.bool true,bx:=[]:DRes}) (cond ((↑(List.length (List.map (RCod.enc cAct) l)):Int)==(↑(List.length (List.map (RCod.enc cAct) l)):Int)) (cond (Nat.ble (List.length (List.map (RCod.enc cAct) l)) 100) (cond (List.all (List.map (RCod.dec cAct) (List.map (RCod.enc cAct) l)) smallA) (cond (List.all (List.map (RCod.dec cAct) (List.map (RCod.enc cAct) l)) fun a=>N.fineM (HAct.mail a)) (some {v:=V.bool true,bx:=[]:DRes}) (none)) (none)) (none)) (none))) (none):=by kernel_rfl
theorem q_plays18R (t:Int) (q r:List (List V)) (n i:Int) (x:List (List V)) (K:Ex→St→Option R):evRound ePlays18 7 8 { fr:=[(1,.int .u64 t),(5,.ptr 10000 0 0 0),(6,.slc [.int .u64,.str,.str,.slc [.str,.int .u8,.int .i64,.str],.str,.int .u64,.int .u8,.bool,.bool] q),(17,.slc [.int .u8,.int .u64,.str,.str,.slc [.str,.int .u8,.int .i64,.str],.str,.int .u64,.int .u8] r),(18,.int .i64 n),(19,.int .i64 i)],tab:=[(10000,.var [.slc [.int .u64,.str,.str,.slc [.str,.int .u8,.int .i64,.str],.str,.int .u64,.int .u8,.bool,.bool] x])] } K =
 cond (ilt i n) (cond (decide ((0:Int)≤i∧i<(↑(List.length r):Int))) (cond (bif smallL (List.map (RCod.dec cItem) x) then bif Nat.ble (List.length (List.map (RCod.dec cItem) q)) 1000 then smallM {id:=V.toInt (List.getD (List.getD r (Int.toNat i) []) 1 V.undef),shop:=V.toStr (List.getD (List.getD r (Int.toNat i) []) 2 V.undef),key:=V.toStr (List.getD (List.getD r (Int.toNat i) []) 3 V.undef),head:=List.map (fun r=>{key:=V.toStr (List.getD r 0 .undef),kind:=V.toInt (List.getD r 1 .undef),num:=V.toInt (List.getD r 2 .undef),text:=V.toStr (List.getD r 3 .undef):HPair}) (V.toRows (List.getD (List.getD r (Int.toNat i) []) 4 V.undef)),body:=V.toStr (List.getD (List.getD r (Int.toNat i) []) 5 V.undef),due:=V.toInt (List.getD (List.getD r (Int.toNat i) []) 6 V.undef),hops:=V.toInt (List.getD (List.getD r (Int.toNat i) []) 7 V.undef):HMail} else false else false) (cond (!Prod.snd (Prod.snd (N.done18 (List.map (RCod.dec cItem) x) (List.map (RCod.dec cItem) q) {op:=V.toInt (List.getD (List.getD r (Int.toNat i) []) 0 V.undef),mail:={id:=V.toInt (List.getD (List.getD r (Int.toNat i) []) 1 V.undef),shop:=V.toStr (List.getD (List.getD r (Int.toNat i) []) 2 V.undef),key:=V.toStr (List.getD (List.getD r (Int.toNat i) []) 3 V.undef),head:=List.map (fun r=>{key:=V.toStr (List.getD r 0 .undef),kind:=V.toInt (List.getD r 1 .undef),num:=V.toInt (List.getD r 2 .undef),text:=V.toStr (List.getD r 3 .undef):HPair}) (V.toRows (List.getD (List.getD r (Int.toNat i) []) 4 V.undef)),body:=V.toStr (List.getD (List.getD r (Int.toNat i) []) 5 V.undef),due:=V.toInt (List.getD (List.getD r (Int.toNat i) []) 6 V.undef),hops:=V.toInt (List.getD (List.getD r (Int.toNat i) []) 7 V.undef):HMail}:HAct}))) (K Ex.ret {fr:=[(4,V.bool false)],tab:=[]:St}) (cond (bif smallL (List.map (RCod.dec cItem) (List.map (RCod.enc cItem) (Prod.fst (N.done18 (List.map (RCod.dec cItem) x) (List.map (RCod.dec cItem) q) {op:=V.toInt (List.getD (List.getD r (Int.toNat i) []) 0 V.undef),mail:={id:=V.toInt (List.getD (List.getD r (Int.toNat i) []) 1 V.undef),shop:=V.toStr (List.getD (List.getD r (Int.toNat i) []) 2 V.undef),key:=V.toStr (List.getD (List.getD r (Int.toNat i) []) 3 V.undef),head:=List.map (fun r=>{key:=V.toStr (List.getD r 0 .undef),kind:=V.toInt (List.getD r 1 .undef),num:=V.toInt (List.getD r 2 .undef),text:=V.toStr (List.getD r 3 .undef):HPair}) (V.toRows (List.getD (List.getD r (Int.toNat i) []) 4 V.undef)),body:=V.toStr (List.getD (List.getD r (Int.toNat i) []) 5 V.undef),due:=V.toInt (List.getD (List.getD r (Int.toNat i) []) 6 V.undef),hops:=V.toInt (List.getD (List.getD r (Int.toNat i) []) 7 V.undef):HMail}:HAct})))) then bif smallL (List.map (RCod.dec cItem) (List.map (RCod.enc cItem) (Prod.fst (Prod.snd (N.done18 (List.map (RCod.dec cItem) x) (List.map (RCod.dec cItem) q) {op:=V.toInt (List.getD (List.getD r (Int.toNat i) []) 0 V.undef),mail:={id:=V.toInt (List.getD (List.getD r (Int.toNat i) []) 1 V.undef),shop:=V.toStr (List.getD (List.getD r (Int.toNat i) []) 2 V.undef),key:=V.toStr (List.getD (List.getD r (Int.toNat i) []) 3 V.undef),head:=List.map (fun r=>{key:=V.toStr (List.getD r 0 .undef),kind:=V.toInt (List.getD r 1 .undef),num:=V.toInt (List.getD r 2 .undef),text:=V.toStr (List.getD r 3 .undef):HPair}) (V.toRows (List.getD (List.getD r (Int.toNat i) []) 4 V.undef)),body:=V.toStr (List.getD (List.getD r (Int.toNat i) []) 5 V.undef),due:=V.toInt (List.getD (List.getD r (Int.toNat i) []) 6 V.undef),hops:=V.toInt (List.getD (List.getD r (Int.toNat i) []) 7 V.undef):HMail}:HAct}))))) then bif List.all (List.map (RCod.dec cItem) (List.map (RCod.enc cItem) (Prod.fst (N.done18 (List.map (RCod.dec cItem) x) (List.map (RCod.dec cItem) q) {op:=V.toInt (List.getD (List.getD r (Int.toNat i) []) 0 V.undef),mail:={id:=V.toInt (List.getD (List.getD r (Int.toNat i) []) 1 V.undef),shop:=V.toStr (List.getD (List.getD r (Int.toNat i) []) 2 V.undef),key:=V.toStr (List.getD (List.getD r (Int.toNat i) []) 3 V.undef),head:=List.map (fun r=>{key:=V.toStr (List.getD r 0 .undef),kind:=V.toInt (List.getD r 1 .undef),num:=V.toInt (List.getD r 2 .undef),text:=V.toStr (List.getD r 3 .undef):HPair}) (V.toRows (List.getD (List.getD r (Int.toNat i) []) 4 V.undef)),body:=V.toStr (List.getD (List.getD r (Int.toNat i) []) 5 V.undef),due:=V.toInt (List.getD (List.getD r (Int.toNat i) []) 6 V.undef),hops:=V.toInt (List.getD (List.getD r (Int.toNat i) []) 7 V.undef):HMail}:HAct})))) fun x=>N.fineM (HItem.mail x) then List.all (List.map (RCod.dec cItem) (List.map (RCod.enc cItem) (Prod.fst (Prod.snd (N.done18 (List.map (RCod.dec cItem) x) (List.map (RCod.dec cItem) q) {op:=V.toInt (List.getD (List.getD r (Int.toNat i) []) 0 V.undef),mail:={id:=V.toInt (List.getD (List.getD r (Int.toNat i) []) 1 V.undef),shop:=V.toStr (List.getD (List.getD r (Int.toNat i) []) 2 V.undef),key:=V.toStr (List.getD (List.getD r (Int.toNat i) []) 3 V.undef),head:=List.map (fun r=>{key:=V.toStr (List.getD r 0 .undef),kind:=V.toInt (List.getD r 1 .undef),num:=V.toInt (List.getD r 2 .undef),text:=V.toStr (List.getD r 3 .undef):HPair}) (V.toRows (List.getD (List.getD r (Int.toNat i) []) 4 V.undef)),body:=V.toStr (List.getD (List.getD r (Int.toNat i) []) 5 V.undef),due:=V.toInt (List.getD (List.getD r (Int.toNat i) []) 6 V.undef),hops:=V.toInt (List.getD (List.getD r (Int.toNat i) []) 7 V.undef):HMail}:HAct}))))) fun x=>N.fineM (HItem.mail x) else false else false else false) (cond (!N.told18 (List.map (RCod.dec cItem) (List.map (RCod.enc cItem) (Prod.fst (N.done18 (List.map (RCod.dec cItem) x) (List.map (RCod.dec cItem) q) {op:=V.toInt (List.getD (List.getD r (Int.toNat i) []) 0 V.undef),mail:={id:=V.toInt (List.getD (List.getD r (Int.toNat i) []) 1 V.undef),shop:=V.toStr (List.getD (List.getD r (Int.toNat i) []) 2 V.undef),key:=V.toStr (List.getD (List.getD r (Int.toNat i) []) 3 V.undef),head:=List.map (fun r=>{key:=V.toStr (List.getD r 0 .undef),kind:=V.toInt (List.getD r 1 .undef),num:=V.toInt (List.getD r 2 .undef),text:=V.toStr (List.getD r 3 .undef):HPair}) (V.toRows (List.getD (List.getD r (Int.toNat i) []) 4 V.undef)),body:=V.toStr (List.getD (List.getD r (Int.toNat i) []) 5 V.undef),due:=V.toInt (List.getD (List.getD r (Int.toNat i) []) 6 V.undef),hops:=V.toInt (List.getD (List.getD r (Int.toNat i) []) 7 V.undef):HMail}:HAct})))) (List.map (RCod.dec cItem) (List.map (RCod.enc cItem) (Prod.fst (Prod.snd (N.done18 (List.map (RCod.dec cItem) x) (List.map (RCod.dec cItem) q) {op:=V.toInt (List.getD (List.getD r (Int.toNat i) []) 0 V.undef),mail:={id:=V.toInt (List.getD (List.getD r (Int.toNat i) []) 1 V.undef),shop:=V.toStr (List.getD (List.getD r (Int.toNat i) []) 2 V.undef),key:=V.toStr (List.getD (List.getD r (Int.toNat i) []) 3 V.undef),head:=List.map (fun r=>{key:=V.toStr (List.getD r 0 .undef),kind:=V.toInt (List.getD r 1 .undef),num:=V.toInt (List.getD r 2 .undef),text:=V.toStr (List.getD r 3 .undef):HPair}) (V.toRows (List.getD (List.getD r (Int.toNat i) []) 4 V.undef)),body:=V.toStr (List.getD (List.getD r (Int.toNat i) []) 5 V.undef),due:=V.toInt (List.getD (List.getD r (Int.toNat i) []) 6 V.undef),hops:=V.toInt (List.getD (List.getD r (Int.toNat i) []) 7 V.undef):HMail}:HAct}))))) t) (K Ex.ret {fr:=[(4,V.bool false)],tab:=[]:St}) (cond (smallL (List.map (RCod.dec cItem) x)) (cond (smallL (List.map (RCod.dec cItem) (List.map (RCod.enc cItem) (List.map (RCod.dec cItem) x)))) (cond (!N.sameL (List.map (RCod.dec cItem) (List.map (RCod.enc cItem) (List.map (RCod.dec cItem) x))) (List.map (RCod.dec cItem) q)) (K Ex.ret {fr:=[(4,V.bool false)],tab:=[]:St}) (cond (smallL (List.map (RCod.dec cItem) x)) (cond (smallL (List.map (RCod.dec cItem) q)) (cond (!N.sameL (List.map (RCod.dec cItem) x) (List.map (RCod.dec cItem) (List.map (RCod.enc cItem) (Prod.fst (N.done18 (List.map (RCod.dec cItem) x) (List.map (RCod.dec cItem) q) {op:=V.toInt (List.getD (List.getD r (Int.toNat i) []) 0 V.undef),mail:={id:=V.toInt (List.getD (List.getD r (Int.toNat i) []) 1 V.undef),shop:=V.toStr (List.getD (List.getD r (Int.toNat i) []) 2 V.undef),key:=V.toStr (List.getD (List.getD r (Int.toNat i) []) 3 V.undef),head:=List.map (fun r=>{key:=V.toStr (List.getD r 0 .undef),kind:=V.toInt (List.getD r 1 .undef),num:=V.toInt (List.getD r 2 .undef),text:=V.toStr (List.getD r 3 .undef):HPair}) (V.toRows (List.getD (List.getD r (Int.toNat i) []) 4 V.undef)),body:=V.toStr (List.getD (List.getD r (Int.toNat i) []) 5 V.undef),due:=V.toInt (List.getD (List.getD r (Int.toNat i) []) 6 V.undef),hops:=V.toInt (List.getD (List.getD r (Int.toNat i) []) 7 V.undef):HMail}:HAct}))))==N.sameL (List.map (RCod.dec cItem) q) (List.map (RCod.dec cItem) (List.map (RCod.enc cItem) (Prod.fst (Prod.snd (N.done18 (List.map (RCod.dec cItem) x) (List.map (RCod.dec cItem) q) {op:=V.toInt (List.getD (List.getD r (Int.toNat i) []) 0 V.undef),mail:={id:=V.toInt (List.getD (List.getD r (Int.toNat i) []) 1 V.undef),shop:=V.toStr (List.getD (List.getD r (Int.toNat i) []) 2 V.undef),key:=V.toStr (List.getD (List.getD r (Int.toNat i) []) 3 V.undef),head:=List.map (fun r=>{key:=V.toStr (List.getD r 0 .undef),kind:=V.toInt (List.getD r 1 .undef),num:=V.toInt (List.getD r 2 .undef),text:=V.toStr (List.getD r 3 .undef):HPair}) (V.toRows (List.getD (List.getD r (Int.toNat i) []) 4 V.undef)),body:=V.toStr (List.getD (List.getD r (Int.toNat i) []) 5 V.undef),due:=V.toInt (List.getD (List.getD r (Int.toNat i) []) 6 V.undef),hops:=V.toInt (List.getD (List.getD r (Int.toNat i) []) 7 V.undef):HMail}:HAct})))))) (K Ex.ret {fr:=[(4,V.bool false)],tab:=[]:St}) (K Ex.normal {fr:=[(1,V.int .u64 t),(5,V.ptr 10000 0 0 0),(6,V.slc [.int .u64,.str,.str,.slc [.str,.int .u8,.int .i64,.str],.str,.int .u64,.int .u8,.bool,.bool] (List.map (RCod.enc cItem) (Prod.fst (Prod.snd (N.done18 (List.map (RCod.dec cItem) x) (List.map (RCod.dec cItem) q) {op:=V.toInt (List.getD (List.getD r (Int.toNat i) []) 0 V.undef),mail:={id:=V.toInt (List.getD (List.getD r (Int.toNat i) []) 1 V.undef),shop:=V.toStr (List.getD (List.getD r (Int.toNat i) []) 2 V.undef),key:=V.toStr (List.getD (List.getD r (Int.toNat i) []) 3 V.undef),head:=List.map (fun r=>{key:=V.toStr (List.getD r 0 .undef),kind:=V.toInt (List.getD r 1 .undef),num:=V.toInt (List.getD r 2 .undef),text:=V.toStr (List.getD r 3 .undef):HPair}) (V.toRows (List.getD (List.getD r (Int.toNat i) []) 4 V.undef)),body:=V.toStr (List.getD (List.getD r (Int.toNat i) []) 5 V.undef),due:=V.toInt (List.getD (List.getD r (Int.toNat i) []) 6 V.undef),hops:=V.toInt (List.getD (List.getD r (Int.toNat i) []) 7 V.undef):HMail}:HAct}))))),(17,V.slc [.int .u8,.int .u64,.str,.str,.slc [.str,.int .u8,.int .i64,.str],.str,.int .u64,.int .u8] r),(18,V.int .i64 n),(19,V.int .i64 (IntKind.wrap .i64 (i+(1:Int))))],tab:=[(10000,Box.var [V.slc [.int .u64,.str,.str,.slc [.str,.int .u8,.int .i64,.str],.str,.int .u64,.int .u8,.bool,.bool] (List.map (RCod.enc cItem) (Prod.fst (N.done18 (List.map (RCod.dec cItem) x) (List.map (RCod.dec cItem) q) {op:=V.toInt (List.getD (List.getD r (Int.toNat i) []) 0 V.undef),mail:={id:=V.toInt (List.getD (List.getD r (Int.toNat i) []) 1 V.undef),shop:=V.toStr (List.getD (List.getD r (Int.toNat i) []) 2 V.undef),key:=V.toStr (List.getD (List.getD r (Int.toNat i) []) 3 V.undef),head:=List.map (fun r=>{key:=V.toStr (List.getD r 0 .undef),kind:=V.toInt (List.getD r 1 .undef),num:=V.toInt (List.getD r 2 .undef),text:=V.toStr (List.getD r 3 .undef):HPair}) (V.toRows (List.getD (List.getD r (Int.toNat i) []) 4 V.undef)),body:=V.toStr (List.getD (List.getD r (Int.toNat i) []) 5 V.undef),due:=V.toInt (List.getD (List.getD r (Int.toNat i) []) 6 V.undef),hops:=V.toInt (List.getD (List.getD r (Int.toNat i) []) 7 V.undef):HMail}:HAct})))])]:St})) (none)) (none))) (none)) (none))) (none))) (none)) (none)) (K (Ex.exit 0) {fr:=[],tab:=[]:St}):=by kernel_rfl
theorem done_self {l:List HItem} (h:Sorted l) (a:HAct):N.done18 l l a=(N.act l a,N.act l a,true):=by
 unfold N.done18 N.act
 rw [rPut_eq h]
 cases Int.tmod a.op 6==2 with
 | true=>simp only [cond_true,beq_self_eq_true,sameI_refl]
 | false =>
  cases Int.tmod a.op 6==3 with
  | true=>simp only [cond_true,cond_false,beq_self_eq_true]
  | false =>
   cases Int.tmod a.op 6==4 with
   | true=>simp only [cond_true,cond_false,beq_self_eq_true,sameI_refl]
   | false=>cases Int.tmod a.op 6==5<;>simp only [cond_true,cond_false,beq_self_eq_true]
theorem ok_plays18_8:RoundsOk ePlays18 7 8:=by
 refine rounds_of rfl fun l K q h=>?_
 unfold gPlays18 at h
 split at h
 ·rename_i t q r n i x
  have h1:=(cond_none h).1; replace h:=(cond_none h).2; have h2:=(cond_none h).1; replace h:=(cond_none h).2; have h3:=(cond_none h).1; replace h:=(cond_none h).2; have h4:=(cond_none h).1; replace h:=(cond_none h).2; have h5:=(cond_none h).1; replace h:=(cond_none h).2; have h6:=(cond_none h).1; replace h:=(cond_none h).2; have h7:=(cond_none h).1; replace h:=(cond_none h).2
  have e1:=ieq_of h1
  have e2:=ieq_of h2
  have e3:=List.eq_nil_of_length_eq_zero (nbeq_of h4)
  have e4:=List.eq_nil_of_length_eq_zero (nbeq_of h5)
  subst e1 e2 e3 e4
  have h3:r.length≤100:=ble_of h3
  have main:=range_ind (E:=ePlays18) (f:=7) (id:=8) (A:=List HItem) r (fun l i=>{ fr:=[(1,.int .u64 t),(5,.ptr 10000 0 0 0),(6,.slc [.int .u64,.str,.str,.slc [.str,.int .u8,.int .i64,.str],.str,.int .u64,.int .u8,.bool,.bool] (l.map cItem.enc)),(17,.slc [.int .u8,.int .u64,.str,.str,.slc [.str,.int .u8,.int .i64,.str],.str,.int .u64,.int .u8] r),(18,.int .i64 r.length),(19,.int .i64 i)],tab:=[(10000,.var [.slc [.int .u64,.str,.str,.slc [.str,.int .u8,.int .i64,.str],.str,.int .u64,.int .u8,.bool,.bool] (l.map cItem.enc)])] }) (fun l i=>LInv l∧allM N.fineM l=true)
   (fun a rows K=>K (.exit 0) { fr:=[],tab:=[] }) (fun l i ha hi=>?_) (fun a ha=>?_) [] 0 (Int.le_refl _) (by omega) ⟨linv0,rfl⟩ K q (by assumption)
  ·exact main
  ·obtain ⟨hx,hf⟩:=ha
   have hs:smallM (cAct.dec (r.getD i [])).mail=true:=all_rowA h6 hi
   have hw:N.fineM (cAct.dec (r.getD i [])).mail=true:=all_rowA (p:=fun a=>N.fineM a.mail) h7 hi
   have hd:=done_self hx.sorted (cAct.dec (r.getD i []))
   have hy:=act_linv hx hs
   have hz:=act_all hf hw
   refine .inl ⟨N.act l (cAct.dec (r.getD i [])),⟨hy,hz⟩,fun K=>?_,fun K=>rfl⟩
   rw [q_plays18R]
   have ht:=told18_self (t:=t) hz
   have b1:Nat.ble l.length 1000=true:=ble_t (Nat.le_trans hx.few (by decide))
   have hz' : _=true:=hz
   unfold allM at hz'
   simp only [Int.toNat_natCast,fold_actM]
   simp only [fold_act2,dec_encs,hd]
   simp (disch:=omega) only [evs,hx.smallL,hy.smallL,hs,hz',ht,b1,sameL_refl,beq_self_eq_true,Bool.not_true]
  ·refine ⟨.exit 0,_,by simp,fun K=>?_,fun K=>rfl⟩
   rw [q_plays18R]
   simp (disch:=omega) only [evs]
 ·cases h
theorem ok_lawLP (hN:FnOk Tryz.prog 158 dOutNum) (hT:FnOk Tryz.prog 29 dTold18):FnOk Tryz.prog 7 (den (aCons (vSl cAct) (aOne (vInt .u64))) bNil (oV vBool) (fun a _=>cond (Nat.ble a.1.length 9223372036854775807) (a.1.all fun a=>N.fineM a.mail) false) fun _ _=>(true,())):=by
 refine den_okF (env_ok ((((((((TOk.nil _).cons ok_sameL).cons ok_rSame18).cons ok_lawOf).cons hT).cons ok_done18).cons ok_light18).cons (ok_aw18 hN))) (E:=ePlays18) Tryz.func7 [8] (by kernel_rfl) (one1 ok_plays18_8) fun a b hp=>?_
 obtain ⟨l,t⟩:=a
 obtain ⟨hp,hw⟩:=bcond hp
 have hp:Nat.ble l.length 9223372036854775807=true:=hp
 have hw:(l.all fun a=>N.fineM a.mail)=true:=hw
 refine (q_plays18 l t).trans ?_
 show _=some (⟨.bool true,[],[]⟩:DRes)
 simp only [dec_encs,List.length_map,hp,cond_true]
 cases hl:N.lightActs l with
 | false=>rfl
 | true =>
  by_cases h100:l.length≤100
  ·have hs:=acts_small hl
   simp (disch:=omega) only [evs,hs,hw,beq_self_eq_true,Bool.not_true]
  ·simp (disch:=omega) only [evs,Bool.not_false]
end Go.Ev

/- The library's text builder in this program,and the function that writes a number's bytes with it: lemmas,no condition but the text's length. -/
namespace Go.Ev
open Go Go.Proofs Go.RowKit Go.Shelf
theorem bSize:(Tryz.prog.info? 216).map (·.size)=some 2:=by kernel_rfl
theorem bLies:liesAt Tryz.prog Tryz.prog.depth 216 (2 / Tryz.prog.cellsOf 216) 0 216 1=true:=by kernel_rfl
theorem bByte:(Tryz.prog.info? 5).map (fun i=>(i.zero,i.size,i.bytes))=some (some (.int .u8 0),1,1):=by kernel_rfl
set_option maxHeartbeats 1000000 in
set_option maxRecDepth 100000 in
theorem cc_used (b : Nat) (w : World) (h0 : w.cell? ⟨b, 0, none⟩ = some (.pointer (some ⟨b, 0, none⟩))) :
    Calls Tryz.prog 175 #[.pointer (some ⟨b, 0, none⟩)] w fun e w' => e = .returned (.tuple #[]) ∧ w' = w := by
  obtain ⟨j, hj, _⟩ := Option.map_eq_some_iff.1 bSize
  go_enter Tryz.func175, Tryz.ntmps175
  go_wp2
  rw [Lib.run_neq_ptr_same w _ Tryz.underlying213 hj]
  go_wp2
  go_end0
  exact ⟨rfl, rfl⟩
set_option maxHeartbeats 1000000 in
set_option maxRecDepth 100000 in
theorem cc_fresh (b : Nat) (w : World) (h0 : w.cell? ⟨b, 0, none⟩ = some (.pointer none)) (hsh : w.shape? b = some (216, 2)) (hfz : w.frozen? ⟨b, 0, none⟩ = false) :
    Calls Tryz.prog 175 #[.pointer (some ⟨b, 0, none⟩)] w fun e w' => e = .returned (.tuple #[]) ∧ w' = w.setCell ⟨b, 0, none⟩ (.pointer (some ⟨b, 0, none⟩)) := by
  obtain ⟨j, hj, hjs⟩ := Option.map_eq_some_iff.1 bSize
  go_enter Tryz.func175, Tryz.ntmps175
  go_wp2
  rw [Lib.run_to_unsafe w ⟨b, 0, none⟩ Tryz.underlying213 Tryz.underlying224 hj (by rw [hjs]; decide) hsh (Nat.zero_lt_succ 1)]
  simp only [Result.andThen]
  rw [Oper.upon_value]
  go_wp2
  rw [run_callFunc_extern Tryz.func180 (by kernel_rfl) (by kernel_rfl) (by kernel_rfl) (e := Extern.AbiNoEscape.same) (by kernel_rfl)]
  rw [Lib.run_noEscape]
  simp only [Result.andThen]
  rw [Oper.upon_value]
  go_wp2
  rw [Lib.run_from_unsafe w ⟨b, 0, none⟩ Tryz.underlying224 Tryz.underlying213 hj hsh bLies]
  simp only [Result.andThen]
  rw [Oper.upon_value]
  go_wp2
  go_end0
  exact ⟨rfl, rfl⟩
theorem cc (B b:Nat) (bs:List Value) (w:World) (h:Lib.IsBuilder 216 5 B b bs w) :
  Calls Tryz.prog 175 #[.pointer (some ⟨b,0,none⟩)] w fun e w'=>e = .returned (.tuple #[])∧(Lib.BuilderAt 216 5 B b (.pointer (some ⟨b,0,none⟩)) bs w'∧Below B w w'):=by
 rcases h with h | h
 ·refine (cc_fresh b w h.cell0 h.shape h.frozen0).mono ?_
  rintro e w' ⟨rfl,rfl⟩
  exact ⟨rfl,h.used _,(Below.refl B w).setCell (p:=⟨b,0,none⟩) h.1 _⟩
 ·refine (cc_used b w h.cell0).mono ?_
  rintro e w' ⟨rfl,rfl⟩
  exact ⟨rfl,h,Below.refl B _⟩
set_option maxHeartbeats 2000000 in
set_option maxRecDepth 100000 in
theorem writeByte (B b : Nat) (bs : List Value) (c : Int) (w : World) (h : Lib.IsBuilder 216 5 B b bs w) (hlen : bs.length + 1 ≤ 140737488355328) (hBw : B ≤ w.heap.size) :
    Calls Tryz.prog 171 #[.pointer (some ⟨b, 0, none⟩), .int .u8 c] w fun e w' => e = .returned .nilIface ∧ (Lib.BuilderAt 216 5 B b (.pointer (some ⟨b, 0, none⟩)) (bs ++ [.int .u8 c]) w' ∧ Below B w w') := by
  obtain ⟨i0, hi, hz0, hz1, hz2⟩ := info_parts bByte
  go_enter Tryz.func171, Tryz.ntmps171
  go_wp2_with (go_at_call 175; refine (cc B b bs _ h).mono ?_)
  rintro e w1 ⟨rfl, h1, hb1⟩
  obtain ⟨hB, v, hbk, hown, hne⟩ := h1
  have c0 : w1.cell? ⟨b, 0, none⟩ = some (.pointer (some ⟨b, 0, none⟩)) := by rw [Lib.cell_of_heap hbk]; rfl
  have c1 : w1.cell? ⟨b, 1, none⟩ = some v := by rw [Lib.cell_of_heap hbk]; rfl
  go_wp2_with (at_builtin; refine wpList_append_own _ rfl _ _ 214 rfl B 5 i0 (.int .u8 0) 1 1 Tryz.underlying214 hi hz0 hz1 hz2 rfl (by decide) _ _ _ rfl (hown.alloc _) ⟨w1.heap.size, 0, none⟩ 1 1 [.int .u8 c] rfl rfl ?c1 ?c2 ?c3 ?c4 ?c5 ?_)
  case c1 =>
    intro j u hj
    match j, hj with
    | 0, hj => simp at hj; subst hj; simp [Addr.add]
  case c2 => intro u hu; simp at hu; subst hu; rfl
  case c3 => unfold maxLen; omega
  case c4 => omega
  case c5 => have := hb1.size; simp; omega
  intro v' w2 hown' hgrow _
  have hlt : b < w1.heap.size := by
    rcases Nat.lt_or_ge b w1.heap.size with h' | h'
    · exact h'
    · simp [Array.getElem?_eq_none h'] at hbk
  have hb2 : w2.heap[b]? = some (.cells #[.pointer (some ⟨b, 0, none⟩), v] 216 (0, 0)) := by
    rw [hgrow.block b (by simp; omega) (fun e => hne e.symm), Lib.alloc_old w1 _ b hlt]
    exact hbk
  have d0 : w2.cell? ⟨b, 0, none⟩ = some (.pointer (some ⟨b, 0, none⟩)) := by rw [Lib.cell_of_heap hb2]; rfl
  have d1 : w2.cell? ⟨b, 1, none⟩ = some v := by rw [Lib.cell_of_heap hb2]; rfl
  have f1 : w2.frozen? ⟨b, 1, none⟩ = false := Lib.frozen_of_heap hb2 1
  obtain ⟨g, cap, rfl⟩ : ∃ g cap, v' = .slice (some ⟨g, 0, none⟩) (bs.length + 1) cap := by
    rcases hown'.2 with ⟨_, h0⟩ | ⟨g, cap, cur, hv, _⟩
    · omega
    · exact ⟨g, cap, hv⟩
  go_wp2
  go_ret
  refine ⟨rfl, ?_, ?_⟩
  · exact Lib.BuilderAt.put (T := 216) (e := 5) hB hb2 (bs' := bs ++ [.int .u8 c]) (by simpa using hown') (by decide)
  · exact ((hb1.alloc (by have := hb1.size; omega) _).grown hgrow (by have := hb1.size; simp; omega) (fun k hk => (hown.lt k hk).1)).setCell (p := ⟨b, 1, none⟩) hB _
def lays169_ren:Go.Shelf.Ren:=⟨fun | 169=>172 | n=>n,fun | 70=>213 | 9=>9 | 0=>0 | 72=>216 | 37=>214 | 127=>221 | 3=>3 | 5=>5 | n=>n,fun | n=>n⟩
theorem lays169:Go.Proofs.Lays.n169 Tryz.prog lays169_ren:={
 mixed:=by kernel_rfl
 f169:=Tryz.func172.trans (congrArg some (by kernel_rfl))
 t0:=Tryz.underlying0
 a0:=Tryz.isAgg0
 z0:=Tryz.sizeOf0
 v0:=Tryz.zeroValue0
 t3:=Tryz.underlying3
 a3:=Tryz.isAgg3
 z3:=Tryz.sizeOf3
 v3:=Tryz.zeroValue3
 t9:=Tryz.underlying9
 a9:=Tryz.isAgg9
 z9:=Tryz.sizeOf9
 v9:=Tryz.zeroValue9
 t37:=Tryz.underlying214
 a37:=Tryz.isAgg214
 z37:=Tryz.sizeOf214
 v37:=Tryz.zeroValue214
 t70:=Tryz.underlying213
 a70:=Tryz.isAgg213
 z70:=Tryz.sizeOf213
 v70:=Tryz.zeroValue213
 t72:=Tryz.underlying216
 a72:=Tryz.isAgg216
 z72:=Tryz.sizeOf216
 v72:=Tryz.zeroValue216
 t127:=Tryz.underlying221
 a127:=Tryz.isAgg221
 z127:=Tryz.sizeOf221
 v127:=Tryz.zeroValue221 }
theorem extra169:Builder.Extra Tryz.prog lays169_ren:={
 sizeBuilder:=by kernel_rfl
 liesBuilder:=by kernel_rfl
 t5:=Tryz.underlying5
 a5:=Tryz.isAgg5
 z5:=Tryz.sizeOf5
 v5:=Tryz.zeroValue5
 infoByte:=by kernel_rfl
 cellsByte:=by kernel_rfl
 sizeByte:=by kernel_rfl
 neB5:=by decide }
theorem bString (B b:Nat) (l:List UInt8) (w:World) (h:Lib.IsBuilder 216 5 B b (Lib.byteCells l) w) (hBw:B≤w.heap.size) :
  Calls Tryz.prog 172 #[.pointer (some ⟨b,0,none⟩)] w fun e w'=>e = .returned (.string ⟨l.toArray⟩)∧Below B w w':=Any.Builder_String_any lays169 extra169 B b l w h hBw
end Go.Ev

/- The function that writes a number's bytes: its walk. -/
namespace Go.Ev
open Go Go.Proofs Go.RowKit Go.Shelf
theorem clamp_eq {bytes:Int}:min (max bytes 0) 8=(N.clamp bytes:Int)∧N.clamp bytes≤8:=by
 unfold N.clamp
 rw [ilt_eq,ilt_eq]
 by_cases h1:0<bytes
 ·by_cases h2:8<bytes
  ·simp [h1,h2]; omega
  ·simp [h1,h2]; omega
 ·simp [h1]; omega
theorem two_blocks {w wr:World} {o1 o2:Obj} (h:Below (w.heap.size+1+1) ((w.alloc o1).alloc o2) wr):wr.heap[w.heap.size]? = some o1∧wr.heap[w.heap.size+1]? = some o2:=by
 have e:(w.alloc o1).heap.size=w.heap.size+1:=by simp
 refine ⟨?_,?_⟩
 ·rw [h.block _ (by omega),Below.heap_alloc _ _ _ (by omega)]; exact Go.heap_alloc_new w o1
 ·rw [h.block _ (by omega),← e]; exact Go.heap_alloc_new _ o2
set_option maxHeartbeats 4000000 in
set_option maxRecDepth 1000000 in
theorem outNum_walk (s : ByteArray) (er n bytes : Int) (w : World) (hs : (s.size : Int) ≤ 9223372036854775799) :
    Calls Tryz.prog 158 #[.agg #[.string s, .int .i64 er], .int .u64 n, .int .i64 bytes] w fun e w' =>
      e = .returned (.agg #[.string ⟨(s.data.toList ++ N.numB n (N.clamp bytes)).toArray⟩, .int .i64 er]) ∧ Below w.heap.size w w' := by
  go_enter Tryz.func158, Tryz.ntmps158
  go_wp2
  go_loopw [8] (fun i wr => ∃ (k : Int) (acc : List UInt8), i = .int .i64 k ∧ Lib.IsBuilder 216 5 (w.heap.size + 1 + 1) (w.heap.size + 1 + 1) (Lib.byteCells acc) wr ∧
      Below (w.heap.size + 1 + 1) ((w.alloc (Obj.cells #[Value.string s, Value.int IntKind.i64 er] 201)).alloc (Obj.cells #[Value.string { data := #[] }, Value.int IntKind.i64 0] 201)) wr ∧
      -1 ≤ k ∧ acc ++ N.numB n (k + 1).toNat = N.numB n (N.clamp bytes) ∧ acc.length + (k + 1).toNat ≤ 8) (fun i _ => (intOf i + 1).toNat)
  case atStart =>
    obtain ⟨hcl, hc8⟩ := clamp_eq (bytes := bytes)
    have hf := Lib.fresh_isBuilder 216 5 ((w.alloc (Obj.cells #[Value.string s, Value.int IntKind.i64 er] 201)).alloc (Obj.cells #[Value.string { data := #[] }, Value.int IntKind.i64 0] 201))
    have e0 : ((w.alloc (Obj.cells #[Value.string s, Value.int IntKind.i64 er] 201)).alloc (Obj.cells #[Value.string { data := #[] }, Value.int IntKind.i64 0] 201)).heap.size = w.heap.size + 1 + 1 := by simp
    rw [e0] at hf
    refine ⟨(N.clamp bytes : Int) - 1, [], by rw [hcl], hf, (Below.refl _ _).alloc (by simp) _, by omega, ?_, ?_⟩
    · rw [show ((N.clamp bytes : Int) - 1 + 1).toNat = N.clamp bytes by omega]; rfl
    · simp only [List.length_nil]; omega
  case round =>
    obtain ⟨k, acc, rfl, hI, hB, hk, hacc, hal⟩ := hrel
    by_cases hk0 : 0 ≤ k
    · go_wp2_with (go_at_call 171; refine (writeByte (w.heap.size + 1 + 1) (w.heap.size + 1 + 1) _ _ _ hI (by rw [Lib.byteCells_length]; omega) (by have := hB.size; simp at this; omega)).mono ?_)
      rintro e w1 ⟨rfl, h1, b1⟩
      go_wp2
      go_roundw
      case rel =>
        have e1 : N.numB n (k + 1).toNat = UInt8.ofNat ((n / 2 ^ (8 * k.toNat)) % 256).toNat :: N.numB n k.toNat := by
          rw [show (k + 1).toNat = k.toNat + 1 by omega]; rfl
        have e2 : ((UInt8.ofNat ((n / 2 ^ (8 * k.toNat)) % 256).toNat).toNat : Int) = n / 2 ^ (8 * k).toNat % 256 := by
          rw [show (8 * k).toNat = 8 * k.toNat by omega]
          have h0 : 0 ≤ (n / 2 ^ (8 * k.toNat)) % 256 := Int.emod_nonneg _ (by decide)
          have h1 : (n / 2 ^ (8 * k.toNat)) % 256 < 256 := Int.emod_lt_of_pos _ (by decide)
          have h2 : (UInt8.ofNat ((n / 2 ^ (8 * k.toNat)) % 256).toNat).toNat = ((n / 2 ^ (8 * k.toNat)) % 256).toNat := UInt8.toNat_ofNat_of_lt' (by
            show ((n / 2 ^ (8 * k.toNat)) % 256).toNat < 256
            omega)
          rw [h2]; omega
        refine ⟨k - 1, acc ++ [UInt8.ofNat ((n / 2 ^ (8 * k.toNat)) % 256).toNat], rfl, ?_, hB.trans b1, by omega, ?_, ?_⟩
        · rw [Lib.byteCells_append]
          have e3 : Lib.byteCells [UInt8.ofNat ((n / 2 ^ (8 * k.toNat)) % 256).toNat] = [Value.int .u8 (n / 2 ^ (8 * k).toNat % 256)] := by
            rw [← e2]; rfl
          rw [e3]; exact Or.inr h1
        · rw [e1] at hacc
          rw [← hacc, show (k - 1 + 1).toNat = k.toNat by omega, List.append_assoc]; rfl
        · rw [List.length_append]; simp only [List.length_cons, List.length_nil]; omega
      case measure => simp [intOf]; omega
    · have hk1 : k = -1 := by omega
      subst hk1
      have hfin : N.numB n (N.clamp bytes) = acc := by rw [← hacc]; show acc ++ [] = acc; simp
      have hal : acc.length ≤ 8 := by omega
      clear hacc
      rw [hfin]
      obtain ⟨hb0, hb1⟩ := two_blocks hB
      have c0 : wr.cell? ⟨w.heap.size, 0, none⟩ = some (.string s) := by rw [Lib.cell_of_heap hb0]; rfl
      have c1 : wr.cell? ⟨w.heap.size, 1, none⟩ = some (.int .i64 er) := by rw [Lib.cell_of_heap hb0]; rfl
      have c2 : wr.cell? ⟨w.heap.size + 1, 0, none⟩ = some (.string ⟨#[]⟩) := by rw [Lib.cell_of_heap hb1]; rfl
      have c3 : wr.cell? ⟨w.heap.size + 1, 1, none⟩ = some (.int .i64 0) := by rw [Lib.cell_of_heap hb1]; rfl
      have f0 : wr.frozen? ⟨w.heap.size, 0, none⟩ = false := Lib.frozen_of_heap hb0 0
      have f1 : wr.frozen? ⟨w.heap.size, 1, none⟩ = false := Lib.frozen_of_heap hb0 1
      have f2 : wr.frozen? ⟨w.heap.size + 1, 0, none⟩ = false := Lib.frozen_of_heap hb1 0
      have f3 : wr.frozen? ⟨w.heap.size + 1, 1, none⟩ = false := Lib.frozen_of_heap hb1 1
      have hBw : w.heap.size + 1 + 1 ≤ wr.heap.size := by have := hB.size; simp at this; omega
      have hadd : ¬ 9223372036854775807 < s.size + acc.length := by omega
      have hadd2 : ¬ 9223372036854775807 < s.size + (⟨acc.toArray⟩ : ByteArray).size := by
        show ¬ 9223372036854775807 < s.size + acc.toArray.size
        rw [List.size_toArray]; exact hadd
      have hadd3 : ¬ (s.size + (⟨acc.toArray⟩ : ByteArray).size > 9223372036854775807) := hadd2
      have hadd4 : s.size + (⟨acc.toArray⟩ : ByteArray).size ≤ 9223372036854775807 := Nat.not_lt.1 hadd2
      have hadd5 : s.size + acc.length ≤ 9223372036854775807 := Nat.not_lt.1 hadd
      go_wp2
      go_region_with (go_at_call 172; refine (bString (w.heap.size + 1 + 1) (w.heap.size + 1 + 1) acc _ (by exact hI) (by exact hBw)).mono ?_; rintro e w2 ⟨rfl, b2⟩
                      have d0 : w2.cell? ⟨w.heap.size, 0, none⟩ = some (.string s) := by rw [b2.cell (by show w.heap.size < w.heap.size + 1 + 1; omega)]; exact c0
                      have d1 : w2.cell? ⟨w.heap.size, 1, none⟩ = some (.int .i64 er) := by rw [b2.cell (by show w.heap.size < w.heap.size + 1 + 1; omega)]; exact c1
                      have d2 : w2.cell? ⟨w.heap.size + 1, 0, none⟩ = some (.string ⟨#[]⟩) := by rw [b2.cell (by show w.heap.size + 1 < w.heap.size + 1 + 1; omega)]; exact c2
                      have d3 : w2.cell? ⟨w.heap.size + 1, 1, none⟩ = some (.int .i64 0) := by rw [b2.cell (by show w.heap.size + 1 < w.heap.size + 1 + 1; omega)]; exact c3
                      have e0 : w2.frozen? ⟨w.heap.size, 0, none⟩ = false := by rw [b2.frozen (by show w.heap.size < w.heap.size + 1 + 1; omega)]; exact f0
                      have e1 : w2.frozen? ⟨w.heap.size, 1, none⟩ = false := by rw [b2.frozen (by show w.heap.size < w.heap.size + 1 + 1; omega)]; exact f1
                      have e2 : w2.frozen? ⟨w.heap.size + 1, 0, none⟩ = false := by rw [b2.frozen (by show w.heap.size + 1 < w.heap.size + 1 + 1; omega)]; exact f2
                      have e3 : w2.frozen? ⟨w.heap.size + 1, 1, none⟩ = false := by rw [b2.frozen (by show w.heap.size + 1 < w.heap.size + 1 + 1; omega)]; exact f3)
      all_goals go_wp2
      all_goals
        refine ⟨rfl, .agg #[.string (s ++ ⟨acc.toArray⟩), .int .i64 er], ?_, ?_, ?_⟩
        · simp [results, Tryz.results158, go_sem, d2, d3]
        · rw [hfin, ← bytes_append]
        · have b0 : Below w.heap.size w wr := (((Below.refl _ w).alloc (Nat.le_refl _) _).alloc (by simp) _).trans (hB.mono (by omega))
          exact (((b0.drew.trans (b2.mono (by omega))).setCell (p := ⟨w.heap.size, 0, none⟩) (Nat.le_refl _) _).setCell (p := ⟨w.heap.size + 1, 0, none⟩) (Nat.le_succ _) _).setCell (p := ⟨w.heap.size + 1, 1, none⟩) (Nat.le_succ _) _
theorem keeps_below {w w' : World} (X:Nat→Nat→Prop) (h:Below w.heap.size w w'):Keeps X w w' :=
 ⟨h.os,h.tape,h.output,h.size,fun b hb=>ObjOk.same (h.block b hb)⟩
theorem outNum_ok:FnOk Tryz.prog 158 dOutNum:=by
 refine den_of fun a b hp=>?_
 obtain ⟨o,n,bytes⟩:=a
 intro x y hxy w J locs xs hlen hJ hx _ _ _
 have hxy:x=(aCons (vAgg cOut) (aCons (vInt .u64) (aOne (vInt .i64)))).enc (o,n,bytes)∧y=bNil.enc b:=by simpa using hxy
 obtain ⟨rfl,rfl⟩:=hxy
 have hlen:locs=[]:=List.eq_nil_of_length_eq_zero hlen
 subst hlen
 obtain ⟨hp1,hp⟩:=bcond hp
 obtain ⟨hp2,hp3⟩:=bcond hp
 have hp3:o.s.length≤9223372036854775799:=Nat.le_of_ble_eq_true hp3
 obtain ⟨x0,xs1,rfl,hx0,hx⟩:=hx.uncons
 obtain ⟨x1,xs2,rfl,hx1,hx⟩:=hx.uncons
 obtain ⟨x2,rfl,hx2⟩:=hx.one
 obtain ⟨cs,rfl,hc1,hc2⟩:=Rv.agg_inv (show Rv w J _ (.agg [.str o.s,.int .i64 o.err]) x0 from hx0)
 have hx1:=Rv.int_inv (show Rv w J _ (.int .u64 n) x1 from hx1)
 have hx2:=Rv.int_inv (show Rv w J _ (.int .i64 bytes) x2 from hx2)
 subst hx1 hx2
 match cs,hc1,hc2 with
 | [c0,c1],_,hc2 =>
  have h0:=Rv.str_inv (show Rv w J _ (.str o.s) c0 from hc2 0 (by simp))
  have h1:=Rv.int_inv (show Rv w J _ (.int .i64 o.err) c1 from hc2 1 (by simp))
  subst h0 h1
  refine .inl ⟨?_,?_⟩
  ·have hnm : ¬ (Tryz.f158).name = "runtime.NumGoroutine" := by
    intro e
    have : ((Tryz.f158).name == "runtime.NumGoroutine") = false := by kernel_rfl
    rw [e] at this; cases this
   obtain ⟨c,hc⟩:=Option.isSome_iff_exists.1 (show (Tryz.f158).body.isSome=true by kernel_rfl)
   simp [callFunc,Tryz.func158,hnm,hc]
  ·refine (outNum_walk ⟨o.s.toArray⟩ o.err n bytes w (by rw [bytes_size]; omega)).mono fun e w' ⟨he,hb⟩=>⟨_,he,J,?_⟩
   refine ⟨keeps_below _ hb,fun _ _ h=>h,fun b o' h=>Nat.lt_of_lt_of_le (hJ b o' h) hb.size,fun _ _ h _=>h,rfl,(fun j cs cs' p hj=>by cases hj),.inl ⟨rfl,?_⟩⟩
   refine .agg [.str (N.outNum o n bytes).s,.int .i64 (N.outNum o n bytes).err] [.string ⟨(o.s++N.numB n (N.clamp bytes)).toArray⟩,.int .i64 o.err] rfl fun i hi=>?_
   match i,hi with
   | 0,_=>exact .dat (.str _)
   | 1,_=>exact .dat (.int _ _)
end Go.Ev
