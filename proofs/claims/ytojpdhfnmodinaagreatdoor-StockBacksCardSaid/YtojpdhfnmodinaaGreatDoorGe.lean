/- Counting,giving,waking and making lines; sameness: lemmas. -/
import Derived.Test.YtojpdhfnmodinaaGreatDoorGd
namespace Go.Ev
open Go Go.Proofs
set_option maxRecDepth 100000
-- FOLD
theorem all_rowI {p:HItem→Bool} {r:List (List V)} (h:(r.map cItem.dec).all p=true) {i:Nat} (hi:i<r.length):p (cItem.dec (r.getD i []))=true:=by
 refine List.all_eq_true.1 h _ (List.mem_map_of_mem ?_)
 rw [List.getD_eq_getElem?_getD,List.getElem?_eq_getElem hi]
 exact List.getElem_mem hi
def schLReady:SSch:={ fr:=[(3,.int .i64),(7,.slc [.int .u64,.str,.str,.slc [.str,.int .u8,.int .i64,.str],.str,.int .u64,.int .u8,.bool,.bool]),(8,.int .i64),(9,.int .i64)],tab:=[] }
def gLReady:List Leaf→(Ex→St→Option R)→Option R
 | [.i a,.r r,.i n,.i i],K=>cond (n==r.length) (cond (i==0) (cond (a==0) (cond (Nat.ble r.length 1000) (K (.exit 0) { fr:=[(3,.int .i64 (N.lReady (r.map cItem.dec)))],tab:=[] }) none) none) none) none
 | _,_=>none
noncomputable def eLReady:Env:=env Tryz.prog [] [(3,loopF schLReady gLReady)] [(3,[(0,[3,7,8,9]),(1,[3]),(1000,[2])])]
theorem q_lReadyN (l:List HItem):evFn eLReady 17 ((aOne (vAgg cLine)).enc l) ([]) some =
 cond ((↑(List.length (List.map (RCod.enc cItem) l)):Int)==(↑(List.length (List.map (RCod.enc cItem) l)):Int)) (cond (Nat.ble (List.length (List.map (RCod.enc cItem) l)) 1000) (some {v:=V.int .i64 (N.lReady (List.map (RCod.dec cItem) (List.map (RCod.enc cItem) l))),bx:=[]:DRes}) (none)) (none):=by kernel_rfl
theorem q_lReadyNR (a:Int) (r:List (List V)) (n i:Int) (K:Ex→St→Option R):evRound eLReady 17 3 { fr:=[(3,.int .i64 a),(7,.slc [.int .u64,.str,.str,.slc [.str,.int .u8,.int .i64,.str],.str,.int .u64,.int .u8,.bool,.bool] r),(8,.int .i64 n),(9,.int .i64 i)],tab:=[] } K =
 cond (ilt i n) (cond (decide ((0:Int)≤i∧i<(↑(List.length r):Int))) (cond (!V.toBool (List.getD (List.getD r (Int.toNat i) []) 7 V.undef)) (K Ex.normal {fr:=[(3,V.int .i64 (IntKind.wrap .i64 (a+(1:Int)))),(7,V.slc [.int .u64,.str,.str,.slc [.str,.int .u8,.int .i64,.str],.str,.int .u64,.int .u8,.bool,.bool] r),(8,V.int .i64 n),(9,V.int .i64 (IntKind.wrap .i64 (i+(1:Int))))],tab:=[]:St}) (K Ex.normal {fr:=[(3,V.int .i64 a),(7,V.slc [.int .u64,.str,.str,.slc [.str,.int .u8,.int .i64,.str],.str,.int .u64,.int .u8,.bool,.bool] r),(8,V.int .i64 n),(9,V.int .i64 (IntKind.wrap .i64 (i+(1:Int))))],tab:=[]:St})) (none)) (K (Ex.exit 0) {fr:=[(3,V.int .i64 a)],tab:=[]:St}):=by kernel_rfl
theorem ok_lReadyN:FnOk Tryz.prog 17 dLReadyN:=by
 refine den_okF (env_ok (TOk.nil _)) (E:=eLReady) Tryz.func17 [3] (by kernel_rfl) (one1 (rounds_of rfl fun l K q h=>?_)) fun l _ hp=>?_
 ·unfold gLReady at h
  split at h
  ·rename_i a r n i
   have h1:=(cond_none h).1; replace h:=(cond_none h).2; have h2:=(cond_none h).1; replace h:=(cond_none h).2; have h3:=(cond_none h).1; replace h:=(cond_none h).2; have h4:=(cond_none h).1; replace h:=(cond_none h).2
   have e1:=ieq_of h1
   have e2:=ieq_of h2
   have e3:=ieq_of h3
   subst e1 e2 e3
   have h4:r.length≤1000:=ble_of h4
   have main:=range_ind (E:=eLReady) (f:=17) (id:=3) (A:=Int) r (fun a i=>{ fr:=[(3,.int .i64 a),(7,.slc [.int .u64,.str,.str,.slc [.str,.int .u8,.int .i64,.str],.str,.int .u64,.int .u8,.bool,.bool] r),(8,.int .i64 r.length),(9,.int .i64 i)],tab:=[] }) (fun a i=>0≤a∧a≤i)
    (fun a rows K=>K (.exit 0) { fr:=[(3,.int .i64 (a+N.lReady (rows.map cItem.dec)))],tab:=[] }) (fun a i ha hi=>?_) (fun a _=>?_) 0 0 (Int.le_refl _) (by omega) ⟨Int.le_refl _,Int.le_refl _⟩ K q (by rw [Int.zero_add]; exact h)
   ·exact main
   ·have e:N.lReady ((r.getD i []::r.drop (i+1)).map cItem.dec)=cond (cItem.dec (r.getD i [])).lent (N.lReady ((r.drop (i+1)).map cItem.dec)) (1+N.lReady ((r.drop (i+1)).map cItem.dec)):=rfl
    rw [e]
    cases hc:(cItem.dec (r.getD i [])).lent with
    | true =>
     refine .inl ⟨a,⟨ha.1,by omega⟩,fun K=>?_,fun K=>rfl⟩
     rw [q_lReadyNR]
     have hc:V.toBool (List.getD (List.getD r i []) 7 V.undef)=true:=hc
     simp (disch:=omega) only [evs,Int.toNat_natCast,hc,Bool.not_true]
    | false =>
     refine .inl ⟨a+1,⟨by omega,by omega⟩,fun K=>?_,fun K=>by rw [Int.add_assoc]; rfl⟩
     rw [q_lReadyNR]
     have hc:V.toBool (List.getD (List.getD r i []) 7 V.undef)=false:=hc
     simp (disch:=omega) only [evs,Int.toNat_natCast,hc,Bool.not_false]
   ·refine ⟨.exit 0,{ fr:=[(3,.int .i64 (a+0))],tab:=[] },by simp,fun K=>?_,fun K=>rfl⟩
    rw [q_lReadyNR,Int.add_zero]
    simp (disch:=omega) only [evs]
  ·cases h
 ·have hp:Nat.ble l.length 1000=true:=hp
  refine (q_lReadyN l).trans ?_
  simp only [List.length_map,dec_encs,hp,beq_self_eq_true,cond_true]
  try rfl
namespace N
def wakes:List HItem→Nat→List HItem→List HItem
 | [],_,l=>l
 | x::r,k,l=>wakes r (k+1) (cond x.lent (setAt backI l k) l)
end N
theorem wakes_eq:∀ (r pre:List HItem),N.wakes r pre.length (pre++r)=pre++N.lWake r
 | [],pre=>rfl
 | x::r,pre=>by
  unfold N.wakes
  have hg:(pre++x::r).getD pre.length item0=x:=by
   rw [List.getD_eq_getElem?_getD,List.getElem?_append_right (Nat.le_refl _)]
   simp
  have e:cond x.lent (N.setAt N.backI (pre++x::r) pre.length) (pre++x::r)=(pre++[N.wakeI x])++r:=by
   unfold N.wakeI
   cases x.lent with
   | true =>
    show N.setAt N.backI (pre++x::r) pre.length=_
    unfold N.setAt
    rw [hg]
    simp [List.set_append]
   | false=>simp
  have:=wakes_eq r (pre++[N.wakeI x])
  rw [List.length_append] at this
  rw [e]
  rw [show pre.length+1=pre.length+[N.wakeI x].length from rfl,this,List.append_assoc]
  try rfl
def schLWake:SSch:={ fr:=[(1,.ptr 10000 0 0),(2,.ptr 10001 0 0),(6,.slc [.int .u64,.str,.str,.slc [.str,.int .u8,.int .i64,.str],.str,.int .u64,.int .u8,.bool,.bool]),(7,.int .i64),(8,.int .i64)],tab:=[(10000,.var [.slc [.int .u64,.str,.str,.slc [.str,.int .u8,.int .i64,.str],.str,.int .u64,.int .u8,.bool,.bool]]),(10001,.var [.slc [.int .u64,.str,.str,.slc [.str,.int .u8,.int .i64,.str],.str,.int .u64,.int .u8,.bool,.bool]])] }
def gLWake:List Leaf→(Ex→St→Option R)→Option R
 | [.r r,.i n,.i i,.r a,.r b],K=>cond (n==r.length) (cond (i==0) (cond (Nat.beq a.length r.length) (cond (Nat.ble r.length 1000)
   (K (.exit 0) { fr:=[(1,.ptr 10000 0 0 0),(2,.ptr 10001 0 0 0)],tab:=[(10000,.var [.slc [.int .u64,.str,.str,.slc [.str,.int .u8,.int .i64,.str],.str,.int .u64,.int .u8,.bool,.bool] (cond ((r.map cItem.dec).any fun x=>x.lent) ((N.wakes (r.map cItem.dec) 0 (a.map cItem.dec)).map cItem.enc) a)]),(10001,.var [.slc [.int .u64,.str,.str,.slc [.str,.int .u8,.int .i64,.str],.str,.int .u64,.int .u8,.bool,.bool] b])] }) none) none) none) none
 | _,_=>none
noncomputable def eLWake:Env:={ env Tryz.prog [(129,dWith 181 N.backI)] [(2,loopF schLWake gLWake)] [(2,[(0,[1,2,6,7,8]),(1,[1,2]),(1000,[2])])] with fz:=true }
theorem q_lWake (l:List HItem):evFn eLWake 138 ((aOne (vAgg cLine)).enc l) ([]) some =
 cond ((↑(List.length (List.map (RCod.enc cItem) l)):Int)==(↑(List.length (List.map (RCod.enc cItem) l)):Int)) (cond (Nat.beq (List.length (List.map (RCod.enc cItem) l)) (List.length (List.map (RCod.enc cItem) l))) (cond (Nat.ble (List.length (List.map (RCod.enc cItem) l)) 1000) (some {v:=V.agg [V.slc [.int .u64,.str,.str,.slc [.str,.int .u8,.int .i64,.str],.str,.int .u64,.int .u8,.bool,.bool] (bif List.any (List.map (RCod.dec cItem) (List.map (RCod.enc cItem) l)) fun x=>HItem.lent x then List.map (RCod.enc cItem) (N.wakes (List.map (RCod.dec cItem) (List.map (RCod.enc cItem) l)) 0 (List.map (RCod.dec cItem) (List.map (RCod.enc cItem) l))) else List.map (RCod.enc cItem) l)],bx:=[]:DRes}) (none)) (none)) (none):=by kernel_rfl
theorem q_lWakeR (r:List (List V)) (n i:Int) (a b:List (List V)) (K:Ex→St→Option R):evRound eLWake 138 2 { fr:=[(1,.ptr 10000 0 0 0),(2,.ptr 10001 0 0 0),(6,.slc [.int .u64,.str,.str,.slc [.str,.int .u8,.int .i64,.str],.str,.int .u64,.int .u8,.bool,.bool] r),(7,.int .i64 n),(8,.int .i64 i)],tab:=[(10000,.var [.slc [.int .u64,.str,.str,.slc [.str,.int .u8,.int .i64,.str],.str,.int .u64,.int .u8,.bool,.bool] a]),(10001,.var [.slc [.int .u64,.str,.str,.slc [.str,.int .u8,.int .i64,.str],.str,.int .u64,.int .u8,.bool,.bool] b])] } K =
 cond (ilt i n) (cond (decide ((0:Int)≤i∧i<(↑(List.length r):Int))) (cond (V.toBool (List.getD (List.getD r (Int.toNat i) []) 7 V.undef)) (cond (goodAt (List.map (RCod.dec cItem) a) i) (K Ex.normal {fr:=[(1,V.ptr 10000 0 0 0),(2,V.ptr 10001 0 0 0),(6,V.slc [.int .u64,.str,.str,.slc [.str,.int .u8,.int .i64,.str],.str,.int .u64,.int .u8,.bool,.bool] r),(7,V.int .i64 n),(8,V.int .i64 (IntKind.wrap .i64 (i+(1:Int))))],tab:=[(10000,Box.var [V.slc [.int .u64,.str,.str,.slc [.str,.int .u8,.int .i64,.str],.str,.int .u64,.int .u8,.bool,.bool] (List.map (RCod.enc cItem) (N.setAt N.backI (List.map (RCod.dec cItem) a) (Int.toNat i)))]),(10001,Box.var [V.slc [.int .u64,.str,.str,.slc [.str,.int .u8,.int .i64,.str],.str,.int .u64,.int .u8,.bool,.bool] b])]:St}) (none)) (K Ex.normal {fr:=[(1,V.ptr 10000 0 0 0),(2,V.ptr 10001 0 0 0),(6,V.slc [.int .u64,.str,.str,.slc [.str,.int .u8,.int .i64,.str],.str,.int .u64,.int .u8,.bool,.bool] r),(7,V.int .i64 n),(8,V.int .i64 (IntKind.wrap .i64 (i+(1:Int))))],tab:=[(10000,Box.var [V.slc [.int .u64,.str,.str,.slc [.str,.int .u8,.int .i64,.str],.str,.int .u64,.int .u8,.bool,.bool] a]),(10001,Box.var [V.slc [.int .u64,.str,.str,.slc [.str,.int .u8,.int .i64,.str],.str,.int .u64,.int .u8,.bool,.bool] b])]:St})) (none)) (K (Ex.exit 0) {fr:=[(1,V.ptr 10000 0 0 0),(2,V.ptr 10001 0 0 0)],tab:=[(10000,Box.var [V.slc [.int .u64,.str,.str,.slc [.str,.int .u8,.int .i64,.str],.str,.int .u64,.int .u8,.bool,.bool] a]),(10001,Box.var [V.slc [.int .u64,.str,.str,.slc [.str,.int .u8,.int .i64,.str],.str,.int .u64,.int .u8,.bool,.bool] b])]:St}):=by kernel_rfl
theorem wakes_none:∀ (r:List HItem) (k:Nat) (l:List HItem),(r.any fun x=>x.lent)=false→N.wakes r k l=l
 | [],_,_,_=>rfl
 | x::r,k,l,h=>by
  rw [List.any_cons,Bool.or_eq_false_iff] at h
  unfold N.wakes
  rw [h.1]
  exact wakes_none r (k+1) l h.2
theorem ok_lWake2:RoundsOk eLWake 138 2:=by
 refine rounds_of rfl fun l K q h=>?_
 unfold gLWake at h
 split at h
 ·rename_i r n i a b
  have h1:=(cond_none h).1; replace h:=(cond_none h).2; have h2:=(cond_none h).1; replace h:=(cond_none h).2; have h3:=(cond_none h).1; replace h:=(cond_none h).2; have h4:=(cond_none h).1; replace h:=(cond_none h).2
  have e1:=ieq_of h1
  have e2:=ieq_of h2
  have e3:=nbeq_of h3
  subst e1 e2
  have h4:r.length≤1000:=ble_of h4
  have main:=loop_ind (E:=eLWake) (f:=138) (id:=2) (σ:=Nat × List (List V)) (fun s=>{ fr:=[(1,.ptr 10000 0 0 0),(2,.ptr 10001 0 0 0),(6,.slc [.int .u64,.str,.str,.slc [.str,.int .u8,.int .i64,.str],.str,.int .u64,.int .u8,.bool,.bool] r),(7,.int .i64 r.length),(8,.int .i64 (s.1:Int))],tab:=[(10000,.var [.slc [.int .u64,.str,.str,.slc [.str,.int .u8,.int .i64,.str],.str,.int .u64,.int .u8,.bool,.bool] s.2]),(10001,.var [.slc [.int .u64,.str,.str,.slc [.str,.int .u8,.int .i64,.str],.str,.int .u64,.int .u8,.bool,.bool] b])] })
   (fun s=>s.1≤r.length∧s.2.length=r.length) (fun s=>r.length-s.1)
   (fun s K=>K (.exit 0) { fr:=[(1,.ptr 10000 0 0 0),(2,.ptr 10001 0 0 0)],tab:=[(10000,.var [.slc [.int .u64,.str,.str,.slc [.str,.int .u8,.int .i64,.str],.str,.int .u64,.int .u8,.bool,.bool] (cond (((r.drop s.1).map cItem.dec).any fun x=>x.lent) ((N.wakes ((r.drop s.1).map cItem.dec) s.1 (s.2.map cItem.dec)).map cItem.enc) s.2)]),(10001,.var [.slc [.int .u64,.str,.str,.slc [.str,.int .u8,.int .i64,.str],.str,.int .u64,.int .u8,.bool,.bool] b])] })
   (fun s hs=>?_) (0,a) ⟨Nat.zero_le _,e3⟩ K q (by assumption)
  ·exact main
  ·obtain ⟨i,a⟩:=s
   obtain ⟨k1,k2⟩:=hs
   simp only at k1 k2 ⊢
   by_cases hl:i<r.length
   ·rw [drop_decI hl,List.any_cons]
    cases hc:(cItem.dec (r.getD i [])).lent with
    | true =>
     have hc' : V.toBool (List.getD (List.getD r i []) 7 V.undef)=true:=hc
     have ga:goodAt (a.map cItem.dec) i=true:=by
      unfold goodAt
      rw [List.length_map,ile_t (by omega),ilt_t (by omega),ble_t (by omega)]; rfl
     refine .inl ⟨(i+1,(N.setAt N.backI (a.map cItem.dec) i).map cItem.enc),⟨hl,by simp only [List.length_map,setAt_len]; exact k2⟩,by simp only; omega,fun K=>?_,fun K=>?_⟩
     ·rw [q_lWakeR]
      simp (disch:=omega) only [evs,Int.toNat_natCast,hc',ga]
      try rfl
     ·have e:N.wakes (cItem.dec (r.getD i [])::(r.drop (i+1)).map cItem.dec) i (a.map cItem.dec)=N.wakes ((r.drop (i+1)).map cItem.dec) (i+1) (N.setAt N.backI (a.map cItem.dec) i):=by
       show N.wakes _ _ (cond (cItem.dec (r.getD i [])).lent _ _)=_
       rw [hc]; rfl
      rw [e,Bool.true_or,cond_true]
      simp only [dec_encs]
      cases hn:((r.drop (i+1)).map cItem.dec).any fun x=>x.lent with
      | true=>rfl
      | false=>rw [wakes_none _ _ _ hn]; rfl
    | false =>
     have hc' : V.toBool (List.getD (List.getD r i []) 7 V.undef)=false:=hc
     refine .inl ⟨(i+1,a),⟨hl,k2⟩,by simp only; omega,fun K=>?_,fun K=>?_⟩
     ·rw [q_lWakeR]
      simp (disch:=omega) only [evs,Int.toNat_natCast,hc']
      try rfl
     ·have e:N.wakes (cItem.dec (r.getD i [])::(r.drop (i+1)).map cItem.dec) i (a.map cItem.dec)=N.wakes ((r.drop (i+1)).map cItem.dec) (i+1) (a.map cItem.dec):=by
       show N.wakes _ _ (cond (cItem.dec (r.getD i [])).lent _ _)=_
       rw [hc]; rfl
      rw [e,Bool.false_or]
   ·have ei:i=r.length:=by omega
    subst ei
    refine .inr ⟨.exit 0,{ fr:=[(1,.ptr 10000 0 0 0),(2,.ptr 10001 0 0 0)],tab:=[(10000,.var [.slc [.int .u64,.str,.str,.slc [.str,.int .u8,.int .i64,.str],.str,.int .u64,.int .u8,.bool,.bool] a]),(10001,.var [.slc [.int .u64,.str,.str,.slc [.str,.int .u8,.int .i64,.str],.str,.int .u64,.int .u8,.bool,.bool] b])] },by simp,fun K=>?_,fun K=>?_⟩
    ·rw [q_lWakeR]
     simp (disch:=omega) only [evs]
    ·rw [List.drop_eq_nil_of_le (Nat.le_refl _)]; rfl
 ·cases h
theorem ok_lWake:FnOk Tryz.prog 138 dLWake:=by
 refine den_okF (env_ok ((TOk.nil _).cons ok_withW)) (E:=eLWake) Tryz.func138 [2] (by kernel_rfl) (one1 ok_lWake2) fun l _ hp=>?_
 have hp:Nat.ble l.length 1000=true:=hp
 refine (q_lWake l).trans ?_
 simp only [List.length_map,dec_encs,hp,beq_self_eq_true,cond_true,Nat.beq_refl]
 have e:=wakes_eq l []
 show _=some (⟨.agg [.slc [.int .u64,.str,.str,.slc [.str,.int .u8,.int .i64,.str],.str,.int .u64,.int .u8,.bool,.bool] ((N.lWake l).map cItem.enc)],[],[]⟩:DRes)
 have e:N.wakes l 0 l=N.lWake l:=e
 rw [e]
 cases hn:l.any fun x=>x.lent with
 | true=>rfl
 | false =>
  have:=wakes_none l 0 l hn
  rw [e] at this
  rw [this]; rfl
def schEqFI:SSch:={ fr:=[(1,.slc [.int .u64,.str,.str,.slc [.str,.int .u8,.int .i64,.str],.str,.int .u64,.int .u8,.bool,.bool]),(2,.fn 142 [] []),(15,.slc [.int .u64,.str,.str,.slc [.str,.int .u8,.int .i64,.str],.str,.int .u64,.int .u8,.bool,.bool]),(16,.int .i64),(17,.int .i64)],tab:=[] }
def gEqFI:List Leaf→(Ex→St→Option R)→Option R
 | [.r r1,.r r,.i n,.i i],K=>cond (n==r.length) (cond (i==0) (cond (Nat.beq r.length r1.length) (cond (Nat.ble r.length 1000) (cond ((r.map cItem.dec).all smallI)
   (cond (N.sameL (r.map cItem.dec) (r1.map cItem.dec)) (K (.exit 0) { fr:=[],tab:=[] }) (K .ret { fr:=[(6,.bool false)],tab:=[] })) none) none) none) none) none
 | _,_=>none
noncomputable def eEqFI:Env:=env Tryz.prog [(142,dSameI)] [(4,loopF schEqFI gEqFI)] [(4,[(0,[1,2,15,16,17]),(1,[]),(1000,[6])])]
theorem q_eqFI (a b:List HItem):evFn eEqFI 141 ((aCons (vSl cItem) (aCons (vSl cItem) (aOne (vFn0 142)))).enc (a,b,())) ([]) some =
 cond ((↑(List.length (List.map (RCod.enc cItem) a)):Int) != (↑(List.length (List.map (RCod.enc cItem) b)):Int)) (some {v:=V.bool false,bx:=[]:DRes}) (cond ((↑(List.length (List.map (RCod.enc cItem) a)):Int)==(↑(List.length (List.map (RCod.enc cItem) a)):Int)) (cond (Nat.beq (List.length (List.map (RCod.enc cItem) a)) (List.length (List.map (RCod.enc cItem) b))) (cond (Nat.ble (List.length (List.map (RCod.enc cItem) a)) 1000) (cond (List.all (List.map (RCod.dec cItem) (List.map (RCod.enc cItem) a)) smallI) (cond (N.sameL (List.map (RCod.dec cItem) (List.map (RCod.enc cItem) a)) (List.map (RCod.dec cItem) (List.map (RCod.enc cItem) b))) (some {v:=V.bool true,bx:=[]:DRes}) (some {v:=V.bool false,bx:=[]:DRes})) (none)) (none)) (none)) (none)):=by kernel_rfl
theorem q_eqFIR (n i:Int) (r r1:List (List V)) (K:Ex→St→Option R):evRound eEqFI 141 4 { fr:=[(1,.slc [.int .u64,.str,.str,.slc [.str,.int .u8,.int .i64,.str],.str,.int .u64,.int .u8,.bool,.bool] r1),(2,.fn 142 [] []),(15,.slc [.int .u64,.str,.str,.slc [.str,.int .u8,.int .i64,.str],.str,.int .u64,.int .u8,.bool,.bool] r),(16,.int .i64 n),(17,.int .i64 i)],tab:=[] } K =
 cond (ilt i n) (cond (decide ((0:Int)≤i∧i<(↑(List.length r):Int))) (cond (decide ((0:Int)≤i∧i<(↑(List.length r1):Int))) (cond (smallI {mail:={id:=V.toInt (List.getD (List.getD r (Int.toNat i) []) 0 V.undef),shop:=V.toStr (List.getD (List.getD r (Int.toNat i) []) 1 V.undef),key:=V.toStr (List.getD (List.getD r (Int.toNat i) []) 2 V.undef),head:=List.map (fun r=>{key:=V.toStr (List.getD r 0 .undef),kind:=V.toInt (List.getD r 1 .undef),num:=V.toInt (List.getD r 2 .undef),text:=V.toStr (List.getD r 3 .undef):HPair}) (V.toRows (List.getD (List.getD r (Int.toNat i) []) 3 V.undef)),body:=V.toStr (List.getD (List.getD r (Int.toNat i) []) 4 V.undef),due:=V.toInt (List.getD (List.getD r (Int.toNat i) []) 5 V.undef),hops:=V.toInt (List.getD (List.getD r (Int.toNat i) []) 6 V.undef):HMail},lent:=V.toBool (List.getD (List.getD r (Int.toNat i) []) 7 V.undef),again:=V.toBool (List.getD (List.getD r (Int.toNat i) []) 8 V.undef):HItem}) (cond (!N.sameI {mail:={id:=V.toInt (List.getD (List.getD r (Int.toNat i) []) 0 V.undef),shop:=V.toStr (List.getD (List.getD r (Int.toNat i) []) 1 V.undef),key:=V.toStr (List.getD (List.getD r (Int.toNat i) []) 2 V.undef),head:=List.map (fun r=>{key:=V.toStr (List.getD r 0 .undef),kind:=V.toInt (List.getD r 1 .undef),num:=V.toInt (List.getD r 2 .undef),text:=V.toStr (List.getD r 3 .undef):HPair}) (V.toRows (List.getD (List.getD r (Int.toNat i) []) 3 V.undef)),body:=V.toStr (List.getD (List.getD r (Int.toNat i) []) 4 V.undef),due:=V.toInt (List.getD (List.getD r (Int.toNat i) []) 5 V.undef),hops:=V.toInt (List.getD (List.getD r (Int.toNat i) []) 6 V.undef):HMail},lent:=V.toBool (List.getD (List.getD r (Int.toNat i) []) 7 V.undef),again:=V.toBool (List.getD (List.getD r (Int.toNat i) []) 8 V.undef):HItem} {mail:={id:=V.toInt (List.getD (List.getD r1 (Int.toNat i) []) 0 V.undef),shop:=V.toStr (List.getD (List.getD r1 (Int.toNat i) []) 1 V.undef),key:=V.toStr (List.getD (List.getD r1 (Int.toNat i) []) 2 V.undef),head:=List.map (fun r=>{key:=V.toStr (List.getD r 0 .undef),kind:=V.toInt (List.getD r 1 .undef),num:=V.toInt (List.getD r 2 .undef),text:=V.toStr (List.getD r 3 .undef):HPair}) (V.toRows (List.getD (List.getD r1 (Int.toNat i) []) 3 V.undef)),body:=V.toStr (List.getD (List.getD r1 (Int.toNat i) []) 4 V.undef),due:=V.toInt (List.getD (List.getD r1 (Int.toNat i) []) 5 V.undef),hops:=V.toInt (List.getD (List.getD r1 (Int.toNat i) []) 6 V.undef):HMail},lent:=V.toBool (List.getD (List.getD r1 (Int.toNat i) []) 7 V.undef),again:=V.toBool (List.getD (List.getD r1 (Int.toNat i) []) 8 V.undef):HItem}) (K Ex.ret {fr:=[(6,V.bool false)],tab:=[]:St}) (K Ex.normal {fr:=[(1,V.slc [.int .u64,.str,.str,.slc [.str,.int .u8,.int .i64,.str],.str,.int .u64,.int .u8,.bool,.bool] r1),(2,V.fn 142 [] []),(15,V.slc [.int .u64,.str,.str,.slc [.str,.int .u8,.int .i64,.str],.str,.int .u64,.int .u8,.bool,.bool] r),(16,V.int .i64 n),(17,V.int .i64 (IntKind.wrap .i64 (i+(1:Int))))],tab:=[]:St})) (none)) (none)) (none)) (K (Ex.exit 0) {fr:=[],tab:=[]:St}):=by kernel_rfl
theorem ok_eqFI4:RoundsOk eEqFI 141 4:=by
 refine rounds_of rfl fun l K q h=>?_
 unfold gEqFI at h
 split at h
 ·rename_i r1 r n i
  have h1:=(cond_none h).1; replace h:=(cond_none h).2; have h2:=(cond_none h).1; replace h:=(cond_none h).2; have h3:=(cond_none h).1; replace h:=(cond_none h).2; have h4:=(cond_none h).1; replace h:=(cond_none h).2; have h5:=(cond_none h).1; replace h:=(cond_none h).2
  have e1:=ieq_of h1
  have e2:=ieq_of h2
  have e3:=nbeq_of h3
  subst e1 e2
  have h4:r.length≤1000:=ble_of h4
  refine loop_ind (E:=eEqFI) (f:=141) (id:=4) (σ:=Nat) (fun i=>{ fr:=[(1,.slc [.int .u64,.str,.str,.slc [.str,.int .u8,.int .i64,.str],.str,.int .u64,.int .u8,.bool,.bool] r1),(2,.fn 142 [] []),(15,.slc [.int .u64,.str,.str,.slc [.str,.int .u8,.int .i64,.str],.str,.int .u64,.int .u8,.bool,.bool] r),(16,.int .i64 r.length),(17,.int .i64 i)],tab:=[] }) (fun i=>i≤r.length) (fun i=>r.length-i)
   (fun i K=>cond (N.sameL ((r.drop i).map cItem.dec) ((r1.drop i).map cItem.dec)) (K (.exit 0) { fr:=[],tab:=[] }) (K .ret { fr:=[(6,.bool false)],tab:=[] })) (fun i hi=>?_) 0 (Nat.zero_le _) K q (by assumption)
  by_cases hl:i<r.length
  ·rw [drop_decI hl,drop_decI (show i<r1.length by omega),sameL_cons]
   have hs:=all_rowI h5 hl
   cases hc:N.sameI (cItem.dec (r.getD i [])) (cItem.dec (r1.getD i [])) with
   | true =>
    refine .inl ⟨i+1,hl,by omega,fun K=>?_,fun K=>rfl⟩
    rw [q_eqFIR]
    simp (disch:=omega) only [evs,Int.toNat_natCast,fold_item,hs,hc,Bool.not_true]
    try rfl
   | false =>
    refine .inr ⟨.ret,{ fr:=[(6,.bool false)],tab:=[] },by simp,fun K=>?_,fun K=>rfl⟩
    rw [q_eqFIR]
    simp (disch:=omega) only [evs,Int.toNat_natCast,fold_item,hs,hc,Bool.not_false]
  ·refine .inr ⟨.exit 0,{ fr:=[],tab:=[] },by simp,fun K=>?_,fun K=>?_⟩
   ·rw [q_eqFIR]
    simp (disch:=omega) only [evs]
   ·rw [List.drop_eq_nil_of_le (show r.length≤i by omega),List.drop_eq_nil_of_le (show r1.length≤i by omega)]; rfl
 ·cases h
theorem ok_eqFI:FnOk Tryz.prog 141 (dEqFI 142):=by
 refine den_okF (env_ok ((TOk.nil _).cons ok_sameI)) (E:=eEqFI) Tryz.func141 [4] (by kernel_rfl) (one1 ok_eqFI4) fun a _ h=>?_
 obtain ⟨a,b,⟨⟩⟩:=a
 have h:smallL a=true:=h
 obtain ⟨h0,h2,h3⟩:=smallL_of h
 refine (q_eqFI a b).trans ?_
 show _=some (⟨.bool (N.sameL a b),[],[]⟩:DRes)
 by_cases hl:a.length=b.length
 ·simp (disch:=omega) only [evs,dec_encs,hl,h3,Nat.beq_refl]
  cases N.sameL a b<;>rfl
 ·rw [sameL_len _ _ hl]
  simp (disch:=omega) only [evs]
noncomputable def eSameL:Env:=env Tryz.prog [(141,dEqFI 142)] [] []
theorem q_sameL (a b:List HItem):evFn eSameL 69 ((aCons (vAgg cLine) (aOne (vAgg cLine))).enc (a,b)) ([]) some =
 cond (smallL (List.map (RCod.dec cItem) (List.map (RCod.enc cItem) a))) (some {v:=V.bool (N.sameL (List.map (RCod.dec cItem) (List.map (RCod.enc cItem) a)) (List.map (RCod.dec cItem) (List.map (RCod.enc cItem) b))),bx:=[]:DRes}) (none):=by kernel_rfl
theorem ok_sameL:FnOk Tryz.prog 69 dSameL:=by
 refine den_okF (env_ok ((TOk.nil _).cons ok_eqFI)) (E:=eSameL) Tryz.func69 [] (by kernel_rfl) none0 fun a _ h=>?_
 obtain ⟨a,b⟩:=a
 have h:smallL a=true:=h
 refine (q_sameL a b).trans ?_
 simp only [dec_encs,h,cond_true]
 try rfl
end Go.Ev

/- The document's lines: putting,making,sameness: lemmas. -/
namespace Go.Ev
open Go Go.Proofs
set_option maxRecDepth 100000
-- FOLD
def N.geE (id:Int) (l:List HItem) (e:Int):Int:=cond (cond (e==0) (l.any fun y=>ile id y.mail.id) false) 13 e
def dRPut:Den:=den (aCons (vSl cItem) (aOne (vAgg cItem))) bNil (oTup (aCons (vSl cItem) (aOne (vInt .i64)))) (fun a _=>Nat.ble a.1.length 1000) fun a _=>(N.rPut a.1 a.2,())
def schRPut:SSch:={ fr:=[(0,.slc [.int .u64,.str,.str,.slc [.str,.int .u8,.int .i64,.str],.str,.int .u64,.int .u8,.bool,.bool]),(3,.ptr 10000 0 0),(6,.int .i64),(13,.slc [.int .u64,.str,.str,.slc [.str,.int .u8,.int .i64,.str],.str,.int .u64,.int .u8,.bool,.bool]),(14,.int .i64),(15,.int .i64)],tab:=[(10000,.var [.int .u64,.str,.str,.slc [.str,.int .u8,.int .i64,.str],.str,.int .u64,.int .u8,.bool,.bool])] }
def gRPut:List Leaf→(Ex→St→Option R)→Option R
 | [.r l0,.i e,.r r,.i n,.i i,.i id,.s s1,.s s2,.r hd,.s s3,.i due,.i hops,.b b1,.b b2],K=>cond (n==r.length) (cond (i==0) (cond (Nat.ble r.length 1000)
   (K (.exit 0) { fr:=[(0,.slc [.int .u64,.str,.str,.slc [.str,.int .u8,.int .i64,.str],.str,.int .u64,.int .u8,.bool,.bool] l0),(3,.ptr 10000 0 0 0),(6,.int .i64 (N.geE id (r.map cItem.dec) e))],tab:=[(10000,.var [.int .u64 id,.str s1,.str s2,.slc [.str,.int .u8,.int .i64,.str] hd,.str s3,.int .u64 due,.int .u8 hops,.bool b1,.bool b2])] }) none) none) none
 | _,_=>none
noncomputable def eRPut:Env:=env Tryz.prog [(12,dMailCheck)] [(3,loopF schRPut gRPut)] [(3,[(0,[0,3,6,13,14,15]),(1,[0,3,6]),(1000,[4,5])])]
theorem q_rPut_ (l:List HItem) (x:HItem):evFn eRPut 187 ((aCons (vSl cItem) (aOne (vAgg cItem))).enc (l,x)) ([]) some =(
 let z4:=(HMail.id (HItem.mail x));let z1:=(List.map (RCod.enc cItem) l);let z5:=(List.map (RCod.dec cItem) z1);let z3:=(List.map (fun p=>[V.str (HPair.key p),V.int .u8 (HPair.kind p),V.int .i64 (HPair.num p),V.str (HPair.text p)]) (HMail.head (HItem.mail x)));let z2:=(N.mailCheck {id:=HMail.id (HItem.mail x),shop:=HMail.shop (HItem.mail x),key:=HMail.key (HItem.mail x),head:=List.map (fun r=>{key:=V.toStr (List.getD r 0 .undef),kind:=V.toInt (List.getD r 1 .undef),num:=V.toInt (List.getD r 2 .undef),text:=V.toStr (List.getD r 3 .undef):HPair}) z3,body:=HMail.body (HItem.mail x),due:=HMail.due (HItem.mail x),hops:=HMail.hops (HItem.mail x):HMail});let z0:=(cond (N.geE z4 z5 z2 != (0:Int)) (some {v:=V.tup [V.slc [.int .u64,.str,.str,.slc [.str,.int .u8,.int .i64,.str],.str,.int .u64,.int .u8,.bool,.bool] z1,V.int .i64 (N.geE z4 z5 z2)],bx:=[]:DRes}) (cond (decide (List.length z1*104≤140737488355328)) (cond (decide ((List.length z1+1)*104≤140737488355328)) (some {v:=V.tup [V.slc [.int .u64,.str,.str,.slc [.str,.int .u8,.int .i64,.str],.str,.int .u64,.int .u8,.bool,.bool] (List.map (RCod.enc cItem) l++[[V.int .u64 z4,V.str (HMail.shop (HItem.mail x)),V.str (HMail.key (HItem.mail x)),V.slc [.str,.int .u8,.int .i64,.str] z3,V.str (HMail.body (HItem.mail x)),V.int .u64 (HMail.due (HItem.mail x)),V.int .u8 (HMail.hops (HItem.mail x)),V.bool (HItem.lent x),V.bool (HItem.again x)]]),V.int .i64 (0:Int)],bx:=[]:DRes}) (none)) (none)));cond ((↑(List.length z1):Int)==(↑(List.length z1):Int)) (cond (Nat.ble (List.length z1) 1000) (cond (N.geE z4 z5 z2==(0:Int)) (cond (ile (64:Int) (↑(List.length z1):Int)) (some {v:=V.tup [V.slc [.int .u64,.str,.str,.slc [.str,.int .u8,.int .i64,.str],.str,.int .u64,.int .u8,.bool,.bool] z1,V.int .i64 (12:Int)],bx:=[]:DRes}) z0) z0) (none)) (none)):=by kernel_rfl
theorem q_rPut (l:List HItem) (x:HItem):type_of% (by have h:=q_rPut_ l x; dsimp only at h; exact h):=by
 have h:=q_rPut_ l x
 dsimp only at h
 exact h
theorem q_rPutR_ (l0:List (List V)) (e:Int) (r:List (List V)) (n i id:Int) (s1 s2:Bytes) (hd:List (List V)) (s3:Bytes) (due hops:Int) (b1 b2:Bool) (K:Ex→St→Option R):evRound eRPut 187 3 { fr:=[(0,.slc [.int .u64,.str,.str,.slc [.str,.int .u8,.int .i64,.str],.str,.int .u64,.int .u8,.bool,.bool] l0),(3,.ptr 10000 0 0 0),(6,.int .i64 e),(13,.slc [.int .u64,.str,.str,.slc [.str,.int .u8,.int .i64,.str],.str,.int .u64,.int .u8,.bool,.bool] r),(14,.int .i64 n),(15,.int .i64 i)],tab:=[(10000,.var [.int .u64 id,.str s1,.str s2,.slc [.str,.int .u8,.int .i64,.str] hd,.str s3,.int .u64 due,.int .u8 hops,.bool b1,.bool b2])] } K =(
 let z0:=(K Ex.normal {fr:=[(0,V.slc [.int .u64,.str,.str,.slc [.str,.int .u8,.int .i64,.str],.str,.int .u64,.int .u8,.bool,.bool] l0),(3,V.ptr 10000 0 0 0),(6,V.int .i64 e),(13,V.slc [.int .u64,.str,.str,.slc [.str,.int .u8,.int .i64,.str],.str,.int .u64,.int .u8,.bool,.bool] r),(14,V.int .i64 n),(15,V.int .i64 (IntKind.wrap .i64 (i+(1:Int))))],tab:=[(10000,Box.var [V.int .u64 id,V.str s1,V.str s2,V.slc [.str,.int .u8,.int .i64,.str] hd,V.str s3,V.int .u64 due,V.int .u8 hops,V.bool b1,V.bool b2])]:St});cond (ilt i n) (cond (decide ((0:Int)≤i∧i<(↑(List.length r):Int))) (cond (e==(0:Int)) (cond (ile id (V.toInt (List.getD (List.getD r (Int.toNat i) []) 0 V.undef))) (K Ex.normal {fr:=[(0,V.slc [.int .u64,.str,.str,.slc [.str,.int .u8,.int .i64,.str],.str,.int .u64,.int .u8,.bool,.bool] l0),(3,V.ptr 10000 0 0 0),(6,V.int .i64 (13:Int)),(13,V.slc [.int .u64,.str,.str,.slc [.str,.int .u8,.int .i64,.str],.str,.int .u64,.int .u8,.bool,.bool] r),(14,V.int .i64 n),(15,V.int .i64 (IntKind.wrap .i64 (i+(1:Int))))],tab:=[(10000,Box.var [V.int .u64 id,V.str s1,V.str s2,V.slc [.str,.int .u8,.int .i64,.str] hd,V.str s3,V.int .u64 due,V.int .u8 hops,V.bool b1,V.bool b2])]:St}) z0) z0) (none)) (K (Ex.exit 0) {fr:=[(0,V.slc [.int .u64,.str,.str,.slc [.str,.int .u8,.int .i64,.str],.str,.int .u64,.int .u8,.bool,.bool] l0),(3,V.ptr 10000 0 0 0),(6,V.int .i64 e)],tab:=[(10000,Box.var [V.int .u64 id,V.str s1,V.str s2,V.slc [.str,.int .u8,.int .i64,.str] hd,V.str s3,V.int .u64 due,V.int .u8 hops,V.bool b1,V.bool b2])]:St})):=by kernel_rfl
theorem q_rPutR (l0:List (List V)) (e:Int) (r:List (List V)) (n i id:Int) (s1 s2:Bytes) (hd:List (List V)) (s3:Bytes) (due hops:Int) (b1 b2:Bool) (K:Ex→St→Option R):type_of% (by have h:=q_rPutR_ l0 e r n i id s1 s2 hd s3 due hops b1 b2 K; dsimp only at h; exact h):=by
 have h:=q_rPutR_ l0 e r n i id s1 s2 hd s3 due hops b1 b2 K
 dsimp only at h
 exact h
theorem ok_rPut3:RoundsOk eRPut 187 3:=by
 refine rounds_of rfl fun l K q h=>?_
 unfold gRPut at h
 split at h
 ·rename_i l0 e r n i id s1 s2 hd s3 due hops b1 b2
  have h1:=(cond_none h).1; replace h:=(cond_none h).2; have h2:=(cond_none h).1; replace h:=(cond_none h).2; have h3:=(cond_none h).1; replace h:=(cond_none h).2
  have e1:=ieq_of h1
  have e2:=ieq_of h2
  subst e1 e2
  have h3:r.length≤1000:=ble_of h3
  have main:=range_ind (E:=eRPut) (f:=187) (id:=3) (A:=Int) r (fun e i=>{ fr:=[(0,.slc [.int .u64,.str,.str,.slc [.str,.int .u8,.int .i64,.str],.str,.int .u64,.int .u8,.bool,.bool] l0),(3,.ptr 10000 0 0 0),(6,.int .i64 e),(13,.slc [.int .u64,.str,.str,.slc [.str,.int .u8,.int .i64,.str],.str,.int .u64,.int .u8,.bool,.bool] r),(14,.int .i64 r.length),(15,.int .i64 i)],tab:=[(10000,.var [.int .u64 id,.str s1,.str s2,.slc [.str,.int .u8,.int .i64,.str] hd,.str s3,.int .u64 due,.int .u8 hops,.bool b1,.bool b2])] }) (fun _ _=>True)
   (fun e rows K=>K (.exit 0) { fr:=[(0,.slc [.int .u64,.str,.str,.slc [.str,.int .u8,.int .i64,.str],.str,.int .u64,.int .u8,.bool,.bool] l0),(3,.ptr 10000 0 0 0),(6,.int .i64 (N.geE id (rows.map cItem.dec) e))],tab:=[(10000,.var [.int .u64 id,.str s1,.str s2,.slc [.str,.int .u8,.int .i64,.str] hd,.str s3,.int .u64 due,.int .u8 hops,.bool b1,.bool b2])] }) (fun e i _ hi=>?_) (fun e _=>?_) e 0 (Int.le_refl _) (by omega) trivial K q (by assumption)
  ·exact main
  ·refine .inl ⟨cond (cond (e==0) (ile id (cItem.dec (r.getD i [])).mail.id) false) 13 e,trivial,fun K=>?_,fun K=>?_⟩
   ·rw [q_rPutR]
    have hm:V.toInt (List.getD (List.getD r i []) 0 V.undef)=(cItem.dec (r.getD i [])).mail.id:=rfl
    simp (disch:=omega) only [evs,Int.toNat_natCast,hm]
    cases e==0 with
    | false=>rfl
    | true=>cases ile id (cItem.dec (r.getD i [])).mail.id<;>rfl
   ·have he:N.geE id ((r.getD i []::r.drop (i+1)).map cItem.dec) e=N.geE id ((r.drop (i+1)).map cItem.dec) (cond (cond (e==0) (ile id (cItem.dec (r.getD i [])).mail.id) false) 13 e):=by
     unfold N.geE
     rw [List.map_cons,List.any_cons]
     cases hz:e==0 with
     | false=>simp only [cond_false,hz]
     | true =>
      cases ile id (cItem.dec (r.getD i [])).mail.id with
      | true=>rfl
      | false=>simp only [cond_true,cond_false,hz,Bool.false_or]
    rw [he]
  ·have he:N.geE id (([]:List (List V)).map cItem.dec) e=e:=by
    unfold N.geE
    cases e==0<;>rfl
   refine ⟨.exit 0,{ fr:=[(0,.slc [.int .u64,.str,.str,.slc [.str,.int .u8,.int .i64,.str],.str,.int .u64,.int .u8,.bool,.bool] l0),(3,.ptr 10000 0 0 0),(6,.int .i64 (e))],tab:=[(10000,.var [.int .u64 id,.str s1,.str s2,.slc [.str,.int .u8,.int .i64,.str] hd,.str s3,.int .u64 due,.int .u8 hops,.bool b1,.bool b2])] },by simp,fun K=>?_,fun K=>by rw [he]⟩
   rw [q_rPutR]
   simp (disch:=omega) only [evs]
 ·cases h
noncomputable def eRSameI:Env:=env Tryz.prog [(25,dMailSame)] [] []
theorem q_rSameI (a b:HItem):evFn eRSameI 56 ((aCons (vAgg cItem) (aOne (vAgg cItem))).enc (a,b)) ([]) some =
 cond (smallM {id:=HMail.id (HItem.mail a),shop:=HMail.shop (HItem.mail a),key:=HMail.key (HItem.mail a),head:=List.map (fun r=>{key:=V.toStr (List.getD r 0 .undef),kind:=V.toInt (List.getD r 1 .undef),num:=V.toInt (List.getD r 2 .undef),text:=V.toStr (List.getD r 3 .undef):HPair}) (List.map (fun p=>[V.str (HPair.key p),V.int .u8 (HPair.kind p),V.int .i64 (HPair.num p),V.str (HPair.text p)]) (HMail.head (HItem.mail a))),body:=HMail.body (HItem.mail a),due:=HMail.due (HItem.mail a),hops:=HMail.hops (HItem.mail a):HMail}) (cond (N.mailSame {id:=HMail.id (HItem.mail a),shop:=HMail.shop (HItem.mail a),key:=HMail.key (HItem.mail a),head:=List.map (fun r=>{key:=V.toStr (List.getD r 0 .undef),kind:=V.toInt (List.getD r 1 .undef),num:=V.toInt (List.getD r 2 .undef),text:=V.toStr (List.getD r 3 .undef):HPair}) (List.map (fun p=>[V.str (HPair.key p),V.int .u8 (HPair.kind p),V.int .i64 (HPair.num p),V.str (HPair.text p)]) (HMail.head (HItem.mail a))),body:=HMail.body (HItem.mail a),due:=HMail.due (HItem.mail a),hops:=HMail.hops (HItem.mail a):HMail} {id:=HMail.id (HItem.mail b),shop:=HMail.shop (HItem.mail b),key:=HMail.key (HItem.mail b),head:=List.map (fun r=>{key:=V.toStr (List.getD r 0 .undef),kind:=V.toInt (List.getD r 1 .undef),num:=V.toInt (List.getD r 2 .undef),text:=V.toStr (List.getD r 3 .undef):HPair}) (List.map (fun p=>[V.str (HPair.key p),V.int .u8 (HPair.kind p),V.int .i64 (HPair.num p),V.str (HPair.text p)]) (HMail.head (HItem.mail b))),body:=HMail.body (HItem.mail b),due:=HMail.due (HItem.mail b),hops:=HMail.hops (HItem.mail b):HMail}) (cond (HItem.lent a==HItem.lent b) (some {v:=V.bool (HItem.again a==HItem.again b),bx:=[]:DRes}) (some {v:=V.bool false,bx:=[]:DRes})) (some {v:=V.bool false,bx:=[]:DRes})) (none):=by kernel_rfl
theorem ok_rSameI:FnOk Tryz.prog 56 dSameI:=by
 refine den_okF (env_ok ((TOk.nil _).cons ok_refMailSame)) (E:=eRSameI) Tryz.func56 [] (by kernel_rfl) none0 fun a _ h=>?_
 obtain ⟨a,b⟩:=a
 have h:smallM a.mail=true:=h
 refine (q_rSameI a b).trans ?_
 show _=some (⟨.bool (N.sameI a b),[],[]⟩:DRes)
 unfold N.sameI
 simp only [fold_de,h,cond_true]
 cases N.mailSame a.mail b.mail<;>cases a.lent==b.lent<;>rfl
theorem ok_rPut:FnOk Tryz.prog 187 dRPut:=by
 refine den_okF (env_ok ((TOk.nil _).cons ok_refMailCheck)) (E:=eRPut) Tryz.func187 [3] (by kernel_rfl) (one1 ok_rPut3) fun a _ h=>?_
 obtain ⟨l,x⟩:=a
 have h1:Nat.ble l.length 1000=true:=h
 have h2:l.length≤1000:=ble_of h1
 refine (q_rPut l x).trans ?_
 show _=some (⟨.tup [.slc [.int .u64,.str,.str,.slc [.str,.int .u8,.int .i64,.str],.str,.int .u64,.int .u8,.bool,.bool] ((N.rPut l x).1.map cItem.enc),.int .i64 (N.rPut l x).2],[],[]⟩:DRes)
 simp only [fold_de,dec_encs,List.length_map,h1,beq_self_eq_true,cond_true]
 unfold N.rPut N.rRc N.geE
 cases hc:N.mailCheck x.mail != 0 with
 | true =>
  have hz:(N.mailCheck x.mail==0)=false:=by rw [bne] at hc; simpa using hc
  simp (disch:=omega) only [evs,hz,hc]
 | false =>
  have hz:N.mailCheck x.mail=0:=by simpa using hc
  rw [hz]
  cases ha:l.any fun y=>ile x.mail.id y.mail.id with
  | true=>simp (disch:=omega) only [evs,ha]
  | false =>
   by_cases h64:64≤l.length
   ·simp (disch:=omega) only [evs,ha]
   ·simp (disch:=omega) only [evs,ha,pairs_enc,fold_itemE]
    rw [show List.map cItem.enc l++[cItem.enc x]=List.map cItem.enc (l++[x]) by simp]
end Go.Ev

/- What the statements on lines share: the example,a line as the document's; the statement on how a line is made: lemmas; the function that writes numbers is a premise. -/
namespace Go.Ev
open Go Go.Proofs
set_option maxRecDepth 100000
-- FOLD
noncomputable def eAw18:Env:=env Tryz.prog [(49,dLAdd),(51,dLLend),(71,dLBack),(46,dLFirst),(166,dTrue)] [] []
theorem q_aw18  : evFn eAw18 109 [] [] some =
 some {v:=V.bool true,bx:=[]:DRes}:=by kernel_rfl
theorem ok_aw18 (hN:FnOk Tryz.prog 95 dOutNum):FnOk Tryz.prog 109 dTrue :=
 den_okF (env_ok ((((((TOk.nil _).cons (ok_aw13' hN)).cons ok_lFirst).cons ok_lBack).cons ok_lLend).cons ok_lAdd)) (E:=eAw18) Tryz.func109 [] (by kernel_rfl) none0 fun _ _ _=>q_aw18
def reRowI (r:List V):List V:=[V.int .u64 (V.toInt (List.getD r 0 .undef)),V.str (V.toStr (List.getD r 1 .undef)),V.str (V.toStr (List.getD r 2 .undef)),V.slc [.str,.int .u8,.int .i64,.str] (V.toRows (List.getD r 3 .undef)),V.str (V.toStr (List.getD r 4 .undef)),V.int .u64 (V.toInt (List.getD r 5 .undef)),V.int .u8 (V.toInt (List.getD r 6 .undef)),V.bool (V.toBool (List.getD r 7 .undef)),V.bool (V.toBool (List.getD r 8 .undef))]
theorem fold_reRowI (r:List V):[V.int .u64 (V.toInt (List.getD r 0 .undef)),V.str (V.toStr (List.getD r 1 .undef)),V.str (V.toStr (List.getD r 2 .undef)),V.slc [.str,.int .u8,.int .i64,.str] (V.toRows (List.getD r 3 .undef)),V.str (V.toStr (List.getD r 4 .undef)),V.int .u64 (V.toInt (List.getD r 5 .undef)),V.int .u8 (V.toInt (List.getD r 6 .undef)),V.bool (V.toBool (List.getD r 7 .undef)),V.bool (V.toBool (List.getD r 8 .undef))]=reRowI r:=rfl
theorem LInv.smallL {l:List HItem} (h:LInv l):Go.Ev.smallL l=true:=by
 unfold Go.Ev.smallL
 rw [ble_t (Nat.le_trans h.few (by decide)),h.small]; rfl
end Go.Ev

/- What acts do to a line,in plain terms: lemmas,no condition. -/
namespace Go.Ev
open Go
set_option maxRecDepth 100000
structure HAct where
 op:Int
 mail:HMail
namespace N
def act (l:List HItem) (a:HAct):List HItem :=
 cond (Int.tmod a.op 6==2) (lLend l).1 (cond (Int.tmod a.op 6==3) (lBack l a.mail.id).1 (cond (Int.tmod a.op 6==4) (lRemove l a.mail.id).1 (cond (Int.tmod a.op 6==5) (lWake l) (lPut l ⟨a.mail,false,false⟩).1)))
def acts:List HItem→List HAct→List HItem
 | l,[]=>l
 | l,a::r=>acts (act l a) r
def rises:List HItem→Bool→Int→Bool
 | [],_,_=>true
 | x::r,first,last=>cond (cond first false (ile x.mail.id last)) false (rises r false x.mail.id)
end N
theorem split_at {l:List HItem} {k:Nat} (h:k<l.length):l=l.take k++l.getD k item0::l.drop (k+1):=by
 have:=List.take_append_drop k l
 rw [getD_drop item0 h] at this
 exact this.symm
theorem cut_len {l:List HItem} {k:Nat} (h:k<l.length):(N.cutAt l k).length+1=l.length:=by
 unfold N.cutAt
 rw [List.length_append,List.length_take,List.length_drop]; omega
end Go.Ev

/- The document's lines: finding,lending,giving back,removing,waking: lemmas. -/
namespace Go.Ev
open Go Go.Proofs
set_option maxRecDepth 100000
-- FOLD
def dRFind:Den:=den (aCons (vSl cItem) (aOne (vInt .u64))) bNil (oV (vInt .i64)) (fun a _=>Nat.ble a.1.length 1000) fun a _=>(N.ix (N.isId a.2) a.1 0,())
def dRTurned:Den:=den (aCons (vSl cItem) (aCons (vInt .i64) (aOne (vAgg cItem)))) bNil (oV (vSl cItem)) (fun a _=>goodAt a.1 a.2.1) fun a _=>(a.1.set a.2.1.toNat a.2.2,())
def dRLend:Den:=den (aOne (vSl cItem)) bNil (oTup (aCons (vSl cItem) (aCons (vAgg cItem) (aOne vBool)))) (fun l _=>Nat.ble l.length 1000) fun l _=>(N.lLend l,())
def dRBack:Den:=den (aCons (vSl cItem) (aOne (vInt .u64))) bNil (oTup (aCons (vSl cItem) (aOne (vInt .i64)))) (fun a _=>Nat.ble a.1.length 1000) fun a _=>(N.lBack a.1 a.2,())
def dRRemove:Den:=den (aCons (vSl cItem) (aOne (vInt .u64))) bNil (oTup (aCons (vSl cItem) (aCons (vAgg cItem) (aOne (vInt .i64))))) (fun a _=>Nat.ble a.1.length 1000) fun a _=>(N.lRemove a.1 a.2,())
def dRWake:Den:=den (aOne (vSl cItem)) bNil (oV (vSl cItem)) (fun l _=>Nat.ble l.length 1000) fun l _=>(N.lWake l,())
def dRAdd:Den:=den (aCons (vSl cItem) (aOne (vAgg cMail))) bNil (oTup (aCons (vSl cItem) (aOne (vInt .i64)))) (fun a _=>Nat.ble a.1.length 1000) fun a _=>(N.rPut a.1 ⟨a.2,false,false⟩,())
def schRFind:SSch:={ fr:=[(1,.int .u64),(7,.slc [.int .u64,.str,.str,.slc [.str,.int .u8,.int .i64,.str],.str,.int .u64,.int .u8,.bool,.bool]),(8,.int .i64),(9,.int .i64)],tab:=[] }
def gRFind:List Leaf→(Ex→St→Option R)→Option R
 | [.i id,.r r,.i n,.i i],K=>cond (n==r.length) (cond (i==0) (cond (Nat.ble r.length 1000) (cond (ile 0 (N.ix (N.isId id) (r.map cItem.dec) 0)) (K .ret { fr:=[(4,.int .i64 (N.ix (N.isId id) (r.map cItem.dec) 0))],tab:=[] }) (K (.exit 0) { fr:=[],tab:=[] })) none) none) none
 | _,_=>none
noncomputable def eRFind:Env:=env Tryz.prog [] [(2,loopF schRFind gRFind)] [(2,[(0,[1,7,8,9]),(1,[]),(1000,[4])])]
theorem q_rFind (l:List HItem) (id:Int):evFn eRFind 179 ((aCons (vSl cItem) (aOne (vInt .u64))).enc (l,id)) ([]) some =
 cond ((↑(List.length (List.map (RCod.enc cItem) l)):Int)==(↑(List.length (List.map (RCod.enc cItem) l)):Int)) (cond (Nat.ble (List.length (List.map (RCod.enc cItem) l)) 1000) (cond (ile (0:Int) (N.ix (N.isId id) (List.map (RCod.dec cItem) (List.map (RCod.enc cItem) l)) (0:Int))) (some {v:=V.int .i64 (N.ix (N.isId id) (List.map (RCod.dec cItem) (List.map (RCod.enc cItem) l)) (0:Int)),bx:=[]:DRes}) (some {v:=V.int .i64 (-1:Int),bx:=[]:DRes})) (none)) (none):=by kernel_rfl
theorem q_rFindR (id:Int) (r:List (List V)) (n i:Int) (K:Ex→St→Option R):evRound eRFind 179 2 { fr:=[(1,.int .u64 id),(7,.slc [.int .u64,.str,.str,.slc [.str,.int .u8,.int .i64,.str],.str,.int .u64,.int .u8,.bool,.bool] r),(8,.int .i64 n),(9,.int .i64 i)],tab:=[] } K =
 cond (ilt i n) (cond (decide ((0:Int)≤i∧i<(↑(List.length r):Int))) (cond (V.toInt (List.getD (List.getD r (Int.toNat i) []) 0 V.undef)==id) (K Ex.ret {fr:=[(4,V.int .i64 i)],tab:=[]:St}) (K Ex.normal {fr:=[(1,V.int .u64 id),(7,V.slc [.int .u64,.str,.str,.slc [.str,.int .u8,.int .i64,.str],.str,.int .u64,.int .u8,.bool,.bool] r),(8,V.int .i64 n),(9,V.int .i64 (IntKind.wrap .i64 (i+(1:Int))))],tab:=[]:St})) (none)) (K (Ex.exit 0) {fr:=[],tab:=[]:St}):=by kernel_rfl
theorem ok_rFind:FnOk Tryz.prog 179 dRFind:=by
 refine den_okF (env_ok (TOk.nil _)) (E:=eRFind) Tryz.func179 [2] (by kernel_rfl) (one1 (rounds_of rfl fun l K q h=>?_)) fun a _ hp=>?_
 ·unfold gRFind at h
  split at h
  ·rename_i id r n i
   have h1:=(cond_none h).1; replace h:=(cond_none h).2; have h2:=(cond_none h).1; replace h:=(cond_none h).2; have h3:=(cond_none h).1; replace h:=(cond_none h).2
   have e1:=ieq_of h1
   have e2:=ieq_of h2
   subst e1 e2
   have h3:r.length≤1000:=ble_of h3
   have main:=loop_ind (E:=eRFind) (f:=179) (id:=2) (σ:=Nat) (fun i=>{ fr:=[(1,.int .u64 id),(7,.slc [.int .u64,.str,.str,.slc [.str,.int .u8,.int .i64,.str],.str,.int .u64,.int .u8,.bool,.bool] r),(8,.int .i64 r.length),(9,.int .i64 (i:Int))],tab:=[] }) (fun i=>i≤r.length) (fun i=>r.length-i)
    (fun i K=>cond (ile 0 (N.ix (N.isId id) ((r.drop i).map cItem.dec) i)) (K .ret { fr:=[(4,.int .i64 (N.ix (N.isId id) ((r.drop i).map cItem.dec) i))],tab:=[] }) (K (.exit 0) { fr:=[],tab:=[] })) (fun i hi=>?_) 0 (Nat.zero_le _) K q (by assumption)
   ·exact main
   ·by_cases hl:i<r.length
    ·rw [drop_decI hl,ix_cons]
     have hm:V.toInt (List.getD (List.getD r i []) 0 V.undef)=(cItem.dec (r.getD i [])).mail.id:=rfl
     cases hc:N.isId id (cItem.dec (r.getD i [])) with
     | true =>
      have hc' : ((cItem.dec (r.getD i [])).mail.id==id)=true:=hc
      refine .inr ⟨.ret,{ fr:=[(4,.int .i64 (i:Int))],tab:=[] },by simp,fun K=>?_,fun K=>?_⟩
      ·rw [q_rFindR]
       simp (disch:=omega) only [evs,Int.toNat_natCast,hm,hc']
      ·simp only [cond_true]
       rw [ile_t (by omega)]; rfl
     | false =>
      have hc' : ((cItem.dec (r.getD i [])).mail.id==id)=false:=hc
      refine .inl ⟨i+1,hl,by omega,fun K=>?_,fun K=>rfl⟩
      rw [q_rFindR]
      simp (disch:=omega) only [evs,Int.toNat_natCast,hm,hc']
      try rfl
    ·refine .inr ⟨.exit 0,{ fr:=[],tab:=[] },by simp,fun K=>?_,fun K=>?_⟩
     ·rw [q_rFindR]
      simp (disch:=omega) only [evs]
     ·rw [List.drop_eq_nil_of_le (by omega)]; rfl
  ·cases h
 ·obtain ⟨l,id⟩:=a
  have hp:Nat.ble l.length 1000=true:=hp
  refine (q_rFind l id).trans ?_
  simp only [List.length_map,dec_encs,hp,beq_self_eq_true,cond_true]
  show _=some (⟨.int .i64 (N.ix (N.isId id) l 0),[],[]⟩:DRes)
  cases hc:ile 0 (N.ix (N.isId id) l 0) with
  | true=>rfl
  | false=>rw [ix_end hc]; rfl
def N.turnRows (k:Int) (x:List V):List (List V)→Int→List (List V)
 | [],_=>[]
 | r::rs,i=>cond (i==k) x (reRowI r)::N.turnRows k x rs (i+1)
theorem turnRows_enc (k:Nat) (x:HItem):∀ (l:List HItem) (i:Nat),N.turnRows (((i+k:Nat):Int)) (cItem.enc x) (l.map cItem.enc) i=(l.set k x).map cItem.enc
 | [],_=>rfl
 | y::r,i=>by
  show cond ((i:Int)==((i+k:Nat):Int)) (cItem.enc x) (reRowI (cItem.enc y))::N.turnRows (((i+k:Nat):Int)) (cItem.enc x) (r.map cItem.enc) ((i:Int)+1)=_
  cases k with
  | zero =>
   have hne:∀ (l:List HItem) (j:Nat),i<j→N.turnRows (((i+0:Nat):Int)) (cItem.enc x) (l.map cItem.enc) j=l.map cItem.enc:=fun l=>by
    induction l with
    | nil=>intro j _; rfl
    | cons z r ih =>
     intro j hj
     show cond ((j:Int)==((i+0:Nat):Int)) (cItem.enc x) (reRowI (cItem.enc z))::N.turnRows _ _ (r.map cItem.enc) ((j:Int)+1)=_
     rw [ieq_f (by omega)]
     have:=ih (j+1) (by omega)
     rw [show ((j:Int)+1)=((j+1:Nat):Int) from rfl,this]
     try rfl
   rw [show ((i:Int)==((i+0:Nat):Int))=true from ieq_t (by omega)]
   rw [show ((i:Int)+1)=((i+1:Nat):Int) from rfl,hne r (i+1) (by omega)]
   try rfl
  | succ k =>
   rw [ieq_f (show (i:Int) ≠ ((i+(k+1):Nat):Int) by omega)]
   have ih:=turnRows_enc k x r (i+1)
   rw [show i+1+k=i+(k+1) by omega] at ih
   rw [show ((i:Int)+1)=((i+1:Nat):Int) from rfl,ih]
   try rfl
theorem turnRows_len (k:Int) (x:List V):∀ (r:List (List V)) (i:Int),(N.turnRows k x r i).length=r.length
 | [],_=>rfl
 | _::rs,i=>by
  show (N.turnRows k x rs (i+1)).length+1=rs.length+1
  rw [turnRows_len k x rs]
def schRTurned:SSch:={ fr:=[(1,.int .i64),(5,.ptr 10000 0 0),(7,.own 10001),(10,.slc [.int .u64,.str,.str,.slc [.str,.int .u8,.int .i64,.str],.str,.int .u64,.int .u8,.bool,.bool]),(11,.int .i64),(12,.int .i64)],tab:=[(10000,.var [.int .u64,.str,.str,.slc [.str,.int .u8,.int .i64,.str],.str,.int .u64,.int .u8,.bool,.bool]),(10001,.sl [.int .u64,.str,.str,.slc [.str,.int .u8,.int .i64,.str],.str,.int .u64,.int .u8,.bool,.bool])] }
def gRTurned:List Leaf→(Ex→St→Option R)→Option R
 | [.i k,.r r,.i n,.i i,.i id,.s s1,.s s2,.r hd,.s s3,.i due,.i hops,.b b1,.b b2,.r a],K=>cond (n==r.length) (cond (i==0) (cond (Nat.beq a.length 0) (cond (Nat.ble r.length 1000)
   (K (.exit 0) { fr:=[(7,.own 10000 0)],tab:=[(10000,.sl [.int .u64,.str,.str,.slc [.str,.int .u8,.int .i64,.str],.str,.int .u64,.int .u8,.bool,.bool] (N.turnRows k [V.int .u64 id,.str s1,.str s2,.slc [.str,.int .u8,.int .i64,.str] hd,.str s3,.int .u64 due,.int .u8 hops,.bool b1,.bool b2] r 0) 0)] }) none) none) none) none
 | _,_=>none
noncomputable def eRTurned:Env:=env Tryz.prog [] [(3,loopF schRTurned gRTurned)] [(3,[(0,[1,5,7,10,11,12]),(1,[7]),(1000,[6])])]
theorem q_rTurned (l:List HItem) (k:Int) (x:HItem):evFn eRTurned 178 ((aCons (vSl cItem) (aCons (vInt .i64) (aOne (vAgg cItem)))).enc (l,k,x)) ([]) some =
 cond ((↑(List.length (List.map (RCod.enc cItem) l)):Int)==(↑(List.length (List.map (RCod.enc cItem) l)):Int)) (cond (Nat.ble (List.length (List.map (RCod.enc cItem) l)) 1000) (some {v:=V.slc [.int .u64,.str,.str,.slc [.str,.int .u8,.int .i64,.str],.str,.int .u64,.int .u8,.bool,.bool] (N.turnRows k [V.int .u64 (HMail.id (HItem.mail x)),V.str (HMail.shop (HItem.mail x)),V.str (HMail.key (HItem.mail x)),V.slc [.str,.int .u8,.int .i64,.str] (List.map (fun p=>[V.str (HPair.key p),V.int .u8 (HPair.kind p),V.int .i64 (HPair.num p),V.str (HPair.text p)]) (HMail.head (HItem.mail x))),V.str (HMail.body (HItem.mail x)),V.int .u64 (HMail.due (HItem.mail x)),V.int .u8 (HMail.hops (HItem.mail x)),V.bool (HItem.lent x),V.bool (HItem.again x)] (List.map (RCod.enc cItem) l) (0:Int)),bx:=[]:DRes}) (none)) (none):=by kernel_rfl
theorem q_rTurnedR (k:Int) (r:List (List V)) (n i:Int) (id:Int) (s1 s2:Bytes) (hd:List (List V)) (s3:Bytes) (due hops:Int) (b1 b2:Bool) (a:List (List V)) (K:Ex→St→Option R):evRound eRTurned 178 3 { fr:=[(1,.int .i64 k),(5,.ptr 10000 0 0 0),(7,.own 10001 0),(10,.slc [.int .u64,.str,.str,.slc [.str,.int .u8,.int .i64,.str],.str,.int .u64,.int .u8,.bool,.bool] r),(11,.int .i64 n),(12,.int .i64 i)],tab:=[(10000,.var [.int .u64 id,.str s1,.str s2,.slc [.str,.int .u8,.int .i64,.str] hd,.str s3,.int .u64 due,.int .u8 hops,.bool b1,.bool b2]),(10001,.sl [.int .u64,.str,.str,.slc [.str,.int .u8,.int .i64,.str],.str,.int .u64,.int .u8,.bool,.bool] a 0)] } K =
 cond (ilt i n) (cond (decide ((0:Int)≤i∧i<(↑(List.length r):Int))) (cond (i==k) (cond (decide ((List.length a+1)*104≤140737488355328)) (K Ex.normal {fr:=[(1,V.int .i64 k),(5,V.ptr 10000 0 0 0),(7,V.own 10001 0),(10,V.slc [.int .u64,.str,.str,.slc [.str,.int .u8,.int .i64,.str],.str,.int .u64,.int .u8,.bool,.bool] r),(11,V.int .i64 n),(12,V.int .i64 (IntKind.wrap .i64 (i+(1:Int))))],tab:=[(10000,Box.var [V.int .u64 id,V.str s1,V.str s2,V.slc [.str,.int .u8,.int .i64,.str] hd,V.str s3,V.int .u64 due,V.int .u8 hops,V.bool b1,V.bool b2]),(10001,Box.sl [.int .u64,.str,.str,.slc [.str,.int .u8,.int .i64,.str],.str,.int .u64,.int .u8,.bool,.bool] (a++[[V.int .u64 id,V.str s1,V.str s2,V.slc [.str,.int .u8,.int .i64,.str] hd,V.str s3,V.int .u64 due,V.int .u8 hops,V.bool b1,V.bool b2]]) 0)]:St}) (none)) (cond (decide ((List.length a+1)*104≤140737488355328)) (K Ex.normal {fr:=[(1,V.int .i64 k),(5,V.ptr 10000 0 0 0),(7,V.own 10001 0),(10,V.slc [.int .u64,.str,.str,.slc [.str,.int .u8,.int .i64,.str],.str,.int .u64,.int .u8,.bool,.bool] r),(11,V.int .i64 n),(12,V.int .i64 (IntKind.wrap .i64 (i+(1:Int))))],tab:=[(10000,Box.var [V.int .u64 id,V.str s1,V.str s2,V.slc [.str,.int .u8,.int .i64,.str] hd,V.str s3,V.int .u64 due,V.int .u8 hops,V.bool b1,V.bool b2]),(10001,Box.sl [.int .u64,.str,.str,.slc [.str,.int .u8,.int .i64,.str],.str,.int .u64,.int .u8,.bool,.bool] (a++[[V.int .u64 (V.toInt (List.getD (List.getD r (Int.toNat i) []) 0 V.undef)),V.str (V.toStr (List.getD (List.getD r (Int.toNat i) []) 1 V.undef)),V.str (V.toStr (List.getD (List.getD r (Int.toNat i) []) 2 V.undef)),V.slc [.str,.int .u8,.int .i64,.str] (V.toRows (List.getD (List.getD r (Int.toNat i) []) 3 V.undef)),V.str (V.toStr (List.getD (List.getD r (Int.toNat i) []) 4 V.undef)),V.int .u64 (V.toInt (List.getD (List.getD r (Int.toNat i) []) 5 V.undef)),V.int .u8 (V.toInt (List.getD (List.getD r (Int.toNat i) []) 6 V.undef)),V.bool (V.toBool (List.getD (List.getD r (Int.toNat i) []) 7 V.undef)),V.bool (V.toBool (List.getD (List.getD r (Int.toNat i) []) 8 V.undef))]]) 0)]:St}) (none))) (none)) (K (Ex.exit 0) {fr:=[(7,V.own 10000 0)],tab:=[(10000,Box.sl [.int .u64,.str,.str,.slc [.str,.int .u8,.int .i64,.str],.str,.int .u64,.int .u8,.bool,.bool] a 0)]:St}):=by kernel_rfl
def wakeRow (r:List V):List V:=[V.int .u64 (V.toInt (List.getD r 0 .undef)),V.str (V.toStr (List.getD r 1 .undef)),V.str (V.toStr (List.getD r 2 .undef)),V.slc [.str,.int .u8,.int .i64,.str] (V.toRows (List.getD r 3 .undef)),V.str (V.toStr (List.getD r 4 .undef)),V.int .u64 (V.toInt (List.getD r 5 .undef)),V.int .u8 (V.toInt (List.getD r 6 .undef)),V.bool false,V.bool (cond (V.toBool (List.getD r 8 .undef)) true (V.toBool (List.getD r 7 .undef)))]
def N.wakeRows (r:List (List V)):List (List V):=r.map wakeRow
theorem wakeRows_enc (l:List HItem):N.wakeRows (l.map cItem.enc)=(N.lWake l).map cItem.enc:=by
 unfold N.wakeRows N.lWake
 rw [List.map_map,List.map_map]
 refine List.map_congr_left fun x _=>?_
 show wakeRow (cItem.enc x)=cItem.enc (N.wakeI x)
 obtain ⟨m,a,b⟩:=x
 cases a<;>cases b<;>rfl
theorem wakeRows_succ {r:List (List V)} {i:Nat} (h:i<r.length):N.wakeRows (r.take (i+1))=N.wakeRows (r.take i)++[wakeRow (r.getD i [])]:=by
 unfold N.wakeRows
 rw [List.take_add_one,List.getD_eq_getElem?_getD,List.getElem?_eq_getElem h]
 simp only [Option.toList_some,List.map_append,List.map_cons,List.map_nil,Option.getD_some]
def schRWake:SSch:={ fr:=[(3,.own 10000),(6,.slc [.int .u64,.str,.str,.slc [.str,.int .u8,.int .i64,.str],.str,.int .u64,.int .u8,.bool,.bool]),(7,.int .i64),(8,.int .i64)],tab:=[(10000,.sl [.int .u64,.str,.str,.slc [.str,.int .u8,.int .i64,.str],.str,.int .u64,.int .u8,.bool,.bool])] }
def gRWake:List Leaf→(Ex→St→Option R)→Option R
 | [.r r,.i n,.i i,.r a],K=>cond (n==r.length) (cond (i==0) (cond (Nat.beq a.length 0) (cond (Nat.ble r.length 1000)
   (K (.exit 0) { fr:=[(3,.own 10000 0)],tab:=[(10000,.sl [.int .u64,.str,.str,.slc [.str,.int .u8,.int .i64,.str],.str,.int .u64,.int .u8,.bool,.bool] (N.wakeRows r) 0)] }) none) none) none) none
 | _,_=>none
noncomputable def eRWake:Env:=env Tryz.prog [] [(3,loopF schRWake gRWake)] [(3,[(0,[3,6,7,8]),(1,[3]),(1000,[2])])]
theorem q_rWake (l:List HItem):evFn eRWake 139 ((aOne (vSl cItem)).enc l) ([]) some =
 cond ((↑(List.length (List.map (RCod.enc cItem) l)):Int)==(↑(List.length (List.map (RCod.enc cItem) l)):Int)) (cond (Nat.ble (List.length (List.map (RCod.enc cItem) l)) 1000) (some {v:=V.slc [.int .u64,.str,.str,.slc [.str,.int .u8,.int .i64,.str],.str,.int .u64,.int .u8,.bool,.bool] (N.wakeRows (List.map (RCod.enc cItem) l)),bx:=[]:DRes}) (none)) (none):=by kernel_rfl
theorem q_rWakeR_ (r:List (List V)) (n i:Int) (a:List (List V)) (K:Ex→St→Option R):evRound eRWake 139 3 { fr:=[(3,.own 10000 0),(6,.slc [.int .u64,.str,.str,.slc [.str,.int .u8,.int .i64,.str],.str,.int .u64,.int .u8,.bool,.bool] r),(7,.int .i64 n),(8,.int .i64 i)],tab:=[(10000,.sl [.int .u64,.str,.str,.slc [.str,.int .u8,.int .i64,.str],.str,.int .u64,.int .u8,.bool,.bool] a 0)] } K =(
 let z0:=(List.getD r (Int.toNat i) []);cond (ilt i n) (cond (decide ((0:Int)≤i∧i<(↑(List.length r):Int))) (cond (V.toBool (List.getD z0 8 V.undef)) (cond (decide ((List.length a+1)*104≤140737488355328)) (K Ex.normal {fr:=[(3,V.own 10000 0),(6,V.slc [.int .u64,.str,.str,.slc [.str,.int .u8,.int .i64,.str],.str,.int .u64,.int .u8,.bool,.bool] r),(7,V.int .i64 n),(8,V.int .i64 (IntKind.wrap .i64 (i+(1:Int))))],tab:=[(10000,Box.sl [.int .u64,.str,.str,.slc [.str,.int .u8,.int .i64,.str],.str,.int .u64,.int .u8,.bool,.bool] (a++[[V.int .u64 (V.toInt (List.getD z0 0 V.undef)),V.str (V.toStr (List.getD z0 1 V.undef)),V.str (V.toStr (List.getD z0 2 V.undef)),V.slc [.str,.int .u8,.int .i64,.str] (V.toRows (List.getD z0 3 V.undef)),V.str (V.toStr (List.getD z0 4 V.undef)),V.int .u64 (V.toInt (List.getD z0 5 V.undef)),V.int .u8 (V.toInt (List.getD z0 6 V.undef)),V.bool false,V.bool true]]) 0)]:St}) (none)) (cond (decide ((List.length a+1)*104≤140737488355328)) (K Ex.normal {fr:=[(3,V.own 10000 0),(6,V.slc [.int .u64,.str,.str,.slc [.str,.int .u8,.int .i64,.str],.str,.int .u64,.int .u8,.bool,.bool] r),(7,V.int .i64 n),(8,V.int .i64 (IntKind.wrap .i64 (i+(1:Int))))],tab:=[(10000,Box.sl [.int .u64,.str,.str,.slc [.str,.int .u8,.int .i64,.str],.str,.int .u64,.int .u8,.bool,.bool] (a++[[V.int .u64 (V.toInt (List.getD z0 0 V.undef)),V.str (V.toStr (List.getD z0 1 V.undef)),V.str (V.toStr (List.getD z0 2 V.undef)),V.slc [.str,.int .u8,.int .i64,.str] (V.toRows (List.getD z0 3 V.undef)),V.str (V.toStr (List.getD z0 4 V.undef)),V.int .u64 (V.toInt (List.getD z0 5 V.undef)),V.int .u8 (V.toInt (List.getD z0 6 V.undef)),V.bool false,V.bool (V.toBool (List.getD z0 7 V.undef))]]) 0)]:St}) (none))) (none)) (K (Ex.exit 0) {fr:=[(3,V.own 10000 0)],tab:=[(10000,Box.sl [.int .u64,.str,.str,.slc [.str,.int .u8,.int .i64,.str],.str,.int .u64,.int .u8,.bool,.bool] a 0)]:St})):=by kernel_rfl
theorem q_rWakeR (r:List (List V)) (n i:Int) (a:List (List V)) (K:Ex→St→Option R):type_of% (by have h:=q_rWakeR_ r n i a K; dsimp only at h; exact h):=by
 have h:=q_rWakeR_ r n i a K
 dsimp only at h
 exact h
noncomputable def eRAdd:Env:=env Tryz.prog [(187,dRPut)] [] []
theorem q_rAdd (l:List HItem) (m:HMail):evFn eRAdd 183 ((aCons (vSl cItem) (aOne (vAgg cMail))).enc (l,m)) ([]) some =
 cond (Nat.ble (List.length (List.map (RCod.dec cItem) (List.map (RCod.enc cItem) l))) 1000) (some {v:=V.tup [V.slc [.int .u64,.str,.str,.slc [.str,.int .u8,.int .i64,.str],.str,.int .u64,.int .u8,.bool,.bool] (List.map (RCod.enc cItem) (Prod.fst (N.rPut (List.map (RCod.dec cItem) (List.map (RCod.enc cItem) l)) {mail:={id:=HMail.id m,shop:=HMail.shop m,key:=HMail.key m,head:=List.map (fun r=>{key:=V.toStr (List.getD r 0 .undef),kind:=V.toInt (List.getD r 1 .undef),num:=V.toInt (List.getD r 2 .undef),text:=V.toStr (List.getD r 3 .undef):HPair}) (List.map (fun p=>[V.str (HPair.key p),V.int .u8 (HPair.kind p),V.int .i64 (HPair.num p),V.str (HPair.text p)]) (HMail.head m)),body:=HMail.body m,due:=HMail.due m,hops:=HMail.hops m:HMail},lent:=false,again:=false:HItem}))),V.int .i64 (Prod.snd (N.rPut (List.map (RCod.dec cItem) (List.map (RCod.enc cItem) l)) {mail:={id:=HMail.id m,shop:=HMail.shop m,key:=HMail.key m,head:=List.map (fun r=>{key:=V.toStr (List.getD r 0 .undef),kind:=V.toInt (List.getD r 1 .undef),num:=V.toInt (List.getD r 2 .undef),text:=V.toStr (List.getD r 3 .undef):HPair}) (List.map (fun p=>[V.str (HPair.key p),V.int .u8 (HPair.kind p),V.int .i64 (HPair.num p),V.str (HPair.text p)]) (HMail.head m)),body:=HMail.body m,due:=HMail.due m,hops:=HMail.hops m:HMail},lent:=false,again:=false:HItem}))],bx:=[]:DRes}) (none):=by kernel_rfl
noncomputable def eRBack:Env:=env Tryz.prog [(179,dRFind),(178,dRTurned)] [] []
theorem q_rBack_ (l:List HItem) (id:Int):evFn eRBack 134 ((aCons (vSl cItem) (aOne (vInt .u64))).enc (l,id)) ([]) some =(
 let z4:=(List.map (RCod.enc cItem) l);let z1:=(List.map (RCod.dec cItem) z4);let z3:=(N.ix (N.isId id) z1 (0:Int));let z0:=(List.getD z4 (Int.toNat z3) []);let z2:=(decide ((0:Int)≤N.ix (N.isId id) z1 (0:Int)∧N.ix (N.isId id) z1 (0:Int)<(↑(List.length z4):Int)));cond (Nat.ble (List.length z1) 1000) (cond (ilt z3 (0:Int)) (some {v:=V.tup [V.slc [.int .u64,.str,.str,.slc [.str,.int .u8,.int .i64,.str],.str,.int .u64,.int .u8,.bool,.bool] z4,V.int .i64 (10:Int)],bx:=[]:DRes}) (cond z2 (cond (!V.toBool (List.getD z0 7 V.undef)) (some {v:=V.tup [V.slc [.int .u64,.str,.str,.slc [.str,.int .u8,.int .i64,.str],.str,.int .u64,.int .u8,.bool,.bool] z4,V.int .i64 (13:Int)],bx:=[]:DRes}) (cond z2 (cond (goodAt z1 z3) (some {v:=V.tup [V.slc [.int .u64,.str,.str,.slc [.str,.int .u8,.int .i64,.str],.str,.int .u64,.int .u8,.bool,.bool] (List.map (RCod.enc cItem) (List.set z1 (Int.toNat z3) {mail:={id:=V.toInt (List.getD z0 0 V.undef),shop:=V.toStr (List.getD z0 1 V.undef),key:=V.toStr (List.getD z0 2 V.undef),head:=List.map (fun r=>{key:=V.toStr (List.getD r 0 .undef),kind:=V.toInt (List.getD r 1 .undef),num:=V.toInt (List.getD r 2 .undef),text:=V.toStr (List.getD r 3 .undef):HPair}) (V.toRows (List.getD z0 3 V.undef)),body:=V.toStr (List.getD z0 4 V.undef),due:=V.toInt (List.getD z0 5 V.undef),hops:=V.toInt (List.getD z0 6 V.undef):HMail},lent:=false,again:=true:HItem})),V.int .i64 (0:Int)],bx:=[]:DRes}) (none)) (none))) (none))) (none)):=by kernel_rfl
theorem q_rBack (l:List HItem) (id:Int):type_of% (by have h:=q_rBack_ l id; dsimp only at h; exact h):=by
 have h:=q_rBack_ l id
 dsimp only at h
 exact h
def lendRow (r:List V):List V:=[V.int .u64 (V.toInt (List.getD r 0 .undef)),V.str (V.toStr (List.getD r 1 .undef)),V.str (V.toStr (List.getD r 2 .undef)),V.slc [.str,.int .u8,.int .i64,.str] (V.toRows (List.getD r 3 .undef)),V.str (V.toStr (List.getD r 4 .undef)),V.int .u64 (V.toInt (List.getD r 5 .undef)),V.int .u8 (V.toInt (List.getD r 6 .undef)),V.bool true,V.bool (V.toBool (List.getD r 8 .undef))]
def schRLend:SSch:={ fr:=[(0,.slc [.int .u64,.str,.str,.slc [.str,.int .u8,.int .i64,.str],.str,.int .u64,.int .u8,.bool,.bool]),(3,.ptr 10000 0 0),(7,.slc [.int .u64,.str,.str,.slc [.str,.int .u8,.int .i64,.str],.str,.int .u64,.int .u8,.bool,.bool]),(8,.int .i64),(9,.int .i64)],tab:=[(10000,.var [.int .u64,.str,.str,.slc [.str,.int .u8,.int .i64,.str],.str,.int .u64,.int .u8,.bool,.bool])] }
def gRLend:List Leaf→(Ex→St→Option R)→Option R
 | [.r l0,.r r,.i n,.i i,.i id,.s s1,.s s2,.r hd,.s s3,.i due,.i hops,.b b1,.b b2],K=>cond (n==r.length) (cond (i==0) (cond (Nat.beq l0.length r.length) (cond (Nat.ble r.length 1000)
   (cond (ile 0 (N.ix N.isReady (r.map cItem.dec) 0)) (K .ret { fr:=[(2,.slc [.int .u64,.str,.str,.slc [.str,.int .u8,.int .i64,.str],.str,.int .u64,.int .u8,.bool,.bool] (((l0.map cItem.dec).set (N.ix N.isReady (r.map cItem.dec) 0).toNat (N.lendI (cItem.dec (r.getD (N.ix N.isReady (r.map cItem.dec) 0).toNat [])))).map cItem.enc)),(3,.ptr 10000 0 0 0),(4,.bool true)],tab:=[(10000,.var (Go.Ev.lendRow (r.getD (N.ix N.isReady (r.map cItem.dec) 0).toNat [])))] })
    (K (.exit 0) { fr:=[(0,.slc [.int .u64,.str,.str,.slc [.str,.int .u8,.int .i64,.str],.str,.int .u64,.int .u8,.bool,.bool] l0),(3,.ptr 10000 0 0 0)],tab:=[(10000,.var [.int .u64 id,.str s1,.str s2,.slc [.str,.int .u8,.int .i64,.str] hd,.str s3,.int .u64 due,.int .u8 hops,.bool b1,.bool b2])] })) none) none) none) none
 | _,_=>none
noncomputable def eRLend:Env:={ env Tryz.prog [(178,dRTurned)] [(2,loopF schRLend gRLend)] [(2,[(0,[0,3,7,8,9]),(1,[0,3]),(1000,[2,3,4])])] with fz:=true }
theorem q_rLend_ (l:List HItem):evFn eRLend 132 ((aOne (vSl cItem)).enc l) ([]) some =(
 let z1:=(List.map (RCod.enc cItem) l);let z2:=(List.map (RCod.dec cItem) z1);let z0:=(List.getD z1 (Int.toNat (N.ix N.isReady z2 (0:Int))) []);cond ((↑(List.length z1):Int)==(↑(List.length z1):Int)) (cond (Nat.beq (List.length z1) (List.length z1)) (cond (Nat.ble (List.length z1) 1000) (cond (ile (0:Int) (N.ix N.isReady z2 (0:Int))) (some {v:=V.tup [V.slc [.int .u64,.str,.str,.slc [.str,.int .u8,.int .i64,.str],.str,.int .u64,.int .u8,.bool,.bool] (List.map (RCod.enc cItem) (List.set z2 (Int.toNat (N.ix N.isReady z2 (0:Int))) (N.lendI {mail:={id:=V.toInt (List.getD z0 0 V.undef),shop:=V.toStr (List.getD z0 1 V.undef),key:=V.toStr (List.getD z0 2 V.undef),head:=List.map (fun r=>{key:=V.toStr (List.getD r 0 .undef),kind:=V.toInt (List.getD r 1 .undef),num:=V.toInt (List.getD r 2 .undef),text:=V.toStr (List.getD r 3 .undef):HPair}) (V.toRows (List.getD z0 3 V.undef)),body:=V.toStr (List.getD z0 4 V.undef),due:=V.toInt (List.getD z0 5 V.undef),hops:=V.toInt (List.getD z0 6 V.undef):HMail},lent:=V.toBool (List.getD z0 7 V.undef),again:=V.toBool (List.getD z0 8 V.undef):HItem}))),V.agg [V.int .u64 (V.toInt (List.getD z0 0 V.undef)),V.str (V.toStr (List.getD z0 1 V.undef)),V.str (V.toStr (List.getD z0 2 V.undef)),V.slc [.str,.int .u8,.int .i64,.str] (V.toRows (List.getD z0 3 V.undef)),V.str (V.toStr (List.getD z0 4 V.undef)),V.int .u64 (V.toInt (List.getD z0 5 V.undef)),V.int .u8 (V.toInt (List.getD z0 6 V.undef)),V.bool true,V.bool (V.toBool (List.getD z0 8 V.undef))],V.bool true],bx:=[]:DRes}) (some {v:=V.tup [V.slc [.int .u64,.str,.str,.slc [.str,.int .u8,.int .i64,.str],.str,.int .u64,.int .u8,.bool,.bool] z1,V.agg [V.int .u64 (0:Int),V.str [],V.str [],V.slc [.str,.int .u8,.int .i64,.str] [],V.str [],V.int .u64 (0:Int),V.int .u8 (0:Int),V.bool false,V.bool false],V.bool false],bx:=[]:DRes})) (none)) (none)) (none)):=by kernel_rfl
theorem q_rLend (l:List HItem):type_of% (by have h:=q_rLend_ l; dsimp only at h; exact h):=by
 have h:=q_rLend_ l
 dsimp only at h
 exact h
theorem q_rLendR (l0 r:List (List V)) (n i:Int) (id:Int) (s1 s2:Bytes) (hd:List (List V)) (s3:Bytes) (due hops:Int) (b1 b2:Bool) (K:Ex→St→Option R):evRound eRLend 132 2 { fr:=[(0,.slc [.int .u64,.str,.str,.slc [.str,.int .u8,.int .i64,.str],.str,.int .u64,.int .u8,.bool,.bool] l0),(3,.ptr 10000 0 0 0),(7,.slc [.int .u64,.str,.str,.slc [.str,.int .u8,.int .i64,.str],.str,.int .u64,.int .u8,.bool,.bool] r),(8,.int .i64 n),(9,.int .i64 i)],tab:=[(10000,.var [.int .u64 id,.str s1,.str s2,.slc [.str,.int .u8,.int .i64,.str] hd,.str s3,.int .u64 due,.int .u8 hops,.bool b1,.bool b2])] } K =
 cond (ilt i n) (cond (decide ((0:Int)≤i∧i<(↑(List.length r):Int))) (cond (!V.toBool (List.getD (List.getD r (Int.toNat i) []) 7 V.undef)) (cond (goodAt (List.map (RCod.dec cItem) l0) i) (K Ex.ret {fr:=[(2,V.slc [.int .u64,.str,.str,.slc [.str,.int .u8,.int .i64,.str],.str,.int .u64,.int .u8,.bool,.bool] (List.map (RCod.enc cItem) (List.set (List.map (RCod.dec cItem) l0) (Int.toNat i) {mail:={id:=V.toInt (List.getD (List.getD r (Int.toNat i) []) 0 V.undef),shop:=V.toStr (List.getD (List.getD r (Int.toNat i) []) 1 V.undef),key:=V.toStr (List.getD (List.getD r (Int.toNat i) []) 2 V.undef),head:=List.map (fun r=>{key:=V.toStr (List.getD r 0 .undef),kind:=V.toInt (List.getD r 1 .undef),num:=V.toInt (List.getD r 2 .undef),text:=V.toStr (List.getD r 3 .undef):HPair}) (V.toRows (List.getD (List.getD r (Int.toNat i) []) 3 V.undef)),body:=V.toStr (List.getD (List.getD r (Int.toNat i) []) 4 V.undef),due:=V.toInt (List.getD (List.getD r (Int.toNat i) []) 5 V.undef),hops:=V.toInt (List.getD (List.getD r (Int.toNat i) []) 6 V.undef):HMail},lent:=true,again:=V.toBool (List.getD (List.getD r (Int.toNat i) []) 8 V.undef):HItem}))),(3,V.ptr 10000 0 0 0),(4,V.bool true)],tab:=[(10000,Box.var [V.int .u64 (V.toInt (List.getD (List.getD r (Int.toNat i) []) 0 V.undef)),V.str (V.toStr (List.getD (List.getD r (Int.toNat i) []) 1 V.undef)),V.str (V.toStr (List.getD (List.getD r (Int.toNat i) []) 2 V.undef)),V.slc [.str,.int .u8,.int .i64,.str] (V.toRows (List.getD (List.getD r (Int.toNat i) []) 3 V.undef)),V.str (V.toStr (List.getD (List.getD r (Int.toNat i) []) 4 V.undef)),V.int .u64 (V.toInt (List.getD (List.getD r (Int.toNat i) []) 5 V.undef)),V.int .u8 (V.toInt (List.getD (List.getD r (Int.toNat i) []) 6 V.undef)),V.bool true,V.bool (V.toBool (List.getD (List.getD r (Int.toNat i) []) 8 V.undef))])]:St}) (none)) (K Ex.normal {fr:=[(0,V.slc [.int .u64,.str,.str,.slc [.str,.int .u8,.int .i64,.str],.str,.int .u64,.int .u8,.bool,.bool] l0),(3,V.ptr 10000 0 0 0),(7,V.slc [.int .u64,.str,.str,.slc [.str,.int .u8,.int .i64,.str],.str,.int .u64,.int .u8,.bool,.bool] r),(8,V.int .i64 n),(9,V.int .i64 (IntKind.wrap .i64 (i+(1:Int))))],tab:=[(10000,Box.var [V.int .u64 id,V.str s1,V.str s2,V.slc [.str,.int .u8,.int .i64,.str] hd,V.str s3,V.int .u64 due,V.int .u8 hops,V.bool b1,V.bool b2])]:St})) (none)) (K (Ex.exit 0) {fr:=[(0,V.slc [.int .u64,.str,.str,.slc [.str,.int .u8,.int .i64,.str],.str,.int .u64,.int .u8,.bool,.bool] l0),(3,V.ptr 10000 0 0 0)],tab:=[(10000,Box.var [V.int .u64 id,V.str s1,V.str s2,V.slc [.str,.int .u8,.int .i64,.str] hd,V.str s3,V.int .u64 due,V.int .u8 hops,V.bool b1,V.bool b2])]:St}):=by kernel_rfl
def N.cutRows (k:Int):List (List V)→Int→List (List V)
 | [],_=>[]
 | r::rs,i=>cond (i==k) (N.cutRows k rs (i+1)) (reRowI r::N.cutRows k rs (i+1))
def schRRemove:SSch:={ fr:=[(0,.slc [.int .u64,.str,.str,.slc [.str,.int .u8,.int .i64,.str],.str,.int .u64,.int .u8,.bool,.bool]),(5,.ptr 10000 0 0),(7,.int .i64),(8,.own 10001),(18,.slc [.int .u64,.str,.str,.slc [.str,.int .u8,.int .i64,.str],.str,.int .u64,.int .u8,.bool,.bool]),(19,.int .i64),(20,.int .i64)],tab:=[(10000,.var [.int .u64,.str,.str,.slc [.str,.int .u8,.int .i64,.str],.str,.int .u64,.int .u8,.bool,.bool]),(10001,.sl [.int .u64,.str,.str,.slc [.str,.int .u8,.int .i64,.str],.str,.int .u64,.int .u8,.bool,.bool])] }
def gRRemove:List Leaf→(Ex→St→Option R)→Option R
 | [.r l0,.i k,.r r,.i n,.i i,.i id,.s s1,.s s2,.r hd,.s s3,.i due,.i hops,.b b1,.b b2,.r a],K=>cond (n==r.length) (cond (i==0) (cond (Nat.beq a.length 0) (cond (Nat.ble r.length 1000)
   (K (.exit 0) { fr:=[(0,.slc [.int .u64,.str,.str,.slc [.str,.int .u8,.int .i64,.str],.str,.int .u64,.int .u8,.bool,.bool] l0),(5,.ptr 10000 0 0 0),(7,.int .i64 k),(8,.own 10001 0)],tab:=[(10000,.var [.int .u64 id,.str s1,.str s2,.slc [.str,.int .u8,.int .i64,.str] hd,.str s3,.int .u64 due,.int .u8 hops,.bool b1,.bool b2]),(10001,.sl [.int .u64,.str,.str,.slc [.str,.int .u8,.int .i64,.str],.str,.int .u64,.int .u8,.bool,.bool] (N.cutRows k r 0) 0)] }) none) none) none) none
 | _,_=>none
noncomputable def eRRemove:Env:={ env Tryz.prog [(179,dRFind)] [(6,loopF schRRemove gRRemove)] [(6,[(0,[0,5,7,8,18,19,20]),(1,[0,5,7,8]),(1000,[4,5,6])])] with fz:=true }
theorem q_rRemove_ (l:List HItem) (id:Int):evFn eRRemove 135 ((aCons (vSl cItem) (aOne (vInt .u64))).enc (l,id)) ([]) some =(
 let z1:=(List.map (RCod.enc cItem) l);let z2:=(List.map (RCod.dec cItem) z1);let z3:=(N.ix (N.isId id) z2 (0:Int));let z0:=(List.getD z1 (Int.toNat z3) []);cond (Nat.ble (List.length z2) 1000) (cond (ilt z3 (0:Int)) (some {v:=V.tup [V.slc [.int .u64,.str,.str,.slc [.str,.int .u8,.int .i64,.str],.str,.int .u64,.int .u8,.bool,.bool] z1,V.agg [V.int .u64 (0:Int),V.str [],V.str [],V.slc [.str,.int .u8,.int .i64,.str] [],V.str [],V.int .u64 (0:Int),V.int .u8 (0:Int),V.bool false,V.bool false],V.int .i64 (10:Int)],bx:=[]:DRes}) (cond ((↑(List.length z1):Int)==(↑(List.length z1):Int)) (cond (Nat.ble (List.length z1) 1000) (cond (decide ((0:Int)≤N.ix (N.isId id) z2 (0:Int)∧N.ix (N.isId id) z2 (0:Int)<(↑(List.length z1):Int))) (some {v:=V.tup [V.slc [.int .u64,.str,.str,.slc [.str,.int .u8,.int .i64,.str],.str,.int .u64,.int .u8,.bool,.bool] (N.cutRows z3 z1 (0:Int)),V.agg [V.int .u64 (V.toInt (List.getD z0 0 V.undef)),V.str (V.toStr (List.getD z0 1 V.undef)),V.str (V.toStr (List.getD z0 2 V.undef)),V.slc [.str,.int .u8,.int .i64,.str] (V.toRows (List.getD z0 3 V.undef)),V.str (V.toStr (List.getD z0 4 V.undef)),V.int .u64 (V.toInt (List.getD z0 5 V.undef)),V.int .u8 (V.toInt (List.getD z0 6 V.undef)),V.bool (V.toBool (List.getD z0 7 V.undef)),V.bool (V.toBool (List.getD z0 8 V.undef))],V.int .i64 (0:Int)],bx:=[]:DRes}) (none)) (none)) (none))) (none)):=by kernel_rfl
theorem q_rRemove (l:List HItem) (id:Int):type_of% (by have h:=q_rRemove_ l id; dsimp only at h; exact h):=by
 have h:=q_rRemove_ l id
 dsimp only at h
 exact h
theorem q_rRemoveR (l0:List (List V)) (k:Int) (r:List (List V)) (n i:Int) (id:Int) (s1 s2:Bytes) (hd:List (List V)) (s3:Bytes) (due hops:Int) (b1 b2:Bool) (a:List (List V)) (K:Ex→St→Option R):evRound eRRemove 135 6 { fr:=[(0,.slc [.int .u64,.str,.str,.slc [.str,.int .u8,.int .i64,.str],.str,.int .u64,.int .u8,.bool,.bool] l0),(5,.ptr 10000 0 0 0),(7,.int .i64 k),(8,.own 10001 0),(18,.slc [.int .u64,.str,.str,.slc [.str,.int .u8,.int .i64,.str],.str,.int .u64,.int .u8,.bool,.bool] r),(19,.int .i64 n),(20,.int .i64 i)],tab:=[(10000,.var [.int .u64 id,.str s1,.str s2,.slc [.str,.int .u8,.int .i64,.str] hd,.str s3,.int .u64 due,.int .u8 hops,.bool b1,.bool b2]),(10001,.sl [.int .u64,.str,.str,.slc [.str,.int .u8,.int .i64,.str],.str,.int .u64,.int .u8,.bool,.bool] a 0)] } K =
 cond (ilt i n) (cond (decide ((0:Int)≤i∧i<(↑(List.length r):Int))) (cond (i != k) (cond (decide ((List.length a+1)*104≤140737488355328)) (K Ex.normal {fr:=[(0,V.slc [.int .u64,.str,.str,.slc [.str,.int .u8,.int .i64,.str],.str,.int .u64,.int .u8,.bool,.bool] l0),(5,V.ptr 10000 0 0 0),(7,V.int .i64 k),(8,V.own 10001 0),(18,V.slc [.int .u64,.str,.str,.slc [.str,.int .u8,.int .i64,.str],.str,.int .u64,.int .u8,.bool,.bool] r),(19,V.int .i64 n),(20,V.int .i64 (IntKind.wrap .i64 (i+(1:Int))))],tab:=[(10000,Box.var [V.int .u64 id,V.str s1,V.str s2,V.slc [.str,.int .u8,.int .i64,.str] hd,V.str s3,V.int .u64 due,V.int .u8 hops,V.bool b1,V.bool b2]),(10001,Box.sl [.int .u64,.str,.str,.slc [.str,.int .u8,.int .i64,.str],.str,.int .u64,.int .u8,.bool,.bool] (a++[[V.int .u64 (V.toInt (List.getD (List.getD r (Int.toNat i) []) 0 V.undef)),V.str (V.toStr (List.getD (List.getD r (Int.toNat i) []) 1 V.undef)),V.str (V.toStr (List.getD (List.getD r (Int.toNat i) []) 2 V.undef)),V.slc [.str,.int .u8,.int .i64,.str] (V.toRows (List.getD (List.getD r (Int.toNat i) []) 3 V.undef)),V.str (V.toStr (List.getD (List.getD r (Int.toNat i) []) 4 V.undef)),V.int .u64 (V.toInt (List.getD (List.getD r (Int.toNat i) []) 5 V.undef)),V.int .u8 (V.toInt (List.getD (List.getD r (Int.toNat i) []) 6 V.undef)),V.bool (V.toBool (List.getD (List.getD r (Int.toNat i) []) 7 V.undef)),V.bool (V.toBool (List.getD (List.getD r (Int.toNat i) []) 8 V.undef))]]) 0)]:St}) (none)) (K Ex.normal {fr:=[(0,V.slc [.int .u64,.str,.str,.slc [.str,.int .u8,.int .i64,.str],.str,.int .u64,.int .u8,.bool,.bool] l0),(5,V.ptr 10000 0 0 0),(7,V.int .i64 k),(8,V.own 10001 0),(18,V.slc [.int .u64,.str,.str,.slc [.str,.int .u8,.int .i64,.str],.str,.int .u64,.int .u8,.bool,.bool] r),(19,V.int .i64 n),(20,V.int .i64 (IntKind.wrap .i64 (i+(1:Int))))],tab:=[(10000,Box.var [V.int .u64 id,V.str s1,V.str s2,V.slc [.str,.int .u8,.int .i64,.str] hd,V.str s3,V.int .u64 due,V.int .u8 hops,V.bool b1,V.bool b2]),(10001,Box.sl [.int .u64,.str,.str,.slc [.str,.int .u8,.int .i64,.str],.str,.int .u64,.int .u8,.bool,.bool] a 0)]:St})) (none)) (K (Ex.exit 0) {fr:=[(0,V.slc [.int .u64,.str,.str,.slc [.str,.int .u8,.int .i64,.str],.str,.int .u64,.int .u8,.bool,.bool] l0),(5,V.ptr 10000 0 0 0),(7,V.int .i64 k),(8,V.own 10001 0)],tab:=[(10000,Box.var [V.int .u64 id,V.str s1,V.str s2,V.slc [.str,.int .u8,.int .i64,.str] hd,V.str s3,V.int .u64 due,V.int .u8 hops,V.bool b1,V.bool b2]),(10001,Box.sl [.int .u64,.str,.str,.slc [.str,.int .u8,.int .i64,.str],.str,.int .u64,.int .u8,.bool,.bool] a 0)]:St}):=by kernel_rfl
theorem turnRows_app (k:Int) (x:List V):∀ (a b:List (List V)) (i:Int),N.turnRows k x (a++b) i=N.turnRows k x a i++N.turnRows k x b (i+a.length)
 | [],b,i=>by
  show N.turnRows k x b i=N.turnRows k x b (i+((0:Nat):Int))
  rw [show i+((0:Nat):Int)=i by omega]
 | r::a,b,i=>by
  show cond (i==k) x (reRowI r)::N.turnRows k x (a++b) (i+1)=cond (i==k) x (reRowI r)::(N.turnRows k x a (i+1)++N.turnRows k x b (i+((a.length+1:Nat):Int)))
  rw [turnRows_app k x a b (i+1),show i+1+(a.length:Int)=i+((a.length+1:Nat):Int) by omega]
theorem take_succ {r:List (List V)} {i:Nat} (h:i<r.length):r.take (i+1)=r.take i++[r.getD i []]:=by
 rw [List.take_add_one,List.getD_eq_getElem?_getD,List.getElem?_eq_getElem h]; rfl
theorem turnRows_succ (k:Int) (x:List V) {r:List (List V)} {i:Nat} (h:i<r.length):N.turnRows k x (r.take (i+1)) 0=N.turnRows k x (r.take i) 0++[cond ((i:Int)==k) x (reRowI (r.getD i []))]:=by
 rw [take_succ h,turnRows_app,List.length_take,show (0:Int)+((min i r.length:Nat):Int)=i by omega]
 try rfl
theorem ok_rTurned:FnOk Tryz.prog 178 dRTurned:=by
 refine den_okF (env_ok (TOk.nil _)) (E:=eRTurned) Tryz.func178 [3] (by kernel_rfl) (one1 (rounds_of rfl fun l K q h=>?_)) fun a _ hp=>?_
 ·unfold gRTurned at h
  split at h
  ·rename_i k r n i id s1 s2 hd s3 due hops b1 b2 a
   have h1:=(cond_none h).1; replace h:=(cond_none h).2; have h2:=(cond_none h).1; replace h:=(cond_none h).2; have h3:=(cond_none h).1; replace h:=(cond_none h).2; have h4:=(cond_none h).1; replace h:=(cond_none h).2
   have e1:=ieq_of h1
   have e2:=ieq_of h2
   have e3:=List.eq_nil_of_length_eq_zero (nbeq_of h3)
   subst e1 e2 e3
   have h4:r.length≤1000:=ble_of h4
   have main:=loop_ind (E:=eRTurned) (f:=178) (id:=3) (σ:=Nat) (fun i=>{ fr:=[(1,.int .i64 k),(5,.ptr 10000 0 0 0),(7,.own 10001 0),(10,.slc [.int .u64,.str,.str,.slc [.str,.int .u8,.int .i64,.str],.str,.int .u64,.int .u8,.bool,.bool] r),(11,.int .i64 r.length),(12,.int .i64 (i:Int))],tab:=[(10000,.var [.int .u64 id,.str s1,.str s2,.slc [.str,.int .u8,.int .i64,.str] hd,.str s3,.int .u64 due,.int .u8 hops,.bool b1,.bool b2]),(10001,.sl [.int .u64,.str,.str,.slc [.str,.int .u8,.int .i64,.str],.str,.int .u64,.int .u8,.bool,.bool] (N.turnRows k [V.int .u64 id,.str s1,.str s2,.slc [.str,.int .u8,.int .i64,.str] hd,.str s3,.int .u64 due,.int .u8 hops,.bool b1,.bool b2] (r.take i) 0) 0)] }) (fun i=>i≤r.length) (fun i=>r.length-i)
    (fun _ K=>K (.exit 0) { fr:=[(7,.own 10000 0)],tab:=[(10000,.sl [.int .u64,.str,.str,.slc [.str,.int .u8,.int .i64,.str],.str,.int .u64,.int .u8,.bool,.bool] (N.turnRows k [V.int .u64 id,.str s1,.str s2,.slc [.str,.int .u8,.int .i64,.str] hd,.str s3,.int .u64 due,.int .u8 hops,.bool b1,.bool b2] r 0) 0)] }) (fun i hi=>?_) 0 (Nat.zero_le _) K q (by assumption)
   ·exact main
   ·by_cases hl:i<r.length
    ·have hln:(N.turnRows k [V.int .u64 id,.str s1,.str s2,.slc [.str,.int .u8,.int .i64,.str] hd,.str s3,.int .u64 due,.int .u8 hops,.bool b1,.bool b2] (r.take i) 0).length=i:=by rw [turnRows_len,List.length_take]; omega
     have ht:=turnRows_succ k [V.int .u64 id,.str s1,.str s2,.slc [.str,.int .u8,.int .i64,.str] hd,.str s3,.int .u64 due,.int .u8 hops,.bool b1,.bool b2] hl
     refine .inl ⟨i+1,hl,by omega,fun K=>?_,fun K=>rfl⟩
     rw [q_rTurnedR]
     cases hc:(i:Int)==k with
     | true =>
      rw [hc] at ht
      simp (disch:=omega) only [evs,Int.toNat_natCast,hc,hln]
      rw [ht]
      try rfl
     | false =>
      rw [hc] at ht
      simp (disch:=omega) only [evs,Int.toNat_natCast,hc,hln,fold_reRowI]
      rw [ht]
      try rfl
    ·have ei:i=r.length:=by omega
     subst ei
     refine .inr ⟨.exit 0,{ fr:=[(7,.own 10000 0)],tab:=[(10000,.sl [.int .u64,.str,.str,.slc [.str,.int .u8,.int .i64,.str],.str,.int .u64,.int .u8,.bool,.bool] (N.turnRows k [V.int .u64 id,.str s1,.str s2,.slc [.str,.int .u8,.int .i64,.str] hd,.str s3,.int .u64 due,.int .u8 hops,.bool b1,.bool b2] r 0) 0)] },by simp,fun K=>?_,fun K=>rfl⟩
     rw [q_rTurnedR]
     simp (disch:=omega) only [evs,List.take_length]
  ·cases h
 ·obtain ⟨l,k,x⟩:=a
  obtain ⟨h1,h2⟩:=bcond hp
  obtain ⟨h2,h3⟩:=bcond h2
  have h1:0≤k:=ile_of h1
  have h2:k<l.length:=ilt_of h2
  have h3:Nat.ble l.length 1000=true:=h3
  refine (q_rTurned l k x).trans ?_
  have e:=turnRows_enc k.toNat x l 0
  rw [show ((0+k.toNat:Nat):Int)=k by omega] at e
  simp only [List.length_map,h3,beq_self_eq_true,cond_true,fold_itemE]
  show _=some (⟨.slc [.int .u64,.str,.str,.slc [.str,.int .u8,.int .i64,.str],.str,.int .u64,.int .u8,.bool,.bool] ((l.set k.toNat x).map cItem.enc),[],[]⟩:DRes)
  rw [← e]
  try rfl
theorem ok_rWake:FnOk Tryz.prog 139 dRWake:=by
 refine den_okF (env_ok (TOk.nil _)) (E:=eRWake) Tryz.func139 [3] (by kernel_rfl) (one1 (rounds_of rfl fun l K q h=>?_)) fun l _ hp=>?_
 ·unfold gRWake at h
  split at h
  ·rename_i r n i o
   have h1:=(cond_none h).1; replace h:=(cond_none h).2; have h2:=(cond_none h).1; replace h:=(cond_none h).2; have h3:=(cond_none h).1; replace h:=(cond_none h).2; have h4:=(cond_none h).1; replace h:=(cond_none h).2
   have e1:=ieq_of h1
   have e2:=ieq_of h2
   have e3:=List.eq_nil_of_length_eq_zero (nbeq_of h3)
   subst e1 e2 e3
   have h4:r.length≤1000:=ble_of h4
   have main:=range_ind (E:=eRWake) (f:=139) (id:=3) (A:=Unit) r (fun _ i=>{ fr:=[(3,.own 10000 0),(6,.slc [.int .u64,.str,.str,.slc [.str,.int .u8,.int .i64,.str],.str,.int .u64,.int .u8,.bool,.bool] r),(7,.int .i64 r.length),(8,.int .i64 i)],tab:=[(10000,.sl [.int .u64,.str,.str,.slc [.str,.int .u8,.int .i64,.str],.str,.int .u64,.int .u8,.bool,.bool] (N.wakeRows (r.take i.toNat)) 0)] }) (fun _ _=>True)
    (fun _ _ K=>K (.exit 0) { fr:=[(3,.own 10000 0)],tab:=[(10000,.sl [.int .u64,.str,.str,.slc [.str,.int .u8,.int .i64,.str],.str,.int .u64,.int .u8,.bool,.bool] (N.wakeRows r) 0)] }) (fun _ i _ hi=>?_) (fun _ _=>?_) () 0 (Int.le_refl _) (by omega) trivial K q (by assumption)
   ·exact main
   ·refine .inl ⟨(),trivial,fun K=>?_,fun K=>rfl⟩
    rw [q_rWakeR]
    have hl:(N.wakeRows (r.take i)).length=i:=by unfold N.wakeRows; simp; omega
    have ht:=wakeRows_succ hi
    unfold wakeRow at ht
    cases hc:V.toBool (List.getD (List.getD r i []) 8 V.undef) with
    | true =>
     rw [hc] at ht
     simp (disch:=omega) only [evs,Int.toNat_natCast,hl,hc]
     show K .normal { fr:=_,tab:=[(10000,.sl [.int .u64,.str,.str,.slc [.str,.int .u8,.int .i64,.str],.str,.int .u64,.int .u8,.bool,.bool] _ 0)] }=K .normal { fr:=_,tab:=[(10000,.sl [.int .u64,.str,.str,.slc [.str,.int .u8,.int .i64,.str],.str,.int .u64,.int .u8,.bool,.bool] (N.wakeRows (r.take (i+1))) 0)] }
     rw [ht]
     try rfl
    | false =>
     rw [hc] at ht
     simp (disch:=omega) only [evs,Int.toNat_natCast,hl,hc]
     show K .normal { fr:=_,tab:=[(10000,.sl [.int .u64,.str,.str,.slc [.str,.int .u8,.int .i64,.str],.str,.int .u64,.int .u8,.bool,.bool] _ 0)] }=K .normal { fr:=_,tab:=[(10000,.sl [.int .u64,.str,.str,.slc [.str,.int .u8,.int .i64,.str],.str,.int .u64,.int .u8,.bool,.bool] (N.wakeRows (r.take (i+1))) 0)] }
     rw [ht]
     try rfl
   ·refine ⟨.exit 0,_,by simp,fun K=>?_,fun K=>rfl⟩
    rw [q_rWakeR]
    simp (disch:=omega) only [evs,Int.toNat_natCast,List.take_length]
  ·cases h
 ·refine (q_rWake l).trans ?_
  have hp:Nat.ble l.length 1000=true:=hp
  simp only [List.length_map,beq_self_eq_true,cond_true,hp,wakeRows_enc]
  try rfl
theorem ok_rAdd:FnOk Tryz.prog 183 dRAdd:=by
 refine den_okF (env_ok ((TOk.nil _).cons ok_rPut)) (E:=eRAdd) Tryz.func183 [] (by kernel_rfl) none0 fun a _ h=>?_
 obtain ⟨l,m⟩:=a
 have h1:Nat.ble l.length 1000=true:=h
 refine (q_rAdd l m).trans ?_
 simp only [dec_encs,fold_de,h1,cond_true]
 try rfl
theorem ok_rBack:FnOk Tryz.prog 134 dRBack:=by
 refine den_okF (env_ok (((TOk.nil _).cons ok_rTurned).cons ok_rFind)) (E:=eRBack) Tryz.func134 [] (by kernel_rfl) none0 fun a _ h=>?_
 obtain ⟨l,id⟩:=a
 have h2:Nat.ble l.length 1000=true:=h
 have h1:l.length≤1000:=ble_of h2
 refine (q_rBack l id).trans ?_
 show _=some (⟨.tup [.slc [.int .u64,.str,.str,.slc [.str,.int .u8,.int .i64,.str],.str,.int .u64,.int .u8,.bool,.bool] ((N.lBack l id).1.map cItem.enc),.int .i64 (N.lBack l id).2],[],[]⟩:DRes)
 unfold N.lBack
 simp only [dec_encs]
 rcases ix_spec (N.isId id) l 0 (Int.le_refl _) with ⟨e,_⟩ | ⟨k,e,hk,_⟩
 ·rw [e]
  simp (disch:=omega) only [evs,h2]
 ·rw [Int.zero_add] at e
  have hg:=getD_enc cItem l k item0 hk
  have ga:goodAt l k=true:=by unfold goodAt; rw [ile_t (by omega),ilt_t (by omega),h2]; rfl
  rw [e]
  simp (disch:=omega) only [evs,h2,ga,Int.toNat_natCast,hg,fold_mail,item_mail,cItem.de]
  show cond (!(l.getD k item0).lent) _ _=_
  cases (l.getD k item0).lent<;>rfl
theorem cutRows_app (k:Int):∀ (a b:List (List V)) (i:Int),N.cutRows k (a++b) i=N.cutRows k a i++N.cutRows k b (i+a.length)
 | [],b,i=>by
  show N.cutRows k b i=N.cutRows k b (i+((0:Nat):Int))
  rw [show i+((0:Nat):Int)=i by omega]
 | r::a,b,i=>by
  show cond (i==k) (N.cutRows k (a++b) (i+1)) (reRowI r::N.cutRows k (a++b) (i+1))=cond (i==k) (N.cutRows k a (i+1)) (reRowI r::N.cutRows k a (i+1))++N.cutRows k b (i+((a.length+1:Nat):Int))
  rw [cutRows_app k a b (i+1),show i+1+(a.length:Int)=i+((a.length+1:Nat):Int) by omega]
  cases i==k<;>rfl
theorem cutRows_succ (k:Int) {r:List (List V)} {i:Nat} (h:i<r.length):N.cutRows k (r.take (i+1)) 0=N.cutRows k (r.take i) 0++cond ((i:Int)==k) [] [reRowI (r.getD i [])]:=by
 rw [take_succ h,cutRows_app,List.length_take,show (0:Int)+((min i r.length:Nat):Int)=i by omega]
 try rfl
theorem cutRows_len (k:Int):∀ (r:List (List V)) (i:Int),(N.cutRows k r i).length≤r.length
 | [],_=>Nat.le_refl _
 | r::rs,i=>by
  have ih:=cutRows_len k rs (i+1)
  show (cond (i==k) (N.cutRows k rs (i+1)) (reRowI r::N.cutRows k rs (i+1))).length≤rs.length+1
  cases i==k with
  | true=>exact Nat.le_succ_of_le ih
  | false=>exact Nat.succ_le_succ ih
theorem cutRows_far (k:Int):∀ (l:List HItem) (i:Int),(k<i∨i+l.length≤k)→N.cutRows k (l.map cItem.enc) i=l.map cItem.enc
 | [],_,_=>rfl
 | x::r,i,h=>by
  rw [List.length_cons] at h
  show cond (i==k) _ (reRowI (cItem.enc x)::N.cutRows k (r.map cItem.enc) (i+1))=_
  rw [ieq_f (by omega),cutRows_far k r (i+1) (by omega)]
  try rfl
theorem cutRows_enc {l:List HItem} {k:Nat} (h:k<l.length):N.cutRows k (l.map cItem.enc) 0=(N.cutAt l k).map cItem.enc:=by
 have e:=split_at h
 have hl:(l.take k).length=k:=by rw [List.length_take]; omega
 have e2:l.map cItem.enc=(l.take k).map cItem.enc++(l.getD k item0::l.drop (k+1)).map cItem.enc:=by rw [← List.map_append,← e]
 rw [e2,cutRows_app,List.length_map,hl,cutRows_far k (l.take k) 0 (by rw [hl]; omega)]
 have e3:N.cutRows k ((l.getD k item0::l.drop (k+1)).map cItem.enc) (0+(k:Int))=(l.drop (k+1)).map cItem.enc:=by
  show cond ((0+(k:Int))==(k:Int)) (N.cutRows k ((l.drop (k+1)).map cItem.enc) (0+(k:Int)+1)) _=_
  rw [ieq_t (by omega),cond_true,cutRows_far k _ _ (by omega)]
 rw [e3]
 unfold N.cutAt
 rw [List.map_append]
theorem ok_rRemove:FnOk Tryz.prog 135 dRRemove:=by
 refine den_okF (env_ok ((TOk.nil _).cons ok_rFind)) (E:=eRRemove) Tryz.func135 [6] (by kernel_rfl) (one1 (rounds_of rfl fun l K q h=>?_)) fun a _ hp=>?_
 ·unfold gRRemove at h
  split at h
  ·rename_i l0 k r n i id s1 s2 hd s3 due hops b1 b2 a
   have h1:=(cond_none h).1; replace h:=(cond_none h).2; have h2:=(cond_none h).1; replace h:=(cond_none h).2; have h3:=(cond_none h).1; replace h:=(cond_none h).2; have h4:=(cond_none h).1; replace h:=(cond_none h).2
   have e1:=ieq_of h1
   have e2:=ieq_of h2
   have e3:=List.eq_nil_of_length_eq_zero (nbeq_of h3)
   subst e1 e2 e3
   have h4:r.length≤1000:=ble_of h4
   have main:=loop_ind (E:=eRRemove) (f:=135) (id:=6) (σ:=Nat) (fun i=>{ fr:=[(0,.slc [.int .u64,.str,.str,.slc [.str,.int .u8,.int .i64,.str],.str,.int .u64,.int .u8,.bool,.bool] l0),(5,.ptr 10000 0 0 0),(7,.int .i64 k),(8,.own 10001 0),(18,.slc [.int .u64,.str,.str,.slc [.str,.int .u8,.int .i64,.str],.str,.int .u64,.int .u8,.bool,.bool] r),(19,.int .i64 r.length),(20,.int .i64 (i:Int))],tab:=[(10000,.var [.int .u64 id,.str s1,.str s2,.slc [.str,.int .u8,.int .i64,.str] hd,.str s3,.int .u64 due,.int .u8 hops,.bool b1,.bool b2]),(10001,.sl [.int .u64,.str,.str,.slc [.str,.int .u8,.int .i64,.str],.str,.int .u64,.int .u8,.bool,.bool] (N.cutRows k (r.take i) 0) 0)] }) (fun i=>i≤r.length) (fun i=>r.length-i)
    (fun _ K=>K (.exit 0) { fr:=[(0,.slc [.int .u64,.str,.str,.slc [.str,.int .u8,.int .i64,.str],.str,.int .u64,.int .u8,.bool,.bool] l0),(5,.ptr 10000 0 0 0),(7,.int .i64 k),(8,.own 10001 0)],tab:=[(10000,.var [.int .u64 id,.str s1,.str s2,.slc [.str,.int .u8,.int .i64,.str] hd,.str s3,.int .u64 due,.int .u8 hops,.bool b1,.bool b2]),(10001,.sl [.int .u64,.str,.str,.slc [.str,.int .u8,.int .i64,.str],.str,.int .u64,.int .u8,.bool,.bool] (N.cutRows k r 0) 0)] }) (fun i hi=>?_) 0 (Nat.zero_le _) K q (by assumption)
   ·exact main
   ·by_cases hl:i<r.length
    ·have hln:(N.cutRows k (r.take i) 0).length≤i:=by have:=cutRows_len k (r.take i) 0; rw [List.length_take] at this; omega
     have ht:=cutRows_succ k hl
     refine .inl ⟨i+1,hl,by omega,fun K=>?_,fun K=>rfl⟩
     rw [q_rRemoveR]
     by_cases hc:(i:Int)=k
     ·rw [ieq_t hc,cond_true,List.append_nil] at ht
      simp (disch:=omega) only [evs,Int.toNat_natCast]
      rw [ht]
      try rfl
     ·rw [ieq_f hc,cond_false] at ht
      simp (disch:=omega) only [evs,Int.toNat_natCast,fold_reRowI]
      rw [ht]
      try rfl
    ·have ei:i=r.length:=by omega
     subst ei
     refine .inr ⟨.exit 0,{ fr:=[(0,.slc [.int .u64,.str,.str,.slc [.str,.int .u8,.int .i64,.str],.str,.int .u64,.int .u8,.bool,.bool] l0),(5,.ptr 10000 0 0 0),(7,.int .i64 k),(8,.own 10001 0)],tab:=[(10000,.var [.int .u64 id,.str s1,.str s2,.slc [.str,.int .u8,.int .i64,.str] hd,.str s3,.int .u64 due,.int .u8 hops,.bool b1,.bool b2]),(10001,.sl [.int .u64,.str,.str,.slc [.str,.int .u8,.int .i64,.str],.str,.int .u64,.int .u8,.bool,.bool] (N.cutRows k r 0) 0)] },by simp,fun K=>?_,fun K=>rfl⟩
     rw [q_rRemoveR]
     simp (disch:=omega) only [evs,List.take_length]
  ·cases h
 ·obtain ⟨l,id⟩:=a
  have h2:Nat.ble l.length 1000=true:=hp
  have h1:l.length≤1000:=ble_of h2
  refine (q_rRemove l id).trans ?_
  show _=some (⟨.tup [.slc [.int .u64,.str,.str,.slc [.str,.int .u8,.int .i64,.str],.str,.int .u64,.int .u8,.bool,.bool] ((N.lRemove l id).1.map cItem.enc),.agg (cItem.enc (N.lRemove l id).2.1),.int .i64 (N.lRemove l id).2.2],[],[]⟩:DRes)
  unfold N.lRemove
  simp only [dec_encs]
  rcases ix_spec (N.isId id) l 0 (Int.le_refl _) with ⟨e,_⟩ | ⟨k,e,hk,_⟩
  ·rw [e]
   simp (disch:=omega) only [evs,h2]
   try rfl
  ·rw [Int.zero_add] at e
   have hg:=getD_enc cItem l k item0 hk
   have hcut:=cutRows_enc hk
   rw [e]
   simp (disch:=omega) only [evs,h2,Int.toNat_natCast,hg,hcut,fold_reRowI]
   try rfl
theorem ok_rLend:FnOk Tryz.prog 132 dRLend:=by
 refine den_okF (env_ok ((TOk.nil _).cons ok_rTurned)) (E:=eRLend) Tryz.func132 [2] (by kernel_rfl) (one1 (rounds_of rfl fun l K q h=>?_)) fun l _ hp=>?_
 ·unfold gRLend at h
  split at h
  ·rename_i l0 r n i id s1 s2 hd s3 due hops b1 b2
   have h1:=(cond_none h).1; replace h:=(cond_none h).2; have h2:=(cond_none h).1; replace h:=(cond_none h).2; have h3:=(cond_none h).1; replace h:=(cond_none h).2; have h4:=(cond_none h).1; replace h:=(cond_none h).2
   have e1:=ieq_of h1
   have e2:=ieq_of h2
   have e3:=nbeq_of h3
   subst e1 e2
   have h4:r.length≤1000:=ble_of h4
   have main:=loop_ind (E:=eRLend) (f:=132) (id:=2) (σ:=Nat) (fun i=>{ fr:=[(0,.slc [.int .u64,.str,.str,.slc [.str,.int .u8,.int .i64,.str],.str,.int .u64,.int .u8,.bool,.bool] l0),(3,.ptr 10000 0 0 0),(7,.slc [.int .u64,.str,.str,.slc [.str,.int .u8,.int .i64,.str],.str,.int .u64,.int .u8,.bool,.bool] r),(8,.int .i64 r.length),(9,.int .i64 (i:Int))],tab:=[(10000,.var [.int .u64 id,.str s1,.str s2,.slc [.str,.int .u8,.int .i64,.str] hd,.str s3,.int .u64 due,.int .u8 hops,.bool b1,.bool b2])] }) (fun i=>i≤r.length) (fun i=>r.length-i)
    (fun i K=>cond (ile 0 (N.ix N.isReady ((r.drop i).map cItem.dec) i)) (K .ret { fr:=[(2,.slc [.int .u64,.str,.str,.slc [.str,.int .u8,.int .i64,.str],.str,.int .u64,.int .u8,.bool,.bool] (((l0.map cItem.dec).set (N.ix N.isReady ((r.drop i).map cItem.dec) i).toNat (N.lendI (cItem.dec (r.getD (N.ix N.isReady ((r.drop i).map cItem.dec) i).toNat [])))).map cItem.enc)),(3,.ptr 10000 0 0 0),(4,.bool true)],tab:=[(10000,.var (lendRow (r.getD (N.ix N.isReady ((r.drop i).map cItem.dec) i).toNat [])))] })
     (K (.exit 0) { fr:=[(0,.slc [.int .u64,.str,.str,.slc [.str,.int .u8,.int .i64,.str],.str,.int .u64,.int .u8,.bool,.bool] l0),(3,.ptr 10000 0 0 0)],tab:=[(10000,.var [.int .u64 id,.str s1,.str s2,.slc [.str,.int .u8,.int .i64,.str] hd,.str s3,.int .u64 due,.int .u8 hops,.bool b1,.bool b2])] })) (fun i hi=>?_) 0 (Nat.zero_le _) K q (by assumption)
   ·exact main
   ·by_cases hl:i<r.length
    ·rw [drop_decI hl,ix_cons]
     have hm:V.toBool (List.getD (List.getD r i []) 7 V.undef)=(cItem.dec (r.getD i [])).lent:=rfl
     have ga:goodAt (l0.map cItem.dec) i=true:=by
      unfold goodAt
      rw [List.length_map,ile_t (by omega),ilt_t (by omega),ble_t (by omega)]; rfl
     cases hc:(cItem.dec (r.getD i [])).lent with
     | false =>
      have hr:N.isReady (cItem.dec (r.getD i []))=true:=by unfold N.isReady; rw [hc]; rfl
      refine .inr ⟨.ret,{ fr:=[(2,.slc [.int .u64,.str,.str,.slc [.str,.int .u8,.int .i64,.str],.str,.int .u64,.int .u8,.bool,.bool] (((l0.map cItem.dec).set i (N.lendI (cItem.dec (r.getD i [])))).map cItem.enc)),(3,.ptr 10000 0 0 0),(4,.bool true)],tab:=[(10000,.var (lendRow (r.getD i [])))] },by simp,fun K=>?_,fun K=>?_⟩
      ·rw [q_rLendR]
       simp (disch:=omega) only [evs,Int.toNat_natCast,hm,hc,Bool.not_false,ga,fold_mail]
       try rfl
      ·rw [hr]
       simp only [cond_true]
       rw [ile_t (by omega),Int.toNat_natCast]; rfl
     | true =>
      have hr:N.isReady (cItem.dec (r.getD i []))=false:=by unfold N.isReady; rw [hc]; rfl
      refine .inl ⟨i+1,hl,by omega,fun K=>?_,fun K=>by rw [hr]; rfl⟩
      rw [q_rLendR]
      simp (disch:=omega) only [evs,Int.toNat_natCast,hm,hc,Bool.not_true]
      try rfl
    ·refine .inr ⟨.exit 0,{ fr:=[(0,.slc [.int .u64,.str,.str,.slc [.str,.int .u8,.int .i64,.str],.str,.int .u64,.int .u8,.bool,.bool] l0),(3,.ptr 10000 0 0 0)],tab:=[(10000,.var [.int .u64 id,.str s1,.str s2,.slc [.str,.int .u8,.int .i64,.str] hd,.str s3,.int .u64 due,.int .u8 hops,.bool b1,.bool b2])] },by simp,fun K=>?_,fun K=>?_⟩
     ·rw [q_rLendR]
      simp (disch:=omega) only [evs]
     ·rw [List.drop_eq_nil_of_le (by omega)]; rfl
  ·cases h
 ·have h2:Nat.ble l.length 1000=true:=hp
  refine (q_rLend l).trans ?_
  show _=some (⟨.tup [.slc [.int .u64,.str,.str,.slc [.str,.int .u8,.int .i64,.str],.str,.int .u64,.int .u8,.bool,.bool] ((N.lLend l).1.map cItem.enc),.agg (cItem.enc (N.lLend l).2.1),.bool (N.lLend l).2.2],[],[]⟩:DRes)
  unfold N.lLend
  simp only [dec_encs,List.length_map,h2,beq_self_eq_true,Nat.beq_refl,cond_true]
  rcases ix_spec N.isReady l 0 (Int.le_refl _) with ⟨e,_⟩ | ⟨k,e,hk,_⟩
  ·rw [e]; rfl
  ·rw [Int.zero_add] at e
   have hg:=getD_enc cItem l k item0 hk
   rw [e]
   simp (disch:=omega) only [evs,Int.toNat_natCast,hg,fold_item,cItem.de]
   try rfl
end Go.Ev

/- Acts on lines,done to both: lemmas; the function that writes numbers is a premise. -/
namespace Go.Ev
open Go Go.Proofs
set_option maxRecDepth 100000
-- FOLD
namespace N
end N
end Go.Ev

/- What the statement on waking reckons: it is true; lemmas; the function that writes numbers is a premise. -/
namespace Go.Ev
open Go Go.Proofs
set_option maxRecDepth 100000
-- FOLD
end Go.Ev

/- Of the first and the late one of a line,in plain terms: lemmas,no condition. -/
namespace Go.Ev
open Go
set_option maxRecDepth 100000
def allM (p:HMail→Bool) (l:List HItem):Bool:=l.all fun x=>p x.mail
theorem allM_of {p:HMail→Bool} {l l' : List HItem} (h:l'.map HItem.mail=l.map HItem.mail) (hs:allM p l=true):allM p l' = true:=by
 have e:∀ l:List HItem,allM p l=(l.map HItem.mail).all p:=fun l=>by unfold allM; rw [List.all_map]; rfl
 rw [e,h,← e]; exact hs
theorem ix_at {p:HItem→Bool} {y:HItem} {r:List HItem} (hy:p y=true):∀ (l:List HItem) (i:Int),l.any p=false→N.ix p (l++y::r) i=i+l.length
 | [],i,_=>by
  show N.ix p (y::r) i=_
  unfold N.ix; rw [hy]; simp
 | x::l,i,h=>by
  rw [List.any_cons,Bool.or_eq_false_iff] at h
  show N.ix p (x::(l++y::r)) i=_
  unfold N.ix
  rw [h.1,cond_false,ix_at hy l (i+1) h.2]
  simp; omega
theorem told_at {p:HItem→Bool} {y:HItem} {r l:List HItem} (hy:p y=true) (hl:l.any p=false):N.lTold (l++y::r) (N.ix p (l++y::r) 0)=(y.mail,true):=by
 rw [ix_at hy l 0 hl]
 unfold N.lTold
 rw [ilt_f (by omega)]
 have e:(0+(l.length:Int)).toNat=l.length:=by omega
 rw [e]
 simp [List.getD_eq_getElem?_getD]
theorem told_none {p:HItem→Bool} {l:List HItem} (hl:l.any p=false):N.lTold l (N.ix p l 0)=(mail0,false):=by
 have e:∀ (l:List HItem) (i:Int),l.any p=false→N.ix p l i = -1:=fun l=>by
  induction l with
  | nil=>intro i _; rfl
  | cons x r ih =>
   intro i h
   rw [List.any_cons,Bool.or_eq_false_iff] at h
   unfold N.ix
   rw [h.1,cond_false]; exact ih (i+1) h.2
 rw [e l 0 hl]; rfl
theorem told_some {p:HItem→Bool} {l:List HItem}:(N.lTold l (N.ix p l 0)).2=l.any p:=by
 cases h:l.any p with
 | false=>rw [told_none h]
 | true =>
  rcases ix_spec p l 0 (Int.le_refl _) with ⟨_,h2⟩ | ⟨k,h1,_⟩
  ·obtain ⟨x,hx,hp⟩:=List.any_eq_true.1 h
   rw [h2 x hx] at hp; cases hp
  ·rw [h1]
   unfold N.lTold
   rw [ilt_f (by omega)]; rfl
theorem ready_pos (l:List HItem):ilt 0 (N.lReady l)=l.any N.isReady:=by
 induction l with
 | nil=>rfl
 | cons x r ih =>
  have:=(ready_le r).1
  unfold N.lReady
  rw [List.any_cons]
  unfold N.isReady at *
  cases x.lent with
  | true=>rw [cond_true,cond_true,Bool.false_or]; exact ih
  | false=>rw [cond_false,cond_false,Bool.true_or]; exact ilt_t (by omega)
end Go.Ev

/- What lines tell,by the document: lemmas; the function that writes numbers is a premise. -/
namespace Go.Ev
open Go Go.Proofs
set_option maxRecDepth 100000
-- FOLD
def mailCells (r:List V):List V:=[V.int .u64 (V.toInt (List.getD r 0 .undef)),V.str (V.toStr (List.getD r 1 .undef)),V.str (V.toStr (List.getD r 2 .undef)),V.slc [.str,.int .u8,.int .i64,.str] (V.toRows (List.getD r 3 .undef)),V.str (V.toStr (List.getD r 4 .undef)),V.int .u64 (V.toInt (List.getD r 5 .undef)),V.int .u8 (V.toInt (List.getD r 6 .undef))]
theorem fold_cells (r:List V):[V.int .u64 (V.toInt (List.getD r 0 .undef)),V.str (V.toStr (List.getD r 1 .undef)),V.str (V.toStr (List.getD r 2 .undef)),V.slc [.str,.int .u8,.int .i64,.str] (V.toRows (List.getD r 3 .undef)),V.str (V.toStr (List.getD r 4 .undef)),V.int .u64 (V.toInt (List.getD r 5 .undef)),V.int .u8 (V.toInt (List.getD r 6 .undef))]=mailCells r:=rfl
theorem cells_enc (x:HItem):mailCells (cItem.enc x)=cMail.enc x.mail:=rfl
def N.fRow (p:HItem→Bool):List (List V)→List V
 | []=>[]
 | r::rs=>cond (p (cItem.dec r)) r (N.fRow p rs)
theorem fRow_enc {p:HItem→Bool} {l:List HItem} (h:l.any p=true):mailCells (N.fRow p (l.map cItem.enc))=cMail.enc (N.lTold l (N.ix p l 0)).1∧(N.lTold l (N.ix p l 0)).2=true:=by
 have main:∀ (r pre:List HItem),l=pre++r→pre.any p=false→mailCells (N.fRow p (r.map cItem.enc))=cMail.enc (N.lTold l (N.ix p l 0)).1∧(N.lTold l (N.ix p l 0)).2=true:=fun r=>by
  induction r with
  | nil=>intro pre hl hp; rw [List.append_nil] at hl; subst hl; rw [hp] at h; cases h
  | cons x r ih =>
   intro pre hl hp
   rw [List.map_cons]
   unfold N.fRow
   rw [cItem.de x]
   cases hx:p x with
   | true =>
    have:=told_at (r:=r) hx hp
    rw [← hl] at this
    rw [this]
    exact ⟨cells_enc x,rfl⟩
   | false =>
    rw [cond_false]
    exact ih (pre++[x]) (by rw [hl]; simp) (by rw [List.any_append,hp,List.any_cons,hx]; rfl)
 exact main l [] rfl rfl
def dRFirst:Den:=den (aOne (vSl cItem)) bNil (oTup (aCons (vAgg cMail) (aOne vBool))) (fun l _=>Nat.ble l.length 1000) fun l _=>(N.lFirst l,())
def schRFirst:SSch:={ fr:=[(2,.ptr 10000 0 0),(6,.slc [.int .u64,.str,.str,.slc [.str,.int .u8,.int .i64,.str],.str,.int .u64,.int .u8,.bool,.bool]),(7,.int .i64),(8,.int .i64)],tab:=[(10000,.var [.int .u64,.str,.str,.slc [.str,.int .u8,.int .i64,.str],.str,.int .u64,.int .u8])] }
def gRFirst:List Leaf→(Ex→St→Option R)→Option R
 | [.r r,.i n,.i i,.i f0,.s f1,.s f2,.r f3,.s f4,.i f5,.i f6],K=>cond (n==r.length) (cond (i==0) (cond (Nat.ble r.length 1000) (cond ((r.map cItem.dec).any N.isReady) (K .ret { fr:=[(2,.ptr 10000 0 0 0),(3,.bool true)],tab:=[(10000,.var (mailCells (N.fRow N.isReady r)))] }) (K (.exit 0) { fr:=[(2,.ptr 10000 0 0 0)],tab:=[(10000,.var [.int .u64 f0,.str f1,.str f2,.slc [.str,.int .u8,.int .i64,.str] f3,.str f4,.int .u64 f5,.int .u8 f6])] })) none) none) none
 | _,_=>none
noncomputable def eRFirst:Env:={ env Tryz.prog [] [(2,loopF schRFirst gRFirst)] [(2,[(0,[2,6,7,8]),(1,[2]),(1000,[2,3])])] with fz:=true }
theorem q_rFirst (l:List HItem):evFn eRFirst 182 ((aOne (vSl cItem)).enc l) ([]) some =
 cond ((↑(List.length (List.map (RCod.enc cItem) l)):Int)==(↑(List.length (List.map (RCod.enc cItem) l)):Int)) (cond (Nat.ble (List.length (List.map (RCod.enc cItem) l)) 1000) (cond (List.any (List.map (RCod.dec cItem) (List.map (RCod.enc cItem) l)) N.isReady) (some {v:=V.tup [V.agg [V.int .u64 (V.toInt (List.getD (N.fRow N.isReady (List.map (RCod.enc cItem) l)) 0 V.undef)),V.str (V.toStr (List.getD (N.fRow N.isReady (List.map (RCod.enc cItem) l)) 1 V.undef)),V.str (V.toStr (List.getD (N.fRow N.isReady (List.map (RCod.enc cItem) l)) 2 V.undef)),V.slc [.str,.int .u8,.int .i64,.str] (V.toRows (List.getD (N.fRow N.isReady (List.map (RCod.enc cItem) l)) 3 V.undef)),V.str (V.toStr (List.getD (N.fRow N.isReady (List.map (RCod.enc cItem) l)) 4 V.undef)),V.int .u64 (V.toInt (List.getD (N.fRow N.isReady (List.map (RCod.enc cItem) l)) 5 V.undef)),V.int .u8 (V.toInt (List.getD (N.fRow N.isReady (List.map (RCod.enc cItem) l)) 6 V.undef))],V.bool true],bx:=[]:DRes}) (some {v:=V.tup [V.agg [V.int .u64 (0:Int),V.str [],V.str [],V.slc [.str,.int .u8,.int .i64,.str] [],V.str [],V.int .u64 (0:Int),V.int .u8 (0:Int)],V.bool false],bx:=[]:DRes})) (none)) (none):=by kernel_rfl
theorem q_rFirstR (r:List (List V)) (n i:Int) (f0:Int) (f1 f2:Bytes) (f3:List (List V)) (f4:Bytes) (f5 f6:Int) (K:Ex→St→Option R):evRound eRFirst 182 2 { fr:=[(2,.ptr 10000 0 0 0),(6,.slc [.int .u64,.str,.str,.slc [.str,.int .u8,.int .i64,.str],.str,.int .u64,.int .u8,.bool,.bool] r),(7,.int .i64 n),(8,.int .i64 i)],tab:=[(10000,.var [.int .u64 f0,.str f1,.str f2,.slc [.str,.int .u8,.int .i64,.str] f3,.str f4,.int .u64 f5,.int .u8 f6])] } K =
 cond (ilt i n) (cond (decide ((0:Int)≤i∧i<(↑(List.length r):Int))) (cond (!V.toBool (List.getD (List.getD r (Int.toNat i) []) 7 V.undef)) (K Ex.ret {fr:=[(2,V.ptr 10000 0 0 0),(3,V.bool true)],tab:=[(10000,Box.var [V.int .u64 (V.toInt (List.getD (List.getD r (Int.toNat i) []) 0 V.undef)),V.str (V.toStr (List.getD (List.getD r (Int.toNat i) []) 1 V.undef)),V.str (V.toStr (List.getD (List.getD r (Int.toNat i) []) 2 V.undef)),V.slc [.str,.int .u8,.int .i64,.str] (V.toRows (List.getD (List.getD r (Int.toNat i) []) 3 V.undef)),V.str (V.toStr (List.getD (List.getD r (Int.toNat i) []) 4 V.undef)),V.int .u64 (V.toInt (List.getD (List.getD r (Int.toNat i) []) 5 V.undef)),V.int .u8 (V.toInt (List.getD (List.getD r (Int.toNat i) []) 6 V.undef))])]:St}) (K Ex.normal {fr:=[(2,V.ptr 10000 0 0 0),(6,V.slc [.int .u64,.str,.str,.slc [.str,.int .u8,.int .i64,.str],.str,.int .u64,.int .u8,.bool,.bool] r),(7,V.int .i64 n),(8,V.int .i64 (IntKind.wrap .i64 (i+(1:Int))))],tab:=[(10000,Box.var [V.int .u64 f0,V.str f1,V.str f2,V.slc [.str,.int .u8,.int .i64,.str] f3,V.str f4,V.int .u64 f5,V.int .u8 f6])]:St})) (none)) (K (Ex.exit 0) {fr:=[(2,V.ptr 10000 0 0 0)],tab:=[(10000,Box.var [V.int .u64 f0,V.str f1,V.str f2,V.slc [.str,.int .u8,.int .i64,.str] f3,V.str f4,V.int .u64 f5,V.int .u8 f6])]:St}):=by kernel_rfl
theorem ok_rFirst_2:RoundsOk eRFirst 182 2:=by
 refine rounds_of rfl fun l K q h=>?_
 unfold gRFirst at h
 split at h
 ·rename_i r n i f0 f1 f2 f3 f4 f5 f6
  have h1:=(cond_none h).1; replace h:=(cond_none h).2; have h2:=(cond_none h).1; replace h:=(cond_none h).2; have h3:=(cond_none h).1; replace h:=(cond_none h).2
  have e1:=ieq_of h1
  have e2:=ieq_of h2
  subst e1 e2
  have h3:r.length≤1000:=ble_of h3
  have main:=range_ind (E:=eRFirst) (f:=182) (id:=2) (A:=Unit) r (fun _ i=>{ fr:=[(2,.ptr 10000 0 0 0),(6,.slc [.int .u64,.str,.str,.slc [.str,.int .u8,.int .i64,.str],.str,.int .u64,.int .u8,.bool,.bool] r),(7,.int .i64 r.length),(8,.int .i64 i)],tab:=[(10000,.var [.int .u64 f0,.str f1,.str f2,.slc [.str,.int .u8,.int .i64,.str] f3,.str f4,.int .u64 f5,.int .u8 f6])] }) (fun _ _=>True)
   (fun _ rows K=>cond ((rows.map cItem.dec).any N.isReady) (K .ret { fr:=[(2,.ptr 10000 0 0 0),(3,.bool true)],tab:=[(10000,.var (mailCells (N.fRow N.isReady rows)))] }) (K (.exit 0) { fr:=[(2,.ptr 10000 0 0 0)],tab:=[(10000,.var [.int .u64 f0,.str f1,.str f2,.slc [.str,.int .u8,.int .i64,.str] f3,.str f4,.int .u64 f5,.int .u8 f6])] })) (fun a i ha hi=>?_) (fun a ha=>?_) () 0 (Int.le_refl _) (by omega) trivial K q (by assumption)
  ·exact main
  ·rw [List.map_cons,List.any_cons]
   have hl:V.toBool (List.getD (List.getD r i []) 7 V.undef)=(cItem.dec (r.getD i [])).lent:=rfl
   have hq:=fun K=>q_rFirstR r r.length i f0 f1 f2 f3 f4 f5 f6 K
   have t1:ilt (i:Int) r.length=true:=ilt_t (by omega)
   have t2:decide ((0:Int)≤i∧(i:Int)<r.length)=true:=decide_eq_true (by omega)
   have t3:IntKind.wrap .i64 ((i:Int)+1)=(i:Int)+1:=wr_i64 (by omega) (by omega)
   simp only [Int.toNat_natCast,fold_cells] at hq
   simp only [hl,t1,t2,t3,cond_true] at hq
   cases hc:N.isReady (cItem.dec (r.getD i [])) with
   | true =>
    refine .inr ⟨.ret,{ fr:=[(2,.ptr 10000 0 0 0),(3,.bool true)],tab:=[(10000,.var (mailCells (r.getD i [])))] },by simp,fun K=>?_,fun K=>by rw [Bool.true_or]; show K _ { fr:=_,tab:=[(10000,.var (mailCells (cond (N.isReady (cItem.dec (r.getD i []))) _ _)))] }=_; rw [hc]; rfl⟩
    rw [hq]
    have hc:cond (cItem.dec (r.getD i [])).lent false true=true:=hc
    cases hL:(cItem.dec (r.getD i [])).lent with
    | true=>rw [hL] at hc; cases hc
    | false=>rfl
   | false =>
    refine .inl ⟨(),trivial,fun K=>?_,fun K=>by rw [Bool.false_or]; simp only [N.fRow,hc,cond_false]⟩
    rw [hq]
    have hc:cond (cItem.dec (r.getD i [])).lent false true=false:=hc
    cases hL:(cItem.dec (r.getD i [])).lent with
    | true=>rfl
    | false=>rw [hL] at hc; cases hc
  ·refine ⟨.exit 0,_,by simp,fun K=>?_,fun K=>rfl⟩
   rw [q_rFirstR]
   simp (disch:=omega) only [evs]
 ·cases h
theorem ok_rFirst:FnOk Tryz.prog 182 dRFirst:=by
 refine den_okF (env_ok (TOk.nil _)) (E:=eRFirst) Tryz.func182 [2] (by kernel_rfl) (one1 ok_rFirst_2) fun l _ hp=>?_
 have hp:Nat.ble l.length 1000=true:=hp
 refine (q_rFirst l).trans ?_
 show _=some (⟨.tup [.agg (cMail.enc (N.lTold l (N.ix N.isReady l 0)).1),.bool (N.lTold l (N.ix N.isReady l 0)).2],[],[]⟩:DRes)
 simp only [List.length_map,dec_encs,hp,beq_self_eq_true,cond_true]
 cases hc:l.any N.isReady with
 | true =>
  obtain ⟨h1,h2⟩:=fRow_enc hc
  simp only [fold_cells,h1,h2,cond_true]
 | false =>
  rw [told_none hc]
  try rfl
def dRSizeI:Den:=den (aOne (vSl cItem)) bNil (oV (vInt .i64)) (fun l _=>cond (Nat.ble l.length 1000) (allM N.fineM l) false) fun l _=>(N.lSize l,())
def schRSizeI:SSch:={ fr:=[(3,.int .i64),(6,.slc [.int .u64,.str,.str,.slc [.str,.int .u8,.int .i64,.str],.str,.int .u64,.int .u8,.bool,.bool]),(7,.int .i64),(8,.int .i64)],tab:=[] }
def gRSizeI:List Leaf→(Ex→St→Option R)→Option R
 | [.i a,.r r,.i n,.i i],K=>cond (n==r.length) (cond (i==0) (cond (a==0) (cond (Nat.ble r.length 1000) (cond (allM N.fineM (r.map cItem.dec))
   (K (.exit 0) { fr:=[(3,.int .i64 (N.lSize (r.map cItem.dec)))],tab:=[] }) none) none) none) none) none
 | _,_=>none
noncomputable def eRSizeI:Env:=env Tryz.prog [(189,dMailSizeP)] [(3,loopF schRSizeI gRSizeI)] [(3,[(0,[3,6,7,8]),(1,[3]),(1000,[2])])]
theorem q_rSizeI (l:List HItem):evFn eRSizeI 159 ((aOne (vSl cItem)).enc l) ([]) some =
 cond ((↑(List.length (List.map (RCod.enc cItem) l)):Int)==(↑(List.length (List.map (RCod.enc cItem) l)):Int)) (cond (Nat.ble (List.length (List.map (RCod.enc cItem) l)) 1000) (cond (List.all (List.map (RCod.dec cItem) (List.map (RCod.enc cItem) l)) fun x=>N.fineM (HItem.mail x)) (some {v:=V.int .i64 (N.lSize (List.map (RCod.dec cItem) (List.map (RCod.enc cItem) l))),bx:=[]:DRes}) (none)) (none)) (none):=by kernel_rfl
theorem q_rSizeIR (a:Int) (r:List (List V)) (n i:Int) (K:Ex→St→Option R):evRound eRSizeI 159 3 { fr:=[(3,.int .i64 a),(6,.slc [.int .u64,.str,.str,.slc [.str,.int .u8,.int .i64,.str],.str,.int .u64,.int .u8,.bool,.bool] r),(7,.int .i64 n),(8,.int .i64 i)],tab:=[] } K =
 cond (ilt i n) (cond (decide ((0:Int)≤i∧i<(↑(List.length r):Int))) (cond (bif N.okM {id:=V.toInt (List.getD (List.getD r (Int.toNat i) []) 0 V.undef),shop:=V.toStr (List.getD (List.getD r (Int.toNat i) []) 1 V.undef),key:=V.toStr (List.getD (List.getD r (Int.toNat i) []) 2 V.undef),head:=List.map (fun r=>{key:=V.toStr (List.getD r 0 .undef),kind:=V.toInt (List.getD r 1 .undef),num:=V.toInt (List.getD r 2 .undef),text:=V.toStr (List.getD r 3 .undef):HPair}) (V.toRows (List.getD (List.getD r (Int.toNat i) []) 3 V.undef)),body:=V.toStr (List.getD (List.getD r (Int.toNat i) []) 4 V.undef),due:=V.toInt (List.getD (List.getD r (Int.toNat i) []) 5 V.undef),hops:=V.toInt (List.getD (List.getD r (Int.toNat i) []) 6 V.undef):HMail} then List.all (List.map (fun r=>{key:=V.toStr (List.getD r 0 .undef),kind:=V.toInt (List.getD r 1 .undef),num:=V.toInt (List.getD r 2 .undef),text:=V.toStr (List.getD r 3 .undef):HPair}) (V.toRows (List.getD (List.getD r (Int.toNat i) []) 3 V.undef))) N.okP' else false) (K Ex.normal {fr:=[(3,V.int .i64 (IntKind.wrap .i64 (a+N.mailSize {id:=V.toInt (List.getD (List.getD r (Int.toNat i) []) 0 V.undef),shop:=V.toStr (List.getD (List.getD r (Int.toNat i) []) 1 V.undef),key:=V.toStr (List.getD (List.getD r (Int.toNat i) []) 2 V.undef),head:=List.map (fun r=>{key:=V.toStr (List.getD r 0 .undef),kind:=V.toInt (List.getD r 1 .undef),num:=V.toInt (List.getD r 2 .undef),text:=V.toStr (List.getD r 3 .undef):HPair}) (V.toRows (List.getD (List.getD r (Int.toNat i) []) 3 V.undef)),body:=V.toStr (List.getD (List.getD r (Int.toNat i) []) 4 V.undef),due:=V.toInt (List.getD (List.getD r (Int.toNat i) []) 5 V.undef),hops:=V.toInt (List.getD (List.getD r (Int.toNat i) []) 6 V.undef):HMail}))),(6,V.slc [.int .u64,.str,.str,.slc [.str,.int .u8,.int .i64,.str],.str,.int .u64,.int .u8,.bool,.bool] r),(7,V.int .i64 n),(8,V.int .i64 (IntKind.wrap .i64 (i+(1:Int))))],tab:=[]:St}) (none)) (none)) (K (Ex.exit 0) {fr:=[(3,V.int .i64 a)],tab:=[]:St}):=by kernel_rfl
theorem ok_rSizeI:FnOk Tryz.prog 159 dRSizeI:=by
 refine den_okF (env_ok ((TOk.nil _).cons ok_refMailSize)) (E:=eRSizeI) Tryz.func159 [3] (by kernel_rfl) (one1 (rounds_of rfl fun l K q h=>?_)) fun l _ hp=>?_
 ·unfold gRSizeI at h
  split at h
  ·rename_i a r n i
   have h1:=(cond_none h).1; replace h:=(cond_none h).2; have h2:=(cond_none h).1; replace h:=(cond_none h).2; have h3:=(cond_none h).1; replace h:=(cond_none h).2; have h4:=(cond_none h).1; replace h:=(cond_none h).2; have h5:=(cond_none h).1; replace h:=(cond_none h).2
   have e1:=ieq_of h1
   have e2:=ieq_of h2
   have e3:=ieq_of h3
   subst e1 e2 e3
   have h4:r.length≤1000:=ble_of h4
   have main:=range_ind (E:=eRSizeI) (f:=159) (id:=3) (A:=Int) r (fun a i=>{ fr:=[(3,.int .i64 a),(6,.slc [.int .u64,.str,.str,.slc [.str,.int .u8,.int .i64,.str],.str,.int .u64,.int .u8,.bool,.bool] r),(7,.int .i64 r.length),(8,.int .i64 i)],tab:=[] }) (fun a i=>0≤a∧a≤1570*i)
    (fun a rows K=>K (.exit 0) { fr:=[(3,.int .i64 (a+N.lSize (rows.map cItem.dec)))],tab:=[] }) (fun a i ha hi=>?_) (fun a _=>?_) 0 0 (Int.le_refl _) (by omega) ⟨Int.le_refl _,by decide⟩ K q (by rw [Int.zero_add]; exact h)
   ·exact main
   ·have hb:=mailSize_le (cItem.dec (r.getD i [])).mail
    have hm:cMail.dec (r.getD i [])=(cItem.dec (r.getD i [])).mail:=rfl
    have hs:N.fineM (cItem.dec (r.getD i [])).mail=true:=List.all_eq_true.1 h5 _ (List.mem_map_of_mem (by rw [List.getD_eq_getElem?_getD,List.getElem?_eq_getElem hi]; exact List.getElem_mem hi))
    refine .inl ⟨a+N.mailSize (cItem.dec (r.getD i [])).mail,⟨by omega,by omega⟩,fun K=>?_,fun K=>?_⟩
    ·rw [q_rSizeIR]
     simp (disch:=omega) only [evs,Int.toNat_natCast,fold_mail,hm]
     show cond (N.fineM (cItem.dec (r.getD i [])).mail) _ _=_
     rw [hs]; rfl
    ·show K _ { fr:=[(3,.int .i64 (a+(N.mailSize (cItem.dec (r.getD i [])).mail+N.lSize ((r.drop (i+1)).map cItem.dec))))],tab:=[] }=_
     rw [Int.add_assoc]
   ·refine ⟨.exit 0,_,by simp,fun K=>?_,fun K=>rfl⟩
    rw [q_rSizeIR]
    simp (disch:=omega) only [evs,List.map_nil]
    show _=K _ { fr:=[(3,.int .i64 (a+0))],tab:=[] }
    rw [Int.add_zero]
  ·cases h
 ·obtain ⟨h1,h2⟩:=bcond hp
  refine (q_rSizeI l).trans ?_
  show _=some (⟨.int .i64 (N.lSize l),[],[]⟩:DRes)
  have h2:_=true:=h2
  unfold allM at h2
  simp only [List.length_map,dec_encs,beq_self_eq_true,cond_true,h1,h2]
def dLSizeI:Den:=den (aOne (vAgg cLine)) bNil (oV (vInt .i64)) (fun l _=>cond (Nat.ble l.length 1000) (allM N.okM l) false) fun l _=>(N.lSize l,())
def schLSizeI:SSch:={ fr:=[(3,.int .i64),(7,.slc [.int .u64,.str,.str,.slc [.str,.int .u8,.int .i64,.str],.str,.int .u64,.int .u8,.bool,.bool]),(8,.int .i64),(9,.int .i64)],tab:=[] }
def gLSizeI:List Leaf→(Ex→St→Option R)→Option R
 | [.i a,.r r,.i n,.i i],K=>cond (n==r.length) (cond (i==0) (cond (a==0) (cond (Nat.ble r.length 1000) (cond (allM N.okM (r.map cItem.dec))
   (K (.exit 0) { fr:=[(3,.int .i64 (N.lSize (r.map cItem.dec)))],tab:=[] }) none) none) none) none) none
 | _,_=>none
noncomputable def eLSizeI:Env:=env Tryz.prog [(48,dMailSize)] [(3,loopF schLSizeI gLSizeI)] [(3,[(0,[3,7,8,9]),(1,[3]),(1000,[2])])]
theorem q_lSizeI (l:List HItem):evFn eLSizeI 65 ((aOne (vAgg cLine)).enc l) ([]) some =
 cond ((↑(List.length (List.map (RCod.enc cItem) l)):Int)==(↑(List.length (List.map (RCod.enc cItem) l)):Int)) (cond (Nat.ble (List.length (List.map (RCod.enc cItem) l)) 1000) (cond (List.all (List.map (RCod.dec cItem) (List.map (RCod.enc cItem) l)) fun x=>N.okM (HItem.mail x)) (some {v:=V.int .i64 (N.lSize (List.map (RCod.dec cItem) (List.map (RCod.enc cItem) l))),bx:=[]:DRes}) (none)) (none)) (none):=by kernel_rfl
theorem q_lSizeIR (a:Int) (r:List (List V)) (n i:Int) (K:Ex→St→Option R):evRound eLSizeI 65 3 { fr:=[(3,.int .i64 a),(7,.slc [.int .u64,.str,.str,.slc [.str,.int .u8,.int .i64,.str],.str,.int .u64,.int .u8,.bool,.bool] r),(8,.int .i64 n),(9,.int .i64 i)],tab:=[] } K =
 cond (ilt i n) (cond (decide ((0:Int)≤i∧i<(↑(List.length r):Int))) (cond (N.okM {id:=V.toInt (List.getD (List.getD r (Int.toNat i) []) 0 V.undef),shop:=V.toStr (List.getD (List.getD r (Int.toNat i) []) 1 V.undef),key:=V.toStr (List.getD (List.getD r (Int.toNat i) []) 2 V.undef),head:=List.map (fun r=>{key:=V.toStr (List.getD r 0 .undef),kind:=V.toInt (List.getD r 1 .undef),num:=V.toInt (List.getD r 2 .undef),text:=V.toStr (List.getD r 3 .undef):HPair}) (V.toRows (List.getD (List.getD r (Int.toNat i) []) 3 V.undef)),body:=V.toStr (List.getD (List.getD r (Int.toNat i) []) 4 V.undef),due:=V.toInt (List.getD (List.getD r (Int.toNat i) []) 5 V.undef),hops:=V.toInt (List.getD (List.getD r (Int.toNat i) []) 6 V.undef):HMail}) (K Ex.normal {fr:=[(3,V.int .i64 (IntKind.wrap .i64 (a+N.mailSize {id:=V.toInt (List.getD (List.getD r (Int.toNat i) []) 0 V.undef),shop:=V.toStr (List.getD (List.getD r (Int.toNat i) []) 1 V.undef),key:=V.toStr (List.getD (List.getD r (Int.toNat i) []) 2 V.undef),head:=List.map (fun r=>{key:=V.toStr (List.getD r 0 .undef),kind:=V.toInt (List.getD r 1 .undef),num:=V.toInt (List.getD r 2 .undef),text:=V.toStr (List.getD r 3 .undef):HPair}) (V.toRows (List.getD (List.getD r (Int.toNat i) []) 3 V.undef)),body:=V.toStr (List.getD (List.getD r (Int.toNat i) []) 4 V.undef),due:=V.toInt (List.getD (List.getD r (Int.toNat i) []) 5 V.undef),hops:=V.toInt (List.getD (List.getD r (Int.toNat i) []) 6 V.undef):HMail}))),(7,V.slc [.int .u64,.str,.str,.slc [.str,.int .u8,.int .i64,.str],.str,.int .u64,.int .u8,.bool,.bool] r),(8,V.int .i64 n),(9,V.int .i64 (IntKind.wrap .i64 (i+(1:Int))))],tab:=[]:St}) (none)) (none)) (K (Ex.exit 0) {fr:=[(3,V.int .i64 a)],tab:=[]:St}):=by kernel_rfl
theorem ok_lSizeI (hN:FnOk Tryz.prog 95 dOutNum):FnOk Tryz.prog 65 dLSizeI:=by
 refine den_okF (env_ok ((TOk.nil _).cons (ok_mailSize hN))) (E:=eLSizeI) Tryz.func65 [3] (by kernel_rfl) (one1 (rounds_of rfl fun l K q h=>?_)) fun l _ hp=>?_
 ·unfold gLSizeI at h
  split at h
  ·rename_i a r n i
   have h1:=(cond_none h).1; replace h:=(cond_none h).2; have h2:=(cond_none h).1; replace h:=(cond_none h).2; have h3:=(cond_none h).1; replace h:=(cond_none h).2; have h4:=(cond_none h).1; replace h:=(cond_none h).2; have h5:=(cond_none h).1; replace h:=(cond_none h).2
   have e1:=ieq_of h1
   have e2:=ieq_of h2
   have e3:=ieq_of h3
   subst e1 e2 e3
   have h4:r.length≤1000:=ble_of h4
   have main:=range_ind (E:=eLSizeI) (f:=65) (id:=3) (A:=Int) r (fun a i=>{ fr:=[(3,.int .i64 a),(7,.slc [.int .u64,.str,.str,.slc [.str,.int .u8,.int .i64,.str],.str,.int .u64,.int .u8,.bool,.bool] r),(8,.int .i64 r.length),(9,.int .i64 i)],tab:=[] }) (fun a i=>0≤a∧a≤1570*i)
    (fun a rows K=>K (.exit 0) { fr:=[(3,.int .i64 (a+N.lSize (rows.map cItem.dec)))],tab:=[] }) (fun a i ha hi=>?_) (fun a _=>?_) 0 0 (Int.le_refl _) (by omega) ⟨Int.le_refl _,by decide⟩ K q (by rw [Int.zero_add]; exact h)
   ·exact main
   ·have hb:=mailSize_le (cItem.dec (r.getD i [])).mail
    have hm:cMail.dec (r.getD i [])=(cItem.dec (r.getD i [])).mail:=rfl
    have hs:N.okM (cItem.dec (r.getD i [])).mail=true:=List.all_eq_true.1 h5 _ (List.mem_map_of_mem (by rw [List.getD_eq_getElem?_getD,List.getElem?_eq_getElem hi]; exact List.getElem_mem hi))
    refine .inl ⟨a+N.mailSize (cItem.dec (r.getD i [])).mail,⟨by omega,by omega⟩,fun K=>?_,fun K=>?_⟩
    ·rw [q_lSizeIR]
     simp (disch:=omega) only [evs,Int.toNat_natCast,fold_mail,hm,hs]
     try rfl
    ·show K _ { fr:=[(3,.int .i64 (a+(N.mailSize (cItem.dec (r.getD i [])).mail+N.lSize ((r.drop (i+1)).map cItem.dec))))],tab:=[] }=_
     rw [Int.add_assoc]
   ·refine ⟨.exit 0,_,by simp,fun K=>?_,fun K=>rfl⟩
    rw [q_lSizeIR]
    simp (disch:=omega) only [evs,List.map_nil]
    show _=K _ { fr:=[(3,.int .i64 (a+0))],tab:=[] }
    rw [Int.add_zero]
  ·cases h
 ·obtain ⟨h1,h2⟩:=bcond hp
  refine (q_lSizeI l).trans ?_
  show _=some (⟨.int .i64 (N.lSize l),[],[]⟩:DRes)
  have h2:_=true:=h2
  unfold allM at h2
  simp only [List.length_map,dec_encs,beq_self_eq_true,cond_true,h1,h2]
end Go.Ev

/- Stocks: what the program's functions and the document's answer,in plain terms: definitions and lemmas,no condition. -/
namespace Go.Ev
open Go
set_option maxRecDepth 100000
def N.ixG {α:Type} (p:α→Bool):List α→Int→Int
 | [],_=>-1
 | x::r,i=>cond (p x) i (N.ixG p r (i+1))
theorem ixG_cons {α:Type} (p:α→Bool) (x:α) (r:List α) (i:Int):N.ixG p (x::r) i=cond (p x) i (N.ixG p r (i+1)):=rfl
theorem ixG_spec {α:Type} (p:α→Bool):∀ (l:List α) (i:Int),(N.ixG p l i = -1∧l.any p=false)∨∃ (a:List α) (x:α) (b:List α),l=a++x::b∧N.ixG p l i=i+a.length∧p x=true∧a.any p=false∧l.any p=true
 | [],i=>.inl ⟨rfl,rfl⟩
 | x::r,i=>by
  unfold N.ixG
  rw [List.any_cons]
  cases hc:p x with
  | true=>exact .inr ⟨[],x,r,rfl,by simp,hc,rfl,rfl⟩
  | false =>
   rcases ixG_spec p r (i+1) with ⟨h1,h2⟩ | ⟨a,y,b,h1,h2,h3,h4,h5⟩
   ·exact .inl ⟨h1,by rw [h2]; rfl⟩
   ·exact .inr ⟨x::a,y,b,by rw [h1]; rfl,by rw [cond_false,h2]; simp; omega,h3,by rw [List.any_cons,hc,h4]; rfl,by rw [h5]; rfl⟩
theorem ixG_end {α:Type} {p:α→Bool} {l:List α} (h:ile 0 (N.ixG p l 0)=false):N.ixG p l 0 = -1:=by
 rcases ixG_spec p l 0 with ⟨h1,_⟩ | ⟨a,x,b,_,h1,_⟩
 ·exact h1
 ·rw [h1,ile_t (by omega)] at h; cases h
theorem ixG_ge {α:Type} (p:α→Bool) (l:List α):ile 0 (N.ixG p l 0)=l.any p:=by
 rcases ixG_spec p l 0 with ⟨h1,h2⟩ | ⟨a,x,b,_,h1,_,_,h5⟩
 ·rw [h1,h2]; rfl
 ·rw [h1,h5,ile_t (by omega)]
def queue0:HQueue:=⟨[],0,0,[]⟩
def row0:HRow:=⟨queue0,[]⟩
namespace N
def qCheck (q:HQueue):Int:=cond (name q.name != 0) (name q.name) (cond (cond (ilt q.most 1) true (ilt 64 q.most)) 7 (cond (q.dead==[]) 0 (name q.dead)))
def isRow (n:Bytes) (x:HRow):Bool:=x.q.name==n
def sAt (s:HStock) (n:Bytes):Int:=ixG (isRow n) s.rows 0
def rowK (s:HStock) (k:Int):HRow:=s.rows.getD k.toNat row0
def eqQ (a b:HQueue):Bool:=cond (a.name==b.name) (cond (a.most==b.most) (cond (a.life==b.life) (a.dead==b.dead) false) false) false
def cutG {α:Type} (l:List α) (k:Nat):List α:=l.take k++l.drop (k+1)
def sNew (base bytes:Int):HStock:=⟨base,cond (ilt 0 bytes) bytes 0,[],stock0.rises⟩
def sMake (s:HStock) (q:HQueue):HStock × Int :=
 cond (qCheck q != 0) (s,qCheck q) (cond (ile 0 (sAt s q.name)) (cond (eqQ (rowK s (sAt s q.name)).q q) (s,0) (s,9)) (cond (ile 8 s.rows.length) (s,12) (⟨s.next,s.bytes,s.rows++[⟨q,[]⟩],s.rises⟩,0)))
def sDrop (s:HStock) (n:Bytes):HStock × Int:=cond (ilt (sAt s n) 0) (s,10) (⟨s.next,s.bytes,cutG s.rows (sAt s n).toNat,s.rises⟩,0)
def sLine (s:HStock) (n:Bytes):List HItem:=cond (ilt (sAt s n) 0) [] (rowK s (sAt s n)).line
def sWith (s:HStock) (k:Int) (l:List HItem):HStock:=⟨s.next,s.bytes,s.rows.set k.toNat ⟨(s.rows.getD k.toNat row0).q,l⟩,s.rises⟩
def rowsSize:List HRow→Int
 | []=>0
 | x::r=>lSize x.line+rowsSize r
def risesSize:List HRise→Int
 | []=>0
 | x::r=>riseSize x.kept+risesSize r
def sSize (s:HStock):Int:=rowsSize s.rows+risesSize s.rises.list
def sRoom (s:HStock):Int:=s.bytes-sSize s
def numM (m:HMail) (n:Int):HMail:=⟨n,m.shop,m.key,m.head,m.body,m.due,m.hops⟩
def sPutE (s:HStock) (k:Int) (m out:HMail) (l:List HItem):HStock × Int × HMail × Int :=
 cond (ilt (sRoom s+mailSize out) (mailSize (numM m s.next))) (s,0,mail0,12)
  (cond ((lPut l ⟨numM m s.next,false,false⟩).2 != 0) (s,0,mail0,(lPut l ⟨numM m s.next,false,false⟩).2)
   (⟨IntKind.wrap .u64 (s.next+1),s.bytes,(sWith s k (lPut l ⟨numM m s.next,false,false⟩).1).rows,s.rises⟩,s.next,out,0))
def sPut (s:HStock) (n:Bytes) (m:HMail):HStock × Int × HMail × Int :=
 cond (ilt (sAt s n) 0) (s,0,mail0,10) (cond (mailCheck m != 0) (s,0,mail0,mailCheck m) (cond (s.next==0) (s,0,mail0,18)
  (cond (ile (rowK s (sAt s n)).q.most (rowK s (sAt s n)).line.length)
   (cond (lFirst (rowK s (sAt s n)).line).2 (sPutE s (sAt s n) m (lFirst (rowK s (sAt s n)).line).1 (lRemove (rowK s (sAt s n)).line (lFirst (rowK s (sAt s n)).line).1.id).1) (s,0,mail0,12))
   (sPutE s (sAt s n) m mail0 (rowK s (sAt s n)).line))))
def sLend (s:HStock) (n:Bytes):HStock × HItem × Bool:=cond (ilt (sAt s n) 0) (s,item0,false) (sWith s (sAt s n) (lLend (rowK s (sAt s n)).line).1,(lLend (rowK s (sAt s n)).line).2)
def sBack (s:HStock) (n:Bytes) (id:Int):HStock × Int:=cond (ilt (sAt s n) 0) (s,10) (sWith s (sAt s n) (lBack (rowK s (sAt s n)).line id).1,(lBack (rowK s (sAt s n)).line id).2)
def sRemove (s:HStock) (n:Bytes) (id:Int):HStock × HItem × Int:=cond (ilt (sAt s n) 0) (s,item0,10) (sWith s (sAt s n) (lRemove (rowK s (sAt s n)).line id).1,(lRemove (rowK s (sAt s n)).line id).2)
def riseK (s:HStock) (p:Int):HRise:=s.rises.list.getD p.toNat rise0
def sRaise (s:HStock) (p:Int) (m:HMail):HStock × Int :=
 cond (cond (ilt p 0) true (ile 16 p)) (s,7) (cond ((risePut (riseK s p) m).2 != 0) (s,(risePut (riseK s p) m).2)
  (cond (ilt s.bytes (sSize s-riseSize (riseK s p).kept+riseSize (risePut (riseK s p) m).1.kept)) (s,12) (⟨s.next,s.bytes,s.rows,s.rises.set p.toNat (risePut (riseK s p) m).1⟩,0)))
def wakeRow (x:HRow):HRow:=⟨x.q,lWake x.line⟩
def sWake (s:HStock):HStock:=⟨s.next,s.bytes,s.rows.map wakeRow,s.rises⟩
def sameRow (a b:HRow):Bool:=cond (eqQ a.q b.q) (sameL a.line b.line) false
def sameRows:List HRow→List HRow→Bool
 | [],[]=>true
 | a::x,b::y=>cond (sameRow a b) (sameRows x y) false
 | _,_=>false
def sameRs:List HRise→List HRise→Bool
 | [],[]=>true
 | a::x,b::y=>cond (sameR a b) (sameRs x y) false
 | _,_=>false
def sSame (a b:HStock):Bool:=cond (a.next==b.next) (cond (a.bytes==b.bytes) (cond (sameRows a.rows b.rows) (sameRs a.rises.list b.rises.list) false) false) false
end N
def goodLine (l:List HItem):Bool:=cond (Nat.ble l.length 100) (cond (l.all smallI) (allM N.okM l) false) false
def goodRow (x:HRow):Bool:=goodLine x.line
def fewRows (s:HStock):Bool:=Nat.ble s.rows.length 100
def goodRows (s:HStock):Bool:=cond (Nat.ble s.rows.length 100) (s.rows.all goodRow) false
def goodRises (s:HStock):Bool:=s.rises.list.all goodOkR
theorem numM_dec (m:HMail) (n:Int):(⟨n,m.shop,m.key,m.head,m.body,m.due,m.hops⟩:HMail)=N.numM m n:=rfl
end Go.Ev

/- The program's functions on stocks answer what the plain ones do: lemmas. -/
namespace Go.Ev
open Go Go.Proofs
set_option maxRecDepth 100000
-- FOLD
theorem fold_row (r:List V):({ q:={ name:=V.toStr (List.getD r 0 .undef),most:=V.toInt (List.getD r 1 .undef),life:=V.toInt (List.getD r 2 .undef),dead:=V.toStr (List.getD r 3 .undef) },line:=List.map cItem.dec (V.toRows (List.getD r 4 .undef)) }:HRow)=cRow.dec r:=rfl
noncomputable def eKNone:Env:=env Tryz.prog [] [] []
def dSNew:Den:=den (aCons (vInt .u64) (aOne (vInt .i64))) bNil (oV (vAgg cStock)) (fun _ _=>true) fun a _=>(N.sNew a.1 a.2,())
theorem q_sNew (b n:Int):evFn eKNone 10 ((aCons (vInt .u64) (aOne (vInt .i64))).enc (b,n)) ([]) some =
 some {v:=V.agg [V.int .u64 b,V.int .i64 (bif ilt (0:Int) n then n else (0:Int)),V.slc [.str,.int .u64,.int .u64,.str,.slc [.int .u64,.str,.str,.slc [.str,.int .u8,.int .i64,.str],.str,.int .u64,.int .u8,.bool,.bool]] [],V.int .u64 (0:Int),V.slc [.int .u64,.str,.str,.slc [.str,.int .u8,.int .i64,.str],.str,.int .u64,.int .u8] [],V.int .u64 (0:Int),V.slc [.int .u64,.str,.str,.slc [.str,.int .u8,.int .i64,.str],.str,.int .u64,.int .u8] [],V.int .u64 (0:Int),V.slc [.int .u64,.str,.str,.slc [.str,.int .u8,.int .i64,.str],.str,.int .u64,.int .u8] [],V.int .u64 (0:Int),V.slc [.int .u64,.str,.str,.slc [.str,.int .u8,.int .i64,.str],.str,.int .u64,.int .u8] [],V.int .u64 (0:Int),V.slc [.int .u64,.str,.str,.slc [.str,.int .u8,.int .i64,.str],.str,.int .u64,.int .u8] [],V.int .u64 (0:Int),V.slc [.int .u64,.str,.str,.slc [.str,.int .u8,.int .i64,.str],.str,.int .u64,.int .u8] [],V.int .u64 (0:Int),V.slc [.int .u64,.str,.str,.slc [.str,.int .u8,.int .i64,.str],.str,.int .u64,.int .u8] [],V.int .u64 (0:Int),V.slc [.int .u64,.str,.str,.slc [.str,.int .u8,.int .i64,.str],.str,.int .u64,.int .u8] [],V.int .u64 (0:Int),V.slc [.int .u64,.str,.str,.slc [.str,.int .u8,.int .i64,.str],.str,.int .u64,.int .u8] [],V.int .u64 (0:Int),V.slc [.int .u64,.str,.str,.slc [.str,.int .u8,.int .i64,.str],.str,.int .u64,.int .u8] [],V.int .u64 (0:Int),V.slc [.int .u64,.str,.str,.slc [.str,.int .u8,.int .i64,.str],.str,.int .u64,.int .u8] [],V.int .u64 (0:Int),V.slc [.int .u64,.str,.str,.slc [.str,.int .u8,.int .i64,.str],.str,.int .u64,.int .u8] [],V.int .u64 (0:Int),V.slc [.int .u64,.str,.str,.slc [.str,.int .u8,.int .i64,.str],.str,.int .u64,.int .u8] [],V.int .u64 (0:Int),V.slc [.int .u64,.str,.str,.slc [.str,.int .u8,.int .i64,.str],.str,.int .u64,.int .u8] [],V.int .u64 (0:Int),V.slc [.int .u64,.str,.str,.slc [.str,.int .u8,.int .i64,.str],.str,.int .u64,.int .u8] [],V.int .u64 (0:Int),V.slc [.int .u64,.str,.str,.slc [.str,.int .u8,.int .i64,.str],.str,.int .u64,.int .u8] []],bx:=[]:DRes}:=by kernel_rfl
theorem ok_sNew:FnOk Tryz.prog 10 dSNew:=by
 refine den_okF (env_ok (TOk.nil _)) (E:=eKNone) Tryz.func10 [] (by kernel_rfl) none0 fun a _ _=>?_
 exact q_sNew a.1 a.2
def dQCheck:Den:=den (aOne (vAgg cQueue)) bNil (oV (vInt .i64)) (fun _ _=>true) fun q _=>(N.qCheck q,())
noncomputable def eQCheck:Env:=env Tryz.prog [(112,dName)] [] []
theorem q_qCheck (q:HQueue):evFn eQCheck 39 ((aOne (vAgg cQueue)).enc q) ([]) some =
 cond (N.name (HQueue.name q) != (0:Int)) (some {v:=V.int .i64 (N.name (HQueue.name q)),bx:=[]:DRes}) (cond (ilt (HQueue.most q) (1:Int)) (some {v:=V.int .i64 (7:Int),bx:=[]:DRes}) (cond (ilt (64:Int) (HQueue.most q)) (some {v:=V.int .i64 (7:Int),bx:=[]:DRes}) (cond (!HQueue.dead q==[]) (some {v:=V.int .i64 (N.name (HQueue.dead q)),bx:=[]:DRes}) (some {v:=V.int .i64 (0:Int),bx:=[]:DRes})))):=by kernel_rfl
theorem ok_qCheck:FnOk Tryz.prog 39 dQCheck:=by
 refine den_okF (env_ok ((TOk.nil _).cons ok_name)) (E:=eQCheck) Tryz.func39 [] (by kernel_rfl) none0 fun q _ _=>?_
 refine (q_qCheck q).trans ?_
 show _=some (⟨.int .i64 (N.qCheck q),[],[]⟩:DRes)
 unfold N.qCheck
 cases h1:N.name q.name != 0 with
 | true=>rfl
 | false =>
  cases h2:ilt q.most 1<;>cases h3:ilt 64 q.most<;>first | rfl | (cases h4:q.dead==[]<;>rfl)
def dAt1:Den:=den (aCons (vAgg cRow) (aOne (vPtr 0))) (bOne rStr) (oV vBool) (fun _ _=>true) fun a n=>(N.isRow n a.1,n)
theorem q_at1 (x:HRow) (n:Bytes):evFn eKNone 114 ((aCons (vAgg cRow) (aOne (vPtr 0))).enc (x,())) ((bOne rStr).enc n) some =
 some {v:=V.bool (HQueue.name (HRow.q x)==n),bx:=[[V.str n]]:DRes}:=by kernel_rfl
theorem ok_at1:FnOk Tryz.prog 114 dAt1:=den_okF (env_ok (TOk.nil _)) (E:=eKNone) Tryz.func114 [] (by kernel_rfl) none0 fun a n _=>q_at1 a.1 n
def dIxRow:Den:=den (aCons (vSl cRow) (aOne (vFn 114 0))) (bOne rStr) (oV (vInt .i64)) (fun a _=>Nat.ble a.1.length 1000) fun a n=>(N.ixG (N.isRow n) a.1 0,n)
def schIxRow:SSch:={ fr:=[(0,.slc [.str,.int .u64,.int .u64,.str,.slc [.int .u64,.str,.str,.slc [.str,.int .u8,.int .i64,.str],.str,.int .u64,.int .u8,.bool,.bool]]),(1,.fn 114 [] [.ptr 0 0 0]),(7,.int .i64),(8,.int .i64)],tab:=[(0,.var [.str])] }
def gIxRow:List Leaf→(Ex→St→Option R)→Option R
 | [.r r,.i n,.i i,.s s],K=>cond (n==r.length) (cond (i==0) (cond (Nat.ble r.length 1000) (cond (ile 0 (N.ixG (N.isRow s) (r.map cRow.dec) 0)) (K .ret { fr:=[(4,.int .i64 (N.ixG (N.isRow s) (r.map cRow.dec) 0))],tab:=[(0,.var [.str s])] }) (K (.exit 0) { fr:=[],tab:=[(0,.var [.str s])] })) none) none) none
 | _,_=>none
noncomputable def eIxRow:Env:=env Tryz.prog [(114,dAt1)] [(2,loopF schIxRow gIxRow)] [(2,[(0,[0,1,7,8]),(1,[]),(1000,[4])])]
theorem q_ixRow (l:List HRow) (s:Bytes):evFn eIxRow 113 ((aCons (vSl cRow) (aOne (vFn 114 0))).enc (l,())) ((bOne rStr).enc s) some =
 cond ((↑(List.length (List.map (RCod.enc cRow) l)):Int)==(↑(List.length (List.map (RCod.enc cRow) l)):Int)) (cond (Nat.ble (List.length (List.map (RCod.enc cRow) l)) 1000) (cond (ile (0:Int) (N.ixG (N.isRow s) (List.map (RCod.dec cRow) (List.map (RCod.enc cRow) l)) (0:Int))) (some {v:=V.int .i64 (N.ixG (N.isRow s) (List.map (RCod.dec cRow) (List.map (RCod.enc cRow) l)) (0:Int)),bx:=[[V.str s]]:DRes}) (some {v:=V.int .i64 (-1:Int),bx:=[[V.str s]]:DRes})) (none)) (none):=by kernel_rfl
theorem q_ixRowR (r:List (List V)) (n i:Int) (s:Bytes) (K:Ex→St→Option R):evRound eIxRow 113 2 { fr:=[(0,.slc [.str,.int .u64,.int .u64,.str,.slc [.int .u64,.str,.str,.slc [.str,.int .u8,.int .i64,.str],.str,.int .u64,.int .u8,.bool,.bool]] r),(1,.fn 114 [] [.ptr 0 0 0 0]),(7,.int .i64 n),(8,.int .i64 i)],tab:=[(0,.var [.str s])] } K =
 cond (ilt i n) (cond (decide ((0:Int)≤i∧i<(↑(List.length r):Int))) (cond (N.isRow s {q:={name:=V.toStr (List.getD (List.getD r (Int.toNat i) []) 0 V.undef),most:=V.toInt (List.getD (List.getD r (Int.toNat i) []) 1 V.undef),life:=V.toInt (List.getD (List.getD r (Int.toNat i) []) 2 V.undef),dead:=V.toStr (List.getD (List.getD r (Int.toNat i) []) 3 V.undef):HQueue},line:=List.map (RCod.dec cItem) (V.toRows (List.getD (List.getD r (Int.toNat i) []) 4 V.undef)):HRow}) (K Ex.ret {fr:=[(4,V.int .i64 i)],tab:=[(0,Box.var [V.str s])]:St}) (K Ex.normal {fr:=[(0,V.slc [.str,.int .u64,.int .u64,.str,.slc [.int .u64,.str,.str,.slc [.str,.int .u8,.int .i64,.str],.str,.int .u64,.int .u8,.bool,.bool]] r),(1,V.fn 114 [] [V.ptr 0 0 0 0]),(7,V.int .i64 n),(8,V.int .i64 (IntKind.wrap .i64 (i+(1:Int))))],tab:=[(0,Box.var [V.str s])]:St})) (none)) (K (Ex.exit 0) {fr:=[],tab:=[(0,Box.var [V.str s])]:St}):=by kernel_rfl
theorem ok_ixRow_2:RoundsOk eIxRow 113 2:=by
 refine rounds_of rfl fun l K q h=>?_
 unfold gIxRow at h
 split at h
 ·rename_i r n i s
  have h1:=(cond_none h).1; replace h:=(cond_none h).2; have h2:=(cond_none h).1; replace h:=(cond_none h).2; have h3:=(cond_none h).1; replace h:=(cond_none h).2
  have e1:=ieq_of h1
  have e2:=ieq_of h2
  subst e1 e2
  have h3:r.length≤1000:=ble_of h3
  have main:=loop_ind (E:=eIxRow) (f:=113) (id:=2) (σ:=Nat) (fun i=>{ fr:=[(0,.slc [.str,.int .u64,.int .u64,.str,.slc [.int .u64,.str,.str,.slc [.str,.int .u8,.int .i64,.str],.str,.int .u64,.int .u8,.bool,.bool]] r),(1,.fn 114 [] [.ptr 0 0 0 0]),(7,.int .i64 r.length),(8,.int .i64 (i:Int))],tab:=[(0,.var [.str s])] }) (fun i=>i≤r.length) (fun i=>r.length-i)
   (fun i K=>cond (ile 0 (N.ixG (N.isRow s) ((r.drop i).map cRow.dec) i)) (K .ret { fr:=[(4,.int .i64 (N.ixG (N.isRow s) ((r.drop i).map cRow.dec) i))],tab:=[(0,.var [.str s])] }) (K (.exit 0) { fr:=[],tab:=[(0,.var [.str s])] })) (fun i hi=>?_) 0 (Nat.zero_le _) K q (by assumption)
  ·exact main
  ·by_cases hl:i<r.length
   ·rw [drop_row hl,List.map_cons,ixG_cons]
    have hq:=fun K=>q_ixRowR r r.length i s K
    have t1:ilt (i:Int) r.length=true:=ilt_t (by omega)
    have t2:decide ((0:Int)≤i∧(i:Int)<r.length)=true:=decide_eq_true (by omega)
    have t3:IntKind.wrap .i64 ((i:Int)+1)=(i:Int)+1:=wr_i64 (by omega) (by omega)
    simp only [Int.toNat_natCast,fold_row] at hq
    simp only [t1,t2,t3,cond_true] at hq
    cases hc:(N.isRow s) (cRow.dec (r.getD i [])) with
    | true =>
     refine .inr ⟨.ret,{ fr:=[(4,.int .i64 (i:Int))],tab:=[(0,.var [.str s])] },by simp,fun K=>?_,fun K=>?_⟩
     ·rw [hq,hc]; rfl
     ·simp only [cond_true]
      rw [ile_t (by omega)]; rfl
    | false =>
     refine .inl ⟨i+1,hl,by omega,fun K=>?_,fun K=>rfl⟩
     rw [hq,hc]
     try rfl
   ·refine .inr ⟨.exit 0,{ fr:=[],tab:=[(0,.var [.str s])] },by simp,fun K=>?_,fun K=>?_⟩
    ·rw [q_ixRowR]
     simp (disch:=omega) only [evs]
    ·rw [List.drop_eq_nil_of_le (by omega)]; rfl
 ·cases h
theorem ok_ixRow:FnOk Tryz.prog 113 dIxRow:=by
 refine den_okF (env_ok ((TOk.nil _).cons ok_at1)) (E:=eIxRow) Tryz.func113 [2] (by kernel_rfl) (one1 ok_ixRow_2) fun a b hp=>?_
 obtain ⟨l,⟨⟩⟩:=a
 refine (q_ixRow l b).trans ?_
 have hp:Nat.ble l.length 1000=true:=hp
 simp only [List.length_map,dec_encs,hp,beq_self_eq_true,cond_true]
 show _=some (⟨.int .i64 (N.ixG (N.isRow b) l 0),[[.str b]],[]⟩:DRes)
 cases hc:ile 0 (N.ixG (N.isRow b) l 0) with
 | true=>rfl
 | false=>rw [ixG_end hc]; rfl
def dSAt:Den:=den (aCons (vAgg cStock) (aOne vStr)) bNil (oV (vInt .i64)) (fun a _=>fewRows a.1) fun a _=>(N.sAt a.1 a.2,())
noncomputable def eSAt:Env:=env Tryz.prog [(113,dIxRow)] [] []
theorem q_sAt (s:HStock) (n:Bytes):evFn eSAt 40 ((aCons (vAgg cStock) (aOne vStr)).enc (s,n)) ([]) some =
 cond (Nat.ble (List.length (List.map (RCod.dec cRow) (List.map (RCod.enc cRow) (HStock.rows s)))) 1000) (some {v:=V.int .i64 (N.ixG (N.isRow n) (List.map (RCod.dec cRow) (List.map (RCod.enc cRow) (HStock.rows s))) (0:Int)),bx:=[]:DRes}) (none):=by kernel_rfl
theorem few_of {s:HStock} (h:fewRows s=true):s.rows.length≤100:=ble_of h
theorem ok_sAt:FnOk Tryz.prog 40 dSAt:=by
 refine den_okF (env_ok ((TOk.nil _).cons ok_ixRow)) (E:=eSAt) Tryz.func40 [] (by kernel_rfl) none0 fun a _ h=>?_
 obtain ⟨s,n⟩:=a
 have h:s.rows.length≤100:=few_of h
 refine (q_sAt s n).trans ?_
 simp only [dec_encs]
 rw [ble_t (show s.rows.length≤1000 by omega)]
 try rfl
noncomputable def eCloneW:Env:=env Tryz.prog [] [] [] [128]
theorem q_cloneW (l:List HRow):evFn eCloneW 128 ((aOne (vSl cRow)).enc l) ([]) some =
 cond (!Nat.beq (List.length (List.map (RCod.enc cRow) l)) 0) (cond (Nat.beq (List.length (List.map (RCod.enc cRow) l)) 0) (some {v:=V.slc [.str,.int .u64,.int .u64,.str,.slc [.int .u64,.str,.str,.slc [.str,.int .u8,.int .i64,.str],.str,.int .u64,.int .u8,.bool,.bool]] [],bx:=[]:DRes}) (cond (decide (List.length (List.map (RCod.enc cRow) l)*72≤140737488355328)) (some {v:=V.own 1000 0,bx:=[],nb:=[Box.sl [.str,.int .u64,.int .u64,.str,.slc [.int .u64,.str,.str,.slc [.str,.int .u8,.int .i64,.str],.str,.int .u64,.int .u8,.bool,.bool]] (List.map (RCod.enc cRow) l) 0]:DRes}) (none))) (none):=by kernel_rfl
def dCloneW:Den:=den (aOne (vSl cRow)) bNil (oOwn cRow) (fun l _=>cond (Nat.beq l.length 0) false (Nat.ble l.length 1000)) fun l _=>(l,())
theorem ok_cloneW:FnOk Tryz.prog 128 dCloneW:=by
 refine den_okF (env_ok (TOk.nil _)) (E:=eCloneW) Tryz.func128 [] (by kernel_rfl) none0 fun l _ h=>?_
 cases hl:l with
 | nil=>subst hl; cases h
 | cons p r =>
  rw [hl] at h
  have h:(p::r).length≤1000:=ble_of h
  refine (q_cloneW (p::r)).trans ?_
  simp only [List.length_map]
  rw [show Nat.beq (p::r).length 0=false from rfl,decide_eq_true (show _ from by omega)]
  try rfl
def goodW (s:HStock) (k:Int):Bool:=cond (fewRows s) (cond (ile 0 k) (ilt k s.rows.length) false) false
theorem goodW_of {s:HStock} {k:Int} (h:goodW s k=true):s.rows.length≤100∧0≤k∧k<s.rows.length:=by
 obtain ⟨h1,h2⟩:=bcond h
 obtain ⟨h2,h3⟩:=bcond h2
 exact ⟨few_of h1,ile_of h2,ilt_of h3⟩
def dSWith:Den:=den (aCons (vAgg cStock) (aCons (vInt .i64) (aOne (vAgg cLine)))) bNil (oV (vAgg cStock)) (fun a _=>goodW a.1 a.2.1) fun a _=>(N.sWith a.1 a.2.1 a.2.2,())
noncomputable def eSWith:Env:=env Tryz.prog [(128,dCloneW)] [] []
theorem q_sWith_ (s:HStock) (k:Int) (l:List HItem):evFn eSWith 50 ((aCons (vAgg cStock) (aCons (vInt .i64) (aOne (vAgg cLine)))).enc (s,k,l)) ([]) some =(
 let z3:=(List.map (RCod.dec cRow) (List.map (RCod.enc cRow) (HStock.rows s)));let z0:=(List.map (RCod.enc cRow) z3);let z1:=(List.getD z0 (Int.toNat k) []);let z2:=(List.length z3);cond (bif Nat.beq z2 0 then false else Nat.ble z2 1000) (cond (decide ((0:Int)≤k∧k<(↑(List.length z0):Int))) (some {v:=V.agg [V.int .u64 (HStock.next s),V.int .i64 (HStock.bytes s),V.slc [.str,.int .u64,.int .u64,.str,.slc [.int .u64,.str,.str,.slc [.str,.int .u8,.int .i64,.str],.str,.int .u64,.int .u8,.bool,.bool]] (List.set z0 (Int.toNat k) [V.str (V.toStr (List.getD z1 0 V.undef)),V.int .u64 (V.toInt (List.getD z1 1 V.undef)),V.int .u64 (V.toInt (List.getD z1 2 V.undef)),V.str (V.toStr (List.getD z1 3 V.undef)),V.slc [.int .u64,.str,.str,.slc [.str,.int .u8,.int .i64,.str],.str,.int .u64,.int .u8,.bool,.bool] (List.map (RCod.enc cItem) l)]),V.int .u64 (HRise.total (A16.a0 (HStock.rises s))),V.slc [.int .u64,.str,.str,.slc [.str,.int .u8,.int .i64,.str],.str,.int .u64,.int .u8] (List.map (RCod.enc cMail) (HRise.kept (A16.a0 (HStock.rises s)))),V.int .u64 (HRise.total (A16.a1 (HStock.rises s))),V.slc [.int .u64,.str,.str,.slc [.str,.int .u8,.int .i64,.str],.str,.int .u64,.int .u8] (List.map (RCod.enc cMail) (HRise.kept (A16.a1 (HStock.rises s)))),V.int .u64 (HRise.total (A16.a2 (HStock.rises s))),V.slc [.int .u64,.str,.str,.slc [.str,.int .u8,.int .i64,.str],.str,.int .u64,.int .u8] (List.map (RCod.enc cMail) (HRise.kept (A16.a2 (HStock.rises s)))),V.int .u64 (HRise.total (A16.a3 (HStock.rises s))),V.slc [.int .u64,.str,.str,.slc [.str,.int .u8,.int .i64,.str],.str,.int .u64,.int .u8] (List.map (RCod.enc cMail) (HRise.kept (A16.a3 (HStock.rises s)))),V.int .u64 (HRise.total (A16.a4 (HStock.rises s))),V.slc [.int .u64,.str,.str,.slc [.str,.int .u8,.int .i64,.str],.str,.int .u64,.int .u8] (List.map (RCod.enc cMail) (HRise.kept (A16.a4 (HStock.rises s)))),V.int .u64 (HRise.total (A16.a5 (HStock.rises s))),V.slc [.int .u64,.str,.str,.slc [.str,.int .u8,.int .i64,.str],.str,.int .u64,.int .u8] (List.map (RCod.enc cMail) (HRise.kept (A16.a5 (HStock.rises s)))),V.int .u64 (HRise.total (A16.a6 (HStock.rises s))),V.slc [.int .u64,.str,.str,.slc [.str,.int .u8,.int .i64,.str],.str,.int .u64,.int .u8] (List.map (RCod.enc cMail) (HRise.kept (A16.a6 (HStock.rises s)))),V.int .u64 (HRise.total (A16.a7 (HStock.rises s))),V.slc [.int .u64,.str,.str,.slc [.str,.int .u8,.int .i64,.str],.str,.int .u64,.int .u8] (List.map (RCod.enc cMail) (HRise.kept (A16.a7 (HStock.rises s)))),V.int .u64 (HRise.total (A16.a8 (HStock.rises s))),V.slc [.int .u64,.str,.str,.slc [.str,.int .u8,.int .i64,.str],.str,.int .u64,.int .u8] (List.map (RCod.enc cMail) (HRise.kept (A16.a8 (HStock.rises s)))),V.int .u64 (HRise.total (A16.a9 (HStock.rises s))),V.slc [.int .u64,.str,.str,.slc [.str,.int .u8,.int .i64,.str],.str,.int .u64,.int .u8] (List.map (RCod.enc cMail) (HRise.kept (A16.a9 (HStock.rises s)))),V.int .u64 (HRise.total (A16.a10 (HStock.rises s))),V.slc [.int .u64,.str,.str,.slc [.str,.int .u8,.int .i64,.str],.str,.int .u64,.int .u8] (List.map (RCod.enc cMail) (HRise.kept (A16.a10 (HStock.rises s)))),V.int .u64 (HRise.total (A16.a11 (HStock.rises s))),V.slc [.int .u64,.str,.str,.slc [.str,.int .u8,.int .i64,.str],.str,.int .u64,.int .u8] (List.map (RCod.enc cMail) (HRise.kept (A16.a11 (HStock.rises s)))),V.int .u64 (HRise.total (A16.a12 (HStock.rises s))),V.slc [.int .u64,.str,.str,.slc [.str,.int .u8,.int .i64,.str],.str,.int .u64,.int .u8] (List.map (RCod.enc cMail) (HRise.kept (A16.a12 (HStock.rises s)))),V.int .u64 (HRise.total (A16.a13 (HStock.rises s))),V.slc [.int .u64,.str,.str,.slc [.str,.int .u8,.int .i64,.str],.str,.int .u64,.int .u8] (List.map (RCod.enc cMail) (HRise.kept (A16.a13 (HStock.rises s)))),V.int .u64 (HRise.total (A16.a14 (HStock.rises s))),V.slc [.int .u64,.str,.str,.slc [.str,.int .u8,.int .i64,.str],.str,.int .u64,.int .u8] (List.map (RCod.enc cMail) (HRise.kept (A16.a14 (HStock.rises s)))),V.int .u64 (HRise.total (A16.a15 (HStock.rises s))),V.slc [.int .u64,.str,.str,.slc [.str,.int .u8,.int .i64,.str],.str,.int .u64,.int .u8] (List.map (RCod.enc cMail) (HRise.kept (A16.a15 (HStock.rises s))))],bx:=[]:DRes}) (none)) (none)):=by kernel_rfl
theorem q_sWith (s:HStock) (k:Int) (l:List HItem):type_of% (by have h:=q_sWith_ s k l; dsimp only at h; exact h):=by
 have h:=q_sWith_ s k l
 dsimp only at h
 exact h
theorem goodW_ne {s:HStock} {k:Int} (h:goodW s k=true):Nat.beq s.rows.length 0=false:=by
 obtain ⟨_,h2,h3⟩:=goodW_of h
 cases hl:s.rows with
 | nil=>rw [hl] at h3; simp at h3; omega
 | cons _ _=>rfl
theorem row_get (s:HStock) (k:Nat) (hk:k<s.rows.length):(s.rows.map cRow.enc).getD k []=cRow.enc (s.rows.getD k row0):=by
 simp [List.getD_eq_getElem?_getD,List.getElem?_eq_getElem hk]
theorem ok_sWith:FnOk Tryz.prog 50 dSWith:=by
 refine den_okF (env_ok ((TOk.nil _).cons ok_cloneW)) (E:=eSWith) Tryz.func50 [] (by kernel_rfl) none0 fun a _ h=>?_
 obtain ⟨s,k,l⟩:=a
 have h:goodW s k=true:=h
 obtain ⟨h1,h2,h3⟩:=goodW_of h
 have h4:=goodW_ne h
 have hk:k.toNat<s.rows.length:=by omega
 refine (q_sWith s k l).trans ?_
 simp only [dec_encs,List.length_map,h4,cond_false,ble_t (show s.rows.length≤1000 by omega),decide_eq_true (show 0≤k∧k<(s.rows.length:Int) from ⟨h2,h3⟩),cond_true,row_get s _ hk]
 show _=some (⟨.agg (cStock.enc (N.sWith s k l)),[],[]⟩:DRes)
 unfold N.sWith
 rw [show cStock.enc (⟨s.next,s.bytes,s.rows.set k.toNat ⟨(s.rows.getD k.toNat row0).q,l⟩,s.rises⟩:HStock)=V.int .u64 s.next::V.int .i64 s.bytes::V.slc cRow.sh ((s.rows.set k.toNat ⟨(s.rows.getD k.toNat row0).q,l⟩).map cRow.enc)::(cStock.enc s).drop 3 from rfl,List.map_set]
 try rfl
end Go.Ev

/- The program's functions on stocks answer what the plain ones do: lemmas. -/
namespace Go.Ev
open Go Go.Proofs
set_option maxRecDepth 100000
-- FOLD2
theorem sAt_lt {s:HStock} {n:Bytes} (h:ile 0 (N.sAt s n)=true):0≤N.sAt s n∧N.sAt s n<s.rows.length∧N.sAt s n=(N.sAt s n).toNat∧(N.sAt s n).toNat<s.rows.length:=by
 have h0:=ile_of h
 rcases ixG_spec (N.isRow n) s.rows 0 with ⟨h1,_⟩ | ⟨a,x,b,h1,h2,_⟩
 ·have:N.sAt s n = -1:=h1
  omega
 ·have h2:N.sAt s n=0+(a.length:Int):=h2
  have h3:s.rows.length=a.length+(b.length+1):=by rw [h1]; simp
  omega
theorem nlt_ge {x:Int} (h:ilt x 0=false):ile 0 x=true:=ile_t (ilt_nof h)
def dSMake:Den:=den (aCons (vAgg cStock) (aOne (vAgg cQueue))) bNil (oTup (aCons (vAgg cStock) (aOne (vInt .i64)))) (fun a _=>fewRows a.1) fun a _=>(N.sMake a.1 a.2,())
noncomputable def eSMake:Env:=env Tryz.prog [(39,dQCheck),(40,dSAt),(41,dConcat cRow)] [] []
theorem q_sMake_ (s:HStock) (q:HQueue):evFn eSMake 11 ((aCons (vAgg cStock) (aOne (vAgg cQueue))).enc (s,q)) ([]) some =(
 let z2:=(RCod.dec cStock (RCod.enc cStock s));let z3:=(List.map (RCod.enc cRow) (HStock.rows s));let z0:=(cond (ile (0:Int) (N.sAt z2 (HQueue.name q))) (some {v:=V.tup [V.agg (RCod.enc cStock s),V.int .i64 (9:Int)],bx:=[]:DRes}) (cond (ile (8:Int) (↑(List.length z3):Int)) (some {v:=V.tup [V.agg (RCod.enc cStock s),V.int .i64 (12:Int)],bx:=[]:DRes}) (cond (Nat.ble (List.length (List.map (RCod.dec cRow) z3)+1) 100000) (some {v:=V.tup [V.agg (V.int .u64 (HStock.next s)::V.int .i64 (HStock.bytes s)::V.slc [.str,.int .u64,.int .u64,.str,.slc [.int .u64,.str,.str,.slc [.str,.int .u8,.int .i64,.str],.str,.int .u64,.int .u8,.bool,.bool]] (List.map (RCod.enc cRow) (N.flat [List.map (RCod.dec cRow) z3,List.map (RCod.dec cRow) [[V.str (HQueue.name q),V.int .u64 (HQueue.most q),V.int .u64 (HQueue.life q),V.str (HQueue.dead q),V.nils [.int .u64,.str,.str,.slc [.str,.int .u8,.int .i64,.str],.str,.int .u64,.int .u8,.bool,.bool]]]]))::risesCells (HStock.rises s)),V.int .i64 (0:Int)],bx:=[]:DRes}) (none))));let z1:=(List.getD z3 (Int.toNat (N.sAt z2 (HQueue.name q))) []);cond (N.qCheck q != (0:Int)) (some {v:=V.tup [V.agg (RCod.enc cStock s),V.int .i64 (N.qCheck q)],bx:=[]:DRes}) (cond (Nat.ble (List.length (List.map (RCod.dec cRow) z3)) 100) (cond (ile (0:Int) (N.sAt z2 (HQueue.name q))) (cond (decide ((0:Int)≤N.sAt z2 (HQueue.name q)∧N.sAt z2 (HQueue.name q)<(↑(List.length z3):Int))) (cond (V.toStr (List.getD z1 0 V.undef)==HQueue.name q && (V.toInt (List.getD z1 1 V.undef)==HQueue.most q && (V.toInt (List.getD z1 2 V.undef)==HQueue.life q && (V.toStr (List.getD z1 3 V.undef)==HQueue.dead q && true)))) (some {v:=V.tup [V.agg (RCod.enc cStock s),V.int .i64 (0:Int)],bx:=[]:DRes}) z0) (none)) z0) (none))):=by kernel_rfl
theorem q_sMake (s:HStock) (q:HQueue):type_of% (by have h:=q_sMake_ s q; dsimp only at h; exact h):=by
 have h:=q_sMake_ s q
 dsimp only at h
 exact h
theorem eqQ_and (a b:HQueue):(a.name==b.name && (a.most==b.most && (a.life==b.life && (a.dead==b.dead && true))))=N.eqQ a b:=by
 unfold N.eqQ
 cases a.name==b.name<;>cases a.most==b.most<;>cases a.life==b.life<;>cases a.dead==b.dead<;>rfl
theorem ok_sMake:FnOk Tryz.prog 11 dSMake:=by
 refine den_okF (env_ok (((TOk.nil _).cons ok_concatR).cons ok_sAt |>.cons ok_qCheck)) (E:=eSMake) Tryz.func11 [] (by kernel_rfl) none0 fun a _ h=>?_
 obtain ⟨s,q⟩:=a
 have h:s.rows.length≤100:=few_of h
 refine (q_sMake s q).trans ?_
 simp only [dec_encs,cStock.de,List.length_map,ble_t h,cond_true,ble_t (show s.rows.length+1≤100000 by omega)]
 show _=some (⟨.tup [.agg (cStock.enc (N.sMake s q).1),.int .i64 (N.sMake s q).2],[],[]⟩:DRes)
 unfold N.sMake
 cases h1:N.qCheck q != 0 with
 | true=>rfl
 | false =>
  have hcat:∀ x:List V,cRow.dec x=(⟨q,[]⟩:HRow)→(N.flat [s.rows,List.map cRow.dec [x]]).map cRow.enc=(s.rows++[(⟨q,[]⟩:HRow)]).map cRow.enc:=fun x hx=>by
   rw [flat_two,List.map_cons,List.map_nil,hx]
  cases h2:ile 0 (N.sAt s q.name) with
  | true =>
   obtain ⟨g1,g2,g3,g4⟩:=sAt_lt h2
   simp only [decide_eq_true (show 0≤N.sAt s q.name∧N.sAt s q.name<(s.rows.length:Int) from ⟨g1,g2⟩),cond_true,cond_false,row_get s _ g4]
   have e:=eqQ_and (N.rowK s (N.sAt s q.name)).q q
   cases h3:N.eqQ (N.rowK s (N.sAt s q.name)).q q with
   | true =>
    rw [h3] at e
    show cond ((N.rowK s (N.sAt s q.name)).q.name==q.name && _) _ _=_
    rw [show (V.toInt (List.getD (RCod.enc cRow (s.rows.getD (N.sAt s q.name).toNat row0)) 1 V.undef)==q.most && (V.toInt (List.getD (RCod.enc cRow (s.rows.getD (N.sAt s q.name).toNat row0)) 2 V.undef)==q.life && (V.toStr (List.getD (RCod.enc cRow (s.rows.getD (N.sAt s q.name).toNat row0)) 3 V.undef)==q.dead && true)))=((N.rowK s (N.sAt s q.name)).q.most==q.most && ((N.rowK s (N.sAt s q.name)).q.life==q.life && ((N.rowK s (N.sAt s q.name)).q.dead==q.dead && true))) from rfl,e]
    try rfl
   | false =>
    rw [h3] at e
    show cond ((N.rowK s (N.sAt s q.name)).q.name==q.name && _) _ _=_
    rw [show (V.toInt (List.getD (RCod.enc cRow (s.rows.getD (N.sAt s q.name).toNat row0)) 1 V.undef)==q.most && (V.toInt (List.getD (RCod.enc cRow (s.rows.getD (N.sAt s q.name).toNat row0)) 2 V.undef)==q.life && (V.toStr (List.getD (RCod.enc cRow (s.rows.getD (N.sAt s q.name).toNat row0)) 3 V.undef)==q.dead && true)))=((N.rowK s (N.sAt s q.name)).q.most==q.most && ((N.rowK s (N.sAt s q.name)).q.life==q.life && ((N.rowK s (N.sAt s q.name)).q.dead==q.dead && true))) from rfl,e]
    try rfl
  | false =>
   simp only [cond_false]
   cases h3:ile 8 s.rows.length with
   | true=>rfl
   | false =>
    simp only [cond_false]
    rw [hcat]
    ·rfl
    ·rfl
def dSDrop:Den:=den (aCons (vAgg cStock) (aOne vStr)) bNil (oTup (aCons (vAgg cStock) (aOne (vInt .i64)))) (fun a _=>fewRows a.1) fun a _=>(N.sDrop a.1 a.2,())
noncomputable def eSDrop:Env:=env Tryz.prog [(40,dSAt),(41,dConcat cRow)] [] []
theorem q_sDrop_ (s:HStock) (n:Bytes):evFn eSDrop 53 ((aCons (vAgg cStock) (aOne vStr)).enc (s,n)) ([]) some =(
 let z0:=(List.map (RCod.enc cRow) (HStock.rows s));let z1:=(RCod.dec cStock (RCod.enc cStock s));let z2:=(List.drop (Int.toNat (IntKind.wrap .i64 (N.sAt z1 n+(1:Int)))) (List.take (List.length z0) z0));cond (Nat.ble (List.length (List.map (RCod.dec cRow) z0)) 100) (cond (ilt (N.sAt z1 n) (0:Int)) (some {v:=V.tup [V.agg (RCod.enc cStock s),V.int .i64 (10:Int)],bx:=[]:DRes}) (cond (decide ((0:Int)≤N.sAt z1 n∧N.sAt z1 n≤(↑(List.length z0):Int))) (cond (decide ((0:Int)≤IntKind.wrap .i64 (N.sAt z1 n+(1:Int))∧IntKind.wrap .i64 (N.sAt z1 n+(1:Int))≤(↑(List.length z0):Int))) (cond (Nat.ble (List.length (List.map (RCod.dec cRow) (List.drop 0 (List.take (Int.toNat (N.sAt z1 n)) z0)))+(List.length (List.map (RCod.dec cRow) z2)+0)) 100000) (some {v:=V.tup [V.agg (V.int .u64 (HStock.next s)::V.int .i64 (HStock.bytes s)::V.slc [.str,.int .u64,.int .u64,.str,.slc [.int .u64,.str,.str,.slc [.str,.int .u8,.int .i64,.str],.str,.int .u64,.int .u8,.bool,.bool]] (List.map (RCod.enc cRow) (N.flat [List.map (RCod.dec cRow) (List.drop 0 (List.take (Int.toNat (N.sAt z1 n)) z0)),List.map (RCod.dec cRow) z2]))::risesCells (HStock.rises s)),V.int .i64 (0:Int)],bx:=[]:DRes}) (none)) (none)) (none))) (none)):=by kernel_rfl
theorem q_sDrop (s:HStock) (n:Bytes):type_of% (by have h:=q_sDrop_ s n; dsimp only at h; exact h):=by
 have h:=q_sDrop_ s n
 dsimp only at h
 exact h
theorem ok_sDrop:FnOk Tryz.prog 53 dSDrop:=by
 refine den_okF (env_ok (((TOk.nil _).cons ok_concatR).cons ok_sAt)) (E:=eSDrop) Tryz.func53 [] (by kernel_rfl) none0 fun a _ h=>?_
 obtain ⟨s,n⟩:=a
 have h:s.rows.length≤100:=few_of h
 refine (q_sDrop s n).trans ?_
 simp only [dec_encs,cStock.de,List.length_map,ble_t h,cond_true]
 show _=some (⟨.tup [.agg (cStock.enc (N.sDrop s n).1),.int .i64 (N.sDrop s n).2],[],[]⟩:DRes)
 unfold N.sDrop
 cases h1:ilt (N.sAt s n) 0 with
 | true=>rfl
 | false =>
  obtain ⟨g1,g2,g3,g4⟩:=sAt_lt (nlt_ge h1)
  have w:IntKind.wrap .i64 (N.sAt s n+1)=N.sAt s n+1:=wr_i64 (by omega) (by omega)
  have e1:(s.rows.map cRow.enc).take s.rows.length=s.rows.map cRow.enc:=List.take_of_length_le (by simp)
  have e2:(N.sAt s n+1).toNat=(N.sAt s n).toNat+1:=by omega
  simp only [w,decide_eq_true (show 0≤N.sAt s n∧N.sAt s n≤(s.rows.length:Int) from ⟨g1,by omega⟩),decide_eq_true (show 0≤N.sAt s n+1∧N.sAt s n+1≤(s.rows.length:Int) from ⟨by omega,by omega⟩),
   List.drop_zero,e1,e2,← List.map_take,← List.map_drop,dec_encs,flat_two,cond_true,cond_false]
  rw [ble_t (by rw [List.length_map,List.length_map,List.length_take,List.length_drop]; omega)]
  try rfl
noncomputable def eSAt1:Env:=env Tryz.prog [(40,dSAt)] [] []
def dSLine:Den:=den (aCons (vAgg cStock) (aOne vStr)) bNil (oV (vAgg cLine)) (fun a _=>fewRows a.1) fun a _=>(N.sLine a.1 a.2,())
theorem q_sLine (s:HStock) (n:Bytes):evFn eSAt1 14 ((aCons (vAgg cStock) (aOne vStr)).enc (s,n)) ([]) some =
 cond (Nat.ble (List.length (List.map (RCod.dec cRow) (List.map (RCod.enc cRow) (HStock.rows s)))) 100) (cond (ilt (N.sAt (RCod.dec cStock (RCod.enc cStock s)) n) (0:Int)) (some {v:=V.agg [V.slc [.int .u64,.str,.str,.slc [.str,.int .u8,.int .i64,.str],.str,.int .u64,.int .u8,.bool,.bool] []],bx:=[]:DRes}) (cond (decide ((0:Int)≤N.sAt (RCod.dec cStock (RCod.enc cStock s)) n∧N.sAt (RCod.dec cStock (RCod.enc cStock s)) n<(↑(List.length (List.map (RCod.enc cRow) (HStock.rows s))):Int))) (some {v:=V.agg [V.slc [.int .u64,.str,.str,.slc [.str,.int .u8,.int .i64,.str],.str,.int .u64,.int .u8,.bool,.bool] (V.toRows (List.getD (List.getD (List.map (RCod.enc cRow) (HStock.rows s)) (Int.toNat (N.sAt (RCod.dec cStock (RCod.enc cStock s)) n)) []) 4 V.undef))],bx:=[]:DRes}) (none))) (none):=by kernel_rfl
theorem ok_sLine:FnOk Tryz.prog 14 dSLine:=by
 refine den_okF (env_ok ((TOk.nil _).cons ok_sAt)) (E:=eSAt1) Tryz.func14 [] (by kernel_rfl) none0 fun a _ h=>?_
 obtain ⟨s,n⟩:=a
 have h:s.rows.length≤100:=few_of h
 refine (q_sLine s n).trans ?_
 simp only [dec_encs,cStock.de,List.length_map,ble_t h,cond_true]
 show _=some (⟨.agg (cLine.enc (N.sLine s n)),[],[]⟩:DRes)
 unfold N.sLine
 cases h1:ilt (N.sAt s n) 0 with
 | true=>rfl
 | false =>
  obtain ⟨g1,g2,g3,g4⟩:=sAt_lt (nlt_ge h1)
  simp only [decide_eq_true (show 0≤N.sAt s n∧N.sAt s n<(s.rows.length:Int) from ⟨g1,g2⟩),cond_true,cond_false,row_get s _ g4]
  try rfl
def dSNext:Den:=den (aOne (vAgg cStock)) bNil (oV (vInt .u64)) (fun _ _=>true) fun s _=>(s.next,())
theorem q_sNext (s:HStock):evFn eKNone 26 ((aOne (vAgg cStock)).enc s) ([]) some =
 some {v:=V.int .u64 (HStock.next s),bx:=[]:DRes}:=by kernel_rfl
theorem ok_sNext:FnOk Tryz.prog 26 dSNext:=den_okF (env_ok (TOk.nil _)) (E:=eKNone) Tryz.func26 [] (by kernel_rfl) none0 fun s _ _=>q_sNext s
theorem risesRows_eq (a:A16 HRise):risesRows a=a.list.map cRise.enc:=rfl
theorem rise_get (a:A16 HRise) (k:Nat) (hk:k<16):(risesRows a).getD k []=cRise.enc (a.list.getD k rise0):=by
 rw [risesRows_eq]
 simp [List.getD_eq_getElem?_getD,List.getElem?_eq_getElem (show k<a.list.length from hk)]
end Go.Ev

/- The program's functions on stocks answer what the plain ones do: lemmas. -/
namespace Go.Ev
open Go Go.Proofs
set_option maxRecDepth 100000
-- FOLD2
theorem all_get {α:Type} {f:List V→α} {p:α→Bool} {r:List (List V)} (h:(r.map f).all p=true) {i:Nat} (hi:i<r.length):p (f (r.getD i []))=true :=
 List.all_eq_true.1 h _ (List.mem_map_of_mem (by rw [List.getD_eq_getElem?_getD,List.getElem?_eq_getElem hi]; exact List.getElem_mem hi))
theorem line_of_row (r:List V):List.map cItem.dec (V.toRows (List.getD r 4 V.undef))=(cRow.dec r).line:=rfl
theorem kept_of_row (r:List V):List.map cMail.dec (V.toRows (List.getD r 1 V.undef))=(cRise.dec r).kept:=rfl
theorem goodLine_of {l:List HItem} (h:goodLine l=true):l.length≤100∧l.all smallI=true∧(l.all fun x=>N.okM x.mail)=true:=by
 obtain ⟨h1,h2⟩:=bcond h
 obtain ⟨h2,h3⟩:=bcond h2
 exact ⟨ble_of h1,h2,h3⟩
theorem lSize_le:∀ l:List HItem,0≤N.lSize l∧N.lSize l≤1570*l.length
 | []=>⟨Int.le_refl _,Int.le_refl _⟩
 | x::r=>by
  have h1:=mailSize_le x.mail
  have h2:=lSize_le r
  simp only [N.lSize,List.length_cons]
  omega
theorem rowsSize_le:∀ l:List HRow,l.all goodRow=true→0≤N.rowsSize l∧N.rowsSize l≤157000*l.length
 | [],_=>⟨Int.le_refl _,Int.le_refl _⟩
 | x::r,h=>by
  rw [List.all_cons,Bool.and_eq_true] at h
  have h1:=lSize_le x.line
  have h2:=rowsSize_le r h.2
  have h3:=(goodLine_of h.1).1
  simp only [N.rowsSize,List.length_cons]
  omega
theorem rise_few {x:HRise} (h:goodRise x=true):x.kept.length≤16:=by
 obtain ⟨_,h2⟩:=bcond h
 obtain ⟨h2,_⟩:=bcond h2
 exact ble_of h2
theorem risesSize_le:∀ l:List HRise,l.all goodRise=true→0≤N.risesSize l∧N.risesSize l≤25120*l.length
 | [],_=>⟨Int.le_refl _,Int.le_refl _⟩
 | x::r,h=>by
  rw [List.all_cons,Bool.and_eq_true] at h
  have h1:=riseSize_le x.kept
  have h2:=risesSize_le r h.2
  have h3:=rise_few h.1
  simp only [N.risesSize,List.length_cons]
  omega
def goodS (s:HStock):Bool:=cond (goodRows s) (goodRises s) false
def dSSize:Den:=den (aOne (vAgg cStock)) bNil (oV (vInt .i64)) (fun s _=>goodS s) fun s _=>(N.sSize s,())
def schSSize3:SSch:={ fr:=[(1,.ptr 10000 0 0),(3,.int .i64),(9,.slc [.str,.int .u64,.int .u64,.str,.slc [.int .u64,.str,.str,.slc [.str,.int .u8,.int .i64,.str],.str,.int .u64,.int .u8,.bool,.bool]]),(10,.int .i64),(11,.int .i64)],tab:=[(10000,.row [] xsStock)] }
def gSSize3:List Leaf→(Ex→St→Option R)→Option R
 | [.i i3,.r r9,.i i10,.i i11,.c cx0],K=>cond (i10==r9.length) (cond (i11==0) (cond (Nat.ble r9.length 100) (cond (i3==0) (cond ((r9.map cRow.dec).all goodRow) (K (.exit 0) { fr:=[(1,.ptr 10000 0 0 0),(3,.int .i64 (0+N.rowsSize ((r9).map cRow.dec)))],tab:=[(10000,.var (etaRow xsStock 0 cx0))] }) none) none) none) none) none
 | _,_=>none
def schSSize8:SSch:={ fr:=[(3,.int .i64),(22,.rowA xsRises),(23,.int .i64)],tab:=[] }
def gSSize8:List Leaf→(Ex→St→Option R)→Option R
 | [.i i3,.c c22,.i i23],K=>cond (i23==0) (cond (ile 0 i3) (cond (ile i3 100000000) (cond (((leafRows c22 0).map cRise.dec).all goodOkR) (K (.exit 2) { fr:=[(3,.int .i64 (i3+N.risesSize (((leafRows c22 0)).map cRise.dec)))],tab:=[] }) none) none) none) none
 | _,_=>none
noncomputable def eSSize:Env:=env Tryz.prog [(65,dLSizeI),(66,dRiseSize)] [(8,loopF schSSize8 gSSize8),(3,loopF schSSize3 gSSize3)] [(3,[(0,[1,3,9,10,11]),(1,[1,3]),(1000,[2])]),(8,[(0,[3,22,23]),(3,[3]),(1000,[2])])]
theorem q_sSize (s:HStock):evFn eSSize 21 ((aOne (vAgg cStock)).enc s) ([]) some =
 cond ((↑(List.length (List.map (RCod.enc cRow) (HStock.rows s))):Int)==(↑(List.length (List.map (RCod.enc cRow) (HStock.rows s))):Int)) (cond (Nat.ble (List.length (List.map (RCod.enc cRow) (HStock.rows s))) 100) (cond (List.all (List.map (RCod.dec cRow) (List.map (RCod.enc cRow) (HStock.rows s))) goodRow) (cond (ile (0:Int) ((0:Int)+N.rowsSize (List.map (RCod.dec cRow) (List.map (RCod.enc cRow) (HStock.rows s))))) (cond (ile ((0:Int)+N.rowsSize (List.map (RCod.dec cRow) (List.map (RCod.enc cRow) (HStock.rows s)))) (100000000:Int)) (cond (List.all (List.map (RCod.dec cRise) (risesRows (HStock.rises s))) goodOkR) (some {v:=V.int .i64 ((0:Int)+N.rowsSize (List.map (RCod.dec cRow) (List.map (RCod.enc cRow) (HStock.rows s)))+N.risesSize (List.map (RCod.dec cRise) (risesRows (HStock.rises s)))),bx:=[]:DRes}) (none)) (none)) (none)) (none)) (none)) (none):=by kernel_rfl
theorem q_sSizeR3 (i3:Int) (r9:List (List V)) (i10:Int) (i11:Int) (cx0:List V) (K:Ex→St→Option R):evRound eSSize 21 3 { fr:=[(1,.ptr 10000 0 0 0),(3,.int .i64 i3),(9,.slc [.str,.int .u64,.int .u64,.str,.slc [.int .u64,.str,.str,.slc [.str,.int .u8,.int .i64,.str],.str,.int .u64,.int .u8,.bool,.bool]] r9),(10,.int .i64 i10),(11,.int .i64 i11)],tab:=[(10000,.var (etaRow xsStock 0 cx0))] } K =
 cond (ilt i11 i10) (cond (decide ((0:Int)≤i11∧i11<(↑(List.length r9):Int))) (cond (bif Nat.ble (List.length (List.map (RCod.dec cItem) (V.toRows (List.getD (List.getD r9 (Int.toNat i11) []) 4 V.undef)))) 1000 then List.all (List.map (RCod.dec cItem) (V.toRows (List.getD (List.getD r9 (Int.toNat i11) []) 4 V.undef))) fun x=>N.okM (HItem.mail x) else false) (K Ex.normal {fr:=[(1,V.ptr 10000 0 0 0),(3,V.int .i64 (IntKind.wrap .i64 (i3+N.lSize (List.map (RCod.dec cItem) (V.toRows (List.getD (List.getD r9 (Int.toNat i11) []) 4 V.undef)))))),(9,V.slc [.str,.int .u64,.int .u64,.str,.slc [.int .u64,.str,.str,.slc [.str,.int .u8,.int .i64,.str],.str,.int .u64,.int .u8,.bool,.bool]] r9),(10,V.int .i64 i10),(11,V.int .i64 (IntKind.wrap .i64 (i11+(1:Int))))],tab:=[(10000,Box.var (etaRow xsStock 0 cx0))]:St}) (none)) (none)) (K (Ex.exit 0) {fr:=[(1,V.ptr 10000 0 0 0),(3,V.int .i64 i3)],tab:=[(10000,Box.var (etaRow xsStock 0 cx0))]:St}):=by kernel_rfl
theorem q_sSizeR8 (i3:Int) (c22:List V) (i23:Int) (K:Ex→St→Option R):evRound eSSize 21 8 { fr:=[(3,.int .i64 i3),(22,.agg (etaRow xsRises 0 c22)),(23,.int .i64 i23)],tab:=[] } K =
 cond (ilt i23 (16:Int)) (cond (decide ((0:Int)≤i23∧i23<(↑(16:Nat):Int))) (cond (goodOkR (RCod.dec cRise (List.getD (leafRows c22 0) (Int.toNat i23) []))) (K Ex.normal {fr:=[(3,V.int .i64 (IntKind.wrap .i64 (i3+N.riseSize (List.map (RCod.dec cMail) (V.toRows (List.getD (List.getD (leafRows c22 0) (Int.toNat i23) []) 1 V.undef)))))),(22,V.agg (etaRow xsRises 0 c22)),(23,V.int .i64 (IntKind.wrap .i64 (i23+(1:Int))))],tab:=[]:St}) (none)) (none)) (K (Ex.exit 2) {fr:=[(3,V.int .i64 i3)],tab:=[]:St}):=by kernel_rfl
theorem ok_sSize_3:RoundsOk eSSize 21 3:=by
 refine rounds_of rfl fun l K q h=>?_
 unfold gSSize3 at h
 split at h
 ·rename_i i3 r9 i10 i11 cx0
  have h1:=(cond_none h).1; replace h:=(cond_none h).2; have h2:=(cond_none h).1; replace h:=(cond_none h).2; have h3:=(cond_none h).1; replace h:=(cond_none h).2; have h4:=(cond_none h).1; replace h:=(cond_none h).2; have h5:=(cond_none h).1; replace h:=(cond_none h).2
  have e1:=ieq_of h1
  have e2:=ieq_of h2
  subst e1 e2
  have h3:r9.length≤100:=ble_of h3
  have e3:=ieq_of h4
  subst e3
  have main:=range_ind (E:=eSSize) (f:=21) (id:=3) (A:=Int) (r9) (fun a i=>{ fr:=[(1,.ptr 10000 0 0 0),(3,.int .i64 a),(9,.slc [.str,.int .u64,.int .u64,.str,.slc [.int .u64,.str,.str,.slc [.str,.int .u8,.int .i64,.str],.str,.int .u64,.int .u8,.bool,.bool]] r9),(10,.int .i64 r9.length),(11,.int .i64 i)],tab:=[(10000,.var (etaRow xsStock 0 cx0))] }) (fun a i=>0≤a∧a≤157000*i)
   (fun a rows K=>K (.exit 0) { fr:=[(1,.ptr 10000 0 0 0),(3,.int .i64 (a+N.rowsSize ((rows).map cRow.dec)))],tab:=[(10000,.var (etaRow xsStock 0 cx0))] }) (fun a i ha hi=>?_) (fun a ha=>?_) (0) 0 (Int.le_refl _) (by omega) ⟨Int.le_refl _,by decide⟩ K q (by assumption)
  ·exact main
  ·have hq:=fun K=>q_sSizeR3 (a) (r9) (r9.length) ((i:Int)) (cx0) K
   have t1:ilt (i:Int) r9.length=true:=ilt_t (by omega)
   have t2:decide ((0:Int)≤i∧(i:Int)<r9.length)=true:=decide_eq_true (by omega)
   have t3:IntKind.wrap .i64 ((i:Int)+1)=(i:Int)+1:=wr_i64 (by omega) (by omega)
   have hr:goodLine (cRow.dec (r9.getD i [])).line=true:=all_get h5 hi
   obtain ⟨hr1,_,hr3⟩:=goodLine_of hr
   have hb:=lSize_le (cRow.dec (r9.getD i [])).line
   have hb2:1570*((cRow.dec (r9.getD i [])).line.length:Int)≤157000:=by omega
   simp only [Int.toNat_natCast,line_of_row] at hq
   simp only [t1,t2,t3,cond_true] at hq
   refine .inl ⟨a+N.lSize (cRow.dec (r9.getD i [])).line,⟨by omega,by omega⟩,fun K=>?_,fun K=>?_⟩
   ·rw [hq,ble_t (show (cRow.dec (r9.getD i [])).line.length≤1000 by omega),hr3,wr_i64 (n:=a+_) (by omega) (by omega)]
    try rfl
   ·show K _ { fr:=[(1,.ptr 10000 0 0 0),(3,.int .i64 (a+(N.lSize (cRow.dec (r9.getD i [])).line+N.rowsSize ((r9.drop (i+1)).map cRow.dec))))],tab:=_ }=_
    rw [Int.add_assoc]
  ·refine ⟨.exit 0,_,by simp,fun K=>?_,fun K=>rfl⟩
   rw [q_sSizeR3]
   simp (disch:=omega) only [evs,List.map_nil]
   show _=K _ { fr:=[(1,.ptr 10000 0 0 0),(3,.int .i64 (a+0))],tab:=_ }
   rw [Int.add_zero]
   try rfl
 ·cases h
theorem ok_sSize_8:RoundsOk eSSize 21 8:=by
 refine rounds_of rfl fun l K q h=>?_
 unfold gSSize8 at h
 split at h
 ·rename_i i3 c22 i23
  have h2:=(cond_none h).1; replace h:=(cond_none h).2; have h4:=(cond_none h).1; replace h:=(cond_none h).2; have h5:=(cond_none h).1; replace h:=(cond_none h).2; have h6:=(cond_none h).1; replace h:=(cond_none h).2
  have e2:=ieq_of h2
  subst e2
  have main:=range_ind (E:=eSSize) (f:=21) (id:=8) (A:=Int) ((leafRows c22 0)) (fun a i=>{ fr:=[(3,.int .i64 a),(22,.agg (etaRow xsRises 0 c22)),(23,.int .i64 i)],tab:=[] }) (fun a i=>0≤a∧a≤100000000+25120*i)
   (fun a rows K=>K (.exit 2) { fr:=[(3,.int .i64 (a+N.risesSize ((rows).map cRise.dec)))],tab:=[] }) (fun a i ha hi=>?_) (fun a ha=>?_) (i3) 0 (Int.le_refl _) (by omega) ⟨ile_of h4,by have:=ile_of h5; omega⟩ K q (by assumption)
  ·exact main
  ·have hq:=fun K=>q_sSizeR8 (a) (c22) ((i:Int)) K
   have hi:i<16:=hi
   have t1:ilt (i:Int) (16:Int)=true:=ilt_t (by omega)
   have t2:decide ((0:Int)≤i∧(i:Int)<((16:Nat):Int))=true:=decide_eq_true (by omega)
   have t3:IntKind.wrap .i64 ((i:Int)+1)=(i:Int)+1:=wr_i64 (by omega) (by omega)
   have hr:goodOkR (cRise.dec ((leafRows c22 0).getD i []))=true:=all_get h6 hi
   have hr2:=rise_few (bcond hr).1
   have hb:=riseSize_le (cRise.dec ((leafRows c22 0).getD i [])).kept
   simp only [Int.toNat_natCast,kept_of_row] at hq
   simp only [t1,t2,t3,cond_true] at hq
   refine .inl ⟨a+N.riseSize (cRise.dec ((leafRows c22 0).getD i [])).kept,⟨by omega,by omega⟩,fun K=>?_,fun K=>?_⟩
   ·rw [hq]
    show cond (goodOkR (cRise.dec ((leafRows c22 0).getD i []))) _ _=_
    rw [hr,wr_i64 (n:=a+_) (by omega) (by omega)]
    try rfl
   ·show K _ { fr:=[(3,.int .i64 (a+(N.riseSize (cRise.dec ((leafRows c22 0).getD i [])).kept+N.risesSize (((leafRows c22 0).drop (i+1)).map cRise.dec))))],tab:=[] }=_
    rw [Int.add_assoc]
  ·refine ⟨.exit 2,{ fr:=[(3,.int .i64 a)],tab:=[] },by simp,fun K=>q_sSizeR8 a c22 16 K,fun K=>?_⟩
   show K _ { fr:=[(3,.int .i64 (a+0))],tab:=[] }=_
   rw [Int.add_zero]
 ·cases h
theorem ok_sSize (hN:FnOk Tryz.prog 95 dOutNum):FnOk Tryz.prog 21 dSSize:=by
 refine den_okF (env_ok (((TOk.nil _).cons (ok_riseSize hN)).cons (ok_lSizeI hN))) (E:=eSSize) Tryz.func21 [3,8] (by kernel_rfl) (two2 ok_sSize_3 ok_sSize_8) fun a b hp=>?_
 obtain ⟨hp,h3⟩:=bcond hp
 obtain ⟨h1,h2⟩:=bcond hp
 have h3:a.rises.list.all goodOkR=true:=h3
 have h4:=rowsSize_le a.rows h2
 have h5:=ble_of h1
 refine (q_sSize a).trans ?_
 simp only [dec_encs,risesRows_eq,List.length_map,Int.zero_add,beq_self_eq_true,cond_true,h1,h2,h3,ile_t h4.1,ile_t (show N.rowsSize a.rows≤100000000 by omega)]
 try rfl
theorem sSize_le {s:HStock} (h:goodS s=true):0≤N.sSize s∧N.sSize s≤20000000:=by
 obtain ⟨hp,h3⟩:=bcond h
 obtain ⟨h1,h2⟩:=bcond hp
 have h4:=rowsSize_le s.rows h2
 have h5:=ble_of h1
 have h6:=risesSize_le s.rises.list (List.all_eq_true.2 fun x hx=>(bcond (List.all_eq_true.1 h3 x hx)).1)
 rw [A16.list_len] at h6
 unfold N.sSize
 omega
def goodB (s:HStock):Bool:=cond (goodS s) (cond (ile 0 s.bytes) (ile s.bytes 9223372036854775807) false) false
theorem goodB_of {s:HStock} (h:goodB s=true):goodS s=true∧0≤s.bytes∧s.bytes≤9223372036854775807:=by
 obtain ⟨h1,h2⟩:=bcond h
 obtain ⟨h2,h3⟩:=bcond h2
 exact ⟨h1,ile_of h2,ile_of h3⟩
def dSRoom:Den:=den (aOne (vAgg cStock)) bNil (oV (vInt .i64)) (fun s _=>goodB s) fun s _=>(N.sRoom s,())
noncomputable def eSRoom:Env:=env Tryz.prog [(21,dSSize)] [] []
theorem q_sRoom (s:HStock):evFn eSRoom 20 ((aOne (vAgg cStock)).enc s) ([]) some =
 cond (goodS (RCod.dec cStock (RCod.enc cStock s))) (some {v:=V.int .i64 (IntKind.wrap .i64 (HStock.bytes s-N.sSize (RCod.dec cStock (RCod.enc cStock s)))),bx:=[]:DRes}) (none):=by kernel_rfl
theorem ok_sRoom (hN:FnOk Tryz.prog 95 dOutNum):FnOk Tryz.prog 20 dSRoom:=by
 refine den_okF (env_ok ((TOk.nil _).cons (ok_sSize hN))) (E:=eSRoom) Tryz.func20 [] (by kernel_rfl) none0 fun s _ hp=>?_
 obtain ⟨h1,h2,h3⟩:=goodB_of hp
 have h4:=sSize_le h1
 refine (q_sRoom s).trans ?_
 simp only [cStock.de,h1,cond_true]
 rw [wr_i64 (by omega) (by omega)]
 try rfl
end Go.Ev

/- The program's functions on stocks answer what the plain ones do: lemmas. -/
namespace Go.Ev
open Go Go.Proofs
set_option maxRecDepth 100000
-- FOLD2
theorem getD_mem {α:Type} {l:List α} {k:Nat} (d:α) (h:k<l.length):l.getD k d∈l:=by
 rw [List.getD_eq_getElem?_getD,List.getElem?_eq_getElem h]; exact List.getElem_mem h
theorem rowK_good {s:HStock} (h:s.rows.all goodRow=true) {k:Nat} (hk:k<s.rows.length):goodLine (s.rows.getD k row0).line=true:=List.all_eq_true.1 h _ (getD_mem row0 hk)
theorem smallL_good {l:List HItem} (h:goodLine l=true):smallL l=true:=by
 obtain ⟨h1,h2,_⟩:=goodLine_of h
 unfold smallL
 rw [ble_t (show l.length≤1000 by omega),h2]; rfl
theorem goodW_t {s:HStock} {k:Int} (h:s.rows.length≤100) (h1:0≤k) (h2:k<s.rows.length):goodW s k=true:=by
 unfold goodW fewRows
 rw [ble_t h,ile_t h1,ilt_t h2]; rfl
theorem dAnd {k:Int} {n:Nat} (h1:0≤k) (h2:k<n):decide (0≤k∧k<(n:Int))=true:=decide_eq_true ⟨h1,h2⟩
theorem tot_cond (b:Bool) (x y:HRise):cond b (HRise.total x) (HRise.total y)=HRise.total (cond b x y):=by cases b<;>rfl
theorem kept_cond (b:Bool) (x y:HRise):cond b (List.map (RCod.enc cMail) (HRise.kept x)) (List.map (RCod.enc cMail) (HRise.kept y))=List.map (RCod.enc cMail) (HRise.kept (cond b x y)):=by cases b<;>rfl
theorem setCells_eq (a:A16 HRise) (i:Nat) (v:HRise):setCells a i v=risesCells (a.set i v):=by
 unfold setCells risesCells A16.set
 simp only [tot_cond,kept_cond]
 try rfl
theorem setA_eq (a:A16 HRise) (i:Nat) (v:HRise):setA a i v=a.set i v:=by
 unfold setA A16.set
 simp only [kept_cond,tot_cond,dec_encs]
theorem put_okR {x:HRise} (h:goodOkR x=true) {m:HMail} (hm:N.okM m=true) (hs:smallM m=true):goodOkR (N.risePut x m).1=true:=by
 unfold N.risePut
 cases N.mailCheck m != 0 with
 | true=>exact h
 | false =>
  cases ht:x.total==18446744073709551615 with
  | true=>exact h
  | false =>
   have ht:x.total ≠ 18446744073709551615:=fun e=>by rw [e] at ht; cases ht
   obtain ⟨h1,h2⟩:=bcond h
   obtain ⟨h3,h4⟩:=bcond h1
   obtain ⟨h3,h5⟩:=bcond h3
   obtain ⟨h4,h6⟩:=bcond h4
   have h3:=ile_of h3
   have h5:=ile_of h5
   have h4:=ble_of h4
   have a1:∀ p:HMail→Bool,x.kept.all p=true→p m=true→((x.kept++[m]).drop (x.kept.length+1-16)).all p=true:=fun p hp hq =>
    List.all_eq_true.2 fun y hy=>by
     rcases List.mem_append.1 (List.mem_of_mem_drop hy) with hy | hy
     ·exact List.all_eq_true.1 hp y hy
     ·rw [List.mem_singleton.1 hy]; exact hq
   simp only [cond_false]
   unfold goodOkR goodRise
   simp only
   rw [a1 smallM h6 hs,a1 N.okM h2 hm,ile_t (show 0≤x.total+1 by omega),ile_t (show x.total+1≤18446744073709551615 by omega),ble_t (by rw [List.length_drop,List.length_append]; simp only [List.length_cons,List.length_nil]; omega)]
   try rfl
theorem first_mem (l:List HItem):(N.lFirst l).1=mail0∨∃ x∈l,(N.lFirst l).1=x.mail:=by
 unfold N.lFirst N.lTold
 rcases ix_spec N.isReady l 0 (Int.le_refl _) with ⟨h1,_⟩ | ⟨k,h1,h2,_⟩
 ·rw [h1]; exact .inl rfl
 ·rw [h1,ilt_f (by omega)]
  exact .inr ⟨_,getD_mem item0 (show (0+(k:Int)).toNat<l.length by omega),rfl⟩
theorem first_ok {l:List HItem} (h:(l.all fun x=>N.okM x.mail)=true):N.okM (N.lFirst l).1=true:=by
 rcases first_mem l with e | ⟨x,hx,e⟩
 ·rw [e]; rfl
 ·rw [e]; exact List.all_eq_true.1 h x hx
theorem mail_le_line:∀ {l:List HItem} {x:HItem},x∈l→N.mailSize x.mail≤N.lSize l
 | y::r,x,h=>by
  have h1:=lSize_le r
  have h2:=mailSize_le y.mail
  simp only [N.lSize]
  rcases List.mem_cons.1 h with rfl | h
  ·omega
  ·have:=mail_le_line h
   omega
theorem line_le_rows:∀ {l:List HRow} {x:HRow},x∈l→N.lSize x.line≤N.rowsSize l
 | y::r,x,h=>by
  have h0:∀ l:List HRow,0≤N.rowsSize l:=fun l=>by
   induction l with
   | nil=>exact Int.le_refl _
   | cons z t ih=>have:=lSize_le z.line; simp only [N.rowsSize]; omega
  have h1:=h0 r
  have h2:=lSize_le y.line
  simp only [N.rowsSize]
  rcases List.mem_cons.1 h with rfl | h
  ·omega
  ·have:=line_le_rows h
   omega
theorem first_le {s:HStock} {k:Nat} (hk:k<s.rows.length) (hg:goodS s=true):N.mailSize (N.lFirst (s.rows.getD k row0).line).1≤N.sSize s:=by
 obtain ⟨hp,h3⟩:=bcond hg
 have h6:=risesSize_le s.rises.list (List.all_eq_true.2 fun x hx=>(bcond (List.all_eq_true.1 h3 x hx)).1)
 have h7:=(sSize_le hg).1
 rcases first_mem (s.rows.getD k row0).line with e | ⟨x,hx,e⟩
 ·rw [e]; exact h7
 ·rw [e]
  have h1:=mail_le_line hx
  have h2:=line_le_rows (getD_mem row0 hk)
  unfold N.sSize
  omega
theorem remove_len (l:List HItem) (id:Int):(N.lRemove l id).1.length≤l.length:=by
 unfold N.lRemove
 cases ilt (N.ix (N.isId id) l 0) 0 with
 | true=>exact Nat.le_refl _
 | false =>
  show (N.cutAt l _).length≤_
  unfold N.cutAt
  rw [List.length_append,List.length_take,List.length_drop]
  omega
theorem numM_ok {m:HMail} {n:Int} (h:N.okM m=true) (h1:0≤n) (h2:n<18446744073709551616):N.okM (N.numM m n)=true:=by
 unfold N.okM at h ⊢
 obtain ⟨_,h⟩:=bcond h
 show cond (cond (ile 0 n) (ilt n _) false) _ false=true
 rw [ile_t h1,ilt_t h2]; exact h
def dSLend:Den:=den (aCons (vAgg cStock) (aOne vStr)) bNil (oTup (aCons (vAgg cStock) (aCons (vAgg cItem) (aOne vBool)))) (fun a _=>goodRows a.1) fun a _=>(N.sLend a.1 a.2,())
noncomputable def eSLend:Env:=env Tryz.prog [(40,dSAt),(51,dLLend),(50,dSWith)] [] []
theorem q_sLend_ (s:HStock) (n:Bytes):evFn eSLend 16 ((aCons (vAgg cStock) (aOne vStr)).enc (s,n)) ([]) some =(
 let z2:=(List.map (RCod.enc cRow) (HStock.rows s));let z1:=(RCod.dec cStock (RCod.enc cStock s));let z0:=(List.map (RCod.dec cItem) (V.toRows (List.getD (List.getD z2 (Int.toNat (N.sAt z1 n)) []) 4 V.undef)));cond (Nat.ble (List.length (List.map (RCod.dec cRow) z2)) 100) (cond (ilt (N.sAt z1 n) (0:Int)) (some {v:=V.tup [V.agg (RCod.enc cStock s),V.agg [V.int .u64 (0:Int),V.str [],V.str [],V.slc [.str,.int .u8,.int .i64,.str] [],V.str [],V.int .u64 (0:Int),V.int .u8 (0:Int),V.bool false,V.bool false],V.bool false],bx:=[]:DRes}) (cond (decide ((0:Int)≤N.sAt z1 n∧N.sAt z1 n<(↑(List.length z2):Int))) (cond (smallL z0) (cond (goodW z1 (N.sAt z1 n)) (some {v:=V.tup [V.agg (RCod.enc cStock (N.sWith z1 (N.sAt z1 n) (List.map (RCod.dec cItem) (List.map (RCod.enc cItem) (Prod.fst (N.lLend z0)))))),V.agg (RCod.enc cItem (Prod.fst (Prod.snd (N.lLend z0)))),V.bool (Prod.snd (Prod.snd (N.lLend z0)))],bx:=[]:DRes}) (none)) (none)) (none))) (none)):=by kernel_rfl
theorem q_sLend (s:HStock) (n:Bytes):type_of% (by have h:=q_sLend_ s n; dsimp only at h; exact h):=by
 have h:=q_sLend_ s n
 dsimp only at h
 exact h
theorem ok_sLend:FnOk Tryz.prog 16 dSLend:=by
 refine den_okF (env_ok ((((TOk.nil _).cons ok_sWith).cons ok_lLend).cons ok_sAt)) (E:=eSLend) Tryz.func16 [] (by kernel_rfl) (none0) fun a b hp=>?_
 obtain ⟨s,n⟩:=a
 obtain ⟨hp,hr⟩:=bcond (show goodRows s=true from hp)
 have hp':=ble_of hp
 refine (q_sLend s n).trans ?_
 simp only [line_of_row,dec_encs,cStock.de,List.length_map,hp,cond_true]
 show _=some (⟨.tup [.agg (cStock.enc (N.sLend s n).1),.agg (cItem.enc (N.sLend s n).2.1),.bool (N.sLend s n).2.2],[],[]⟩:DRes)
 unfold N.sLend
 cases h1:ilt (N.sAt s n) 0 with
 | true=>rfl
 | false =>
  obtain ⟨g1,g2,g3,g4⟩:=sAt_lt (nlt_ge h1)
  have hl:=rowK_good hr g4
  simp only [dAnd g1 g2,row_get s _ g4,cRow.de,smallL_good hl,goodW_t hp' g1 g2,cond_true,cond_false]
  try rfl
def dSBack:Den:=den (aCons (vAgg cStock) (aCons vStr (aOne (vInt .u64)))) bNil (oTup (aCons (vAgg cStock) (aOne (vInt .i64)))) (fun a _=>goodRows a.1) fun a _=>(N.sBack a.1 a.2.1 a.2.2,())
noncomputable def eSBack:Env:=env Tryz.prog [(40,dSAt),(71,dLBack),(50,dSWith)] [] []
theorem q_sBack (s:HStock) (n:Bytes) (id:Int):evFn eSBack 24 ((aCons (vAgg cStock) (aCons vStr (aOne (vInt .u64)))).enc (s,n,id)) ([]) some =
 cond (Nat.ble (List.length (List.map (RCod.dec cRow) (List.map (RCod.enc cRow) (HStock.rows s)))) 100) (cond (ilt (N.sAt (RCod.dec cStock (RCod.enc cStock s)) n) (0:Int)) (some {v:=V.tup [V.agg (RCod.enc cStock s),V.int .i64 (10:Int)],bx:=[]:DRes}) (cond (decide ((0:Int)≤N.sAt (RCod.dec cStock (RCod.enc cStock s)) n∧N.sAt (RCod.dec cStock (RCod.enc cStock s)) n<(↑(List.length (List.map (RCod.enc cRow) (HStock.rows s))):Int))) (cond (smallL (List.map (RCod.dec cItem) (V.toRows (List.getD (List.getD (List.map (RCod.enc cRow) (HStock.rows s)) (Int.toNat (N.sAt (RCod.dec cStock (RCod.enc cStock s)) n)) []) 4 V.undef)))) (cond (goodW (RCod.dec cStock (RCod.enc cStock s)) (N.sAt (RCod.dec cStock (RCod.enc cStock s)) n)) (some {v:=V.tup [V.agg (RCod.enc cStock (N.sWith (RCod.dec cStock (RCod.enc cStock s)) (N.sAt (RCod.dec cStock (RCod.enc cStock s)) n) (List.map (RCod.dec cItem) (List.map (RCod.enc cItem) (Prod.fst (N.lBack (List.map (RCod.dec cItem) (V.toRows (List.getD (List.getD (List.map (RCod.enc cRow) (HStock.rows s)) (Int.toNat (N.sAt (RCod.dec cStock (RCod.enc cStock s)) n)) []) 4 V.undef))) id)))))),V.int .i64 (Prod.snd (N.lBack (List.map (RCod.dec cItem) (V.toRows (List.getD (List.getD (List.map (RCod.enc cRow) (HStock.rows s)) (Int.toNat (N.sAt (RCod.dec cStock (RCod.enc cStock s)) n)) []) 4 V.undef))) id))],bx:=[]:DRes}) (none)) (none)) (none))) (none):=by kernel_rfl
theorem ok_sBack:FnOk Tryz.prog 24 dSBack:=by
 refine den_okF (env_ok ((((TOk.nil _).cons ok_sWith).cons ok_lBack).cons ok_sAt)) (E:=eSBack) Tryz.func24 [] (by kernel_rfl) (none0) fun a b hp=>?_
 obtain ⟨s,n,id⟩:=a
 obtain ⟨hp,hr⟩:=bcond (show goodRows s=true from hp)
 have hp':=ble_of hp
 refine (q_sBack s n id).trans ?_
 simp only [line_of_row,dec_encs,cStock.de,List.length_map,hp,cond_true]
 show _=some (⟨.tup [.agg (cStock.enc (N.sBack s n id).1),.int .i64 (N.sBack s n id).2],[],[]⟩:DRes)
 unfold N.sBack
 cases h1:ilt (N.sAt s n) 0 with
 | true=>rfl
 | false =>
  obtain ⟨g1,g2,g3,g4⟩:=sAt_lt (nlt_ge h1)
  have hl:=rowK_good hr g4
  simp only [dAnd g1 g2,row_get s _ g4,cRow.de,smallL_good hl,goodW_t hp' g1 g2,cond_true,cond_false]
  try rfl
def dSRemove:Den:=den (aCons (vAgg cStock) (aCons vStr (aOne (vInt .u64)))) bNil (oTup (aCons (vAgg cStock) (aCons (vAgg cItem) (aOne (vInt .i64))))) (fun a _=>goodRows a.1) fun a _=>(N.sRemove a.1 a.2.1 a.2.2,())
noncomputable def eSRemove:Env:=env Tryz.prog [(40,dSAt),(47,dLRemove),(50,dSWith)] [] []
theorem q_sRemove_ (s:HStock) (n:Bytes) (id:Int):evFn eSRemove 58 ((aCons (vAgg cStock) (aCons vStr (aOne (vInt .u64)))).enc (s,n,id)) ([]) some =(
 let z2:=(List.map (RCod.enc cRow) (HStock.rows s));let z1:=(RCod.dec cStock (RCod.enc cStock s));let z0:=(List.map (RCod.dec cItem) (V.toRows (List.getD (List.getD z2 (Int.toNat (N.sAt z1 n)) []) 4 V.undef)));cond (Nat.ble (List.length (List.map (RCod.dec cRow) z2)) 100) (cond (ilt (N.sAt z1 n) (0:Int)) (some {v:=V.tup [V.agg (RCod.enc cStock s),V.agg [V.int .u64 (0:Int),V.str [],V.str [],V.slc [.str,.int .u8,.int .i64,.str] [],V.str [],V.int .u64 (0:Int),V.int .u8 (0:Int),V.bool false,V.bool false],V.int .i64 (10:Int)],bx:=[]:DRes}) (cond (decide ((0:Int)≤N.sAt z1 n∧N.sAt z1 n<(↑(List.length z2):Int))) (cond (smallL z0) (cond (goodW z1 (N.sAt z1 n)) (some {v:=V.tup [V.agg (RCod.enc cStock (N.sWith z1 (N.sAt z1 n) (List.map (RCod.dec cItem) (List.map (RCod.enc cItem) (Prod.fst (N.lRemove z0 id)))))),V.agg (RCod.enc cItem (Prod.fst (Prod.snd (N.lRemove z0 id)))),V.int .i64 (Prod.snd (Prod.snd (N.lRemove z0 id)))],bx:=[]:DRes}) (none)) (none)) (none))) (none)):=by kernel_rfl
theorem q_sRemove (s:HStock) (n:Bytes) (id:Int):type_of% (by have h:=q_sRemove_ s n id; dsimp only at h; exact h):=by
 have h:=q_sRemove_ s n id
 dsimp only at h
 exact h
theorem ok_sRemove:FnOk Tryz.prog 58 dSRemove:=by
 refine den_okF (env_ok ((((TOk.nil _).cons ok_sWith).cons ok_lRemove).cons ok_sAt)) (E:=eSRemove) Tryz.func58 [] (by kernel_rfl) (none0) fun a b hp=>?_
 obtain ⟨s,n,id⟩:=a
 obtain ⟨hp,hr⟩:=bcond (show goodRows s=true from hp)
 have hp':=ble_of hp
 refine (q_sRemove s n id).trans ?_
 simp only [line_of_row,dec_encs,cStock.de,List.length_map,hp,cond_true]
 show _=some (⟨.tup [.agg (cStock.enc (N.sRemove s n id).1),.agg (cItem.enc (N.sRemove s n id).2.1),.int .i64 (N.sRemove s n id).2.2],[],[]⟩:DRes)
 unfold N.sRemove
 cases h1:ilt (N.sAt s n) 0 with
 | true=>rfl
 | false =>
  obtain ⟨g1,g2,g3,g4⟩:=sAt_lt (nlt_ge h1)
  have hl:=rowK_good hr g4
  simp only [dAnd g1 g2,row_get s _ g4,cRow.de,smallL_good hl,goodW_t hp' g1 g2,cond_true,cond_false]
  try rfl
def dSRaise:Den:=den (aCons (vAgg cStock) (aCons (vInt .i64) (aOne (vAgg cMail)))) bNil (oTup (aCons (vAgg cStock) (aOne (vInt .i64)))) (fun a _=>cond (goodB a.1) (cond (N.okM a.2.2) (smallM a.2.2) false) false) fun a _=>(N.sRaise a.1 a.2.1 a.2.2,())
noncomputable def eSRaise:Env:=env Tryz.prog [(136,dRisePut),(21,dSSize),(66,dRiseSize)] [] []
theorem q_sRaise_ (s:HStock) (p:Int) (m:HMail):evFn eSRaise 60 ((aCons (vAgg cStock) (aCons (vInt .i64) (aOne (vAgg cMail)))).enc (s,p,m)) ([]) some =(
 let z1:=(List.getD (risesRows (HStock.rises s)) (Int.toNat p) []);let z0:=(N.risePut (RCod.dec cRise z1) (RCod.dec cMail (RCod.enc cMail m)));let z2:=(decide ((0:Int)≤p∧p<(↑(16:Nat):Int)));let z3:=(some {v:=V.tup [V.agg (RCod.enc cStock s),V.int .i64 (7:Int)],bx:=[]:DRes});cond (ilt p (0:Int)) z3 (cond (ile (16:Int) p) z3 (cond z2 (cond (bif goodRise (RCod.dec cRise z1) then smallM (RCod.dec cMail (RCod.enc cMail m)) else false) (cond (Prod.snd z0 != (0:Int)) (some {v:=V.tup [V.agg (RCod.enc cStock s),V.int .i64 (Prod.snd z0)],bx:=[]:DRes}) (cond z2 (cond (goodS (RCod.dec cStock (RCod.enc cStock s))) (cond (goodOkR (RCod.dec cRise z1)) (cond (goodOkR (RCod.dec cRise (RCod.enc cRise (Prod.fst z0)))) (cond (ilt (HStock.bytes s) (IntKind.wrap .i64 (IntKind.wrap .i64 (N.sSize (RCod.dec cStock (RCod.enc cStock s))-N.riseSize (List.map (RCod.dec cMail) (V.toRows (List.getD z1 1 V.undef))))+N.riseSize (List.map (RCod.dec cMail) (List.map (RCod.enc cMail) (HRise.kept (Prod.fst z0))))))) (some {v:=V.tup [V.agg (RCod.enc cStock s),V.int .i64 (12:Int)],bx:=[]:DRes}) (cond z2 (some {v:=V.tup [V.agg (V.int .u64 (HStock.next s)::V.int .i64 (HStock.bytes s)::V.slc [.str,.int .u64,.int .u64,.str,.slc [.int .u64,.str,.str,.slc [.str,.int .u8,.int .i64,.str],.str,.int .u64,.int .u8,.bool,.bool]] (List.map (RCod.enc cRow) (HStock.rows s))::setCells (HStock.rises s) (Int.toNat p) (Prod.fst z0)),V.int .i64 (0:Int)],bx:=[]:DRes}) (none))) (none)) (none)) (none)) (none))) (none)) (none)))):=by kernel_rfl
theorem q_sRaise (s:HStock) (p:Int) (m:HMail):type_of% (by have h:=q_sRaise_ s p m; dsimp only at h; exact h):=by
 have h:=q_sRaise_ s p m
 dsimp only at h
 exact h
theorem ok_sRaise (hN:FnOk Tryz.prog 95 dOutNum):FnOk Tryz.prog 60 dSRaise:=by
 refine den_okF (env_ok ((((TOk.nil _).cons (ok_riseSize hN)).cons (ok_sSize hN)).cons ok_risePut)) (E:=eSRaise) Tryz.func60 [] (by kernel_rfl) (none0) fun a b hp=>?_
 obtain ⟨s,p,m⟩:=a
 obtain ⟨hg,hm⟩:=bcond (show cond (goodB s) (cond (N.okM m) (smallM m) false) false=true from hp)
 obtain ⟨hm1,hm2⟩:=bcond hm
 obtain ⟨hs,hb1,hb2⟩:=goodB_of hg
 have hz:=sSize_le hs
 refine (q_sRaise s p m).trans ?_
 simp only [kept_of_row,dec_encs,cStock.de,cMail.de,cRise.de,hs,hm2,cond_true]
 show _=some (⟨.tup [.agg (cStock.enc (N.sRaise s p m).1),.int .i64 (N.sRaise s p m).2],[],[]⟩:DRes)
 unfold N.sRaise
 cases h1:ilt p 0 with
 | true=>rfl
 | false =>
  cases h2:ile 16 p with
  | true=>rfl
  | false =>
   have g1:=ilt_nof h1
   have g2:=ile_nof h2
   have hk:goodOkR (s.rises.list.getD p.toNat rise0)=true:=List.all_eq_true.1 (bcond hs).2 _ (getD_mem rise0 (show p.toNat<s.rises.list.length by rw [A16.list_len]; omega))
   obtain ⟨hk1,hk2⟩:=bcond hk
   simp only [dAnd g1 (show p<((16:Nat):Int) by omega),rise_get s.rises p.toNat (by omega),cRise.de,hk,hk1,cond_true,cond_false]
   cases h3:(N.risePut (N.riseK s p) m).2 != 0 with
   | true =>
    have h3:((N.risePut (s.rises.list.getD p.toNat rise0) m).2 != 0)=true:=h3
    rw [h3]; rfl
   | false =>
    have h3' : ((N.risePut (s.rises.list.getD p.toNat rise0) m).2 != 0)=false:=h3
    have hx:goodOkR (N.risePut (s.rises.list.getD p.toNat rise0) m).1=true:=put_okR hk hm1 hm2
    have e1:=riseSize_le (s.rises.list.getD p.toNat rise0).kept
    have e2:=rise_few hk1
    have e3:=riseSize_le (N.risePut (s.rises.list.getD p.toNat rise0) m).1.kept
    have e4:=rise_few (bcond hx).1
    rw [h3',hx,wr_i64 (n:=N.sSize s-_) (by omega) (by omega),wr_i64 (by omega) (by omega)]
    simp only [cond_true,cond_false]
    show cond (ilt s.bytes (N.sSize s-N.riseSize (N.riseK s p).kept+N.riseSize (N.risePut (N.riseK s p) m).1.kept)) _ _=_
    cases h4:ilt s.bytes (N.sSize s-N.riseSize (N.riseK s p).kept+N.riseSize (N.risePut (N.riseK s p) m).1.kept) with
    | true=>rfl
    | false =>
     simp only [cond_false,setCells_eq]
     try rfl
def goodN (s:HStock):Bool:=cond (goodB s) (cond (ile 0 s.next) (ilt s.next 18446744073709551616) false) false
def dSPut:Den:=den (aCons (vAgg cStock) (aCons vStr (aOne (vAgg cMail)))) bNil (oTup (aCons (vAgg cStock) (aCons (vInt .u64) (aCons (vAgg cMail) (aOne (vInt .i64)))))) (fun a _=>cond (goodN a.1) (cond (N.okM a.2.2) (smallM a.2.2) false) false) fun a _=>(N.sPut a.1 a.2.1 a.2.2,())
noncomputable def eSPut:Env:=env Tryz.prog [(40,dSAt),(45,dMailCheck),(15,dLLen),(46,dLFirst),(47,dLRemove),(48,dMailSize),(20,dSRoom),(49,dLAdd),(50,dSWith)] [] []
theorem q_sPut_ (s:HStock) (n:Bytes) (m:HMail):evFn eSPut 13 ((aCons (vAgg cStock) (aCons vStr (aOne (vAgg cMail)))).enc (s,n,m)) ([]) some =(
 let z10:=(List.map (RCod.enc cRow) (HStock.rows s));let z3:=(RCod.dec cStock (RCod.enc cStock s));let z2:=(List.map (RCod.dec cItem) (V.toRows (List.getD (List.getD z10 (Int.toNat (N.sAt z3 n)) []) 4 V.undef)));let z13:=(List.map (RCod.dec cItem) (List.map (RCod.enc cItem) (Prod.fst (N.lRemove z2 (HMail.id (Prod.fst (N.lFirst z2)))))));let z4:=(List.map (fun p=>[V.str (HPair.key p),V.int .u8 (HPair.kind p),V.int .i64 (HPair.num p),V.str (HPair.text p)]) (HMail.head m));let z0:=(N.lPut z13 {mail:={id:=HStock.next s,shop:=HMail.shop m,key:=HMail.key m,head:=List.map (fun r=>{key:=V.toStr (List.getD r 0 .undef),kind:=V.toInt (List.getD r 1 .undef),num:=V.toInt (List.getD r 2 .undef),text:=V.toStr (List.getD r 3 .undef):HPair}) z4,body:=HMail.body m,due:=HMail.due m,hops:=HMail.hops m:HMail},lent:=false,again:=false:HItem});let z1:=(N.lPut z2 {mail:={id:=HStock.next s,shop:=HMail.shop m,key:=HMail.key m,head:=List.map (fun r=>{key:=V.toStr (List.getD r 0 .undef),kind:=V.toInt (List.getD r 1 .undef),num:=V.toInt (List.getD r 2 .undef),text:=V.toStr (List.getD r 3 .undef):HPair}) z4,body:=HMail.body m,due:=HMail.due m,hops:=HMail.hops m:HMail},lent:=false,again:=false:HItem});let z5:=(some {v:=V.tup [V.agg (RCod.enc cStock s),V.int .u64 (0:Int),V.agg [V.int .u64 (0:Int),V.str [],V.str [],V.slc [.str,.int .u8,.int .i64,.str] [],V.str [],V.int .u64 (0:Int),V.int .u8 (0:Int)],V.int .i64 (12:Int)],bx:=[]:DRes});let z6:=(N.mailSize {id:=HStock.next s,shop:=HMail.shop m,key:=HMail.key m,head:=List.map (fun r=>{key:=V.toStr (List.getD r 0 .undef),kind:=V.toInt (List.getD r 1 .undef),num:=V.toInt (List.getD r 2 .undef),text:=V.toStr (List.getD r 3 .undef):HPair}) z4,body:=HMail.body m,due:=HMail.due m,hops:=HMail.hops m:HMail});let z7:=(N.okM {id:=HStock.next s,shop:=HMail.shop m,key:=HMail.key m,head:=List.map (fun r=>{key:=V.toStr (List.getD r 0 .undef),kind:=V.toInt (List.getD r 1 .undef),num:=V.toInt (List.getD r 2 .undef),text:=V.toStr (List.getD r 3 .undef):HPair}) z4,body:=HMail.body m,due:=HMail.due m,hops:=HMail.hops m:HMail});let z8:=(N.sWith z3 (N.sAt z3 n) (List.map (RCod.dec cItem) (List.map (RCod.enc cItem) (Prod.fst z0))));let z9:=(N.sWith z3 (N.sAt z3 n) (List.map (RCod.dec cItem) (List.map (RCod.enc cItem) (Prod.fst z1))));let z11:=(RCod.enc cMail (Prod.fst (N.lFirst z2)));let z12:=(decide ((0:Int)≤N.sAt z3 n∧N.sAt z3 n<(↑(List.length z10):Int)));cond (Nat.ble (List.length (List.map (RCod.dec cRow) z10)) 100) (cond (ilt (N.sAt z3 n) (0:Int)) (some {v:=V.tup [V.agg (RCod.enc cStock s),V.int .u64 (0:Int),V.agg [V.int .u64 (0:Int),V.str [],V.str [],V.slc [.str,.int .u8,.int .i64,.str] [],V.str [],V.int .u64 (0:Int),V.int .u8 (0:Int)],V.int .i64 (10:Int)],bx:=[]:DRes}) (cond (N.mailCheck (RCod.dec cMail (RCod.enc cMail m)) != (0:Int)) (some {v:=V.tup [V.agg (RCod.enc cStock s),V.int .u64 (0:Int),V.agg [V.int .u64 (0:Int),V.str [],V.str [],V.slc [.str,.int .u8,.int .i64,.str] [],V.str [],V.int .u64 (0:Int),V.int .u8 (0:Int)],V.int .i64 (N.mailCheck (RCod.dec cMail (RCod.enc cMail m)))],bx:=[]:DRes}) (cond (HStock.next s==(0:Int)) (some {v:=V.tup [V.agg (RCod.enc cStock s),V.int .u64 (0:Int),V.agg [V.int .u64 (0:Int),V.str [],V.str [],V.slc [.str,.int .u8,.int .i64,.str] [],V.str [],V.int .u64 (0:Int),V.int .u8 (0:Int)],V.int .i64 (18:Int)],bx:=[]:DRes}) (cond z12 (cond z12 (cond (ile (V.toInt (List.getD (List.getD z10 (Int.toNat (N.sAt z3 n)) []) 1 V.undef)) (IntKind.wrap .u64 (↑(List.length z2):Int))) (cond (smallL z2) (cond (!Prod.snd (N.lFirst z2)) z5 (cond (smallL z2) (cond z7 (cond (goodB z3) (cond (N.okM (RCod.dec cMail z11)) (cond (ilt (IntKind.wrap .i64 (N.sRoom z3+N.mailSize (RCod.dec cMail z11))) z6) z5 (cond (bif Nat.ble (List.length z13) 1000 then smallM {id:=HStock.next s,shop:=HMail.shop m,key:=HMail.key m,head:=List.map (fun r=>{key:=V.toStr (List.getD r 0 .undef),kind:=V.toInt (List.getD r 1 .undef),num:=V.toInt (List.getD r 2 .undef),text:=V.toStr (List.getD r 3 .undef):HPair}) z4,body:=HMail.body m,due:=HMail.due m,hops:=HMail.hops m:HMail} else false) (cond (Prod.snd z0 != (0:Int)) (some {v:=V.tup [V.agg (RCod.enc cStock s),V.int .u64 (0:Int),V.agg [V.int .u64 (0:Int),V.str [],V.str [],V.slc [.str,.int .u8,.int .i64,.str] [],V.str [],V.int .u64 (0:Int),V.int .u8 (0:Int)],V.int .i64 (Prod.snd z0)],bx:=[]:DRes}) (cond (goodW z3 (N.sAt z3 n)) (some {v:=V.tup [V.agg (V.int .u64 (IntKind.wrap .u64 (HStock.next z8+(1:Int)))::V.int .i64 (HStock.bytes z8)::V.slc [.str,.int .u64,.int .u64,.str,.slc [.int .u64,.str,.str,.slc [.str,.int .u8,.int .i64,.str],.str,.int .u64,.int .u8,.bool,.bool]] (List.map (RCod.enc cRow) (HStock.rows z8))::risesCells (HStock.rises z8)),V.int .u64 (HStock.next s),V.agg z11,V.int .i64 (0:Int)],bx:=[]:DRes}) (none))) (none))) (none)) (none)) (none)) (none))) (none)) (cond z7 (cond (goodB z3) (cond (ilt (IntKind.wrap .i64 (N.sRoom z3+N.mailSize {id:=(0:Int),shop:=[],key:=[],head:=List.map (fun r=>{key:=V.toStr (List.getD r 0 .undef),kind:=V.toInt (List.getD r 1 .undef),num:=V.toInt (List.getD r 2 .undef),text:=V.toStr (List.getD r 3 .undef):HPair}) [],body:=[],due:=(0:Int),hops:=(0:Int):HMail})) z6) z5 (cond (bif Nat.ble (List.length z2) 1000 then smallM {id:=HStock.next s,shop:=HMail.shop m,key:=HMail.key m,head:=List.map (fun r=>{key:=V.toStr (List.getD r 0 .undef),kind:=V.toInt (List.getD r 1 .undef),num:=V.toInt (List.getD r 2 .undef),text:=V.toStr (List.getD r 3 .undef):HPair}) z4,body:=HMail.body m,due:=HMail.due m,hops:=HMail.hops m:HMail} else false) (cond (Prod.snd z1 != (0:Int)) (some {v:=V.tup [V.agg (RCod.enc cStock s),V.int .u64 (0:Int),V.agg [V.int .u64 (0:Int),V.str [],V.str [],V.slc [.str,.int .u8,.int .i64,.str] [],V.str [],V.int .u64 (0:Int),V.int .u8 (0:Int)],V.int .i64 (Prod.snd z1)],bx:=[]:DRes}) (cond (goodW z3 (N.sAt z3 n)) (some {v:=V.tup [V.agg (V.int .u64 (IntKind.wrap .u64 (HStock.next z9+(1:Int)))::V.int .i64 (HStock.bytes z9)::V.slc [.str,.int .u64,.int .u64,.str,.slc [.int .u64,.str,.str,.slc [.str,.int .u8,.int .i64,.str],.str,.int .u64,.int .u8,.bool,.bool]] (List.map (RCod.enc cRow) (HStock.rows z9))::risesCells (HStock.rises z9)),V.int .u64 (HStock.next s),V.agg [V.int .u64 (0:Int),V.str [],V.str [],V.slc [.str,.int .u8,.int .i64,.str] [],V.str [],V.int .u64 (0:Int),V.int .u8 (0:Int)],V.int .i64 (0:Int)],bx:=[]:DRes}) (none))) (none))) (none)) (none))) (none)) (none))))) (none)):=by kernel_rfl
theorem q_sPut (s:HStock) (n:Bytes) (m:HMail):type_of% (by have h:=q_sPut_ s n m; dsimp only at h; exact h):=by
 have h:=q_sPut_ s n m
 dsimp only at h
 exact h
theorem ok_sPut (hN:FnOk Tryz.prog 95 dOutNum):FnOk Tryz.prog 13 dSPut:=by
 refine den_okF (env_ok ((((((((((TOk.nil _).cons ok_sWith).cons ok_lAdd).cons (ok_sRoom hN)).cons (ok_mailSize hN)).cons ok_lRemove).cons ok_lFirst).cons ok_lLen).cons ok_mailCheck).cons ok_sAt)) (E:=eSPut) Tryz.func13 [] (by kernel_rfl) (none0) fun a b hp=>?_
 obtain ⟨s,n,m⟩:=a
 obtain ⟨hg,hm⟩:=bcond (show cond (goodN s) (cond (N.okM m) (smallM m) false) false=true from hp)
 obtain ⟨hg,hn⟩:=bcond hg
 obtain ⟨hn1,hn2⟩:=bcond hn
 have hn1:=ile_of hn1
 have hn2:=ilt_of hn2
 obtain ⟨hm1,hm2⟩:=bcond hm
 obtain ⟨hs,hb1,hb2⟩:=goodB_of hg
 have hz:=sSize_le hs
 obtain ⟨hp1,hr⟩:=bcond (bcond hs).1
 have hp':=ble_of hp1
 have hmn:=numM_ok hm1 hn1 hn2
 have hsm:smallM (N.numM m s.next)=true:=hm2
 refine (q_sPut s n m).trans ?_
 simp only [line_of_row,pairs_enc,dec_encs,cStock.de,cMail.de,List.length_map,hp1,cond_true,numM_dec,hmn,hsm,hg]
 show _=some (⟨.tup [.agg (cStock.enc (N.sPut s n m).1),.int .u64 (N.sPut s n m).2.1,.agg (cMail.enc (N.sPut s n m).2.2.1),.int .i64 (N.sPut s n m).2.2.2],[],[]⟩:DRes)
 unfold N.sPut
 cases h1:ilt (N.sAt s n) 0 with
 | true=>rfl
 | false =>
 cases h2:N.mailCheck m != 0 with
 | true=>rfl
 | false =>
 cases h3:s.next==0 with
 | true=>rfl
 | false =>
  obtain ⟨g1,g2,g3,g4⟩:=sAt_lt (nlt_ge h1)
  have hl:=rowK_good hr g4
  obtain ⟨hl1,hl2,hl3⟩:=goodLine_of hl
  have hw:=goodW_t hp' g1 g2
  have hf:=first_le g4 hs
  have hfo:=first_ok hl3
  have hf0:=(mailSize_le (N.lFirst (s.rows.getD (N.sAt s n).toNat row0).line).1).1
  have hlen:=remove_len (s.rows.getD (N.sAt s n).toNat row0).line (N.lFirst (s.rows.getD (N.sAt s n).toNat row0).line).1.id
  have wl:IntKind.wrap .u64 ((s.rows.getD (N.sAt s n).toNat row0).line.length:Int)=(s.rows.getD (N.sAt s n).toNat row0).line.length:=wr_u64 (by omega) (by omega)
  have wr:∀ z:Int,0≤z→z≤N.sSize s→IntKind.wrap .i64 (N.sRoom s+z)=N.sRoom s+z:=fun z z1 z2=>by
   unfold N.sRoom; exact wr_i64 (by omega) (by omega)
  simp only [dAnd g1 g2,row_get s _ g4,cRow.de,smallL_good hl,wl,hfo,hw,ble_t (show (s.rows.getD (N.sAt s n).toNat row0).line.length≤1000 by omega),ble_t (show (N.lRemove (s.rows.getD (N.sAt s n).toNat row0).line (N.lFirst (s.rows.getD (N.sAt s n).toNat row0).line).1.id).1.length≤1000 by omega),wr _ hf0 hf,cond_true,cond_false]
  show cond (ile (N.rowK s (N.sAt s n)).q.most (N.rowK s (N.sAt s n)).line.length) _ _=_
  cases h4:ile (N.rowK s (N.sAt s n)).q.most (N.rowK s (N.sAt s n)).line.length with
  | true =>
   simp only [cond_true]
   show cond (!(N.lFirst (N.rowK s (N.sAt s n)).line).2) _ _=_
   cases h5:(N.lFirst (N.rowK s (N.sAt s n)).line).2 with
   | false=>rfl
   | true =>
    simp only [Bool.not_true,cond_true,cond_false]
    unfold N.sPutE
    show cond (ilt (N.sRoom s+N.mailSize (N.lFirst (N.rowK s (N.sAt s n)).line).1) (N.mailSize (N.numM m s.next))) _ _=_
    cases h6:ilt (N.sRoom s+N.mailSize (N.lFirst (N.rowK s (N.sAt s n)).line).1) (N.mailSize (N.numM m s.next)) with
    | true=>rfl
    | false =>
     simp only [cond_false]
     show cond ((N.lPut (N.lRemove (N.rowK s (N.sAt s n)).line (N.lFirst (N.rowK s (N.sAt s n)).line).1.id).1 ⟨N.numM m s.next,false,false⟩).2 != 0) _ _=_
     cases h7:(N.lPut (N.lRemove (N.rowK s (N.sAt s n)).line (N.lFirst (N.rowK s (N.sAt s n)).line).1.id).1 ⟨N.numM m s.next,false,false⟩).2 != 0 with
     | true=>rfl
     | false=>rfl
  | false =>
   simp only [cond_false]
   unfold N.sPutE
   have e0:N.mailSize mail0=0:=rfl
   have w0:=wr 0 (by omega) (by omega)
   show cond (ilt (IntKind.wrap .i64 (N.sRoom s+N.mailSize mail0)) (N.mailSize (N.numM m s.next))) _ _=_
   rw [e0,w0]
   cases h6:ilt (N.sRoom s+0) (N.mailSize (N.numM m s.next)) with
   | true=>rfl
   | false =>
    simp only [cond_false]
    show cond ((N.lPut (N.rowK s (N.sAt s n)).line ⟨N.numM m s.next,false,false⟩).2 != 0) _ _=_
    cases h7:(N.lPut (N.rowK s (N.sAt s n)).line ⟨N.numM m s.next,false,false⟩).2 != 0 with
    | true=>rfl
    | false=>rfl
end Go.Ev

/- The program's functions on stocks answer what the plain ones do: lemmas. -/
namespace Go.Ev
open Go Go.Proofs
set_option maxRecDepth 100000
-- FOLD2
def N.wakeC (c:List V):Nat→List (List V)→List V
 | _,[]=>c
 | i,r::rs=>N.wakeC (cStock.enc (N.sWith (cStock.dec c) i (N.lWake (cRow.dec r).line))) (i+1) rs
def N.wakeS (s:HStock):Nat→List HRow→HStock
 | _,[]=>s
 | i,x::r=>N.wakeS (N.sWith s i (N.lWake x.line)) (i+1) r
theorem wakeC_enc:∀ (l:List HRow) (s:HStock) (i:Nat),N.wakeC (cStock.enc s) i (l.map cRow.enc)=cStock.enc (N.wakeS s i l)
 | [],s,i=>rfl
 | x::r,s,i=>by
  simp only [List.map_cons,N.wakeC,N.wakeS,cStock.de,cRow.de]
  exact wakeC_enc r _ (i+1)
theorem wakeS_eq:∀ (l a:List HRow) (s:HStock),s.rows=a++l→N.wakeS s a.length l=⟨s.next,s.bytes,a++l.map N.wakeRow,s.rises⟩
 | [],a,s,h=>by
  obtain ⟨n,b,rs,ri⟩:=s
  simp only at h
  subst h
  rfl
 | x::r,a,s,h=>by
  have e1:s.rows.getD a.length row0=x:=by rw [h]; simp [List.getD_eq_getElem?_getD]
  have e2:(N.sWith s a.length (N.lWake x.line)).rows=(a++[N.wakeRow x])++r:=by
   show s.rows.set (Int.toNat (a.length:Int)) ⟨(s.rows.getD (Int.toNat (a.length:Int)) row0).q,_⟩=_
   rw [Int.toNat_natCast,e1,h]
   simp [N.wakeRow]
  have ih:=wakeS_eq r (a++[N.wakeRow x]) (N.sWith s a.length (N.lWake x.line)) e2
  rw [List.length_append] at ih
  simp only [N.wakeS]
  rw [show a.length+1=a.length+[N.wakeRow x].length from rfl,ih]
  simp only [List.append_assoc,List.map_cons,List.singleton_append]
  try rfl
def dSWake:Den:=den (aOne (vAgg cStock)) bNil (oV (vAgg cStock)) (fun s _=>goodRows s) fun s _=>(N.sWake s,())
def schSWake:SSch:={ fr:=[(1,.ptr 10000 0 0),(2,.ptr 10001 0 0),(6,.slc [.str,.int .u64,.int .u64,.str,.slc [.int .u64,.str,.str,.slc [.str,.int .u8,.int .i64,.str],.str,.int .u64,.int .u8,.bool,.bool]]),(7,.int .i64),(8,.int .i64)],tab:=[(10000,.row [] xsStock),(10001,.row [] xsStock)] }
def gSWake:List Leaf→(Ex→St→Option R)→Option R
 | [.r r6,.i i7,.i i8,.c cx0,.c cx1],K=>cond (i7==r6.length) (cond (i8==0) (cond (Nat.ble r6.length 100) (cond (Nat.beq (cStock.dec cx0).rows.length r6.length) (cond (r6.all fun r=>Nat.ble (cRow.dec r).line.length 1000) (K (.exit 0) { fr:=[(1,.ptr 10000 0 0 0),(2,.ptr 10001 0 0 0)],tab:=[(10000,.var (etaRow xsStock 0 (N.wakeC (cx0,0).1 (cx0,0).2 (r6)))),(10001,.var (etaRow xsStock 0 cx1))] }) none) none) none) none) none
 | _,_=>none
noncomputable def eSWake:Env:={ env Tryz.prog [(138,dLWake),(50,dSWith)] [(2,loopF schSWake gSWake)] [(2,[(0,[1,2,6,7,8]),(1,[1,2]),(1000,[2])])] with fz:=true }
theorem q_sWake (s:HStock):evFn eSWake 62 ((aOne (vAgg cStock)).enc s) ([]) some =
 cond ((↑(List.length (List.map (RCod.enc cRow) (HStock.rows s))):Int)==(↑(List.length (List.map (RCod.enc cRow) (HStock.rows s))):Int)) (cond (Nat.ble (List.length (List.map (RCod.enc cRow) (HStock.rows s))) 100) (cond (Nat.beq (List.length (List.map (RCod.dec cRow) (List.map (RCod.enc cRow) (HStock.rows s)))) (List.length (List.map (RCod.enc cRow) (HStock.rows s)))) (cond (List.all (List.map (RCod.enc cRow) (HStock.rows s)) fun r=>Nat.ble (List.length (List.map (RCod.dec cItem) (V.toRows (List.getD r 4 .undef)))) 1000) (some {v:=V.agg (etaRow xsStock 0 (N.wakeC (RCod.enc cStock s) 0 (List.map (RCod.enc cRow) (HStock.rows s)))),bx:=[]:DRes}) (none)) (none)) (none)) (none):=by kernel_rfl
theorem q_sWakeR (r6:List (List V)) (i7:Int) (i8:Int) (cx0:List V) (cx1:List V) (K:Ex→St→Option R):evRound eSWake 62 2 { fr:=[(1,.ptr 10000 0 0 0),(2,.ptr 10001 0 0 0),(6,.slc [.str,.int .u64,.int .u64,.str,.slc [.int .u64,.str,.str,.slc [.str,.int .u8,.int .i64,.str],.str,.int .u64,.int .u8,.bool,.bool]] r6),(7,.int .i64 i7),(8,.int .i64 i8)],tab:=[(10000,.var (etaRow xsStock 0 cx0)),(10001,.var (etaRow xsStock 0 cx1))] } K =
 cond (ilt i8 i7) (cond (decide ((0:Int)≤i8∧i8<(↑(List.length r6):Int))) (cond (Nat.ble (List.length (List.map (RCod.dec cItem) (V.toRows (List.getD (List.getD r6 (Int.toNat i8) []) 4 V.undef)))) 1000) (cond (goodW (RCod.dec cStock cx0) i8) (K Ex.normal {fr:=[(1,V.ptr 10000 0 0 0),(2,V.ptr 10001 0 0 0),(6,V.slc [.str,.int .u64,.int .u64,.str,.slc [.int .u64,.str,.str,.slc [.str,.int .u8,.int .i64,.str],.str,.int .u64,.int .u8,.bool,.bool]] r6),(7,V.int .i64 i7),(8,V.int .i64 (IntKind.wrap .i64 (i8+(1:Int))))],tab:=[(10000,Box.var (RCod.enc cStock (N.sWith (RCod.dec cStock cx0) i8 (List.map (RCod.dec cItem) (List.map (RCod.enc cItem) (N.lWake (List.map (RCod.dec cItem) (V.toRows (List.getD (List.getD r6 (Int.toNat i8) []) 4 V.undef))))))))),(10001,Box.var (etaRow xsStock 0 cx1))]:St}) (none)) (none)) (none)) (K (Ex.exit 0) {fr:=[(1,V.ptr 10000 0 0 0),(2,V.ptr 10001 0 0 0)],tab:=[(10000,Box.var (etaRow xsStock 0 cx0)),(10001,Box.var (etaRow xsStock 0 cx1))]:St}):=by kernel_rfl
theorem ok_sWake_2:RoundsOk eSWake 62 2:=by
 refine rounds_of rfl fun l K q h=>?_
 unfold gSWake at h
 split at h
 ·rename_i r6 i7 i8 cx0 cx1
  have h1:=(cond_none h).1; replace h:=(cond_none h).2; have h2:=(cond_none h).1; replace h:=(cond_none h).2; have h3:=(cond_none h).1; replace h:=(cond_none h).2; have h4:=(cond_none h).1; replace h:=(cond_none h).2; have h5:=(cond_none h).1; replace h:=(cond_none h).2
  have e1:=ieq_of h1
  have e2:=ieq_of h2
  subst e1 e2
  have h3:r6.length≤100:=ble_of h3
  have main:=range_ind (E:=eSWake) (f:=62) (id:=2) (A:=List V × Nat) (r6) (fun a i=>{ fr:=[(1,.ptr 10000 0 0 0),(2,.ptr 10001 0 0 0),(6,.slc [.str,.int .u64,.int .u64,.str,.slc [.int .u64,.str,.str,.slc [.str,.int .u8,.int .i64,.str],.str,.int .u64,.int .u8,.bool,.bool]] r6),(7,.int .i64 r6.length),(8,.int .i64 i)],tab:=[(10000,.var (etaRow xsStock 0 a.1)),(10001,.var (etaRow xsStock 0 cx1))] }) (fun a i=>a.2=i∧(cStock.dec a.1).rows.length=r6.length)
   (fun a rows K=>K (.exit 0) { fr:=[(1,.ptr 10000 0 0 0),(2,.ptr 10001 0 0 0)],tab:=[(10000,.var (etaRow xsStock 0 (N.wakeC a.1 a.2 (rows)))),(10001,.var (etaRow xsStock 0 cx1))] }) (fun a i ha hi=>?_) (fun a ha=>?_) ((cx0,0)) 0 (Int.le_refl _) (by omega) ⟨rfl,nbeq_of h4⟩ K q (by assumption)
  ·exact main
  ·have hq:=fun K=>q_sWakeR (r6) (r6.length) ((i:Int)) (a.1) (cx1) K
   have t1:ilt (i:Int) r6.length=true:=ilt_t (by omega)
   have t2:decide ((0:Int)≤i∧(i:Int)<r6.length)=true:=decide_eq_true (by omega)
   have t3:IntKind.wrap .i64 ((i:Int)+1)=(i:Int)+1:=wr_i64 (by omega) (by omega)
   simp only [Int.toNat_natCast,line_of_row,dec_encs] at hq
   simp only [t1,t2,t3,cond_true] at hq
   obtain ⟨c,j⟩:=a
   obtain ⟨ha1,ha2⟩:=ha
   simp only at ha1 ha2 hq ⊢
   subst ha1
   have hw:goodW (cStock.dec c) j=true:=goodW_t (by omega) (by omega) (by omega)
   have h6:Nat.ble (cRow.dec (r6.getD j [])).line.length 1000=true:=List.all_eq_true.1 h5 _ (getD_mem [] hi)
   refine .inl ⟨(cStock.enc (N.sWith (cStock.dec c) j (N.lWake (cRow.dec (r6.getD j [])).line)),j+1),⟨rfl,?_⟩,fun K=>?_,fun K=>rfl⟩
   ·rw [cStock.de]
    show (List.set _ _ _).length=_
    rw [List.length_set]; exact ha2
   ·rw [hq]
    simp only [h6,hw,cond_true]
    try rfl
  ·refine ⟨.exit 0,_,by simp,fun K=>?_,fun K=>rfl⟩
   rw [q_sWakeR]
   simp (disch:=omega) only [evs]
   try rfl
 ·cases h
theorem ok_sWake:FnOk Tryz.prog 62 dSWake:=by
 refine den_okF (env_ok (((TOk.nil _).cons ok_sWith).cons ok_lWake)) (E:=eSWake) Tryz.func62 [2] (by kernel_rfl) (one1 ok_sWake_2) fun a b hp=>?_
 obtain ⟨h1,h2⟩:=bcond (show goodRows a=true from hp)
 have h1:=ble_of h1
 refine (q_sWake a).trans ?_
 have h3:((a.rows.map cRow.enc).all fun r=>Nat.ble (List.length (List.map (RCod.dec cItem) (V.toRows (List.getD r 4 V.undef)))) 1000)=true:=List.all_eq_true.2 fun r hr=>by
  obtain ⟨x,hx,rfl⟩:=List.mem_map.1 hr
  have hl:=(goodLine_of (List.all_eq_true.1 h2 x hx)).1
  show Nat.ble (List.map cItem.dec (x.line.map cItem.enc)).length 1000=true
  rw [dec_encs]
  exact ble_t (by omega)
 rw [h3]
 simp only [dec_encs,List.length_map,beq_self_eq_true,cond_true,ble_t (show a.rows.length≤100 by omega),Nat.beq_refl]
 rw [wakeC_enc,show N.wakeS a 0 a.rows=N.sWake a from wakeS_eq a.rows [] a rfl]
 try rfl
end Go.Ev

/- The program's functions on stocks answer what the plain ones do: lemmas. -/
namespace Go.Ev
open Go Go.Proofs
set_option maxRecDepth 100000
-- FOLD2
theorem sameRows_cons (a b:HRow) (x y:List HRow):N.sameRows (a::x) (b::y)=cond (N.sameRow a b) (N.sameRows x y) false:=rfl
theorem sameRows_len:∀ (a b:List HRow),a.length ≠ b.length→N.sameRows a b=false
 | [],[],h=>absurd rfl h
 | [],_::_,_=>rfl
 | _::_,[],_=>rfl
 | a::x,b::y,h=>by
  rw [sameRows_cons,sameRows_len x y fun e=>h (by simp [e])]
  cases N.sameRow a b<;>rfl
theorem sameRs_cons (a b:HRise) (x y:List HRise):N.sameRs (a::x) (b::y)=cond (N.sameR a b) (N.sameRs x y) false:=rfl
def dSameRow:Den:=den (aCons (vAgg cRow) (aOne (vAgg cRow))) bNil (oV vBool) (fun a _=>goodRow a.1) fun a _=>(N.sameRow a.1 a.2,())
noncomputable def eSameRow:Env:=env Tryz.prog [(69,dSameL)] [] []
theorem q_sameRow (x y:HRow):evFn eSameRow 68 ((aCons (vAgg cRow) (aOne (vAgg cRow))).enc (x,y)) ([]) some =
 cond (HQueue.name (HRow.q x)==HQueue.name (HRow.q y) && (HQueue.most (HRow.q x)==HQueue.most (HRow.q y) && (HQueue.life (HRow.q x)==HQueue.life (HRow.q y) && (HQueue.dead (HRow.q x)==HQueue.dead (HRow.q y) && true)))) (cond (smallL (List.map (RCod.dec cItem) (List.map (RCod.enc cItem) (HRow.line x)))) (some {v:=V.bool (N.sameL (List.map (RCod.dec cItem) (List.map (RCod.enc cItem) (HRow.line x))) (List.map (RCod.dec cItem) (List.map (RCod.enc cItem) (HRow.line y)))),bx:=[]:DRes}) (none)) (some {v:=V.bool false,bx:=[]:DRes}):=by kernel_rfl
theorem ok_sameRow:FnOk Tryz.prog 68 dSameRow:=by
 refine den_okF (env_ok ((TOk.nil _).cons ok_sameL)) (E:=eSameRow) Tryz.func68 [] (by kernel_rfl) none0 fun a b hp=>?_
 obtain ⟨x,y⟩:=a
 have hp:goodRow x=true:=hp
 refine (q_sameRow x y).trans ?_
 simp only [dec_encs,smallL_good hp,cond_true]
 show _=some (⟨.bool (N.sameRow x y),[],[]⟩:DRes)
 unfold N.sameRow
 rw [← eqQ_and x.q y.q]
 cases (x.q.name==y.q.name && (x.q.most==y.q.most && (x.q.life==y.q.life && (x.q.dead==y.q.dead && true))))<;>rfl
def goodRs (l:List HRow):Bool:=cond (Nat.ble l.length 1000) (l.all goodRow) false
def dEqRows:Den:=den (aCons (vSl cRow) (aCons (vSl cRow) (aOne (vFn0 68)))) bNil (oV vBool) (fun a _=>goodRs a.1) fun a _=>(N.sameRows a.1 a.2.1,())
def schEqRows:SSch:={ fr:=[(1,.slc [.str,.int .u64,.int .u64,.str,.slc [.int .u64,.str,.str,.slc [.str,.int .u8,.int .i64,.str],.str,.int .u64,.int .u8,.bool,.bool]]),(2,.fn 68 [] []),(15,.slc [.str,.int .u64,.int .u64,.str,.slc [.int .u64,.str,.str,.slc [.str,.int .u8,.int .i64,.str],.str,.int .u64,.int .u8,.bool,.bool]]),(16,.int .i64),(17,.int .i64)],tab:=[] }
def gEqRows:List Leaf→(Ex→St→Option R)→Option R
 | [.r r1,.r r,.i n,.i i],K=>cond (n==r.length) (cond (i==0) (cond (Nat.beq r.length r1.length) (cond (Nat.ble r.length 1000) (cond ((r.map cRow.dec).all goodRow)
   (cond (N.sameRows (r.map cRow.dec) (r1.map cRow.dec)) (K (.exit 0) { fr:=[],tab:=[] }) (K .ret { fr:=[(6,.bool false)],tab:=[] })) none) none) none) none) none
 | _,_=>none
noncomputable def eEqRows:Env:=env Tryz.prog [(68,dSameRow)] [(4,loopF schEqRows gEqRows)] [(4,[(0,[1,2,15,16,17]),(1,[]),(1000,[6])])]
theorem q_eqRows (a b:List HRow):evFn eEqRows 67 ((aCons (vSl cRow) (aCons (vSl cRow) (aOne (vFn0 68)))).enc (a,b,())) ([]) some =
 cond ((↑(List.length (List.map (RCod.enc cRow) a)):Int) != (↑(List.length (List.map (RCod.enc cRow) b)):Int)) (some {v:=V.bool false,bx:=[]:DRes}) (cond ((↑(List.length (List.map (RCod.enc cRow) a)):Int)==(↑(List.length (List.map (RCod.enc cRow) a)):Int)) (cond (Nat.beq (List.length (List.map (RCod.enc cRow) a)) (List.length (List.map (RCod.enc cRow) b))) (cond (Nat.ble (List.length (List.map (RCod.enc cRow) a)) 1000) (cond (List.all (List.map (RCod.dec cRow) (List.map (RCod.enc cRow) a)) goodRow) (cond (N.sameRows (List.map (RCod.dec cRow) (List.map (RCod.enc cRow) a)) (List.map (RCod.dec cRow) (List.map (RCod.enc cRow) b))) (some {v:=V.bool true,bx:=[]:DRes}) (some {v:=V.bool false,bx:=[]:DRes})) (none)) (none)) (none)) (none)):=by kernel_rfl
theorem q_eqRowsR (n i:Int) (r r1:List (List V)) (K:Ex→St→Option R):evRound eEqRows 67 4 { fr:=[(1,.slc [.str,.int .u64,.int .u64,.str,.slc [.int .u64,.str,.str,.slc [.str,.int .u8,.int .i64,.str],.str,.int .u64,.int .u8,.bool,.bool]] r1),(2,.fn 68 [] []),(15,.slc [.str,.int .u64,.int .u64,.str,.slc [.int .u64,.str,.str,.slc [.str,.int .u8,.int .i64,.str],.str,.int .u64,.int .u8,.bool,.bool]] r),(16,.int .i64 n),(17,.int .i64 i)],tab:=[] } K =
 cond (ilt i n) (cond (decide ((0:Int)≤i∧i<(↑(List.length r):Int))) (cond (decide ((0:Int)≤i∧i<(↑(List.length r1):Int))) (cond (goodRow (RCod.dec cRow (List.getD r (Int.toNat i) []))) (cond (!N.sameRow (RCod.dec cRow (List.getD r (Int.toNat i) [])) (RCod.dec cRow (List.getD r1 (Int.toNat i) []))) (K Ex.ret {fr:=[(6,V.bool false)],tab:=[]:St}) (K Ex.normal {fr:=[(1,V.slc [.str,.int .u64,.int .u64,.str,.slc [.int .u64,.str,.str,.slc [.str,.int .u8,.int .i64,.str],.str,.int .u64,.int .u8,.bool,.bool]] r1),(2,V.fn 68 [] []),(15,V.slc [.str,.int .u64,.int .u64,.str,.slc [.int .u64,.str,.str,.slc [.str,.int .u8,.int .i64,.str],.str,.int .u64,.int .u8,.bool,.bool]] r),(16,V.int .i64 n),(17,V.int .i64 (IntKind.wrap .i64 (i+(1:Int))))],tab:=[]:St})) (none)) (none)) (none)) (K (Ex.exit 0) {fr:=[],tab:=[]:St}):=by kernel_rfl
theorem ok_eqRows4:RoundsOk eEqRows 67 4:=by
 refine rounds_of rfl fun l K q h=>?_
 unfold gEqRows at h
 split at h
 ·rename_i r1 r n i
  have h1:=(cond_none h).1; replace h:=(cond_none h).2; have h2:=(cond_none h).1; replace h:=(cond_none h).2; have h3:=(cond_none h).1; replace h:=(cond_none h).2; have h4:=(cond_none h).1; replace h:=(cond_none h).2; have h5:=(cond_none h).1; replace h:=(cond_none h).2
  have e1:=ieq_of h1
  have e2:=ieq_of h2
  have e3:=nbeq_of h3
  subst e1 e2
  have h4:r.length≤1000:=ble_of h4
  refine loop_ind (E:=eEqRows) (f:=67) (id:=4) (σ:=Nat) (fun i=>{ fr:=[(1,.slc [.str,.int .u64,.int .u64,.str,.slc [.int .u64,.str,.str,.slc [.str,.int .u8,.int .i64,.str],.str,.int .u64,.int .u8,.bool,.bool]] r1),(2,.fn 68 [] []),(15,.slc [.str,.int .u64,.int .u64,.str,.slc [.int .u64,.str,.str,.slc [.str,.int .u8,.int .i64,.str],.str,.int .u64,.int .u8,.bool,.bool]] r),(16,.int .i64 r.length),(17,.int .i64 (i:Int))],tab:=[] }) (fun i=>i≤r.length) (fun i=>r.length-i)
   (fun i K=>cond (N.sameRows ((r.drop i).map cRow.dec) ((r1.drop i).map cRow.dec)) (K (.exit 0) { fr:=[],tab:=[] }) (K .ret { fr:=[(6,.bool false)],tab:=[] })) (fun i hi=>?_) 0 (Nat.zero_le _) K q (by assumption)
  by_cases hl:i<r.length
  ·rw [drop_row hl,drop_row (show i<r1.length by omega),List.map_cons,List.map_cons,sameRows_cons]
   have hs:goodRow (cRow.dec (r.getD i []))=true:=List.all_eq_true.1 h5 _ (List.mem_map_of_mem (by rw [List.getD_eq_getElem?_getD,List.getElem?_eq_getElem hl]; exact List.getElem_mem hl))
   have hq:=fun K=>q_eqRowsR r.length i r r1 K
   have t1:ilt (i:Int) r.length=true:=ilt_t (by omega)
   have t2:decide ((0:Int)≤i∧(i:Int)<r.length)=true:=decide_eq_true (by omega)
   have t4:decide ((0:Int)≤i∧(i:Int)<r1.length)=true:=decide_eq_true (by omega)
   have t3:IntKind.wrap .i64 ((i:Int)+1)=(i:Int)+1:=wr_i64 (by omega) (by omega)
   simp only [Int.toNat_natCast] at hq
   simp only [t1,t2,t3,t4,hs,cond_true] at hq
   cases hc:N.sameRow (cRow.dec (r.getD i [])) (cRow.dec (r1.getD i [])) with
   | true =>
    refine .inl ⟨i+1,hl,by omega,fun K=>?_,fun K=>rfl⟩
    rw [hq,hc]
    try rfl
   | false =>
    refine .inr ⟨.ret,{ fr:=[(6,.bool false)],tab:=[] },by simp,fun K=>?_,fun K=>rfl⟩
    rw [hq,hc]
    try rfl
  ·refine .inr ⟨.exit 0,{ fr:=[],tab:=[] },by simp,fun K=>?_,fun K=>?_⟩
   ·rw [q_eqRowsR]
    simp (disch:=omega) only [evs]
   ·rw [List.drop_eq_nil_of_le (show r.length≤i by omega),List.drop_eq_nil_of_le (show r1.length≤i by omega)]; rfl
 ·cases h
theorem ok_eqRows:FnOk Tryz.prog 67 dEqRows:=by
 refine den_okF (env_ok ((TOk.nil _).cons ok_sameRow)) (E:=eEqRows) Tryz.func67 [4] (by kernel_rfl) (one1 ok_eqRows4) fun a _ h=>?_
 obtain ⟨a,b,⟨⟩⟩:=a
 obtain ⟨h1,h2⟩:=bcond h
 have h1:Nat.ble a.length 1000=true:=h1
 have h2:a.all goodRow=true:=h2
 refine (q_eqRows a b).trans ?_
 show _=some (⟨.bool (N.sameRows a b),[],[]⟩:DRes)
 simp only [dec_encs,List.length_map,h1,h2,cond_true,beq_self_eq_true]
 by_cases hl:a.length=b.length
 ·rw [hl,Nat.beq_refl,show (((b.length:Int)) != (b.length:Int))=false from bne_self_eq_false _]
  cases N.sameRows a b<;>rfl
 ·rw [sameRows_len _ _ hl,ine_t (show ((a.length:Int)) ≠ (b.length:Int) by omega)]
  try rfl
end Go.Ev

/- The program's functions on stocks answer what the plain ones do: lemmas. -/
namespace Go.Ev
open Go Go.Proofs
set_option maxRecDepth 100000
-- FOLD2
def dSSame:Den:=den (aCons (vAgg cStock) (aOne (vAgg cStock))) bNil (oV vBool) (fun a _=>cond (goodS a.1) (goodS a.2) false) fun a _=>(N.sSame a.1 a.2,())
def schSSame:SSch:={ fr:=[(2,.ptr 10000 0 0),(3,.ptr 10001 0 0),(26,.int .i64)],tab:=[(10000,.row [] xsStock),(10001,.row [] xsStock)] }
def gSSame:List Leaf→(Ex→St→Option R)→Option R
 | [.i i26,.c cx0,.c cx1],K=>cond (i26==0) (cond (((leafRows cx0 3).map cRise.dec).all goodRise) (cond (((leafRows cx1 3).map cRise.dec).all goodRise) (cond (N.sameRs ((leafRows cx0 3).map cRise.dec) ((leafRows cx1 3).map cRise.dec)) (K (.exit 0) { fr:=[],tab:=[] }) (K .ret { fr:=[(4,.bool false)],tab:=[] })) none) none) none
 | _,_=>none
noncomputable def eSSame:Env:=env Tryz.prog [(67,dEqRows),(70,dSameR)] [(4,loopF schSSame gSSame)] [(4,[(0,[2,3,26]),(1,[]),(1000,[4])])]
theorem q_sSame (s t:HStock):evFn eSSame 23 ((aCons (vAgg cStock) (aOne (vAgg cStock))).enc (s,t)) ([]) some =
 cond (HStock.next s != HStock.next t) (some {v:=V.bool false,bx:=[]:DRes}) (cond (HStock.bytes s != HStock.bytes t) (some {v:=V.bool false,bx:=[]:DRes}) (cond (goodRs (List.map (RCod.dec cRow) (List.map (RCod.enc cRow) (HStock.rows s)))) (cond (!N.sameRows (List.map (RCod.dec cRow) (List.map (RCod.enc cRow) (HStock.rows s))) (List.map (RCod.dec cRow) (List.map (RCod.enc cRow) (HStock.rows t)))) (some {v:=V.bool false,bx:=[]:DRes}) (cond (List.all (List.map (RCod.dec cRise) (risesRows (HStock.rises s))) goodRise) (cond (List.all (List.map (RCod.dec cRise) (risesRows (HStock.rises t))) goodRise) (cond (N.sameRs (List.map (RCod.dec cRise) (risesRows (HStock.rises s))) (List.map (RCod.dec cRise) (risesRows (HStock.rises t)))) (some {v:=V.bool true,bx:=[]:DRes}) (some {v:=V.bool false,bx:=[]:DRes})) (none)) (none))) (none))):=by kernel_rfl
theorem q_sSameR (i26:Int) (cx0:List V) (cx1:List V) (K:Ex→St→Option R):evRound eSSame 23 4 { fr:=[(2,.ptr 10000 0 0 0),(3,.ptr 10001 0 0 0),(26,.int .i64 i26)],tab:=[(10000,.var (etaRow xsStock 0 cx0)),(10001,.var (etaRow xsStock 0 cx1))] } K =
 cond (ilt i26 (16:Int)) (cond (decide ((0:Int)≤i26∧i26<(↑(16:Nat):Int))) (cond (decide ((0:Int)≤i26∧i26<(↑(16:Nat):Int))) (cond (bif goodRise (RCod.dec cRise (List.getD (leafRows cx0 3) (Int.toNat i26) [])) then goodRise (RCod.dec cRise (List.getD (leafRows cx1 3) (Int.toNat i26) [])) else false) (cond (!N.sameR (RCod.dec cRise (List.getD (leafRows cx0 3) (Int.toNat i26) [])) (RCod.dec cRise (List.getD (leafRows cx1 3) (Int.toNat i26) []))) (K Ex.ret {fr:=[(4,V.bool false)],tab:=[]:St}) (K Ex.normal {fr:=[(2,V.ptr 10000 0 0 0),(3,V.ptr 10001 0 0 0),(26,V.int .i64 (IntKind.wrap .i64 (i26+(1:Int))))],tab:=[(10000,Box.var (etaRow xsStock 0 cx0)),(10001,Box.var (etaRow xsStock 0 cx1))]:St})) (none)) (none)) (none)) (K (Ex.exit 0) {fr:=[],tab:=[]:St}):=by kernel_rfl
theorem ok_sSame_4:RoundsOk eSSame 23 4:=by
 refine rounds_of rfl fun l K q h=>?_
 unfold gSSame at h
 split at h
 ·rename_i i26 cx0 cx1
  have h1:=(cond_none h).1; replace h:=(cond_none h).2; have h2:=(cond_none h).1; replace h:=(cond_none h).2; have h3:=(cond_none h).1; replace h:=(cond_none h).2
  have e1:=ieq_of h1
  subst e1
  refine loop_ind (E:=eSSame) (f:=23) (id:=4) (σ:=Nat) (fun i=>{ fr:=[(2,.ptr 10000 0 0 0),(3,.ptr 10001 0 0 0),(26,.int .i64 (i:Int))],tab:=[(10000,.var (etaRow xsStock 0 cx0)),(10001,.var (etaRow xsStock 0 cx1))] }) (fun i=>i≤16) (fun i=>16-i)
   (fun i K=>cond (N.sameRs (((leafRows cx0 3).drop i).map cRise.dec) (((leafRows cx1 3).drop i).map cRise.dec)) (K (.exit 0) { fr:=[],tab:=[] }) (K .ret { fr:=[(4,.bool false)],tab:=[] })) (fun i hi=>?_) 0 (Nat.zero_le _) K q (by assumption)
  by_cases hl:i<16
  ·rw [drop_row (show i<(leafRows cx0 3).length from hl),drop_row (show i<(leafRows cx1 3).length from hl),List.map_cons,List.map_cons,sameRs_cons]
   have hq:=fun K=>q_sSameR i cx0 cx1 K
   have t1:ilt (i:Int) 16=true:=ilt_t (by omega)
   have t2:decide ((0:Int)≤i∧(i:Int)<((16:Nat):Int))=true:=decide_eq_true (by omega)
   have t3:IntKind.wrap .i64 ((i:Int)+1)=(i:Int)+1:=wr_i64 (by omega) (by omega)
   have g1:goodRise (cRise.dec ((leafRows cx0 3).getD i []))=true:=all_get h2 hl
   have g2:goodRise (cRise.dec ((leafRows cx1 3).getD i []))=true:=all_get h3 hl
   simp only [Int.toNat_natCast] at hq
   simp only [t1,t2,t3,g1,g2,cond_true] at hq
   cases hc:N.sameR (cRise.dec ((leafRows cx0 3).getD i [])) (cRise.dec ((leafRows cx1 3).getD i [])) with
   | true =>
    refine .inl ⟨i+1,hl,by omega,fun K=>?_,fun K=>rfl⟩
    rw [hq,hc]
    try rfl
   | false =>
    refine .inr ⟨.ret,_,by simp,fun K=>?_,fun K=>rfl⟩
    rw [hq,hc]
    try rfl
  ·obtain rfl:i=16:=by omega
   exact .inr ⟨.exit 0,{ fr:=[],tab:=[] },by simp,fun K=>q_sSameR 16 cx0 cx1 K,fun K=>rfl⟩
 ·cases h
theorem ok_sSame:FnOk Tryz.prog 23 dSSame:=by
 refine den_okF (env_ok (((TOk.nil _).cons ok_rSame).cons ok_eqRows)) (E:=eSSame) Tryz.func23 [4] (by kernel_rfl) (one1 ok_sSame_4) fun a b hp=>?_
 obtain ⟨s,t⟩:=a
 obtain ⟨h1,h2⟩:=bcond (show cond (goodS s) (goodS t) false=true from hp)
 have hR:∀ x:HStock,goodS x=true→((risesRows x.rises).map cRise.dec).all goodRise=true:=fun x hx=>by
  rw [risesRows_eq,dec_encs]
  exact List.all_eq_true.2 fun y hy=>(bcond (List.all_eq_true.1 (bcond hx).2 y hy)).1
 have g1:=hR s h1
 have g2:=hR t h2
 have g3:goodRs s.rows=true:=by
  obtain ⟨a1,a2⟩:=bcond (bcond h1).1
  have a1:=ble_of a1
  unfold goodRs
  rw [ble_t (by omega),a2]; rfl
 refine (q_sSame s t).trans ?_
 simp only [dec_encs,g3,cond_true]
 show _=some (⟨.bool (N.sSame s t),[],[]⟩:DRes)
 unfold N.sSame
 cases h4:s.next==t.next with
 | false=>rw [bne,h4]; rfl
 | true =>
  cases h5:s.bytes==t.bytes with
  | false=>rw [bne,bne,h4,h5]; rfl
  | true =>
   rw [bne,bne,h4,h5]
   cases N.sameRows s.rows t.rows with
   | false=>rfl
   | true =>
    rw [g1,g2]
    simp only [risesRows_eq,dec_encs,cond_true]
    cases N.sameRs s.rises.list t.rises.list<;>rfl
end Go.Ev

/- The document's functions on stocks answer what the plain ones do: lemmas. -/
namespace Go.Ev
open Go Go.Proofs
set_option maxRecDepth 100000
-- FOLD2
namespace N
def setR (k:Int) (l:List HItem):Int→List HRow→List HRow
 | _,[]=>[]
 | i,x::r=>cond (i==k) ⟨x.q,l⟩ x::setR k l (i+1) r
def offRow (n:Bytes) (x:HRow):Bool:=!isRow n x
def rDropS (s:HStock) (n:Bytes):HStock × Int:=cond (ilt (sAt s n) 0) (s,10) (⟨s.next,s.bytes,s.rows.filter (offRow n),s.rises⟩,0)
end N
theorem setR_cons (k:Int) (l:List HItem) (i:Int) (x:HRow) (r:List HRow):N.setR k l i (x::r)=cond (i==k) ⟨x.q,l⟩ x::N.setR k l (i+1) r:=rfl
theorem setR_eq {k:Int} {l:List HItem}:∀ (r:List HRow) (i:Int),i≤k→k<i+r.length→N.setR k l i r=r.set (k-i).toNat ⟨(r.getD (k-i).toNat row0).q,l⟩
 | [],i,h1,h2=>by simp at h2; omega
 | x::r,i,h1,h2=>by
  rw [setR_cons]
  by_cases e:i=k
  ·subst e
   have h0:(i-i).toNat=0:=by omega
   have hs:∀ (r:List HRow) (j:Int),i<j→N.setR i l j r=r:=fun r=>by
    induction r with
    | nil=>intro j _; rfl
    | cons y t ih =>
     intro j hj
     rw [setR_cons,ieq_f (by omega),ih (j+1) (by omega)]; rfl
   rw [h0,ieq_t rfl,hs r (i+1) (by omega)]; rfl
  ·rw [ieq_f e,setR_eq r (i+1) (by omega) (by rw [List.length_cons] at h2; omega)]
   have h0:(k-i).toNat=(k-(i+1)).toNat+1:=by omega
   rw [h0]; rfl
noncomputable def eRQCheck:Env:=env Tryz.prog [(42,dName)] [] []
theorem q_rQCheck (q:HQueue):evFn eRQCheck 131 ((aOne (vAgg cQueue)).enc q) ([]) some =
 cond (N.name (HQueue.name q)==(0:Int)) (cond (ilt (HQueue.most q) (1:Int)) (some {v:=V.int .i64 (7:Int),bx:=[]:DRes}) (cond (ilt (64:Int) (HQueue.most q)) (some {v:=V.int .i64 (7:Int),bx:=[]:DRes}) (cond (N.name (HQueue.name q)==(0:Int)) (cond (!HQueue.dead q==[]) (some {v:=V.int .i64 (N.name (HQueue.dead q)),bx:=[]:DRes}) (some {v:=V.int .i64 (N.name (HQueue.name q)),bx:=[]:DRes})) (some {v:=V.int .i64 (N.name (HQueue.name q)),bx:=[]:DRes})))) (cond (N.name (HQueue.name q)==(0:Int)) (cond (!HQueue.dead q==[]) (some {v:=V.int .i64 (N.name (HQueue.dead q)),bx:=[]:DRes}) (some {v:=V.int .i64 (N.name (HQueue.name q)),bx:=[]:DRes})) (some {v:=V.int .i64 (N.name (HQueue.name q)),bx:=[]:DRes})):=by kernel_rfl
theorem ok_rQCheck:FnOk Tryz.prog 131 dQCheck:=by
 refine den_okF (env_ok ((TOk.nil _).cons ok_refName)) (E:=eRQCheck) Tryz.func131 [] (by kernel_rfl) (none0) fun a b hp=>?_
 refine (q_rQCheck a).trans ?_
 show _=some (⟨.int .i64 (N.qCheck a),[],[]⟩:DRes)
 unfold N.qCheck
 cases h1:N.name a.name==0 with
 | false=>rw [bne,h1]; rfl
 | true =>
  rw [bne,h1]
  have e:=ieq_of h1
  cases ilt a.most 1<;>cases ilt 64 a.most<;>first | rfl | (cases a.dead==[]<;>first | rfl | (simp only [cond_true,cond_false,Bool.not_true]; rw [e]))
def schRFindS:SSch:={ fr:=[(1,.str),(8,.slc [.str,.int .u64,.int .u64,.str,.slc [.int .u64,.str,.str,.slc [.str,.int .u8,.int .i64,.str],.str,.int .u64,.int .u8,.bool,.bool]]),(9,.int .i64),(10,.int .i64)],tab:=[] }
def gRFindS:List Leaf→(Ex→St→Option R)→Option R
 | [.s s1,.r r8,.i i9,.i i10],K=>cond (i9==r8.length) (cond (i10==0) (cond (Nat.ble r8.length 1000) (cond (ile 0 (N.ixG (N.isRow s1) ((r8).map cRow.dec) ((r8.length:Int)-((r8).length:Int)))) (K .ret { fr:=[(4,.int .i64 (N.ixG (N.isRow s1) ((r8).map cRow.dec) ((r8.length:Int)-((r8).length:Int))))],tab:=[] }) (K (.exit 0) { fr:=[],tab:=[] })) none) none) none
 | _,_=>none
noncomputable def eRFindS:Env:=env Tryz.prog [] [(2,loopF schRFindS gRFindS)] [(2,[(0,[1,8,9,10]),(1,[]),(1000,[4])])]
theorem q_rFindS (s:HStock) (n:Bytes):evFn eRFindS 93 ((aCons (vAgg cStock) (aOne vStr)).enc (s,n)) ([]) some =
 cond ((↑(List.length (List.map (RCod.enc cRow) (HStock.rows s))):Int)==(↑(List.length (List.map (RCod.enc cRow) (HStock.rows s))):Int)) (cond (Nat.ble (List.length (List.map (RCod.enc cRow) (HStock.rows s))) 1000) (cond (ile (0:Int) (N.ixG (N.isRow n) (List.map (RCod.dec cRow) (List.map (RCod.enc cRow) (HStock.rows s))) ((↑(List.length (List.map (RCod.enc cRow) (HStock.rows s))):Int)-(↑(List.length (List.map (RCod.enc cRow) (HStock.rows s))):Int)))) (some {v:=V.int .i64 (N.ixG (N.isRow n) (List.map (RCod.dec cRow) (List.map (RCod.enc cRow) (HStock.rows s))) ((↑(List.length (List.map (RCod.enc cRow) (HStock.rows s))):Int)-(↑(List.length (List.map (RCod.enc cRow) (HStock.rows s))):Int))),bx:=[]:DRes}) (some {v:=V.int .i64 (-1:Int),bx:=[]:DRes})) (none)) (none):=by kernel_rfl
theorem q_rFindSR (s1:Bytes) (r8:List (List V)) (i9:Int) (i10:Int) (K:Ex→St→Option R):evRound eRFindS 93 2 { fr:=[(1,.str s1),(8,.slc [.str,.int .u64,.int .u64,.str,.slc [.int .u64,.str,.str,.slc [.str,.int .u8,.int .i64,.str],.str,.int .u64,.int .u8,.bool,.bool]] r8),(9,.int .i64 i9),(10,.int .i64 i10)],tab:=[] } K =
 cond (ilt i10 i9) (cond (decide ((0:Int)≤i10∧i10<(↑(List.length r8):Int))) (cond (V.toStr (List.getD (List.getD r8 (Int.toNat i10) []) 0 V.undef)==s1) (K Ex.ret {fr:=[(4,V.int .i64 i10)],tab:=[]:St}) (K Ex.normal {fr:=[(1,V.str s1),(8,V.slc [.str,.int .u64,.int .u64,.str,.slc [.int .u64,.str,.str,.slc [.str,.int .u8,.int .i64,.str],.str,.int .u64,.int .u8,.bool,.bool]] r8),(9,V.int .i64 i9),(10,V.int .i64 (IntKind.wrap .i64 (i10+(1:Int))))],tab:=[]:St})) (none)) (K (Ex.exit 0) {fr:=[],tab:=[]:St}):=by kernel_rfl
theorem ok_rFindS_2:RoundsOk eRFindS 93 2:=by
 refine rounds_of rfl fun l K q h=>?_
 unfold gRFindS at h
 split at h
 ·rename_i s1 r8 i9 i10
  have h1:=(cond_none h).1; replace h:=(cond_none h).2; have h2:=(cond_none h).1; replace h:=(cond_none h).2; have h3:=(cond_none h).1; replace h:=(cond_none h).2
  have e1:=ieq_of h1
  have e2:=ieq_of h2
  subst e1 e2
  have h3:r8.length≤1000:=ble_of h3
  have main:=range_ind (E:=eRFindS) (f:=93) (id:=2) (A:=Unit) (r8) (fun a i=>{ fr:=[(1,.str s1),(8,.slc [.str,.int .u64,.int .u64,.str,.slc [.int .u64,.str,.str,.slc [.str,.int .u8,.int .i64,.str],.str,.int .u64,.int .u8,.bool,.bool]] r8),(9,.int .i64 r8.length),(10,.int .i64 i)],tab:=[] }) (fun a i=>True)
   (fun a rows K=>cond (ile 0 (N.ixG (N.isRow s1) ((rows).map cRow.dec) ((r8.length:Int)-((rows).length:Int)))) (K .ret { fr:=[(4,.int .i64 (N.ixG (N.isRow s1) ((rows).map cRow.dec) ((r8.length:Int)-((rows).length:Int))))],tab:=[] }) (K (.exit 0) { fr:=[],tab:=[] })) (fun a i ha hi=>?_) (fun a ha=>?_) (()) 0 (Int.le_refl _) (by omega) trivial K q (by assumption)
  ·exact main
  ·have hq:=fun K=>q_rFindSR (s1) (r8) (r8.length) ((i:Int)) K
   have t1:ilt (i:Int) r8.length=true:=ilt_t (by omega)
   have t2:decide ((0:Int)≤i∧(i:Int)<r8.length)=true:=decide_eq_true (by omega)
   have t3:IntKind.wrap .i64 ((i:Int)+1)=(i:Int)+1:=wr_i64 (by omega) (by omega)
   have hle:((r8.getD i []::r8.drop (i+1)).length:Int)=r8.length-i:=by rw [List.length_cons,List.length_drop]; omega
   have hle2:((r8.drop (i+1)).length:Int)=r8.length-(i+1):=by rw [List.length_drop]; omega
   simp only [Int.toNat_natCast] at hq
   simp only [t1,t2,t3,cond_true] at hq
   simp only [hle,hle2,List.map_cons,ixG_cons,show (r8.length:Int)-(r8.length-i)=i from by omega,show (r8.length:Int)-(r8.length-(i+1))=i+1 from by omega]
   cases hc:N.isRow s1 (cRow.dec (r8.getD i [])) with
   | true =>
    have hc' : (V.toStr (List.getD (List.getD r8 i []) 0 V.undef)==s1)=true:=hc
    refine .inr ⟨.ret,{ fr:=[(4,.int .i64 (i:Int))],tab:=[] },by simp,fun K=>?_,fun K=>?_⟩
    ·rw [hq,hc']; rfl
    ·simp only [cond_true]
     rw [ile_t (by omega)]; rfl
   | false =>
    have hc' : (V.toStr (List.getD (List.getD r8 i []) 0 V.undef)==s1)=false:=hc
    refine .inl ⟨(),trivial,fun K=>?_,fun K=>rfl⟩
    rw [hq,hc']
    try rfl
  ·refine ⟨.exit 0,_,by simp,fun K=>?_,fun K=>rfl⟩
   rw [q_rFindSR]
   simp (disch:=omega) only [evs]
   try rfl
 ·cases h
theorem ok_rFindS:FnOk Tryz.prog 93 dSAt:=by
 refine den_okF (env_ok (TOk.nil _)) (E:=eRFindS) Tryz.func93 [2] (by kernel_rfl) (one1 ok_rFindS_2) fun a b hp=>?_
 obtain ⟨s,n⟩:=a
 have hp:s.rows.length≤100:=few_of hp
 refine (q_rFindS s n).trans ?_
 simp only [dec_encs,List.length_map,beq_self_eq_true,cond_true,ble_t (show s.rows.length≤1000 by omega),Int.sub_self]
 show _=some (⟨.int .i64 (N.ixG (N.isRow n) s.rows 0),[],[]⟩:DRes)
 cases hc:ile 0 (N.ixG (N.isRow n) s.rows 0) with
 | true=>rfl
 | false=>rw [ixG_end hc]; rfl
def N.setRr (k:Int) (l:List (List V)):Int→List (List V)→List (List V)
 | _,[]=>[]
 | i,r::rs=>cond (i==k) [V.str (V.toStr (List.getD r 0 .undef)),V.int .u64 (V.toInt (List.getD r 1 .undef)),V.int .u64 (V.toInt (List.getD r 2 .undef)),V.str (V.toStr (List.getD r 3 .undef)),V.slc xsItem l] (etaRow xsRow 0 r)::N.setRr k l (i+1) rs
theorem setRr_cons (k:Int) (l:List (List V)) (i:Int) (r:List V) (rs:List (List V)):N.setRr k l i (r::rs)=cond (i==k) [V.str (V.toStr (List.getD r 0 .undef)),V.int .u64 (V.toInt (List.getD r 1 .undef)),V.int .u64 (V.toInt (List.getD r 2 .undef)),V.str (V.toStr (List.getD r 3 .undef)),V.slc xsItem l] (etaRow xsRow 0 r)::N.setRr k l (i+1) rs:=rfl
theorem setRr_enc {k:Int} {l:List HItem}:∀ (r:List HRow) (i:Int),N.setRr k (l.map cItem.enc) i (r.map cRow.enc)=(N.setR k l i r).map cRow.enc
 | [],_=>rfl
 | x::r,i=>by
  rw [List.map_cons,setRr_cons,setR_cons,setRr_enc r (i+1)]
  cases i==k<;>rfl
def dRWithS:Den:=den (aCons (vAgg cStock) (aCons (vInt .i64) (aOne (vSl cItem)))) bNil (oV (vAgg cStock)) (fun a _=>goodW a.1 a.2.1) fun a _=>(N.sWith a.1 a.2.1 a.2.2,())
def schRWithS:SSch:={ fr:=[(1,.int .i64),(2,.slc [.int .u64,.str,.str,.slc [.str,.int .u8,.int .i64,.str],.str,.int .u64,.int .u8,.bool,.bool]),(3,.ptr 10000 0 0),(6,.ptr 10001 0 0),(7,.own 10002),(11,.slc [.str,.int .u64,.int .u64,.str,.slc [.int .u64,.str,.str,.slc [.str,.int .u8,.int .i64,.str],.str,.int .u64,.int .u8,.bool,.bool]]),(12,.int .i64),(13,.int .i64)],tab:=[(10000,.row [] xsStock),(10001,.row [] xsStock),(10002,.sl [.str,.int .u64,.int .u64,.str,.slc [.int .u64,.str,.str,.slc [.str,.int .u8,.int .i64,.str],.str,.int .u64,.int .u8,.bool,.bool]])] }
def gRWithS:List Leaf→(Ex→St→Option R)→Option R
 | [.i i1,.r r2,.r r11,.i i12,.i i13,.c cx0,.c cx1,.r rx2],K=>cond (i12==r11.length) (cond (i13==0) (cond (Nat.ble r11.length 1000) (cond (Nat.beq rx2.length 0) (K (.exit 0) { fr:=[(3,.ptr 10000 0 0 0),(6,.ptr 10001 0 0 0),(7,.own 10002 0)],tab:=[(10000,.var (etaRow xsStock 0 cx0)),(10001,.var (etaRow xsStock 0 cx1)),(10002,.sl [.str,.int .u64,.int .u64,.str,.slc [.int .u64,.str,.str,.slc [.str,.int .u8,.int .i64,.str],.str,.int .u64,.int .u8,.bool,.bool]] ([]++N.setRr i1 r2 ((r11.length:Int)-((r11).length:Int)) (r11)) 0)] }) none) none) none) none
 | _,_=>none
noncomputable def eRWithS:Env:={ env Tryz.prog [] [(3,loopF schRWithS gRWithS)] [(3,[(0,[1,2,3,6,7,11,12,13]),(1,[3,6,7]),(1000,[6])])] with fz:=true }
theorem q_rWithS (s:HStock) (k:Int) (l:List HItem):evFn eRWithS 133 ((aCons (vAgg cStock) (aCons (vInt .i64) (aOne (vSl cItem)))).enc (s,k,l)) ([]) some =
 cond ((↑(List.length (List.map (RCod.enc cRow) (HStock.rows s))):Int)==(↑(List.length (List.map (RCod.enc cRow) (HStock.rows s))):Int)) (cond (Nat.ble (List.length (List.map (RCod.enc cRow) (HStock.rows s))) 1000) (some {v:=V.agg (V.int .u64 (HStock.next s)::V.int .i64 (HStock.bytes s)::V.slc [.str,.int .u64,.int .u64,.str,.slc [.int .u64,.str,.str,.slc [.str,.int .u8,.int .i64,.str],.str,.int .u64,.int .u8,.bool,.bool]] ([]++N.setRr k (List.map (RCod.enc cItem) l) ((↑(List.length (List.map (RCod.enc cRow) (HStock.rows s))):Int)-(↑(List.length (List.map (RCod.enc cRow) (HStock.rows s))):Int)) (List.map (RCod.enc cRow) (HStock.rows s)))::risesCells (HStock.rises s)),bx:=[]:DRes}) (none)) (none):=by kernel_rfl
theorem q_rWithSR (i1:Int) (r2:List (List V)) (r11:List (List V)) (i12:Int) (i13:Int) (cx0:List V) (cx1:List V) (rx2:List (List V)) (K:Ex→St→Option R):evRound eRWithS 133 3 { fr:=[(1,.int .i64 i1),(2,.slc [.int .u64,.str,.str,.slc [.str,.int .u8,.int .i64,.str],.str,.int .u64,.int .u8,.bool,.bool] r2),(3,.ptr 10000 0 0 0),(6,.ptr 10001 0 0 0),(7,.own 10002 0),(11,.slc [.str,.int .u64,.int .u64,.str,.slc [.int .u64,.str,.str,.slc [.str,.int .u8,.int .i64,.str],.str,.int .u64,.int .u8,.bool,.bool]] r11),(12,.int .i64 i12),(13,.int .i64 i13)],tab:=[(10000,.var (etaRow xsStock 0 cx0)),(10001,.var (etaRow xsStock 0 cx1)),(10002,.sl [.str,.int .u64,.int .u64,.str,.slc [.int .u64,.str,.str,.slc [.str,.int .u8,.int .i64,.str],.str,.int .u64,.int .u8,.bool,.bool]] rx2 0)] } K =
 cond (ilt i13 i12) (cond (decide ((0:Int)≤i13∧i13<(↑(List.length r11):Int))) (cond (i13==i1) (cond (decide ((List.length rx2+1)*72≤140737488355328)) (K Ex.normal {fr:=[(1,V.int .i64 i1),(2,V.slc [.int .u64,.str,.str,.slc [.str,.int .u8,.int .i64,.str],.str,.int .u64,.int .u8,.bool,.bool] r2),(3,V.ptr 10000 0 0 0),(6,V.ptr 10001 0 0 0),(7,V.own 10002 0),(11,V.slc [.str,.int .u64,.int .u64,.str,.slc [.int .u64,.str,.str,.slc [.str,.int .u8,.int .i64,.str],.str,.int .u64,.int .u8,.bool,.bool]] r11),(12,V.int .i64 i12),(13,V.int .i64 (IntKind.wrap .i64 (i13+(1:Int))))],tab:=[(10000,Box.var (etaRow xsStock 0 cx0)),(10001,Box.var (etaRow xsStock 0 cx1)),(10002,Box.sl [.str,.int .u64,.int .u64,.str,.slc [.int .u64,.str,.str,.slc [.str,.int .u8,.int .i64,.str],.str,.int .u64,.int .u8,.bool,.bool]] (rx2++[[V.str (V.toStr (List.getD (List.getD r11 (Int.toNat i13) []) 0 V.undef)),V.int .u64 (V.toInt (List.getD (List.getD r11 (Int.toNat i13) []) 1 V.undef)),V.int .u64 (V.toInt (List.getD (List.getD r11 (Int.toNat i13) []) 2 V.undef)),V.str (V.toStr (List.getD (List.getD r11 (Int.toNat i13) []) 3 V.undef)),V.slc [.int .u64,.str,.str,.slc [.str,.int .u8,.int .i64,.str],.str,.int .u64,.int .u8,.bool,.bool] r2]]) 0)]:St}) (none)) (cond (decide ((List.length rx2+1)*72≤140737488355328)) (K Ex.normal {fr:=[(1,V.int .i64 i1),(2,V.slc [.int .u64,.str,.str,.slc [.str,.int .u8,.int .i64,.str],.str,.int .u64,.int .u8,.bool,.bool] r2),(3,V.ptr 10000 0 0 0),(6,V.ptr 10001 0 0 0),(7,V.own 10002 0),(11,V.slc [.str,.int .u64,.int .u64,.str,.slc [.int .u64,.str,.str,.slc [.str,.int .u8,.int .i64,.str],.str,.int .u64,.int .u8,.bool,.bool]] r11),(12,V.int .i64 i12),(13,V.int .i64 (IntKind.wrap .i64 (i13+(1:Int))))],tab:=[(10000,Box.var (etaRow xsStock 0 cx0)),(10001,Box.var (etaRow xsStock 0 cx1)),(10002,Box.sl [.str,.int .u64,.int .u64,.str,.slc [.int .u64,.str,.str,.slc [.str,.int .u8,.int .i64,.str],.str,.int .u64,.int .u8,.bool,.bool]] (rx2++[etaRow xsRow 0 (List.getD r11 (Int.toNat i13) [])]) 0)]:St}) (none))) (none)) (K (Ex.exit 0) {fr:=[(3,V.ptr 10000 0 0 0),(6,V.ptr 10001 0 0 0),(7,V.own 10002 0)],tab:=[(10000,Box.var (etaRow xsStock 0 cx0)),(10001,Box.var (etaRow xsStock 0 cx1)),(10002,Box.sl [.str,.int .u64,.int .u64,.str,.slc [.int .u64,.str,.str,.slc [.str,.int .u8,.int .i64,.str],.str,.int .u64,.int .u8,.bool,.bool]] rx2 0)]:St}):=by kernel_rfl
theorem ok_rWithS_3:RoundsOk eRWithS 133 3:=by
 refine rounds_of rfl fun l K q h=>?_
 unfold gRWithS at h
 split at h
 ·rename_i i1 r2 r11 i12 i13 cx0 cx1 rx2
  have h1:=(cond_none h).1; replace h:=(cond_none h).2; have h2:=(cond_none h).1; replace h:=(cond_none h).2; have h3:=(cond_none h).1; replace h:=(cond_none h).2; have h4:=(cond_none h).1; replace h:=(cond_none h).2
  have e1:=ieq_of h1
  have e2:=ieq_of h2
  subst e1 e2
  have h3:r11.length≤1000:=ble_of h3
  have e3:=List.eq_nil_of_length_eq_zero (nbeq_of h4)
  subst e3
  have main:=range_ind (E:=eRWithS) (f:=133) (id:=3) (A:=List (List V)) (r11) (fun a i=>{ fr:=[(1,.int .i64 i1),(2,.slc [.int .u64,.str,.str,.slc [.str,.int .u8,.int .i64,.str],.str,.int .u64,.int .u8,.bool,.bool] r2),(3,.ptr 10000 0 0 0),(6,.ptr 10001 0 0 0),(7,.own 10002 0),(11,.slc [.str,.int .u64,.int .u64,.str,.slc [.int .u64,.str,.str,.slc [.str,.int .u8,.int .i64,.str],.str,.int .u64,.int .u8,.bool,.bool]] r11),(12,.int .i64 r11.length),(13,.int .i64 i)],tab:=[(10000,.var (etaRow xsStock 0 cx0)),(10001,.var (etaRow xsStock 0 cx1)),(10002,.sl [.str,.int .u64,.int .u64,.str,.slc [.int .u64,.str,.str,.slc [.str,.int .u8,.int .i64,.str],.str,.int .u64,.int .u8,.bool,.bool]] a 0)] }) (fun a i=>a.length≤i)
   (fun a rows K=>K (.exit 0) { fr:=[(3,.ptr 10000 0 0 0),(6,.ptr 10001 0 0 0),(7,.own 10002 0)],tab:=[(10000,.var (etaRow xsStock 0 cx0)),(10001,.var (etaRow xsStock 0 cx1)),(10002,.sl [.str,.int .u64,.int .u64,.str,.slc [.int .u64,.str,.str,.slc [.str,.int .u8,.int .i64,.str],.str,.int .u64,.int .u8,.bool,.bool]] (a++N.setRr i1 r2 ((r11.length:Int)-((rows).length:Int)) (rows)) 0)] }) (fun a i ha hi=>?_) (fun a ha=>?_) ([]) 0 (Int.le_refl _) (by omega) (Nat.zero_le _) K q (by assumption)
  ·exact main
  ·have hq:=fun K=>q_rWithSR (i1) (r2) (r11) (r11.length) ((i:Int)) (cx0) (cx1) (a) K
   have t1:ilt (i:Int) r11.length=true:=ilt_t (by omega)
   have t2:decide ((0:Int)≤i∧(i:Int)<r11.length)=true:=decide_eq_true (by omega)
   have t3:IntKind.wrap .i64 ((i:Int)+1)=(i:Int)+1:=wr_i64 (by omega) (by omega)
   have hle:((r11.getD i []::r11.drop (i+1)).length:Int)=r11.length-i:=by rw [List.length_cons,List.length_drop]; omega
   have hle2:((r11.drop (i+1)).length:Int)=r11.length-(i+1):=by rw [List.length_drop]; omega
   have t5:decide ((a.length+1)*72≤140737488355328)=true:=decide_eq_true (by omega)
   simp only [Int.toNat_natCast] at hq
   simp only [t1,t2,t3,cond_true,t5] at hq
   simp only [hle,hle2,setRr_cons,show (r11.length:Int)-(r11.length-i)=i from by omega,show (r11.length:Int)-(r11.length-(i+1))=i+1 from by omega]
   cases hc:(i:Int)==i1 with
   | true =>
    refine .inl ⟨a++[[V.str (V.toStr (List.getD (r11.getD i []) 0 .undef)),V.int .u64 (V.toInt (List.getD (r11.getD i []) 1 .undef)),V.int .u64 (V.toInt (List.getD (r11.getD i []) 2 .undef)),V.str (V.toStr (List.getD (r11.getD i []) 3 .undef)),V.slc xsItem r2]],by rw [List.length_append]; simp only [List.length_cons,List.length_nil]; omega,fun K=>?_,fun K=>?_⟩
    ·rw [hq,hc]
     try rfl
    ·simp only [cond_true,List.append_assoc,List.singleton_append]
   | false =>
    refine .inl ⟨a++[etaRow xsRow 0 (r11.getD i [])],by rw [List.length_append]; simp only [List.length_cons,List.length_nil]; omega,fun K=>?_,fun K=>?_⟩
    ·rw [hq,hc]
     try rfl
    ·simp only [cond_false,List.append_assoc,List.singleton_append]
  ·refine ⟨.exit 0,{ fr:=[(3,.ptr 10000 0 0 0),(6,.ptr 10001 0 0 0),(7,.own 10002 0)],tab:=[(10000,.var (etaRow xsStock 0 cx0)),(10001,.var (etaRow xsStock 0 cx1)),(10002,.sl [.str,.int .u64,.int .u64,.str,.slc [.int .u64,.str,.str,.slc [.str,.int .u8,.int .i64,.str],.str,.int .u64,.int .u8,.bool,.bool]] a 0)] },by simp,fun K=>?_,fun K=>by show K _ { fr:=_,tab:=[_,_,(10002,.sl _ (a++[]) 0)] }=_; rw [List.append_nil]⟩
   rw [q_rWithSR]
   simp (disch:=omega) only [evs]
   try rfl
 ·cases h
theorem ok_rWithS:FnOk Tryz.prog 133 dRWithS:=by
 refine den_okF (env_ok (TOk.nil _)) (E:=eRWithS) Tryz.func133 [3] (by kernel_rfl) (one1 ok_rWithS_3) fun a b hp=>?_
 obtain ⟨s,k,l⟩:=a
 obtain ⟨h1,h2,h3⟩:=goodW_of (show goodW s k=true from hp)
 refine (q_rWithS s k l).trans ?_
 simp only [List.length_map,beq_self_eq_true,cond_true,ble_t (show s.rows.length≤1000 by omega),Int.sub_self,List.nil_append,setRr_enc]
 rw [setR_eq s.rows 0 h2 (by omega),Int.sub_zero]
 try rfl
end Go.Ev

/- A stock's bytes: the program answers what the plain function does: lemmas. -/
namespace Go.Ev
open Go Go.Proofs
set_option maxRecDepth 100000
-- FOLD2
namespace N
def u64 (n:Int):Bool:=cond (ile 0 n) (ilt n 18446744073709551616) false
end N
end Go.Ev

/- The document's functions on stocks answer what the plain ones do: lemmas. -/
namespace Go.Ev
open Go Go.Proofs
set_option maxRecDepth 100000
-- FOLD2
noncomputable def eRSMake:Env:=env Tryz.prog [(131,dQCheck),(93,dSAt)] [] []
theorem q_rSMake_ (s:HStock) (q:HQueue):evFn eRSMake 52 ((aCons (vAgg cStock) (aOne (vAgg cQueue))).enc (s,q)) ([]) some =(
 let z2:=(RCod.dec cStock (RCod.enc cStock s));let z3:=(List.map (RCod.enc cRow) (HStock.rows s));let z0:=(cond (ile (0:Int) (N.sAt z2 (HQueue.name q))) (some {v:=V.tup [V.agg (RCod.enc cStock s),V.int .i64 (9:Int)],bx:=[]:DRes}) (cond (ile (8:Int) (↑(List.length z3):Int)) (some {v:=V.tup [V.agg (RCod.enc cStock s),V.int .i64 (12:Int)],bx:=[]:DRes}) (cond (decide (List.length z3*72≤140737488355328)) (cond (decide ((List.length z3+1)*72≤140737488355328)) (some {v:=V.tup [V.agg (V.int .u64 (HStock.next s)::V.int .i64 (HStock.bytes s)::V.slc [.str,.int .u64,.int .u64,.str,.slc [.int .u64,.str,.str,.slc [.str,.int .u8,.int .i64,.str],.str,.int .u64,.int .u8,.bool,.bool]] (List.map (RCod.enc cRow) (HStock.rows s)++[[V.str (HQueue.name q),V.int .u64 (HQueue.most q),V.int .u64 (HQueue.life q),V.str (HQueue.dead q),V.slc [.int .u64,.str,.str,.slc [.str,.int .u8,.int .i64,.str],.str,.int .u64,.int .u8,.bool,.bool] []]])::risesCells (HStock.rises s)),V.int .i64 (0:Int)],bx:=[]:DRes}) (none)) (none))));let z1:=(List.getD z3 (Int.toNat (N.sAt z2 (HQueue.name q))) []);cond (N.qCheck q != (0:Int)) (some {v:=V.tup [V.agg (RCod.enc cStock s),V.int .i64 (N.qCheck q)],bx:=[]:DRes}) (cond (Nat.ble (List.length (List.map (RCod.dec cRow) z3)) 100) (cond (ile (0:Int) (N.sAt z2 (HQueue.name q))) (cond (decide ((0:Int)≤N.sAt z2 (HQueue.name q)∧N.sAt z2 (HQueue.name q)<(↑(List.length z3):Int))) (cond (V.toStr (List.getD z1 0 V.undef)==HQueue.name q && (V.toInt (List.getD z1 1 V.undef)==HQueue.most q && (V.toInt (List.getD z1 2 V.undef)==HQueue.life q && (V.toStr (List.getD z1 3 V.undef)==HQueue.dead q && true)))) (some {v:=V.tup [V.agg (RCod.enc cStock s),V.int .i64 (0:Int)],bx:=[]:DRes}) z0) (none)) z0) (none))):=by kernel_rfl
theorem q_rSMake (s:HStock) (q:HQueue):type_of% (by have h:=q_rSMake_ s q; dsimp only at h; exact h):=by
 have h:=q_rSMake_ s q
 dsimp only at h
 exact h
theorem ok_rSMake:FnOk Tryz.prog 52 dSMake:=by
 refine den_okF (env_ok (((TOk.nil _).cons ok_rFindS).cons ok_rQCheck)) (E:=eRSMake) Tryz.func52 [] (by kernel_rfl) (none0) fun a b hp=>?_
 obtain ⟨s,q⟩:=a
 have hp:s.rows.length≤100:=few_of hp
 refine (q_rSMake s q).trans ?_
 simp only [dec_encs,cStock.de,List.length_map,ble_t hp,cond_true,decide_eq_true (show s.rows.length*72≤140737488355328 by omega),decide_eq_true (show (s.rows.length+1)*72≤140737488355328 by omega)]
 show _=some (⟨.tup [.agg (cStock.enc (N.sMake s q).1),.int .i64 (N.sMake s q).2],[],[]⟩:DRes)
 unfold N.sMake
 cases h1:N.qCheck q != 0 with
 | true=>rfl
 | false =>
  cases h2:ile 0 (N.sAt s q.name) with
  | true =>
   obtain ⟨g1,g2,g3,g4⟩:=sAt_lt h2
   simp only [dAnd g1 g2,cond_true,cond_false,row_get s _ g4]
   have e:=eqQ_and (N.rowK s (N.sAt s q.name)).q q
   show cond ((N.rowK s (N.sAt s q.name)).q.name==q.name && _) _ _=_
   rw [show (V.toInt (List.getD (RCod.enc cRow (s.rows.getD (N.sAt s q.name).toNat row0)) 1 V.undef)==q.most && (V.toInt (List.getD (RCod.enc cRow (s.rows.getD (N.sAt s q.name).toNat row0)) 2 V.undef)==q.life && (V.toStr (List.getD (RCod.enc cRow (s.rows.getD (N.sAt s q.name).toNat row0)) 3 V.undef)==q.dead && true)))=((N.rowK s (N.sAt s q.name)).q.most==q.most && ((N.rowK s (N.sAt s q.name)).q.life==q.life && ((N.rowK s (N.sAt s q.name)).q.dead==q.dead && true))) from rfl,e]
   cases h3:N.eqQ (N.rowK s (N.sAt s q.name)).q q<;>rfl
  | false =>
   simp only [cond_false]
   cases h3:ile 8 s.rows.length with
   | true=>rfl
   | false =>
    simp only [cond_false]
    rw [show cStock.enc (⟨s.next,s.bytes,s.rows++[⟨q,[]⟩],s.rises⟩:HStock)=V.int .u64 s.next::V.int .i64 s.bytes::V.slc cRow.sh ((s.rows++[(⟨q,[]⟩:HRow)]).map cRow.enc)::risesCells s.rises from rfl,List.map_append]
    try rfl
noncomputable def eRSLend:Env:=env Tryz.prog [(93,dSAt),(132,dRLend),(133,dRWithS)] [] []
theorem q_rSLend_ (s:HStock) (n:Bytes):evFn eRSLend 55 ((aCons (vAgg cStock) (aOne vStr)).enc (s,n)) ([]) some =(
 let z2:=(List.map (RCod.enc cRow) (HStock.rows s));let z1:=(RCod.dec cStock (RCod.enc cStock s));let z0:=(List.map (RCod.dec cItem) (V.toRows (List.getD (List.getD z2 (Int.toNat (N.sAt z1 n)) []) 4 V.undef)));cond (Nat.ble (List.length (List.map (RCod.dec cRow) z2)) 100) (cond (ilt (N.sAt z1 n) (0:Int)) (some {v:=V.tup [V.agg (RCod.enc cStock s),V.agg [V.int .u64 (0:Int),V.str [],V.str [],V.slc [.str,.int .u8,.int .i64,.str] [],V.str [],V.int .u64 (0:Int),V.int .u8 (0:Int),V.bool false,V.bool false],V.bool false],bx:=[]:DRes}) (cond (decide ((0:Int)≤N.sAt z1 n∧N.sAt z1 n<(↑(List.length z2):Int))) (cond (Nat.ble (List.length z0) 1000) (cond (goodW z1 (N.sAt z1 n)) (some {v:=V.tup [V.agg (RCod.enc cStock (N.sWith z1 (N.sAt z1 n) (List.map (RCod.dec cItem) (List.map (RCod.enc cItem) (Prod.fst (N.lLend z0)))))),V.agg (RCod.enc cItem (Prod.fst (Prod.snd (N.lLend z0)))),V.bool (Prod.snd (Prod.snd (N.lLend z0)))],bx:=[]:DRes}) (none)) (none)) (none))) (none)):=by kernel_rfl
theorem q_rSLend (s:HStock) (n:Bytes):type_of% (by have h:=q_rSLend_ s n; dsimp only at h; exact h):=by
 have h:=q_rSLend_ s n
 dsimp only at h
 exact h
theorem ok_rSLend:FnOk Tryz.prog 55 dSLend:=by
 refine den_okF (env_ok ((((TOk.nil _).cons ok_rWithS).cons ok_rLend).cons ok_rFindS)) (E:=eRSLend) Tryz.func55 [] (by kernel_rfl) (none0) fun a b hp=>?_
 obtain ⟨s,n⟩:=a
 obtain ⟨hp,hr⟩:=bcond (show goodRows s=true from hp)
 have hp':=ble_of hp
 refine (q_rSLend s n).trans ?_
 simp only [line_of_row,dec_encs,cStock.de,List.length_map,hp,cond_true]
 show _=some (⟨.tup [.agg (cStock.enc (N.sLend s n).1),.agg (cItem.enc (N.sLend s n).2.1),.bool (N.sLend s n).2.2],[],[]⟩:DRes)
 unfold N.sLend
 cases h1:ilt (N.sAt s n) 0 with
 | true=>rfl
 | false =>
  obtain ⟨g1,g2,g3,g4⟩:=sAt_lt (nlt_ge h1)
  have hl:=(goodLine_of (rowK_good hr g4)).1
  simp only [dAnd g1 g2,row_get s _ g4,cRow.de,ble_t (show (s.rows.getD (N.sAt s n).toNat row0).line.length≤1000 by omega),goodW_t hp' g1 g2,cond_true,cond_false]
  try rfl
noncomputable def eRSBack:Env:=env Tryz.prog [(93,dSAt),(134,dRBack),(133,dRWithS)] [] []
theorem q_rSBack (s:HStock) (n:Bytes) (id:Int):evFn eRSBack 57 ((aCons (vAgg cStock) (aCons vStr (aOne (vInt .u64)))).enc (s,n,id)) ([]) some =
 cond (Nat.ble (List.length (List.map (RCod.dec cRow) (List.map (RCod.enc cRow) (HStock.rows s)))) 100) (cond (ilt (N.sAt (RCod.dec cStock (RCod.enc cStock s)) n) (0:Int)) (some {v:=V.tup [V.agg (RCod.enc cStock s),V.int .i64 (10:Int)],bx:=[]:DRes}) (cond (decide ((0:Int)≤N.sAt (RCod.dec cStock (RCod.enc cStock s)) n∧N.sAt (RCod.dec cStock (RCod.enc cStock s)) n<(↑(List.length (List.map (RCod.enc cRow) (HStock.rows s))):Int))) (cond (Nat.ble (List.length (List.map (RCod.dec cItem) (V.toRows (List.getD (List.getD (List.map (RCod.enc cRow) (HStock.rows s)) (Int.toNat (N.sAt (RCod.dec cStock (RCod.enc cStock s)) n)) []) 4 V.undef)))) 1000) (cond (goodW (RCod.dec cStock (RCod.enc cStock s)) (N.sAt (RCod.dec cStock (RCod.enc cStock s)) n)) (some {v:=V.tup [V.agg (RCod.enc cStock (N.sWith (RCod.dec cStock (RCod.enc cStock s)) (N.sAt (RCod.dec cStock (RCod.enc cStock s)) n) (List.map (RCod.dec cItem) (List.map (RCod.enc cItem) (Prod.fst (N.lBack (List.map (RCod.dec cItem) (V.toRows (List.getD (List.getD (List.map (RCod.enc cRow) (HStock.rows s)) (Int.toNat (N.sAt (RCod.dec cStock (RCod.enc cStock s)) n)) []) 4 V.undef))) id)))))),V.int .i64 (Prod.snd (N.lBack (List.map (RCod.dec cItem) (V.toRows (List.getD (List.getD (List.map (RCod.enc cRow) (HStock.rows s)) (Int.toNat (N.sAt (RCod.dec cStock (RCod.enc cStock s)) n)) []) 4 V.undef))) id))],bx:=[]:DRes}) (none)) (none)) (none))) (none):=by kernel_rfl
theorem ok_rSBack:FnOk Tryz.prog 57 dSBack:=by
 refine den_okF (env_ok ((((TOk.nil _).cons ok_rWithS).cons ok_rBack).cons ok_rFindS)) (E:=eRSBack) Tryz.func57 [] (by kernel_rfl) (none0) fun a b hp=>?_
 obtain ⟨s,n,id⟩:=a
 obtain ⟨hp,hr⟩:=bcond (show goodRows s=true from hp)
 have hp':=ble_of hp
 refine (q_rSBack s n id).trans ?_
 simp only [line_of_row,dec_encs,cStock.de,List.length_map,hp,cond_true]
 show _=some (⟨.tup [.agg (cStock.enc (N.sBack s n id).1),.int .i64 (N.sBack s n id).2],[],[]⟩:DRes)
 unfold N.sBack
 cases h1:ilt (N.sAt s n) 0 with
 | true=>rfl
 | false =>
  obtain ⟨g1,g2,g3,g4⟩:=sAt_lt (nlt_ge h1)
  have hl:=(goodLine_of (rowK_good hr g4)).1
  simp only [dAnd g1 g2,row_get s _ g4,cRow.de,ble_t (show (s.rows.getD (N.sAt s n).toNat row0).line.length≤1000 by omega),goodW_t hp' g1 g2,cond_true,cond_false]
  try rfl
noncomputable def eRSRemove:Env:=env Tryz.prog [(93,dSAt),(135,dRRemove),(133,dRWithS)] [] []
theorem q_rSRemove_ (s:HStock) (n:Bytes) (id:Int):evFn eRSRemove 59 ((aCons (vAgg cStock) (aCons vStr (aOne (vInt .u64)))).enc (s,n,id)) ([]) some =(
 let z2:=(List.map (RCod.enc cRow) (HStock.rows s));let z1:=(RCod.dec cStock (RCod.enc cStock s));let z0:=(List.map (RCod.dec cItem) (V.toRows (List.getD (List.getD z2 (Int.toNat (N.sAt z1 n)) []) 4 V.undef)));cond (Nat.ble (List.length (List.map (RCod.dec cRow) z2)) 100) (cond (ilt (N.sAt z1 n) (0:Int)) (some {v:=V.tup [V.agg (RCod.enc cStock s),V.agg [V.int .u64 (0:Int),V.str [],V.str [],V.slc [.str,.int .u8,.int .i64,.str] [],V.str [],V.int .u64 (0:Int),V.int .u8 (0:Int),V.bool false,V.bool false],V.int .i64 (10:Int)],bx:=[]:DRes}) (cond (decide ((0:Int)≤N.sAt z1 n∧N.sAt z1 n<(↑(List.length z2):Int))) (cond (Nat.ble (List.length z0) 1000) (cond (goodW z1 (N.sAt z1 n)) (some {v:=V.tup [V.agg (RCod.enc cStock (N.sWith z1 (N.sAt z1 n) (List.map (RCod.dec cItem) (List.map (RCod.enc cItem) (Prod.fst (N.lRemove z0 id)))))),V.agg (RCod.enc cItem (Prod.fst (Prod.snd (N.lRemove z0 id)))),V.int .i64 (Prod.snd (Prod.snd (N.lRemove z0 id)))],bx:=[]:DRes}) (none)) (none)) (none))) (none)):=by kernel_rfl
theorem q_rSRemove (s:HStock) (n:Bytes) (id:Int):type_of% (by have h:=q_rSRemove_ s n id; dsimp only at h; exact h):=by
 have h:=q_rSRemove_ s n id
 dsimp only at h
 exact h
theorem ok_rSRemove:FnOk Tryz.prog 59 dSRemove:=by
 refine den_okF (env_ok ((((TOk.nil _).cons ok_rWithS).cons ok_rRemove).cons ok_rFindS)) (E:=eRSRemove) Tryz.func59 [] (by kernel_rfl) (none0) fun a b hp=>?_
 obtain ⟨s,n,id⟩:=a
 obtain ⟨hp,hr⟩:=bcond (show goodRows s=true from hp)
 have hp':=ble_of hp
 refine (q_rSRemove s n id).trans ?_
 simp only [line_of_row,dec_encs,cStock.de,List.length_map,hp,cond_true]
 show _=some (⟨.tup [.agg (cStock.enc (N.sRemove s n id).1),.agg (cItem.enc (N.sRemove s n id).2.1),.int .i64 (N.sRemove s n id).2.2],[],[]⟩:DRes)
 unfold N.sRemove
 cases h1:ilt (N.sAt s n) 0 with
 | true=>rfl
 | false =>
  obtain ⟨g1,g2,g3,g4⟩:=sAt_lt (nlt_ge h1)
  have hl:=(goodLine_of (rowK_good hr g4)).1
  simp only [dAnd g1 g2,row_get s _ g4,cRow.de,ble_t (show (s.rows.getD (N.sAt s n).toNat row0).line.length≤1000 by omega),goodW_t hp' g1 g2,cond_true,cond_false]
  try rfl
def N.fltW (p:HRow→Bool):List (List V)→List (List V)
 | []=>[]
 | r::rs=>cond (p (cRow.dec r)) (etaRow xsRow 0 r::N.fltW p rs) (N.fltW p rs)
theorem fltW_cons (p:HRow→Bool) (r:List V) (rs:List (List V)):N.fltW p (r::rs)=cond (p (cRow.dec r)) (etaRow xsRow 0 r::N.fltW p rs) (N.fltW p rs):=rfl
theorem fltW_enc (p:HRow→Bool) (l:List HRow):N.fltW p (l.map cRow.enc)=(l.filter p).map cRow.enc:=by
 induction l with
 | nil=>rfl
 | cons x r ih =>
  rw [List.map_cons,fltW_cons,List.filter_cons,cRow.de x,ih]
  cases p x<;>rfl
def dRSDrop:Den:=den (aCons (vAgg cStock) (aOne vStr)) bNil (oTup (aCons (vAgg cStock) (aOne (vInt .i64)))) (fun a _=>fewRows a.1) fun a _=>(N.rDropS a.1 a.2,())
def schRSDrop:SSch:={ fr:=[(1,.str),(2,.ptr 10000 0 0),(4,.ptr 10001 0 0),(6,.own 10002),(15,.slc [.str,.int .u64,.int .u64,.str,.slc [.int .u64,.str,.str,.slc [.str,.int .u8,.int .i64,.str],.str,.int .u64,.int .u8,.bool,.bool]]),(16,.int .i64),(17,.int .i64)],tab:=[(10000,.row [] xsStock),(10001,.row [] xsStock),(10002,.sl [.str,.int .u64,.int .u64,.str,.slc [.int .u64,.str,.str,.slc [.str,.int .u8,.int .i64,.str],.str,.int .u64,.int .u8,.bool,.bool]])] }
def gRSDrop:List Leaf→(Ex→St→Option R)→Option R
 | [.s s1,.r r15,.i i16,.i i17,.c cx0,.c cx1,.r rx2],K=>cond (i16==r15.length) (cond (i17==0) (cond (Nat.ble r15.length 1000) (cond (Nat.beq rx2.length 0) (K (.exit 0) { fr:=[(2,.ptr 10000 0 0 0),(4,.ptr 10001 0 0 0),(6,.own 10002 0)],tab:=[(10000,.var (etaRow xsStock 0 cx0)),(10001,.var (etaRow xsStock 0 cx1)),(10002,.sl [.str,.int .u64,.int .u64,.str,.slc [.int .u64,.str,.str,.slc [.str,.int .u8,.int .i64,.str],.str,.int .u64,.int .u8,.bool,.bool]] ([]++N.fltW (N.offRow s1) (r15)) 0)] }) none) none) none) none
 | _,_=>none
noncomputable def eRSDrop:Env:={ env Tryz.prog [(93,dSAt)] [(5,loopF schRSDrop gRSDrop)] [(5,[(0,[1,2,4,6,15,16,17]),(1,[2,4,6]),(1000,[4,5])])] with fz:=true }
theorem q_rSDrop (s:HStock) (n:Bytes):evFn eRSDrop 54 ((aCons (vAgg cStock) (aOne vStr)).enc (s,n)) ([]) some =
 cond (Nat.ble (List.length (List.map (RCod.dec cRow) (List.map (RCod.enc cRow) (HStock.rows s)))) 100) (cond (ilt (N.sAt (RCod.dec cStock (RCod.enc cStock s)) n) (0:Int)) (some {v:=V.tup [V.agg (RCod.enc cStock s),V.int .i64 (10:Int)],bx:=[]:DRes}) (cond ((↑(List.length (List.map (RCod.enc cRow) (HStock.rows s))):Int)==(↑(List.length (List.map (RCod.enc cRow) (HStock.rows s))):Int)) (cond (Nat.ble (List.length (List.map (RCod.enc cRow) (HStock.rows s))) 1000) (some {v:=V.tup [V.agg (V.int .u64 (HStock.next s)::V.int .i64 (HStock.bytes s)::V.slc [.str,.int .u64,.int .u64,.str,.slc [.int .u64,.str,.str,.slc [.str,.int .u8,.int .i64,.str],.str,.int .u64,.int .u8,.bool,.bool]] ([]++N.fltW (N.offRow n) (List.map (RCod.enc cRow) (HStock.rows s)))::risesCells (HStock.rises s)),V.int .i64 (0:Int)],bx:=[]:DRes}) (none)) (none))) (none):=by kernel_rfl
theorem q_rSDropR (s1:Bytes) (r15:List (List V)) (i16:Int) (i17:Int) (cx0:List V) (cx1:List V) (rx2:List (List V)) (K:Ex→St→Option R):evRound eRSDrop 54 5 { fr:=[(1,.str s1),(2,.ptr 10000 0 0 0),(4,.ptr 10001 0 0 0),(6,.own 10002 0),(15,.slc [.str,.int .u64,.int .u64,.str,.slc [.int .u64,.str,.str,.slc [.str,.int .u8,.int .i64,.str],.str,.int .u64,.int .u8,.bool,.bool]] r15),(16,.int .i64 i16),(17,.int .i64 i17)],tab:=[(10000,.var (etaRow xsStock 0 cx0)),(10001,.var (etaRow xsStock 0 cx1)),(10002,.sl [.str,.int .u64,.int .u64,.str,.slc [.int .u64,.str,.str,.slc [.str,.int .u8,.int .i64,.str],.str,.int .u64,.int .u8,.bool,.bool]] rx2 0)] } K =
 cond (ilt i17 i16) (cond (decide ((0:Int)≤i17∧i17<(↑(List.length r15):Int))) (cond (!V.toStr (List.getD (List.getD r15 (Int.toNat i17) []) 0 V.undef)==s1) (cond (decide ((List.length rx2+1)*72≤140737488355328)) (K Ex.normal {fr:=[(1,V.str s1),(2,V.ptr 10000 0 0 0),(4,V.ptr 10001 0 0 0),(6,V.own 10002 0),(15,V.slc [.str,.int .u64,.int .u64,.str,.slc [.int .u64,.str,.str,.slc [.str,.int .u8,.int .i64,.str],.str,.int .u64,.int .u8,.bool,.bool]] r15),(16,V.int .i64 i16),(17,V.int .i64 (IntKind.wrap .i64 (i17+(1:Int))))],tab:=[(10000,Box.var (etaRow xsStock 0 cx0)),(10001,Box.var (etaRow xsStock 0 cx1)),(10002,Box.sl [.str,.int .u64,.int .u64,.str,.slc [.int .u64,.str,.str,.slc [.str,.int .u8,.int .i64,.str],.str,.int .u64,.int .u8,.bool,.bool]] (rx2++[etaRow xsRow 0 (List.getD r15 (Int.toNat i17) [])]) 0)]:St}) (none)) (K Ex.normal {fr:=[(1,V.str s1),(2,V.ptr 10000 0 0 0),(4,V.ptr 10001 0 0 0),(6,V.own 10002 0),(15,V.slc [.str,.int .u64,.int .u64,.str,.slc [.int .u64,.str,.str,.slc [.str,.int .u8,.int .i64,.str],.str,.int .u64,.int .u8,.bool,.bool]] r15),(16,V.int .i64 i16),(17,V.int .i64 (IntKind.wrap .i64 (i17+(1:Int))))],tab:=[(10000,Box.var (etaRow xsStock 0 cx0)),(10001,Box.var (etaRow xsStock 0 cx1)),(10002,Box.sl [.str,.int .u64,.int .u64,.str,.slc [.int .u64,.str,.str,.slc [.str,.int .u8,.int .i64,.str],.str,.int .u64,.int .u8,.bool,.bool]] rx2 0)]:St})) (none)) (K (Ex.exit 0) {fr:=[(2,V.ptr 10000 0 0 0),(4,V.ptr 10001 0 0 0),(6,V.own 10002 0)],tab:=[(10000,Box.var (etaRow xsStock 0 cx0)),(10001,Box.var (etaRow xsStock 0 cx1)),(10002,Box.sl [.str,.int .u64,.int .u64,.str,.slc [.int .u64,.str,.str,.slc [.str,.int .u8,.int .i64,.str],.str,.int .u64,.int .u8,.bool,.bool]] rx2 0)]:St}):=by kernel_rfl
theorem ok_rSDrop_5:RoundsOk eRSDrop 54 5:=by
 refine rounds_of rfl fun l K q h=>?_
 unfold gRSDrop at h
 split at h
 ·rename_i s1 r15 i16 i17 cx0 cx1 rx2
  have h1:=(cond_none h).1; replace h:=(cond_none h).2; have h2:=(cond_none h).1; replace h:=(cond_none h).2; have h3:=(cond_none h).1; replace h:=(cond_none h).2; have h4:=(cond_none h).1; replace h:=(cond_none h).2
  have e1:=ieq_of h1
  have e2:=ieq_of h2
  subst e1 e2
  have h3:r15.length≤1000:=ble_of h3
  have e3:=List.eq_nil_of_length_eq_zero (nbeq_of h4)
  subst e3
  have main:=range_ind (E:=eRSDrop) (f:=54) (id:=5) (A:=List (List V)) (r15) (fun a i=>{ fr:=[(1,.str s1),(2,.ptr 10000 0 0 0),(4,.ptr 10001 0 0 0),(6,.own 10002 0),(15,.slc [.str,.int .u64,.int .u64,.str,.slc [.int .u64,.str,.str,.slc [.str,.int .u8,.int .i64,.str],.str,.int .u64,.int .u8,.bool,.bool]] r15),(16,.int .i64 r15.length),(17,.int .i64 i)],tab:=[(10000,.var (etaRow xsStock 0 cx0)),(10001,.var (etaRow xsStock 0 cx1)),(10002,.sl [.str,.int .u64,.int .u64,.str,.slc [.int .u64,.str,.str,.slc [.str,.int .u8,.int .i64,.str],.str,.int .u64,.int .u8,.bool,.bool]] a 0)] }) (fun a i=>a.length≤i)
   (fun a rows K=>K (.exit 0) { fr:=[(2,.ptr 10000 0 0 0),(4,.ptr 10001 0 0 0),(6,.own 10002 0)],tab:=[(10000,.var (etaRow xsStock 0 cx0)),(10001,.var (etaRow xsStock 0 cx1)),(10002,.sl [.str,.int .u64,.int .u64,.str,.slc [.int .u64,.str,.str,.slc [.str,.int .u8,.int .i64,.str],.str,.int .u64,.int .u8,.bool,.bool]] (a++N.fltW (N.offRow s1) (rows)) 0)] }) (fun a i ha hi=>?_) (fun a ha=>?_) ([]) 0 (Int.le_refl _) (by omega) (Nat.zero_le _) K q (by assumption)
  ·exact main
  ·have hq:=fun K=>q_rSDropR (s1) (r15) (r15.length) ((i:Int)) (cx0) (cx1) (a) K
   have t1:ilt (i:Int) r15.length=true:=ilt_t (by omega)
   have t2:decide ((0:Int)≤i∧(i:Int)<r15.length)=true:=decide_eq_true (by omega)
   have t3:IntKind.wrap .i64 ((i:Int)+1)=(i:Int)+1:=wr_i64 (by omega) (by omega)
   have t5:decide ((a.length+1)*72≤140737488355328)=true:=decide_eq_true (by omega)
   simp only [Int.toNat_natCast] at hq
   simp only [t1,t2,t3,cond_true,t5] at hq
   simp only [fltW_cons]
   cases hc:N.offRow s1 (cRow.dec (r15.getD i [])) with
   | true =>
    have hc' : (!(V.toStr (List.getD (List.getD r15 i []) 0 V.undef)==s1))=true:=hc
    refine .inl ⟨a++[etaRow xsRow 0 (r15.getD i [])],by rw [List.length_append]; simp only [List.length_cons,List.length_nil]; omega,fun K=>?_,fun K=>?_⟩
    ·rw [hq,hc']
     try rfl
    ·simp only [cond_true,List.append_assoc,List.singleton_append]
   | false =>
    have hc' : (!(V.toStr (List.getD (List.getD r15 i []) 0 V.undef)==s1))=false:=hc
    refine .inl ⟨a,by omega,fun K=>?_,fun K=>?_⟩
    ·rw [hq,hc']
     try rfl
    ·simp only [cond_false]
  ·refine ⟨.exit 0,{ fr:=[(2,.ptr 10000 0 0 0),(4,.ptr 10001 0 0 0),(6,.own 10002 0)],tab:=[(10000,.var (etaRow xsStock 0 cx0)),(10001,.var (etaRow xsStock 0 cx1)),(10002,.sl [.str,.int .u64,.int .u64,.str,.slc [.int .u64,.str,.str,.slc [.str,.int .u8,.int .i64,.str],.str,.int .u64,.int .u8,.bool,.bool]] (a) 0)] },by simp,fun K=>?_,fun K=>by show K _ { fr:=_,tab:=[_,_,(10002,.sl _ (a++[]) 0)] }=_; rw [List.append_nil]⟩
   rw [q_rSDropR]
   simp (disch:=omega) only [evs]
   try rfl
 ·cases h
theorem ok_rSDrop:FnOk Tryz.prog 54 dRSDrop:=by
 refine den_okF (env_ok ((TOk.nil _).cons ok_rFindS)) (E:=eRSDrop) Tryz.func54 [5] (by kernel_rfl) (one1 ok_rSDrop_5) fun a b hp=>?_
 obtain ⟨s,n⟩:=a
 have hp:s.rows.length≤100:=few_of hp
 refine (q_rSDrop s n).trans ?_
 simp only [dec_encs,cStock.de,List.length_map,ble_t hp,ble_t (show s.rows.length≤1000 by omega),beq_self_eq_true,List.nil_append,cond_true,fltW_enc]
 show _=some (⟨.tup [.agg (cStock.enc (N.rDropS s n).1),.int .i64 (N.rDropS s n).2],[],[]⟩:DRes)
 unfold N.rDropS
 cases h1:ilt (N.sAt s n) 0<;>rfl
def N.wakeD (c:List V):Nat→Nat→List V
 | _,0=>c
 | i,k+1=>N.wakeD (cStock.enc (N.sWith (cStock.dec c) i (N.lWake ((cStock.dec c).rows.getD i row0).line))) (i+1) k
def N.wakeE (s:HStock):Nat→Nat→HStock
 | _,0=>s
 | i,k+1=>N.wakeE (N.sWith s i (N.lWake (s.rows.getD i row0).line)) (i+1) k
theorem wakeD_enc:∀ (k:Nat) (s:HStock) (i:Nat),N.wakeD (cStock.enc s) i k=cStock.enc (N.wakeE s i k)
 | 0,s,i=>rfl
 | k+1,s,i=>by
  simp only [N.wakeD,N.wakeE,cStock.de]
  exact wakeD_enc k _ (i+1)
theorem wakeE_eq:∀ (l a:List HRow) (s:HStock),s.rows=a++l→N.wakeE s a.length l.length=⟨s.next,s.bytes,a++l.map N.wakeRow,s.rises⟩
 | [],a,s,h=>by
  obtain ⟨n,b,rs,ri⟩:=s
  simp only at h
  subst h
  rfl
 | x::r,a,s,h=>by
  have e1:s.rows.getD a.length row0=x:=by rw [h]; simp [List.getD_eq_getElem?_getD]
  have e2:(N.sWith s a.length (N.lWake x.line)).rows=(a++[N.wakeRow x])++r:=by
   show s.rows.set (Int.toNat (a.length:Int)) ⟨(s.rows.getD (Int.toNat (a.length:Int)) row0).q,_⟩=_
   rw [Int.toNat_natCast,e1,h]
   simp [N.wakeRow]
  have ih:=wakeE_eq r (a++[N.wakeRow x]) (N.sWith s a.length (N.lWake x.line)) e2
  rw [List.length_append] at ih
  rw [List.length_cons]
  simp only [N.wakeE]
  rw [e1,show a.length+1=a.length+[N.wakeRow x].length from rfl,ih]
  simp only [List.append_assoc,List.map_cons,List.singleton_append]
  try rfl
theorem stk_len (c:List V):(V.toRows (List.getD c 2 V.undef)).length=(cStock.dec c).rows.length:=(List.length_map cRow.dec).symm
theorem stk_row (c:List V) (i:Nat) (h:i<(cStock.dec c).rows.length):cRow.dec ((V.toRows (List.getD c 2 V.undef)).getD i [])=(cStock.dec c).rows.getD i row0:=by
 have e:(cStock.dec c).rows=(V.toRows (List.getD c 2 V.undef)).map cRow.dec:=rfl
 rw [e] at h ⊢
 rw [List.length_map] at h
 generalize V.toRows (List.getD c 2 V.undef)=R at h ⊢
 simp [List.getD_eq_getElem?_getD,h]
def schRSWake:SSch:={ fr:=[(1,.ptr 10000 0 0),(2,.ptr 10001 0 0),(6,.int .i64),(7,.int .i64)],tab:=[(10000,.row [] xsStock),(10001,.row [] xsStock)] }
def gRSWake:List Leaf→(Ex→St→Option R)→Option R
 | [.i i6,.i i7,.c cx0,.c cx1],K=>cond (i7==0) (cond (i6==((cStock.dec cx0).rows.length:Int)) (cond (Nat.ble (cStock.dec cx0).rows.length 100) (cond ((cStock.dec cx0).rows.all fun x=>Nat.ble x.line.length 1000) (K (.exit 0) { fr:=[(1,.ptr 10000 0 0 0),(2,.ptr 10001 0 0 0)],tab:=[(10000,.var (etaRow xsStock 0 (N.wakeD cx0 0 (cStock.dec cx0).rows.length))),(10001,.var (etaRow xsStock 0 cx1))] }) none) none) none) none
 | _,_=>none
noncomputable def eRSWake:Env:={ env Tryz.prog [(139,dRWake),(133,dRWithS)] [(2,loopF schRSWake gRSWake)] [(2,[(0,[1,2,6,7]),(1,[1,2]),(1000,[2])])] with fz:=true }
theorem q_rSWake (s:HStock):evFn eRSWake 63 ((aOne (vAgg cStock)).enc s) ([]) some =
 cond ((↑(List.length (List.map (RCod.enc cRow) (HStock.rows s))):Int)==(↑(List.length (List.map (RCod.dec cRow) (List.map (RCod.enc cRow) (HStock.rows s)))):Int)) (cond (Nat.ble (List.length (List.map (RCod.dec cRow) (List.map (RCod.enc cRow) (HStock.rows s)))) 100) (cond (List.all (List.map (RCod.dec cRow) (List.map (RCod.enc cRow) (HStock.rows s))) fun x=>Nat.ble (List.length (HRow.line x)) 1000) (some {v:=V.agg (etaRow xsStock 0 (N.wakeD (RCod.enc cStock s) 0 (List.length (List.map (RCod.dec cRow) (List.map (RCod.enc cRow) (HStock.rows s)))))),bx:=[]:DRes}) (none)) (none)) (none):=by kernel_rfl
theorem q_rSWakeR (i6:Int) (i7:Int) (cx0:List V) (cx1:List V) (K:Ex→St→Option R):evRound eRSWake 63 2 { fr:=[(1,.ptr 10000 0 0 0),(2,.ptr 10001 0 0 0),(6,.int .i64 i6),(7,.int .i64 i7)],tab:=[(10000,.var (etaRow xsStock 0 cx0)),(10001,.var (etaRow xsStock 0 cx1))] } K =
 cond (ilt i7 i6) (cond (decide ((0:Int)≤i7∧i7<(↑(List.length (V.toRows (List.getD cx0 2 .undef))):Int))) (cond (Nat.ble (List.length (List.map (RCod.dec cItem) (V.toRows (List.getD (List.getD (V.toRows (List.getD cx0 2 .undef)) (Int.toNat i7) []) 4 V.undef)))) 1000) (cond (goodW (RCod.dec cStock cx0) i7) (K Ex.normal {fr:=[(1,V.ptr 10000 0 0 0),(2,V.ptr 10001 0 0 0),(6,V.int .i64 i6),(7,V.int .i64 (IntKind.wrap .i64 (i7+(1:Int))))],tab:=[(10000,Box.var (RCod.enc cStock (N.sWith (RCod.dec cStock cx0) i7 (List.map (RCod.dec cItem) (List.map (RCod.enc cItem) (N.lWake (List.map (RCod.dec cItem) (V.toRows (List.getD (List.getD (V.toRows (List.getD cx0 2 .undef)) (Int.toNat i7) []) 4 V.undef))))))))),(10001,Box.var (etaRow xsStock 0 cx1))]:St}) (none)) (none)) (none)) (K (Ex.exit 0) {fr:=[(1,V.ptr 10000 0 0 0),(2,V.ptr 10001 0 0 0)],tab:=[(10000,Box.var (etaRow xsStock 0 cx0)),(10001,Box.var (etaRow xsStock 0 cx1))]:St}):=by kernel_rfl
theorem ok_rSWake_2:RoundsOk eRSWake 63 2:=by
 refine rounds_of rfl fun l K q h=>?_
 unfold gRSWake at h
 split at h
 ·rename_i i6 i7 cx0 cx1
  have h1:=(cond_none h).1; replace h:=(cond_none h).2; have h2:=(cond_none h).1; replace h:=(cond_none h).2; have h3:=(cond_none h).1; replace h:=(cond_none h).2; have h4:=(cond_none h).1; replace h:=(cond_none h).2
  have e1:=ieq_of h1
  have e2:=ieq_of h2
  subst e1 e2
  have h3:=ble_of h3
  generalize hN:(cStock.dec cx0).rows.length=n at *
  refine loop_ind (E:=eRSWake) (f:=63) (id:=2) (σ:=List V × Nat) (fun s=>{ fr:=[(1,.ptr 10000 0 0 0),(2,.ptr 10001 0 0 0),(6,.int .i64 (n:Int)),(7,.int .i64 (s.2:Int))],tab:=[(10000,.var (etaRow xsStock 0 s.1)),(10001,.var (etaRow xsStock 0 cx1))] })
   (fun s=>s.2≤n∧(cStock.dec s.1).rows.length=n∧((cStock.dec s.1).rows.all fun x=>Nat.ble x.line.length 1000)=true) (fun s=>n-s.2) (fun s K=>K (.exit 0) { fr:=[(1,.ptr 10000 0 0 0),(2,.ptr 10001 0 0 0)],tab:=[(10000,.var (etaRow xsStock 0 (N.wakeD s.1 s.2 (n-s.2)))),(10001,.var (etaRow xsStock 0 cx1))] }) (fun s hs=>?_) (cx0,0) ⟨Nat.zero_le _,hN,h4⟩ K q (by assumption)
  obtain ⟨c,i⟩:=s
  obtain ⟨s1,s2,s3⟩:=hs
  simp only at s1 s2 s3 ⊢
  have hq:=fun K=>q_rSWakeR n i c cx1 K
  by_cases hl:i<n
  ·have t1:ilt (i:Int) n=true:=ilt_t (by omega)
   have t2:decide ((0:Int)≤i∧(i:Int)<n)=true:=decide_eq_true (by omega)
   have t3:IntKind.wrap .i64 ((i:Int)+1)=(i:Int)+1:=wr_i64 (by omega) (by omega)
   have hw:goodW (cStock.dec c) i=true:=goodW_t (by omega) (by omega) (by omega)
   have g6:Nat.ble ((cStock.dec c).rows.getD i row0).line.length 1000=true:=List.all_eq_true.1 s3 _ (getD_mem row0 (by omega))
   simp only [Int.toNat_natCast,line_of_row,dec_encs,stk_len,s2,stk_row c i (by omega)] at hq
   simp only [t1,t2,t3,hw,g6,cond_true] at hq
   refine .inl ⟨(cStock.enc (N.sWith (cStock.dec c) i (N.lWake ((cStock.dec c).rows.getD i row0).line)),i+1),⟨hl,?_,?_⟩,by simp only; omega,fun K=>?_,fun K=>?_⟩
   ·simp only
    rw [cStock.de]
    show (List.set _ _ _).length=_
    rw [List.length_set]; exact s2
   ·simp only
    rw [cStock.de]
    refine List.all_eq_true.2 fun x hx=>?_
    rcases List.mem_or_eq_of_mem_set hx with hx | hx
    ·exact List.all_eq_true.1 s3 x hx
    ·rw [hx]
     show Nat.ble (N.lWake ((cStock.dec c).rows.getD i row0).line).length 1000=true
     unfold N.lWake
     rw [List.length_map]; exact g6
   ·rw [hq]
    try rfl
   ·simp only
    rw [show n-i=n-(i+1)+1 by omega]
    try rfl
  ·obtain rfl:i=n:=by omega
   refine .inr ⟨.exit 0,_,by simp,fun K=>?_,fun K=>rfl⟩
   rw [hq,Nat.sub_self]
   simp (disch:=omega) only [evs]
   try rfl
 ·cases h
theorem ok_rSWake:FnOk Tryz.prog 63 dSWake:=by
 refine den_okF (env_ok (((TOk.nil _).cons ok_rWithS).cons ok_rWake)) (E:=eRSWake) Tryz.func63 [2] (by kernel_rfl) (one1 ok_rSWake_2) fun a b hp=>?_
 obtain ⟨h1,h2⟩:=bcond (show goodRows a=true from hp)
 have hp1:=ble_of h1
 have h3:(a.rows.all fun x=>Nat.ble x.line.length 1000)=true:=List.all_eq_true.2 fun x hx=>ble_t (Nat.le_trans (goodLine_of (List.all_eq_true.1 h2 x hx)).1 (by decide))
 refine (q_rSWake a).trans ?_
 simp only [dec_encs,List.length_map,beq_self_eq_true,ble_t hp1,h3,cond_true]
 rw [wakeD_enc,show N.wakeE a 0 a.rows.length=N.sWake a from wakeE_eq a.rows [] a rfl]
 try rfl
end Go.Ev
