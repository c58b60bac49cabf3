/- The document's functions on stocks answer what the plain ones do: lemmas. -/
import Derived.Test.YtojpdhfnmodinaaGreatDoorGe
import Derived.Test.YtojpdhfnmodinaaGreatDoorGd
import Derived.Test.YtojpdhfnmodinaaGreatDoorGc
import Derived.Test.YtojpdhfnmodinaaGreatDoorProg
import Derived.KernelRfl
import Derived.Shelf.Strings.Builder1
import Derived.RegionTactic
import Derived.Deep.RegionWith
namespace Go.Ev
open Go Go.Proofs
set_option maxRecDepth 100000
-- FOLD2
def goodLineF (l:List HItem):Bool:=cond (Nat.ble l.length 100) (cond (l.all smallI) (l.all fun x=>N.fineM x.mail) false) false
def goodRowF (x:HRow):Bool:=goodLineF x.line
def goodRowsF (s:HStock):Bool:=cond (Nat.ble s.rows.length 100) (s.rows.all goodRowF) false
def goodSF (s:HStock):Bool:=cond (goodRowsF s) (s.rises.list.all goodFineR) false
theorem goodLineF_of {l:List HItem} (h:goodLineF l=true):l.length≤100∧l.all smallI=true∧(l.all fun x=>N.fineM x.mail)=true:=by
 obtain ⟨h1,h2⟩:=bcond h
 obtain ⟨h2,h3⟩:=bcond h2
 exact ⟨ble_of h1,h2,h3⟩
theorem fine_ok {m:HMail} (h:N.fineM m=true):N.okM m=true:=(bcond h).1
theorem lineF_ok {l:List HItem} (h:goodLineF l=true):goodLine l=true:=by
 obtain ⟨h1,h2,h3⟩:=goodLineF_of h
 unfold goodLine allM
 rw [ble_t h1,h2,List.all_eq_true.2 fun x hx=>fine_ok (List.all_eq_true.1 h3 x hx)]; rfl
theorem rowsF_ok {s:HStock} (h:goodRowsF s=true):goodRows s=true:=by
 obtain ⟨h1,h2⟩:=bcond h
 unfold goodRows
 rw [h1,show s.rows.all goodRow=true from List.all_eq_true.2 fun x hx=>(lineF_ok (List.all_eq_true.1 h2 x hx):goodRow x=true)]; rfl
theorem riseF_ok {x:HRise} (h:goodFineR x=true):goodOkR x=true:=by
 obtain ⟨h1,h2⟩:=bcond h
 unfold goodOkR
 rw [h1,List.all_eq_true.2 fun x hx=>fine_ok (List.all_eq_true.1 h2 x hx)]; rfl
theorem sF_ok {s:HStock} (h:goodSF s=true):goodS s=true:=by
 obtain ⟨h1,h2⟩:=bcond h
 unfold goodS goodRises
 rw [rowsF_ok h1,List.all_eq_true.2 fun x hx=>riseF_ok (List.all_eq_true.1 h2 x hx)]; rfl
def dRSSize:Den:=den (aOne (vAgg cStock)) bNil (oV (vInt .i64)) (fun s _=>goodSF s) fun s _=>(N.sSize s,())
def schRSSize3:SSch:={ fr:=[(1,.ptr 10000 0 0),(3,.int .i64),(9,.slc [.str,.int .u64,.int .u64,.str,.slc [.int .u64,.str,.str,.slc [.str,.int .u8,.int .i64,.str],.str,.int .u64,.int .u8,.bool,.bool]]),(10,.int .i64),(11,.int .i64)],tab:=[(10000,.row [] xsStock)] }
def gRSSize3:List Leaf→(Ex→St→Option R)→Option R
 | [.i i3,.r r9,.i i10,.i i11,.c cx0],K=>cond (i10==r9.length) (cond (i11==0) (cond (Nat.ble r9.length 100) (cond (i3==0) (cond ((r9.map cRow.dec).all goodRowF) (K (.exit 0) { fr:=[(1,.ptr 10000 0 0 0),(3,.int .i64 (0+N.rowsSize ((r9).map cRow.dec)))],tab:=[(10000,.var (etaRow xsStock 0 cx0))] }) none) none) none) none) none
 | _,_=>none
def schRSSize8:SSch:={ fr:=[(3,.int .i64),(22,.rowA xsRises),(23,.int .i64)],tab:=[] }
def gRSSize8:List Leaf→(Ex→St→Option R)→Option R
 | [.i i3,.c c22,.i i23],K=>cond (i23==0) (cond (ile 0 i3) (cond (ile i3 100000000) (cond (((leafRows c22 0).map cRise.dec).all goodFineR) (K (.exit 2) { fr:=[(3,.int .i64 (i3+N.risesSize (((leafRows c22 0)).map cRise.dec)))],tab:=[] }) none) none) none) none
 | _,_=>none
noncomputable def eRSSize:Env:=env Tryz.prog [(159,dRSizeI),(160,dRefRiseSize)] [(8,loopF schRSSize8 gRSSize8),(3,loopF schRSSize3 gRSSize3)] [(3,[(0,[1,3,9,10,11]),(1,[1,3]),(1000,[2])]),(8,[(0,[3,22,23]),(3,[3]),(1000,[2])])]
theorem q_rSSize (s:HStock):evFn eRSSize 94 ((aOne (vAgg cStock)).enc s) ([]) some =
 cond ((↑(List.length (List.map (RCod.enc cRow) (HStock.rows s))):Int)==(↑(List.length (List.map (RCod.enc cRow) (HStock.rows s))):Int)) (cond (Nat.ble (List.length (List.map (RCod.enc cRow) (HStock.rows s))) 100) (cond (List.all (List.map (RCod.dec cRow) (List.map (RCod.enc cRow) (HStock.rows s))) goodRowF) (cond (ile (0:Int) ((0:Int)+N.rowsSize (List.map (RCod.dec cRow) (List.map (RCod.enc cRow) (HStock.rows s))))) (cond (ile ((0:Int)+N.rowsSize (List.map (RCod.dec cRow) (List.map (RCod.enc cRow) (HStock.rows s)))) (100000000:Int)) (cond (List.all (List.map (RCod.dec cRise) (risesRows (HStock.rises s))) goodFineR) (some {v:=V.int .i64 ((0:Int)+N.rowsSize (List.map (RCod.dec cRow) (List.map (RCod.enc cRow) (HStock.rows s)))+N.risesSize (List.map (RCod.dec cRise) (risesRows (HStock.rises s)))),bx:=[]:DRes}) (none)) (none)) (none)) (none)) (none)) (none):=by kernel_rfl
theorem q_rSSizeR3 (i3:Int) (r9:List (List V)) (i10:Int) (i11:Int) (cx0:List V) (K:Ex→St→Option R):evRound eRSSize 94 3 { fr:=[(1,.ptr 10000 0 0 0),(3,.int .i64 i3),(9,.slc [.str,.int .u64,.int .u64,.str,.slc [.int .u64,.str,.str,.slc [.str,.int .u8,.int .i64,.str],.str,.int .u64,.int .u8,.bool,.bool]] r9),(10,.int .i64 i10),(11,.int .i64 i11)],tab:=[(10000,.var (etaRow xsStock 0 cx0))] } K =
 cond (ilt i11 i10) (cond (decide ((0:Int)≤i11∧i11<(↑(List.length r9):Int))) (cond (bif Nat.ble (List.length (List.map (RCod.dec cItem) (V.toRows (List.getD (List.getD r9 (Int.toNat i11) []) 4 V.undef)))) 1000 then List.all (List.map (RCod.dec cItem) (V.toRows (List.getD (List.getD r9 (Int.toNat i11) []) 4 V.undef))) fun x=>N.fineM (HItem.mail x) else false) (K Ex.normal {fr:=[(1,V.ptr 10000 0 0 0),(3,V.int .i64 (IntKind.wrap .i64 (i3+N.lSize (List.map (RCod.dec cItem) (V.toRows (List.getD (List.getD r9 (Int.toNat i11) []) 4 V.undef)))))),(9,V.slc [.str,.int .u64,.int .u64,.str,.slc [.int .u64,.str,.str,.slc [.str,.int .u8,.int .i64,.str],.str,.int .u64,.int .u8,.bool,.bool]] r9),(10,V.int .i64 i10),(11,V.int .i64 (IntKind.wrap .i64 (i11+(1:Int))))],tab:=[(10000,Box.var (etaRow xsStock 0 cx0))]:St}) (none)) (none)) (K (Ex.exit 0) {fr:=[(1,V.ptr 10000 0 0 0),(3,V.int .i64 i3)],tab:=[(10000,Box.var (etaRow xsStock 0 cx0))]:St}):=by kernel_rfl
theorem q_rSSizeR8 (i3:Int) (c22:List V) (i23:Int) (K:Ex→St→Option R):evRound eRSSize 94 8 { fr:=[(3,.int .i64 i3),(22,.agg (etaRow xsRises 0 c22)),(23,.int .i64 i23)],tab:=[] } K =
 cond (ilt i23 (16:Int)) (cond (decide ((0:Int)≤i23∧i23<(↑(16:Nat):Int))) (cond (goodFineR (RCod.dec cRise (List.getD (leafRows c22 0) (Int.toNat i23) []))) (K Ex.normal {fr:=[(3,V.int .i64 (IntKind.wrap .i64 (i3+N.riseSize (List.map (RCod.dec cMail) (V.toRows (List.getD (List.getD (leafRows c22 0) (Int.toNat i23) []) 1 V.undef)))))),(22,V.agg (etaRow xsRises 0 c22)),(23,V.int .i64 (IntKind.wrap .i64 (i23+(1:Int))))],tab:=[]:St}) (none)) (none)) (K (Ex.exit 2) {fr:=[(3,V.int .i64 i3)],tab:=[]:St}):=by kernel_rfl
theorem ok_rSSize_3:RoundsOk eRSSize 94 3:=by
 refine rounds_of rfl fun l K q h=>?_
 unfold gRSSize3 at h
 split at h
 ·rename_i i3 r9 i10 i11 cx0
  have h1:=(cond_none h).1; replace h:=(cond_none h).2; have h2:=(cond_none h).1; replace h:=(cond_none h).2; have h3:=(cond_none h).1; replace h:=(cond_none h).2; have h4:=(cond_none h).1; replace h:=(cond_none h).2; have h5:=(cond_none h).1; replace h:=(cond_none h).2
  have e1:=ieq_of h1
  have e2:=ieq_of h2
  subst e1 e2
  have h3:r9.length≤100:=ble_of h3
  have e3:=ieq_of h4
  subst e3
  have main:=range_ind (E:=eRSSize) (f:=94) (id:=3) (A:=Int) (r9) (fun a i=>{ fr:=[(1,.ptr 10000 0 0 0),(3,.int .i64 a),(9,.slc [.str,.int .u64,.int .u64,.str,.slc [.int .u64,.str,.str,.slc [.str,.int .u8,.int .i64,.str],.str,.int .u64,.int .u8,.bool,.bool]] r9),(10,.int .i64 r9.length),(11,.int .i64 i)],tab:=[(10000,.var (etaRow xsStock 0 cx0))] }) (fun a i=>0≤a∧a≤157000*i)
   (fun a rows K=>K (.exit 0) { fr:=[(1,.ptr 10000 0 0 0),(3,.int .i64 (a+N.rowsSize ((rows).map cRow.dec)))],tab:=[(10000,.var (etaRow xsStock 0 cx0))] }) (fun a i ha hi=>?_) (fun a ha=>?_) (0) 0 (Int.le_refl _) (by omega) ⟨Int.le_refl _,by decide⟩ K q (by assumption)
  ·exact main
  ·have hq:=fun K=>q_rSSizeR3 (a) (r9) (r9.length) ((i:Int)) (cx0) K
   have t1:ilt (i:Int) r9.length=true:=ilt_t (by omega)
   have t2:decide ((0:Int)≤i∧(i:Int)<r9.length)=true:=decide_eq_true (by omega)
   have t3:IntKind.wrap .i64 ((i:Int)+1)=(i:Int)+1:=wr_i64 (by omega) (by omega)
   have hr:goodLineF (cRow.dec (r9.getD i [])).line=true:=all_get h5 hi
   obtain ⟨hr1,_,hr3⟩:=goodLineF_of hr
   have hb:=lSize_le (cRow.dec (r9.getD i [])).line
   have hb2:1570*((cRow.dec (r9.getD i [])).line.length:Int)≤157000:=by omega
   simp only [Int.toNat_natCast,line_of_row] at hq
   simp only [t1,t2,t3,cond_true] at hq
   refine .inl ⟨a+N.lSize (cRow.dec (r9.getD i [])).line,⟨by omega,by omega⟩,fun K=>?_,fun K=>?_⟩
   ·rw [hq,ble_t (show (cRow.dec (r9.getD i [])).line.length≤1000 by omega),hr3,wr_i64 (n:=a+_) (by omega) (by omega)]
    try rfl
   ·show K _ { fr:=[(1,.ptr 10000 0 0 0),(3,.int .i64 (a+(N.lSize (cRow.dec (r9.getD i [])).line+N.rowsSize ((r9.drop (i+1)).map cRow.dec))))],tab:=_ }=_
    rw [Int.add_assoc]
  ·refine ⟨.exit 0,_,by simp,fun K=>?_,fun K=>rfl⟩
   rw [q_rSSizeR3]
   simp (disch:=omega) only [evs,List.map_nil]
   show _=K _ { fr:=[(1,.ptr 10000 0 0 0),(3,.int .i64 (a+0))],tab:=_ }
   rw [Int.add_zero]
   try rfl
 ·cases h
theorem ok_rSSize_8:RoundsOk eRSSize 94 8:=by
 refine rounds_of rfl fun l K q h=>?_
 unfold gRSSize8 at h
 split at h
 ·rename_i i3 c22 i23
  have h2:=(cond_none h).1; replace h:=(cond_none h).2; have h4:=(cond_none h).1; replace h:=(cond_none h).2; have h5:=(cond_none h).1; replace h:=(cond_none h).2; have h6:=(cond_none h).1; replace h:=(cond_none h).2
  have e2:=ieq_of h2
  subst e2
  have main:=range_ind (E:=eRSSize) (f:=94) (id:=8) (A:=Int) ((leafRows c22 0)) (fun a i=>{ fr:=[(3,.int .i64 a),(22,.agg (etaRow xsRises 0 c22)),(23,.int .i64 i)],tab:=[] }) (fun a i=>0≤a∧a≤100000000+25120*i)
   (fun a rows K=>K (.exit 2) { fr:=[(3,.int .i64 (a+N.risesSize ((rows).map cRise.dec)))],tab:=[] }) (fun a i ha hi=>?_) (fun a ha=>?_) (i3) 0 (Int.le_refl _) (by omega) ⟨ile_of h4,by have:=ile_of h5; omega⟩ K q (by assumption)
  ·exact main
  ·have hq:=fun K=>q_rSSizeR8 (a) (c22) ((i:Int)) K
   have hi:i<16:=hi
   have t1:ilt (i:Int) (16:Int)=true:=ilt_t (by omega)
   have t2:decide ((0:Int)≤i∧(i:Int)<((16:Nat):Int))=true:=decide_eq_true (by omega)
   have t3:IntKind.wrap .i64 ((i:Int)+1)=(i:Int)+1:=wr_i64 (by omega) (by omega)
   have hr:goodFineR (cRise.dec ((leafRows c22 0).getD i []))=true:=all_get h6 hi
   have hr2:=rise_few (bcond hr).1
   have hb:=riseSize_le (cRise.dec ((leafRows c22 0).getD i [])).kept
   simp only [Int.toNat_natCast,kept_of_row] at hq
   simp only [t1,t2,t3,cond_true] at hq
   refine .inl ⟨a+N.riseSize (cRise.dec ((leafRows c22 0).getD i [])).kept,⟨by omega,by omega⟩,fun K=>?_,fun K=>?_⟩
   ·rw [hq]
    show cond (goodFineR (cRise.dec ((leafRows c22 0).getD i []))) _ _=_
    rw [hr,wr_i64 (n:=a+_) (by omega) (by omega)]
    try rfl
   ·show K _ { fr:=[(3,.int .i64 (a+(N.riseSize (cRise.dec ((leafRows c22 0).getD i [])).kept+N.risesSize (((leafRows c22 0).drop (i+1)).map cRise.dec))))],tab:=[] }=_
    rw [Int.add_assoc]
  ·refine ⟨.exit 2,{ fr:=[(3,.int .i64 a)],tab:=[] },by simp,fun K=>q_rSSizeR8 a c22 16 K,fun K=>?_⟩
   show K _ { fr:=[(3,.int .i64 (a+0))],tab:=[] }=_
   rw [Int.add_zero]
 ·cases h
theorem ok_rSSize:FnOk Tryz.prog 94 dRSSize:=by
 refine den_okF (env_ok (((TOk.nil _).cons ok_refRiseSize).cons ok_rSizeI)) (E:=eRSSize) Tryz.func94 [3,8] (by kernel_rfl) (two2 ok_rSSize_3 ok_rSSize_8) fun a b hp=>?_
 obtain ⟨hp,h3⟩:=bcond hp
 obtain ⟨h1,h2⟩:=bcond hp
 have h3:a.rises.list.all goodFineR=true:=h3
 have h4:=rowsSize_le a.rows (List.all_eq_true.2 fun x hx=>(lineF_ok (List.all_eq_true.1 h2 x hx):goodRow x=true))
 have h5:=ble_of h1
 refine (q_rSSize a).trans ?_
 simp only [dec_encs,risesRows_eq,List.length_map,Int.zero_add,beq_self_eq_true,cond_true,h1,h2,h3,ile_t h4.1,ile_t (show N.rowsSize a.rows≤100000000 by omega)]
 try rfl
namespace N
def rRaiseS (s:HStock) (p:Int) (m:HMail):HStock × Int :=
 cond (cond (ilt p 0) true (ilt 15 p)) (s,7) (cond ((risePut (riseK s p) m).2 != 0) (s,(risePut (riseK s p) m).2)
  (cond (ilt s.bytes (sSize ⟨s.next,s.bytes,s.rows,s.rises.set p.toNat (risePut (riseK s p) m).1⟩)) (s,12) (⟨s.next,s.bytes,s.rows,s.rises.set p.toNat (risePut (riseK s p) m).1⟩,0)))
def rPutE (s:HStock) (k:Int) (m out:HMail) (l:List HItem):HStock × Int × HMail × Int :=
 cond (ilt s.bytes (sSize ⟨IntKind.wrap .u64 (s.next+1),s.bytes,(sWith s k (rPut l ⟨numM m s.next,false,false⟩).1).rows,s.rises⟩)) (s,0,mail0,12)
  (cond ((rPut l ⟨numM m s.next,false,false⟩).2 != 0) (s,0,mail0,(rPut l ⟨numM m s.next,false,false⟩).2)
   (⟨IntKind.wrap .u64 (s.next+1),s.bytes,(sWith s k (rPut l ⟨numM m s.next,false,false⟩).1).rows,s.rises⟩,s.next,out,0))
def rPutS (s:HStock) (n:Bytes) (m:HMail):HStock × Int × HMail × Int :=
 cond (ilt (sAt s n) 0) (s,0,mail0,10) (cond (mailCheck m != 0) (s,0,mail0,mailCheck m) (cond (s.next==0) (s,0,mail0,18)
  (cond (ile (rowK s (sAt s n)).q.most (rowK s (sAt s n)).line.length)
   (cond (lFirst (rowK s (sAt s n)).line).2 (rPutE s (sAt s n) m (lFirst (rowK s (sAt s n)).line).1 (lRemove (rowK s (sAt s n)).line (lFirst (rowK s (sAt s n)).line).1.id).1) (s,0,mail0,12))
   (rPutE s (sAt s n) m mail0 (rowK s (sAt s n)).line))))
end N
def goodNF (s:HStock):Bool:=cond (goodSF s) (cond (ile 0 s.next) (ilt s.next 18446744073709551616) false) false
theorem put_fineR {x:HRise} (h:goodFineR x=true) {m:HMail} (hm:N.fineM m=true) (hs:smallM m=true):goodFineR (N.risePut x m).1=true:=by
 have h0:=put_okR (riseF_ok h) (fine_ok hm) hs
 obtain ⟨h1,h2⟩:=bcond h
 have h3:=(bcond h0).1
 unfold goodFineR
 rw [h3]
 show ((N.risePut x m).1.kept.all N.fineM)=true
 unfold N.risePut
 cases N.mailCheck m != 0 with
 | true=>exact h2
 | false =>
  cases x.total==18446744073709551615 with
  | true=>exact h2
  | false =>
   refine List.all_eq_true.2 fun y hy=>?_
   rcases List.mem_append.1 (List.mem_of_mem_drop hy) with hy | hy
   ·exact List.all_eq_true.1 h2 y hy
   ·rw [List.mem_singleton.1 hy]; exact hm
theorem set_all {a:A16 HRise} {p:HRise→Bool} {v:HRise} (i:Nat) (h:a.list.all p=true) (hv:p v=true):(a.set i v).list.all p=true:=by
 rw [A16.list_set]
 refine List.all_eq_true.2 fun x hx=>?_
 rcases List.mem_or_eq_of_mem_set hx with hx | hx
 ·exact List.all_eq_true.1 h x hx
 ·rw [hx]; exact hv
theorem sSF {rows:List HRow} {rises:A16 HRise} {n b:Int} (h1:rows.length≤100) (h2:rows.all goodRowF=true) (h3:rises.list.all goodFineR=true):goodSF ⟨n,b,rows,rises⟩=true:=by
 unfold goodSF goodRowsF
 rw [ble_t h1,h2,h3]; rfl
theorem rPut_good {l:List HItem} (h:goodLineF l=true) {x:HItem} (hx:smallI x=true) (hf:N.fineM x.mail=true):goodLineF (N.rPut l x).1=true:=by
 unfold N.rPut
 cases hc:N.rRc l x.mail != 0 with
 | true=>exact h
 | false =>
  have h0:N.rRc l x.mail=0:=by simpa using hc
  have hl:l.length<64:=by
   unfold N.rRc at h0
   cases h1:N.mailCheck x.mail != 0 with
   | true=>rw [h1] at h0; have h0:N.mailCheck x.mail=0:=h0; rw [h0] at h1; cases h1
   | false =>
    rw [h1] at h0
    cases h2:(l.any fun y=>ile x.mail.id y.mail.id) with
    | true=>rw [h2] at h0; cases h0
    | false =>
     rw [h2] at h0
     cases h3:ile 64 (l.length:Int) with
     | true=>rw [h3] at h0; cases h0
     | false=>have:=ile_nof h3; omega
  obtain ⟨h1,h2,h3⟩:=goodLineF_of h
  simp only [cond_false]
  unfold goodLineF
  rw [ble_t (show (l++[x]).length≤100 by rw [List.length_append]; simp only [List.length_cons,List.length_nil]; omega),List.all_append,List.all_append,h2,h3]
  simp only [List.all_cons,List.all_nil,hx,hf,Bool.and_true,cond_true]
theorem remove_good {l:List HItem} (h:goodLineF l=true) (id:Int):goodLineF (N.lRemove l id).1=true:=by
 obtain ⟨h1,h2,h3⟩:=goodLineF_of h
 have hl:=remove_len l id
 have hs:∀ x∈(N.lRemove l id).1,x∈l:=fun x hx=>by
  unfold N.lRemove at hx
  revert hx
  cases ilt (N.ix (N.isId id) l 0) 0 with
  | true=>exact fun hx=>hx
  | false =>
   intro hx
   rcases List.mem_append.1 (show x∈l.take _++l.drop _ from hx) with hx | hx
   ·exact List.mem_of_mem_take hx
   ·exact List.mem_of_mem_drop hx
 unfold goodLineF
 rw [ble_t (show (N.lRemove l id).1.length≤100 by omega),List.all_eq_true.2 fun x hx=>List.all_eq_true.1 h2 x (hs x hx),List.all_eq_true.2 fun x hx=>List.all_eq_true.1 h3 x (hs x hx)]; rfl
theorem setRow_all {rows:List HRow} {p:HRow→Bool} {x:HRow} (k:Nat) (h:rows.all p=true) (hx:p x=true):(rows.set k x).all p=true:=by
 refine List.all_eq_true.2 fun y hy=>?_
 rcases List.mem_or_eq_of_mem_set hy with hy | hy
 ·exact List.all_eq_true.1 h y hy
 ·rw [hy]; exact hx
theorem numM_fine {m:HMail} {n:Int} (h:N.fineM m=true) (h1:0≤n) (h2:n<18446744073709551616):N.fineM (N.numM m n)=true:=by
 obtain ⟨h3,h4⟩:=bcond h
 show cond (N.okM (N.numM m n)) (m.head.all N.okP') false=true
 rw [numM_ok h3 h1 h2,h4]; rfl
def dRSRaise:Den:=den (aCons (vAgg cStock) (aCons (vInt .i64) (aOne (vAgg cMail)))) bNil (oTup (aCons (vAgg cStock) (aOne (vInt .i64)))) (fun a _=>cond (goodSF a.1) (cond (N.fineM a.2.2) (smallM a.2.2) false) false) fun a _=>(N.rRaiseS a.1 a.2.1 a.2.2,())
noncomputable def eRSRaise:Env:=env Tryz.prog [(137,dRisePut),(94,dRSSize)] [] []
theorem q_rSRaise_ (s:HStock) (p:Int) (m:HMail):evFn eRSRaise 61 ((aCons (vAgg cStock) (aCons (vInt .i64) (aOne (vAgg cMail)))).enc (s,p,m)) ([]) some =(
 let z3:=(RCod.dec cRise (List.getD (risesRows (HStock.rises s)) (Int.toNat p) []));let z0:=(N.risePut z3 (RCod.dec cMail (RCod.enc cMail m)));let z1:=(some {v:=V.tup [V.agg (RCod.enc cStock s),V.int .i64 (7:Int)],bx:=[]:DRes});let z2:=(List.map (RCod.enc cRow) (HStock.rows s));cond (ilt p (0:Int)) z1 (cond (ilt (15:Int) p) z1 (cond (decide ((0:Int)≤p∧p<(↑(16:Nat):Int))) (cond (bif goodRise z3 then smallM (RCod.dec cMail (RCod.enc cMail m)) else false) (cond (Prod.snd z0 != (0:Int)) (some {v:=V.tup [V.agg (RCod.enc cStock s),V.int .i64 (Prod.snd z0)],bx:=[]:DRes}) (cond (decide ((0:Int)≤p∧p<(↑(16:Nat):Int))) (cond (goodSF {next:=HStock.next s,bytes:=HStock.bytes s,rows:=List.map (RCod.dec cRow) z2,rises:=setA (HStock.rises s) (Int.toNat p) (Prod.fst z0):HStock}) (cond (ilt (HStock.bytes s) (N.sSize {next:=HStock.next s,bytes:=HStock.bytes s,rows:=List.map (RCod.dec cRow) z2,rises:=setA (HStock.rises s) (Int.toNat p) (Prod.fst z0):HStock})) (some {v:=V.tup [V.agg (RCod.enc cStock s),V.int .i64 (12:Int)],bx:=[]:DRes}) (some {v:=V.tup [V.agg (V.int .u64 (HStock.next s)::V.int .i64 (HStock.bytes s)::V.slc [.str,.int .u64,.int .u64,.str,.slc [.int .u64,.str,.str,.slc [.str,.int .u8,.int .i64,.str],.str,.int .u64,.int .u8,.bool,.bool]] z2::setCells (HStock.rises s) (Int.toNat p) (Prod.fst z0)),V.int .i64 (0:Int)],bx:=[]:DRes})) (none)) (none))) (none)) (none)))):=by kernel_rfl
theorem q_rSRaise (s:HStock) (p:Int) (m:HMail):type_of% (by have h:=q_rSRaise_ s p m; dsimp only at h; exact h):=by
 have h:=q_rSRaise_ s p m
 dsimp only at h
 exact h
theorem ok_rSRaise:FnOk Tryz.prog 61 dRSRaise:=by
 refine den_okF (env_ok (((TOk.nil _).cons ok_rSSize).cons ok_refRisePut)) (E:=eRSRaise) Tryz.func61 [] (by kernel_rfl) (none0) fun a b hp=>?_
 obtain ⟨s,p,m⟩:=a
 obtain ⟨hs,hm⟩:=bcond (show cond (goodSF s) (cond (N.fineM m) (smallM m) false) false=true from hp)
 obtain ⟨hm1,hm2⟩:=bcond hm
 obtain ⟨hs1,hs2⟩:=bcond hs
 obtain ⟨hs0,hs3⟩:=bcond hs1
 refine (q_rSRaise s p m).trans ?_
 simp only [dec_encs,cMail.de,hm2,setA_eq]
 show _=some (⟨.tup [.agg (cStock.enc (N.rRaiseS s p m).1),.int .i64 (N.rRaiseS s p m).2],[],[]⟩:DRes)
 unfold N.rRaiseS
 cases h1:ilt p 0 with
 | true=>rfl
 | false =>
  cases h2:ilt 15 p with
  | true=>rfl
  | false =>
   have g1:=ilt_nof h1
   have g2:=ilt_nof h2
   have hk:goodFineR (s.rises.list.getD p.toNat rise0)=true:=List.all_eq_true.1 hs2 _ (getD_mem rise0 (show p.toNat<s.rises.list.length by rw [A16.list_len]; omega))
   have hk1:=(bcond hk).1
   have hx:=put_fineR hk hm1 hm2
   have hsf:goodSF ⟨s.next,s.bytes,s.rows,s.rises.set p.toNat (N.risePut (s.rises.list.getD p.toNat rise0) m).1⟩=true:=sSF (ble_of hs0) hs3 (set_all _ hs2 hx)
   simp only [dAnd g1 (show p<((16:Nat):Int) by omega),rise_get s.rises p.toNat (by omega),cRise.de,hk1,hsf,cond_true,cond_false]
   show cond ((N.risePut (N.riseK s p) m).2 != 0) _ _=_
   cases h3:(N.risePut (N.riseK s p) m).2 != 0 with
   | true=>rfl
   | false =>
    simp only [cond_false]
    show cond (ilt s.bytes (N.sSize ⟨s.next,s.bytes,s.rows,s.rises.set p.toNat (N.risePut (N.riseK s p) m).1⟩)) _ _=_
    cases h4:ilt s.bytes (N.sSize ⟨s.next,s.bytes,s.rows,s.rises.set p.toNat (N.risePut (N.riseK s p) m).1⟩) with
    | true=>rfl
    | false =>
     simp only [cond_false,setCells_eq]
     try rfl
def dRSPut:Den:=den (aCons (vAgg cStock) (aCons vStr (aOne (vAgg cMail)))) bNil (oTup (aCons (vAgg cStock) (aCons (vInt .u64) (aCons (vAgg cMail) (aOne (vInt .i64)))))) (fun a _=>cond (goodNF a.1) (cond (N.fineM a.2.2) (smallM a.2.2) false) false) fun a _=>(N.rPutS a.1 a.2.1 a.2.2,())
noncomputable def eRSPut:Env:=env Tryz.prog [(93,dSAt),(12,dMailCheck),(182,dRFirst),(135,dRRemove),(183,dRAdd),(133,dRWithS),(94,dRSSize)] [] []
theorem q_rSPut_ (s:HStock) (n:Bytes) (m:HMail):evFn eRSPut 140 ((aCons (vAgg cStock) (aCons vStr (aOne (vAgg cMail)))).enc (s,n,m)) ([]) some =(
 let z16:=(RCod.dec cMail (RCod.enc cMail m));let z3:=(RCod.dec cStock (RCod.enc cStock s));let z8:=(List.map (RCod.enc cRow) (HStock.rows s));let z15:=(decide ((0:Int)≤N.sAt z3 n∧N.sAt z3 n<(↑(List.length z8):Int)));let z14:=(List.getD z8 (Int.toNat (N.sAt z3 n)) []);let z4:=(List.map (RCod.dec cItem) (V.toRows (List.getD z14 4 V.undef)));let z17:=(Nat.ble (List.length z4) 1000);let z7:=(some {v:=V.tup [V.agg (RCod.enc cStock s),V.int .u64 (0:Int),V.agg [V.int .u64 (0:Int),V.str [],V.str [],V.slc [.str,.int .u8,.int .i64,.str] [],V.str [],V.int .u64 (0:Int),V.int .u8 (0:Int)],V.int .i64 (12:Int)],bx:=[]:DRes});let z11:=(List.map (RCod.dec cItem) (List.map (RCod.enc cItem) (Prod.fst (N.lRemove z4 (HMail.id (Prod.fst (N.lFirst z4)))))));let z10:=(HStock.next s+(1:Int));let z9:=(List.map (fun p=>[V.str (HPair.key p),V.int .u8 (HPair.kind p),V.int .i64 (HPair.num p),V.str (HPair.text p)]) (HMail.head m));let z1:=(N.rPut z11 {mail:={id:=HStock.next s,shop:=HMail.shop m,key:=HMail.key m,head:=List.map (fun r=>{key:=V.toStr (List.getD r 0 .undef),kind:=V.toInt (List.getD r 1 .undef),num:=V.toInt (List.getD r 2 .undef),text:=V.toStr (List.getD r 3 .undef):HPair}) z9,body:=HMail.body m,due:=HMail.due m,hops:=HMail.hops m:HMail},lent:=false,again:=false:HItem});let z5:=(N.sWith z3 (N.sAt z3 n) (List.map (RCod.dec cItem) (List.map (RCod.enc cItem) (Prod.fst z1))));let z12:=(List.map (RCod.enc cRow) (HStock.rows z5));let z2:=(N.rPut z4 {mail:={id:=HStock.next s,shop:=HMail.shop m,key:=HMail.key m,head:=List.map (fun r=>{key:=V.toStr (List.getD r 0 .undef),kind:=V.toInt (List.getD r 1 .undef),num:=V.toInt (List.getD r 2 .undef),text:=V.toStr (List.getD r 3 .undef):HPair}) z9,body:=HMail.body m,due:=HMail.due m,hops:=HMail.hops m:HMail},lent:=false,again:=false:HItem});let z6:=(N.sWith z3 (N.sAt z3 n) (List.map (RCod.dec cItem) (List.map (RCod.enc cItem) (Prod.fst z2))));let z13:=(List.map (RCod.enc cRow) (HStock.rows z6));let z0:=(cond (N.mailCheck z16 != (0:Int)) (some {v:=V.tup [V.agg (RCod.enc cStock s),V.int .u64 (0:Int),V.agg [V.int .u64 (0:Int),V.str [],V.str [],V.slc [.str,.int .u8,.int .i64,.str] [],V.str [],V.int .u64 (0:Int),V.int .u8 (0:Int)],V.int .i64 (N.mailCheck z16)],bx:=[]:DRes}) (cond z15 (cond z15 (cond (ile (V.toInt (List.getD z14 1 V.undef)) (IntKind.wrap .u64 (↑(List.length (V.toRows (List.getD z14 4 V.undef))):Int))) (cond z17 (cond (!Prod.snd (N.lFirst z4)) z7 (cond z17 (cond (Nat.ble (List.length z11) 1000) (cond (goodW z3 (N.sAt z3 n)) (cond (goodSF {next:=IntKind.wrap .u64 z10,bytes:=HStock.bytes z5,rows:=List.map (RCod.dec cRow) z12,rises:=reA (HStock.rises z5):HStock}) (cond (ilt (HStock.bytes s) (N.sSize {next:=IntKind.wrap .u64 z10,bytes:=HStock.bytes z5,rows:=List.map (RCod.dec cRow) z12,rises:=reA (HStock.rises z5):HStock})) z7 (cond (Prod.snd z1 != (0:Int)) (some {v:=V.tup [V.agg (RCod.enc cStock s),V.int .u64 (0:Int),V.agg [V.int .u64 (0:Int),V.str [],V.str [],V.slc [.str,.int .u8,.int .i64,.str] [],V.str [],V.int .u64 (0:Int),V.int .u8 (0:Int)],V.int .i64 (Prod.snd z1)],bx:=[]:DRes}) (some {v:=V.tup [V.agg (V.int .u64 (IntKind.wrap .u64 z10)::V.int .i64 (HStock.bytes z5)::V.slc [.str,.int .u64,.int .u64,.str,.slc [.int .u64,.str,.str,.slc [.str,.int .u8,.int .i64,.str],.str,.int .u64,.int .u8,.bool,.bool]] z12::risesCells (HStock.rises z5)),V.int .u64 (HStock.next s),V.agg (RCod.enc cMail (Prod.fst (N.lFirst z4))),V.int .i64 (0:Int)],bx:=[]:DRes}))) (none)) (none)) (none)) (none))) (none)) (cond z17 (cond (goodW z3 (N.sAt z3 n)) (cond (goodSF {next:=IntKind.wrap .u64 z10,bytes:=HStock.bytes z6,rows:=List.map (RCod.dec cRow) z13,rises:=reA (HStock.rises z6):HStock}) (cond (ilt (HStock.bytes s) (N.sSize {next:=IntKind.wrap .u64 z10,bytes:=HStock.bytes z6,rows:=List.map (RCod.dec cRow) z13,rises:=reA (HStock.rises z6):HStock})) z7 (cond (Prod.snd z2 != (0:Int)) (some {v:=V.tup [V.agg (RCod.enc cStock s),V.int .u64 (0:Int),V.agg [V.int .u64 (0:Int),V.str [],V.str [],V.slc [.str,.int .u8,.int .i64,.str] [],V.str [],V.int .u64 (0:Int),V.int .u8 (0:Int)],V.int .i64 (Prod.snd z2)],bx:=[]:DRes}) (some {v:=V.tup [V.agg (V.int .u64 (IntKind.wrap .u64 z10)::V.int .i64 (HStock.bytes z6)::V.slc [.str,.int .u64,.int .u64,.str,.slc [.int .u64,.str,.str,.slc [.str,.int .u8,.int .i64,.str],.str,.int .u64,.int .u8,.bool,.bool]] z13::risesCells (HStock.rises z6)),V.int .u64 (HStock.next s),V.agg [V.int .u64 (0:Int),V.str [],V.str [],V.slc [.str,.int .u8,.int .i64,.str] [],V.str [],V.int .u64 (0:Int),V.int .u8 (0:Int)],V.int .i64 (0:Int)],bx:=[]:DRes}))) (none)) (none)) (none))) (none)) (none)));cond (Nat.ble (List.length (List.map (RCod.dec cRow) z8)) 100) (cond (ilt (N.sAt z3 n) (0:Int)) (some {v:=V.tup [V.agg (RCod.enc cStock s),V.int .u64 (0:Int),V.agg [V.int .u64 (0:Int),V.str [],V.str [],V.slc [.str,.int .u8,.int .i64,.str] [],V.str [],V.int .u64 (0:Int),V.int .u8 (0:Int)],V.int .i64 (10:Int)],bx:=[]:DRes}) (cond (N.mailCheck z16==(0:Int)) (cond (HStock.next s==(0:Int)) (some {v:=V.tup [V.agg (RCod.enc cStock s),V.int .u64 (0:Int),V.agg [V.int .u64 (0:Int),V.str [],V.str [],V.slc [.str,.int .u8,.int .i64,.str] [],V.str [],V.int .u64 (0:Int),V.int .u8 (0:Int)],V.int .i64 (18:Int)],bx:=[]:DRes}) z0) z0)) (none)):=by kernel_rfl
theorem q_rSPut (s:HStock) (n:Bytes) (m:HMail):type_of% (by have h:=q_rSPut_ s n m; dsimp only at h; exact h):=by
 have h:=q_rSPut_ s n m
 dsimp only at h
 exact h
theorem ok_rSPut:FnOk Tryz.prog 140 dRSPut:=by
 refine den_okF (env_ok ((((((((TOk.nil _).cons ok_rSSize).cons ok_rWithS).cons ok_rAdd).cons ok_rRemove).cons ok_rFirst).cons ok_refMailCheck).cons ok_rFindS)) (E:=eRSPut) Tryz.func140 [] (by kernel_rfl) (none0) fun a b hp=>?_
 obtain ⟨s,n,m⟩:=a
 obtain ⟨hg,hm⟩:=bcond (show cond (goodNF s) (cond (N.fineM m) (smallM m) false) false=true from hp)
 obtain ⟨hs,hn⟩:=bcond hg
 obtain ⟨hn1,hn2⟩:=bcond hn
 have hn1:=ile_of hn1
 have hn2:=ilt_of hn2
 obtain ⟨hm1,hm2⟩:=bcond hm
 obtain ⟨hs1,hs2⟩:=bcond hs
 obtain ⟨hs0,hs3⟩:=bcond hs1
 have hp':=ble_of hs0
 have hmn:=numM_fine hm1 hn1 hn2
 have hsm:smallI ⟨N.numM m s.next,false,false⟩=true:=hm2
 refine (q_rSPut s n m).trans ?_
 simp only [line_of_row,pairs_enc,dec_encs,reA_eq,cStock.de,cMail.de,List.length_map,hs0,cond_true,numM_dec]
 show _=some (⟨.tup [.agg (cStock.enc (N.rPutS s n m).1),.int .u64 (N.rPutS s n m).2.1,.agg (cMail.enc (N.rPutS s n m).2.2.1),.int .i64 (N.rPutS s n m).2.2.2],[],[]⟩:DRes)
 unfold N.rPutS
 cases h1:ilt (N.sAt s n) 0 with
 | true=>rfl
 | false =>
 simp only [cond_false]
 cases h2:N.mailCheck m==0 with
 | false =>
  rw [bne,h2]
  try rfl
 | true =>
  rw [bne,h2]
  cases h3:s.next==0 with
  | true=>rfl
  | false =>
  obtain ⟨g1,g2,g3,g4⟩:=sAt_lt (nlt_ge h1)
  have hl:goodLineF (s.rows.getD (N.sAt s n).toNat row0).line=true:=List.all_eq_true.1 hs3 _ (getD_mem row0 g4)
  have hl1:=(goodLineF_of hl).1
  have hw:=goodW_t hp' g1 g2
  have hlen:=remove_len (s.rows.getD (N.sAt s n).toNat row0).line (N.lFirst (s.rows.getD (N.sAt s n).toNat row0).line).1.id
  have wl:IntKind.wrap .u64 ((s.rows.getD (N.sAt s n).toNat row0).line.length:Int)=(s.rows.getD (N.sAt s n).toNat row0).line.length:=wr_u64 (by omega) (by omega)
  have sf:∀ l:List HItem,goodLineF l=true→goodSF ⟨IntKind.wrap .u64 (s.next+1),s.bytes,(N.sWith s (N.sAt s n) (N.rPut l ⟨N.numM m s.next,false,false⟩).1).rows,s.rises⟩=true:=fun l hl =>
   sSF (by show (List.set _ _ _).length≤100; rw [List.length_set]; exact hp') (setRow_all _ hs3 (show goodLineF _=true from rPut_good hl hsm hmn)) hs2
  have e1:=sf _ (remove_good hl (N.lFirst (s.rows.getD (N.sAt s n).toNat row0).line).1.id)
  have e2:=sf _ hl
  have hrl:(V.toRows (List.getD (cRow.enc (s.rows.getD (N.sAt s n).toNat row0)) 4 V.undef)).length=(s.rows.getD (N.sAt s n).toNat row0).line.length:=List.length_map _
  simp only [dAnd g1 g2,row_get s _ g4,cRow.de,hrl,wl,hw,ble_t (show (s.rows.getD (N.sAt s n).toNat row0).line.length≤1000 by omega),ble_t (show (N.lRemove (s.rows.getD (N.sAt s n).toNat row0).line (N.lFirst (s.rows.getD (N.sAt s n).toNat row0).line).1.id).1.length≤1000 by omega),cond_true,cond_false,Bool.not_true]
  show cond (ile (N.rowK s (N.sAt s n)).q.most (N.rowK s (N.sAt s n)).line.length) _ _=_
  cases h4:ile (N.rowK s (N.sAt s n)).q.most (N.rowK s (N.sAt s n)).line.length with
  | true =>
   simp only [cond_true]
   show cond (!(N.lFirst (N.rowK s (N.sAt s n)).line).2) _ _=_
   cases h5:(N.lFirst (N.rowK s (N.sAt s n)).line).2 with
   | false=>rfl
   | true =>
    simp only [Bool.not_true,cond_true,cond_false]
    unfold N.rPutE
    refine (congrArg (fun b=>cond b _ none) e1).trans ?_
    show cond (ilt s.bytes (N.sSize ⟨IntKind.wrap .u64 (s.next+1),s.bytes,(N.sWith s (N.sAt s n) (N.rPut (N.lRemove (N.rowK s (N.sAt s n)).line (N.lFirst (N.rowK s (N.sAt s n)).line).1.id).1 ⟨N.numM m s.next,false,false⟩).1).rows,s.rises⟩)) _ _=_
    cases h6:ilt s.bytes (N.sSize ⟨IntKind.wrap .u64 (s.next+1),s.bytes,(N.sWith s (N.sAt s n) (N.rPut (N.lRemove (N.rowK s (N.sAt s n)).line (N.lFirst (N.rowK s (N.sAt s n)).line).1.id).1 ⟨N.numM m s.next,false,false⟩).1).rows,s.rises⟩) with
    | true=>rfl
    | false =>
     simp only [cond_false]
     show cond ((N.rPut (N.lRemove (N.rowK s (N.sAt s n)).line (N.lFirst (N.rowK s (N.sAt s n)).line).1.id).1 ⟨N.numM m s.next,false,false⟩).2 != 0) _ _=_
     cases h7:(N.rPut (N.lRemove (N.rowK s (N.sAt s n)).line (N.lFirst (N.rowK s (N.sAt s n)).line).1.id).1 ⟨N.numM m s.next,false,false⟩).2 != 0 with
     | true=>rfl
     | false=>rfl
  | false =>
   simp only [cond_false]
   unfold N.rPutE
   refine (congrArg (fun b=>cond b _ none) e2).trans ?_
   show cond (ilt s.bytes (N.sSize ⟨IntKind.wrap .u64 (s.next+1),s.bytes,(N.sWith s (N.sAt s n) (N.rPut (N.rowK s (N.sAt s n)).line ⟨N.numM m s.next,false,false⟩).1).rows,s.rises⟩)) _ _=_
   cases h6:ilt s.bytes (N.sSize ⟨IntKind.wrap .u64 (s.next+1),s.bytes,(N.sWith s (N.sAt s n) (N.rPut (N.rowK s (N.sAt s n)).line ⟨N.numM m s.next,false,false⟩).1).rows,s.rises⟩) with
   | true=>rfl
   | false =>
    simp only [cond_false]
    show cond ((N.rPut (N.rowK s (N.sAt s n)).line ⟨N.numM m s.next,false,false⟩).2 != 0) _ _=_
    cases h7:(N.rPut (N.rowK s (N.sAt s n)).line ⟨N.numM m s.next,false,false⟩).2 != 0 with
    | true=>rfl
    | false=>rfl
end Go.Ev

/- The law's acts on stocks: lemmas; the functions that write numbers are premises. -/
namespace Go.Ev
open Go Go.Proofs
set_option maxRecDepth 100000
-- FOLD2
structure HSAct where
 op:Int
 name:Bytes
 q:HQueue
 mail:HMail
 id:Int
 place:Int
def rowSA (r:List V):HSAct:=⟨(r.getD 0 .undef).toInt,(r.getD 1 .undef).toStr,⟨(r.getD 2 .undef).toStr,(r.getD 3 .undef).toInt,(r.getD 4 .undef).toInt,(r.getD 5 .undef).toStr⟩,
 ⟨(r.getD 6 .undef).toInt,(r.getD 7 .undef).toStr,(r.getD 8 .undef).toStr,rowsP (r.getD 9 .undef).toRows,(r.getD 10 .undef).toStr,(r.getD 11 .undef).toInt,(r.getD 12 .undef).toInt⟩,(r.getD 13 .undef).toInt,(r.getD 14 .undef).toInt⟩
def cSAct:RCod HSAct:=(((rInt .u8).and (rStr.and (cQueue.and (cMail.and ((rInt .u64).and (rInt .i64)))))).iso (fun p=>(⟨p.1,p.2.1,p.2.2.1,p.2.2.2.1,p.2.2.2.2.1,p.2.2.2.2.2⟩:HSAct)) (fun o=>(o.op,o.name,o.q,o.mail,o.id,o.place)) (fun _=>rfl) fun _=>rfl).spelt
 [.int .u8,.str,.str,.int .u64,.int .u64,.str,.int .u64,.str,.str,.slc [.str,.int .u8,.int .i64,.str],.str,.int .u64,.int .u8,.int .u64,.int .i64]
 (fun a=>[.int .u8 a.op,.str a.name,.str a.q.name,.int .u64 a.q.most,.int .u64 a.q.life,.str a.q.dead,.int .u64 a.mail.id,.str a.mail.shop,.str a.mail.key,.slc [.str,.int .u8,.int .i64,.str] (a.mail.head.map fun p=>[V.str p.key,V.int .u8 p.kind,V.int .i64 p.num,V.str p.text]),.str a.mail.body,.int .u64 a.mail.due,.int .u8 a.mail.hops,.int .u64 a.id,.int .i64 a.place])
 rowSA rfl (fun _=>rfl) fun r=>by
  show (⟨((r.take 1).getD 0 .undef).toInt,(((r.drop 1).take 1).getD 0 .undef).toStr,rowQ (((r.drop 1).drop 1).take 4),rowM ((((r.drop 1).drop 1).drop 4).take 7),(((((r.drop 1).drop 1).drop 4).drop 7).take 1 |>.getD 0 .undef).toInt,(((((r.drop 1).drop 1).drop 4).drop 7).drop 1 |>.getD 0 .undef).toInt⟩:HSAct)=rowSA r
  unfold rowSA rowQ rowM
  simp only [List.drop_drop,getD_take_one,getD_dropN,getD_take_drop (show 0<4 by decide),getD_take_drop (show 1<4 by decide),getD_take_drop (show 2<4 by decide),getD_take_drop (show 3<4 by decide),
   getD_take_drop (show 0<7 by decide),getD_take_drop (show 1<7 by decide),getD_take_drop (show 2<7 by decide),getD_take_drop (show 3<7 by decide),getD_take_drop (show 4<7 by decide),getD_take_drop (show 5<7 by decide),getD_take_drop (show 6<7 by decide)]
namespace N
def max3 (a b c:Int):Int:=cond (ilt (cond (ilt a b) b a) c) c (cond (ilt a b) b a)
def lightSA (a:HSAct):Bool:=cond (ilt 40 (max3 a.name.length a.q.name.length a.q.dead.length)) false (lightM a.mail)
def lightSAs:List HSAct→Bool
 | []=>true
 | a::r=>cond (lightSA a) (lightSAs r) false
def put21 (s q:HStock) (a:HSAct):HStock × HStock × Bool:=((sPut s a.name a.mail).1,(rPutS q a.name a.mail).1,
 cond ((sPut s a.name a.mail).2.1==(rPutS q a.name a.mail).2.1) (cond (mailSame (sPut s a.name a.mail).2.2.1 (rPutS q a.name a.mail).2.2.1) ((sPut s a.name a.mail).2.2.2==(rPutS q a.name a.mail).2.2.2) false) false)
def done21 (s q:HStock) (a:HSAct):HStock × HStock × Bool :=
 cond (Int.tmod a.op 10==3) ((sMake s a.q).1,(sMake q a.q).1,(sMake s a.q).2==(sMake q a.q).2)
 (cond (Int.tmod a.op 10==4) ((sDrop s a.name).1,(rDropS q a.name).1,(sDrop s a.name).2==(rDropS q a.name).2)
 (cond (Int.tmod a.op 10==5) ((sLend s a.name).1,(sLend q a.name).1,cond ((sLend s a.name).2.2==(sLend q a.name).2.2) (sameI (sLend s a.name).2.1 (sLend q a.name).2.1) false)
 (cond (Int.tmod a.op 10==6) ((sBack s a.name a.id).1,(sBack q a.name a.id).1,(sBack s a.name a.id).2==(sBack q a.name a.id).2)
 (cond (Int.tmod a.op 10==7) ((sRemove s a.name a.id).1,(sRemove q a.name a.id).1,cond ((sRemove s a.name a.id).2.2==(sRemove q a.name a.id).2.2) (sameI (sRemove s a.name a.id).2.1 (sRemove q a.name a.id).2.1) false)
 (cond (Int.tmod a.op 10==8) ((sRaise s a.place a.mail).1,(rRaiseS q a.place a.mail).1,(sRaise s a.place a.mail).2==(rRaiseS q a.place a.mail).2)
 (cond (Int.tmod a.op 10==9) (sWake s,sWake q,true) (put21 s q a)))))))
end N
theorem lightSAs_cons (a:HSAct) (r:List HSAct):N.lightSAs (a::r)=cond (N.lightSA a) (N.lightSAs r) false:=rfl
theorem getD_all {α:Type} {p:α→Bool} {l:List α} {d:α} (k:Nat) (h:l.all p=true) (hd:p d=true):p (l.getD k d)=true:=by
 by_cases hk:k<l.length
 ·exact List.all_eq_true.1 h _ (getD_mem d hk)
 ·rw [List.getD_eq_getElem?_getD,List.getElem?_eq_none (by omega)]; exact hd
theorem sPut_out (s:HStock) (n:Bytes) (m:HMail):(N.sPut s n m).2.2.1=mail0∨∃ k,k<s.rows.length∧(N.sPut s n m).2.2.1=(N.lFirst (s.rows.getD k row0).line).1:=by
 unfold N.sPut
 cases h1:ilt (N.sAt s n) 0 with
 | true=>exact .inl rfl
 | false =>
  obtain ⟨g1,g2,g3,g4⟩:=sAt_lt (nlt_ge h1)
  cases N.mailCheck m != 0 with
  | true=>exact .inl rfl
  | false =>
   cases s.next==0 with
   | true=>exact .inl rfl
   | false =>
    simp only [cond_false]
    unfold N.sPutE
    cases ile (N.rowK s (N.sAt s n)).q.most (N.rowK s (N.sAt s n)).line.length with
    | true =>
     cases (N.lFirst (N.rowK s (N.sAt s n)).line).2 with
     | false=>exact .inl rfl
     | true =>
      simp only [cond_true]
      cases ilt (N.sRoom s+N.mailSize (N.lFirst (N.rowK s (N.sAt s n)).line).1) (N.mailSize (N.numM m s.next)) with
      | true=>exact .inl rfl
      | false =>
       cases (N.lPut (N.lRemove (N.rowK s (N.sAt s n)).line (N.lFirst (N.rowK s (N.sAt s n)).line).1.id).1 ⟨N.numM m s.next,false,false⟩).2 != 0 with
       | true=>exact .inl rfl
       | false=>exact .inr ⟨_,g4,rfl⟩
    | false =>
     simp only [cond_false]
     cases ilt (N.sRoom s+N.mailSize mail0) (N.mailSize (N.numM m s.next)) with
     | true=>exact .inl rfl
     | false=>cases (N.lPut (N.rowK s (N.sAt s n)).line ⟨N.numM m s.next,false,false⟩).2 != 0<;>exact .inl rfl
theorem sPut_small {s:HStock} (n:Bytes) (m:HMail) (h:goodN s=true):smallM (N.sPut s n m).2.2.1=true:=by
 have h2:=(bcond (bcond (goodB_of (bcond h).1).1).1).2
 rcases sPut_out s n m with e | ⟨k,hk,e⟩
 ·rw [e]; rfl
 ·rw [e]
  have hl:=(goodLine_of (rowK_good h2 hk)).2.1
  rcases first_mem (s.rows.getD k row0).line with e | ⟨x,hx,e⟩
  ·rw [e]; rfl
  ·rw [e]; exact List.all_eq_true.1 hl x hx
theorem rowK_all {s:HStock} (k:Nat) (h:goodRows s=true):(s.rows.getD k row0).line.all smallI=true:=by
 have h2:=(bcond h).2
 exact (goodLine_of (getD_all (p:=goodRow) k h2 (by rfl))).2.1
theorem sLend_small {s:HStock} (n:Bytes) (h:goodRows s=true):smallI (N.sLend s n).2.1=true:=by
 have hl:=rowK_all (N.sAt s n).toNat h
 unfold N.sLend
 cases ilt (N.sAt s n) 0 with
 | true=>rfl
 | false =>
  show smallI (N.lLend (N.rowK s (N.sAt s n)).line).2.1=true
  unfold N.lLend
  cases ilt (N.ix N.isReady (N.rowK s (N.sAt s n)).line 0) 0 with
  | true=>rfl
  | false=>exact getD_all (p:=smallI) (d:=item0) _ hl rfl
theorem sRemove_small {s:HStock} (n:Bytes) (id:Int) (h:goodRows s=true):smallI (N.sRemove s n id).2.1=true:=by
 have hl:=rowK_all (N.sAt s n).toNat h
 unfold N.sRemove
 cases ilt (N.sAt s n) 0 with
 | true=>rfl
 | false =>
  show smallI (N.lRemove (N.rowK s (N.sAt s n)).line id).2.1=true
  unfold N.lRemove
  cases ilt (N.ix (N.isId id) (N.rowK s (N.sAt s n)).line 0) 0 with
  | true=>rfl
  | false=>exact getD_all (p:=smallI) (d:=item0) _ hl rfl
def dLight21:Den:=den (aOne (vSl cSAct)) bNil (oV vBool) (fun l _=>Nat.ble l.length 9223372036854775807) fun l _=>(cond (N.lightSAs l) (ile l.length 60) false,())
def schSLight:SSch:={ fr:=[(0,.slc [.int .u8,.str,.str,.int .u64,.int .u64,.str,.int .u64,.str,.str,.slc [.str,.int .u8,.int .i64,.str],.str,.int .u64,.int .u8,.int .u64,.int .i64]),(5,.slc [.int .u8,.str,.str,.int .u64,.int .u64,.str,.int .u64,.str,.str,.slc [.str,.int .u8,.int .i64,.str],.str,.int .u64,.int .u8,.int .u64,.int .i64]),(6,.int .i64),(7,.int .i64)],tab:=[] }
def gSLight:List Leaf→(Ex→St→Option R)→Option R
 | [.r r0,.r r5,.i i6,.i i7],K=>cond (i6==r5.length) (cond (i7==0) (cond (Nat.ble r5.length 9223372036854775807) (cond (N.lightSAs ((r5).map cSAct.dec)) (K (.exit 0) { fr:=[(0,.slc [.int .u8,.str,.str,.int .u64,.int .u64,.str,.int .u64,.str,.str,.slc [.str,.int .u8,.int .i64,.str],.str,.int .u64,.int .u8,.int .u64,.int .i64] r0)],tab:=[] }) (K .ret { fr:=[(2,.bool false)],tab:=[] })) none) none) none
 | _,_=>none
noncomputable def eSLight:Env:=env Tryz.prog [(38,dLightM)] [(2,loopF schSLight gSLight)] [(2,[(0,[0,5,6,7]),(1,[0]),(1000,[2])])]
theorem q_sLight (l:List HSAct):evFn eSLight 18 ((aOne (vSl cSAct)).enc l) ([]) some =
 cond ((↑(List.length (List.map (RCod.enc cSAct) l)):Int)==(↑(List.length (List.map (RCod.enc cSAct) l)):Int)) (cond (Nat.ble (List.length (List.map (RCod.enc cSAct) l)) 9223372036854775807) (cond (N.lightSAs (List.map (RCod.dec cSAct) (List.map (RCod.enc cSAct) l))) (some {v:=V.bool (ile (↑(List.length (List.map (RCod.enc cSAct) l)):Int) (60:Int)),bx:=[]:DRes}) (some {v:=V.bool false,bx:=[]:DRes})) (none)) (none):=by kernel_rfl
theorem q_sLightR_ (r0:List (List V)) (r5:List (List V)) (i6:Int) (i7:Int) (K:Ex→St→Option R):evRound eSLight 18 2 { fr:=[(0,.slc [.int .u8,.str,.str,.int .u64,.int .u64,.str,.int .u64,.str,.str,.slc [.str,.int .u8,.int .i64,.str],.str,.int .u64,.int .u8,.int .u64,.int .i64] r0),(5,.slc [.int .u8,.str,.str,.int .u64,.int .u64,.str,.int .u64,.str,.str,.slc [.str,.int .u8,.int .i64,.str],.str,.int .u64,.int .u8,.int .u64,.int .i64] r5),(6,.int .i64 i6),(7,.int .i64 i7)],tab:=[] } K =(
 let z0:=(List.getD r5 (Int.toNat i7) []);let z1:=(↑(List.length (V.toStr (List.getD z0 1 V.undef))):Int);let z2:=(↑(List.length (V.toStr (List.getD z0 2 V.undef))):Int);let z3:=(↑(List.length (V.toStr (List.getD z0 5 V.undef))):Int);cond (ilt i7 i6) (cond (decide ((0:Int)≤i7∧i7<(↑(List.length r5):Int))) (cond (ilt (40:Int) (bif ilt (bif ilt z1 z2 then z2 else z1) z3 then z3 else bif ilt z1 z2 then z2 else z1)) (K Ex.ret {fr:=[(2,V.bool false)],tab:=[]:St}) (cond (!N.lightM {id:=V.toInt (List.getD z0 6 V.undef),shop:=V.toStr (List.getD z0 7 V.undef),key:=V.toStr (List.getD z0 8 V.undef),head:=List.map (fun r=>{key:=V.toStr (List.getD r 0 .undef),kind:=V.toInt (List.getD r 1 .undef),num:=V.toInt (List.getD r 2 .undef),text:=V.toStr (List.getD r 3 .undef):HPair}) (V.toRows (List.getD z0 9 V.undef)),body:=V.toStr (List.getD z0 10 V.undef),due:=V.toInt (List.getD z0 11 V.undef),hops:=V.toInt (List.getD z0 12 V.undef):HMail}) (K Ex.ret {fr:=[(2,V.bool false)],tab:=[]:St}) (K Ex.normal {fr:=[(0,V.slc [.int .u8,.str,.str,.int .u64,.int .u64,.str,.int .u64,.str,.str,.slc [.str,.int .u8,.int .i64,.str],.str,.int .u64,.int .u8,.int .u64,.int .i64] r0),(5,V.slc [.int .u8,.str,.str,.int .u64,.int .u64,.str,.int .u64,.str,.str,.slc [.str,.int .u8,.int .i64,.str],.str,.int .u64,.int .u8,.int .u64,.int .i64] r5),(6,V.int .i64 i6),(7,V.int .i64 (IntKind.wrap .i64 (i7+(1:Int))))],tab:=[]:St}))) (none)) (K (Ex.exit 0) {fr:=[(0,V.slc [.int .u8,.str,.str,.int .u64,.int .u64,.str,.int .u64,.str,.str,.slc [.str,.int .u8,.int .i64,.str],.str,.int .u64,.int .u8,.int .u64,.int .i64] r0)],tab:=[]:St})):=by kernel_rfl
theorem q_sLightR (r0:List (List V)) (r5:List (List V)) (i6:Int) (i7:Int) (K:Ex→St→Option R):type_of% (by have h:=q_sLightR_ r0 r5 i6 i7 K; dsimp only at h; exact h):=by
 have h:=q_sLightR_ r0 r5 i6 i7 K
 dsimp only at h
 exact h
theorem ok_sLight_2:RoundsOk eSLight 18 2:=by
 refine rounds_of rfl fun l K q h=>?_
 unfold gSLight at h
 split at h
 ·rename_i r0 r5 i6 i7
  have h1:=(cond_none h).1; replace h:=(cond_none h).2; have h2:=(cond_none h).1; replace h:=(cond_none h).2; have h3:=(cond_none h).1; replace h:=(cond_none h).2
  have e1:=ieq_of h1
  have e2:=ieq_of h2
  subst e1 e2
  have h3:r5.length≤9223372036854775807:=ble_of h3
  have main:=range_ind (E:=eSLight) (f:=18) (id:=2) (A:=Unit) (r5) (fun a i=>{ fr:=[(0,.slc [.int .u8,.str,.str,.int .u64,.int .u64,.str,.int .u64,.str,.str,.slc [.str,.int .u8,.int .i64,.str],.str,.int .u64,.int .u8,.int .u64,.int .i64] r0),(5,.slc [.int .u8,.str,.str,.int .u64,.int .u64,.str,.int .u64,.str,.str,.slc [.str,.int .u8,.int .i64,.str],.str,.int .u64,.int .u8,.int .u64,.int .i64] r5),(6,.int .i64 r5.length),(7,.int .i64 i)],tab:=[] }) (fun a i=>True)
   (fun a rows K=>cond (N.lightSAs ((rows).map cSAct.dec)) (K (.exit 0) { fr:=[(0,.slc [.int .u8,.str,.str,.int .u64,.int .u64,.str,.int .u64,.str,.str,.slc [.str,.int .u8,.int .i64,.str],.str,.int .u64,.int .u8,.int .u64,.int .i64] r0)],tab:=[] }) (K .ret { fr:=[(2,.bool false)],tab:=[] })) (fun a i ha hi=>?_) (fun a ha=>?_) (()) 0 (Int.le_refl _) (by omega) trivial K q (by assumption)
  ·exact main
  ·have hq:=fun K=>q_sLightR (r0) (r5) (r5.length) ((i:Int)) K
   have t1:ilt (i:Int) r5.length=true:=ilt_t (by omega)
   have t2:decide ((0:Int)≤i∧(i:Int)<r5.length)=true:=decide_eq_true (by omega)
   have t3:IntKind.wrap .i64 ((i:Int)+1)=(i:Int)+1:=wr_i64 (by omega) (by omega)
   have n0:(V.toStr (List.getD (List.getD r5 i []) 1 V.undef))=(cSAct.dec (r5.getD i [])).name:=rfl
   have n1:(V.toStr (List.getD (List.getD r5 i []) 2 V.undef))=(cSAct.dec (r5.getD i [])).q.name:=rfl
   have n2:(V.toStr (List.getD (List.getD r5 i []) 5 V.undef))=(cSAct.dec (r5.getD i [])).q.dead:=rfl
   simp only [Int.toNat_natCast,n0,n1,n2] at hq
   simp only [t1,t2,t3,cond_true] at hq
   simp only [List.map_cons,lightSAs_cons]
   cases hc1:ilt 40 (N.max3 (cSAct.dec (r5.getD i [])).name.length (cSAct.dec (r5.getD i [])).q.name.length (cSAct.dec (r5.getD i [])).q.dead.length) with
   | true =>
    have hcl:N.lightSA (cSAct.dec (r5.getD i []))=false:=by unfold N.lightSA; rw [hc1]; rfl
    refine .inr ⟨.ret,{ fr:=[(2,.bool false)],tab:=[] },by simp,fun K=>?_,fun K=>by rw [hcl]; rfl⟩
    rw [hq]
    show cond (ilt 40 (N.max3 (cSAct.dec (r5.getD i [])).name.length (cSAct.dec (r5.getD i [])).q.name.length (cSAct.dec (r5.getD i [])).q.dead.length)) _ _=_
    rw [hc1]; rfl
   | false =>
    cases hc2:N.lightM (cSAct.dec (r5.getD i [])).mail with
    | false =>
     have hcl:N.lightSA (cSAct.dec (r5.getD i []))=false:=by unfold N.lightSA; rw [hc1,hc2]; rfl
     refine .inr ⟨.ret,{ fr:=[(2,.bool false)],tab:=[] },by simp,fun K=>?_,fun K=>by rw [hcl]; rfl⟩
     rw [hq]
     show cond (ilt 40 (N.max3 (cSAct.dec (r5.getD i [])).name.length (cSAct.dec (r5.getD i [])).q.name.length (cSAct.dec (r5.getD i [])).q.dead.length)) _ (cond (!N.lightM (cSAct.dec (r5.getD i [])).mail) _ _)=_
     rw [hc1,hc2]; rfl
    | true =>
     have hcl:N.lightSA (cSAct.dec (r5.getD i []))=true:=by unfold N.lightSA; rw [hc1,hc2]; rfl
     refine .inl ⟨(),trivial,fun K=>?_,fun K=>by rw [hcl]; rfl⟩
     rw [hq]
     show cond (ilt 40 (N.max3 (cSAct.dec (r5.getD i [])).name.length (cSAct.dec (r5.getD i [])).q.name.length (cSAct.dec (r5.getD i [])).q.dead.length)) _ (cond (!N.lightM (cSAct.dec (r5.getD i [])).mail) _ _)=_
     rw [hc1,hc2]; rfl
  ·refine ⟨.exit 0,_,by simp,fun K=>?_,fun K=>rfl⟩
   rw [q_sLightR]
   simp (disch:=omega) only [evs]
   try rfl
 ·cases h
theorem ok_sLight:FnOk Tryz.prog 18 dLight21:=by
 refine den_okF (env_ok ((TOk.nil _).cons ok_lightM)) (E:=eSLight) Tryz.func18 [2] (by kernel_rfl) (one1 ok_sLight_2) fun a b hp=>?_
 have hp:Nat.ble a.length 9223372036854775807=true:=hp
 refine (q_sLight a).trans ?_
 simp only [dec_encs,List.length_map,beq_self_eq_true,hp,cond_true]
 show _=some (⟨.bool (cond (N.lightSAs a) (ile a.length 60) false),[],[]⟩:DRes)
 cases N.lightSAs a<;>rfl
def goodSA (a:HSAct):Bool:=cond (N.fineM a.mail) (smallM a.mail) false
def dPut21:Den:=den (aCons (vAgg cStock) (aCons (vAgg cStock) (aOne (vAgg cSAct)))) bNil (oTup (aCons (vAgg cStock) (aCons (vAgg cStock) (aOne vBool)))) (fun a _=>cond (goodN a.1) (cond (goodNF a.2.1) (goodSA a.2.2) false) false) fun a _=>(N.put21 a.1 a.2.1 a.2.2,())
noncomputable def eLPut21:Env:=env Tryz.prog [(13,dSPut),(140,dRSPut),(25,dMailSame)] [] []
theorem q_lPut21_ (s q:HStock) (a:HSAct):evFn eLPut21 64 ((aCons (vAgg cStock) (aCons (vAgg cStock) (aOne (vAgg cSAct)))).enc (s,q,a)) ([]) some =(
 let z0:=(RCod.dec cMail (RCod.enc cMail (HSAct.mail a)));let z1:=(N.sPut (RCod.dec cStock (RCod.enc cStock s)) (HSAct.name a) z0);let z2:=(N.rPutS (RCod.dec cStock (RCod.enc cStock q)) (HSAct.name a) z0);let z3:=(some {v:=V.tup [V.agg (RCod.enc cStock (Prod.fst z1)),V.agg (RCod.enc cStock (Prod.fst z2)),V.bool false],bx:=[]:DRes});let z4:=(RCod.dec cMail (RCod.enc cMail (Prod.fst (Prod.snd (Prod.snd z1)))));cond (bif goodN (RCod.dec cStock (RCod.enc cStock s)) then bif N.okM z0 then smallM z0 else false else false) (cond (bif goodNF (RCod.dec cStock (RCod.enc cStock q)) then bif N.fineM z0 then smallM z0 else false else false) (cond (Prod.fst (Prod.snd z1)==Prod.fst (Prod.snd z2)) (cond (smallM z4) (cond (N.mailSame z4 (RCod.dec cMail (RCod.enc cMail (Prod.fst (Prod.snd (Prod.snd z2)))))) (some {v:=V.tup [V.agg (RCod.enc cStock (Prod.fst z1)),V.agg (RCod.enc cStock (Prod.fst z2)),V.bool (Prod.snd (Prod.snd (Prod.snd z1))==Prod.snd (Prod.snd (Prod.snd z2)))],bx:=[]:DRes}) z3) (none)) z3) (none)) (none)):=by kernel_rfl
theorem q_lPut21 (s q:HStock) (a:HSAct):type_of% (by have h:=q_lPut21_ s q a; dsimp only at h; exact h):=by
 have h:=q_lPut21_ s q a
 dsimp only at h
 exact h
theorem ok_lPut21 (hN:FnOk Tryz.prog 95 dOutNum):FnOk Tryz.prog 64 dPut21:=by
 refine den_okF (env_ok ((((TOk.nil _).cons ok_refMailSame).cons ok_rSPut).cons (ok_sPut hN))) (E:=eLPut21) Tryz.func64 [] (by kernel_rfl) (none0) fun a b hp=>?_
 obtain ⟨s,q,a⟩:=a
 obtain ⟨hs,hq⟩:=bcond (show cond (goodN s) (cond (goodNF q) (goodSA a) false) false=true from hp)
 obtain ⟨hq,ha⟩:=bcond hq
 obtain ⟨ha1,ha2⟩:=bcond ha
 have ho:=sPut_small a.name a.mail hs
 refine (q_lPut21 s q a).trans ?_
 simp only [cStock.de,cMail.de,hs,hq,ha1,ha2,fine_ok ha1,ho,cond_true]
 show _=some (⟨.tup [.agg (cStock.enc (N.put21 s q a).1),.agg (cStock.enc (N.put21 s q a).2.1),.bool (N.put21 s q a).2.2],[],[]⟩:DRes)
 unfold N.put21
 cases (N.sPut s a.name a.mail).2.1==(N.rPutS q a.name a.mail).2.1 with
 | false=>rfl
 | true =>
  simp only [cond_true]
  cases N.mailSame (N.sPut s a.name a.mail).2.2.1 (N.rPutS q a.name a.mail).2.2.1<;>rfl
def dDone21:Den:=den (aCons (vAgg cStock) (aCons (vAgg cStock) (aOne (vAgg cSAct)))) bNil (oTup (aCons (vAgg cStock) (aCons (vAgg cStock) (aOne vBool)))) (fun a _=>cond (goodN a.1) (cond (goodNF a.2.1) (goodSA a.2.2) false) false) fun a _=>(N.done21 a.1 a.2.1 a.2.2,())
noncomputable def eLDone21:Env:=env Tryz.prog [(11,dSMake),(52,dSMake),(53,dSDrop),(54,dRSDrop),(16,dSLend),(55,dSLend),(56,dSameI),(24,dSBack),(57,dSBack),(58,dSRemove),(59,dSRemove),(60,dSRaise),(61,dRSRaise),(62,dSWake),(63,dSWake),(64,dPut21)] [] []
theorem q_lDone21_ (s q:HStock) (a:HSAct):evFn eLDone21 19 ((aCons (vAgg cStock) (aCons (vAgg cStock) (aOne (vAgg cSAct)))).enc (s,q,a)) ([]) some =(
 let z0:=(RCod.dec cStock (RCod.enc cStock s));let z1:=(RCod.dec cStock (RCod.enc cStock q));let z2:=(RCod.dec cMail (RCod.enc cMail (HSAct.mail a)));let z3:=(N.sRemove z0 (HSAct.name a) (HSAct.id a));let z4:=(N.sRemove z1 (HSAct.name a) (HSAct.id a));let z5:=(N.sLend z0 (HSAct.name a));let z6:=(RCod.dec cSAct (RCod.enc cSAct a));let z7:=(Nat.ble (List.length (List.map (RCod.dec cRow) (List.map (RCod.enc cRow) (HStock.rows s)))) 100);let z8:=(Nat.ble (List.length (List.map (RCod.dec cRow) (List.map (RCod.enc cRow) (HStock.rows q)))) 100);let z9:=(N.sLend z1 (HSAct.name a));let z10:=(RCod.dec cItem (RCod.enc cItem (Prod.fst (Prod.snd z5))));let z11:=(RCod.dec cItem (RCod.enc cItem (Prod.fst (Prod.snd z3))));cond (Int.tmod (HSAct.op a) (10:Int)==(3:Int)) (cond z7 (cond z8 (some {v:=V.tup [V.agg (RCod.enc cStock (Prod.fst (N.sMake z0 (HSAct.q a)))),V.agg (RCod.enc cStock (Prod.fst (N.sMake z1 (HSAct.q a)))),V.bool (Prod.snd (N.sMake z0 (HSAct.q a))==Prod.snd (N.sMake z1 (HSAct.q a)))],bx:=[]:DRes}) (none)) (none)) (cond (Int.tmod (HSAct.op a) (10:Int)==(4:Int)) (cond z7 (cond z8 (some {v:=V.tup [V.agg (RCod.enc cStock (Prod.fst (N.sDrop z0 (HSAct.name a)))),V.agg (RCod.enc cStock (Prod.fst (N.rDropS z1 (HSAct.name a)))),V.bool (Prod.snd (N.sDrop z0 (HSAct.name a))==Prod.snd (N.rDropS z1 (HSAct.name a)))],bx:=[]:DRes}) (none)) (none)) (cond (Int.tmod (HSAct.op a) (10:Int)==(5:Int)) (cond (goodRows z0) (cond (goodRows z1) (cond (Prod.snd (Prod.snd z5)==Prod.snd (Prod.snd z9)) (cond (smallI z10) (some {v:=V.tup [V.agg (RCod.enc cStock (Prod.fst z5)),V.agg (RCod.enc cStock (Prod.fst z9)),V.bool (N.sameI z10 (RCod.dec cItem (RCod.enc cItem (Prod.fst (Prod.snd z9)))))],bx:=[]:DRes}) (none)) (some {v:=V.tup [V.agg (RCod.enc cStock (Prod.fst z5)),V.agg (RCod.enc cStock (Prod.fst z9)),V.bool false],bx:=[]:DRes})) (none)) (none)) (cond (Int.tmod (HSAct.op a) (10:Int)==(6:Int)) (cond (goodRows z0) (cond (goodRows z1) (some {v:=V.tup [V.agg (RCod.enc cStock (Prod.fst (N.sBack z0 (HSAct.name a) (HSAct.id a)))),V.agg (RCod.enc cStock (Prod.fst (N.sBack z1 (HSAct.name a) (HSAct.id a)))),V.bool (Prod.snd (N.sBack z0 (HSAct.name a) (HSAct.id a))==Prod.snd (N.sBack z1 (HSAct.name a) (HSAct.id a)))],bx:=[]:DRes}) (none)) (none)) (cond (Int.tmod (HSAct.op a) (10:Int)==(7:Int)) (cond (goodRows z0) (cond (goodRows z1) (cond (Prod.snd (Prod.snd z3)==Prod.snd (Prod.snd z4)) (cond (smallI z11) (some {v:=V.tup [V.agg (RCod.enc cStock (Prod.fst z3)),V.agg (RCod.enc cStock (Prod.fst z4)),V.bool (N.sameI z11 (RCod.dec cItem (RCod.enc cItem (Prod.fst (Prod.snd z4)))))],bx:=[]:DRes}) (none)) (some {v:=V.tup [V.agg (RCod.enc cStock (Prod.fst z3)),V.agg (RCod.enc cStock (Prod.fst z4)),V.bool false],bx:=[]:DRes})) (none)) (none)) (cond (Int.tmod (HSAct.op a) (10:Int)==(8:Int)) (cond (bif goodB z0 then bif N.okM z2 then smallM z2 else false else false) (cond (bif goodSF z1 then bif N.fineM z2 then smallM z2 else false else false) (some {v:=V.tup [V.agg (RCod.enc cStock (Prod.fst (N.sRaise z0 (HSAct.place a) z2))),V.agg (RCod.enc cStock (Prod.fst (N.rRaiseS z1 (HSAct.place a) z2))),V.bool (Prod.snd (N.sRaise z0 (HSAct.place a) z2)==Prod.snd (N.rRaiseS z1 (HSAct.place a) z2))],bx:=[]:DRes}) (none)) (none)) (cond (Int.tmod (HSAct.op a) (10:Int)==(9:Int)) (cond (goodRows z0) (cond (goodRows z1) (some {v:=V.tup [V.agg (RCod.enc cStock (N.sWake z0)),V.agg (RCod.enc cStock (N.sWake z1)),V.bool true],bx:=[]:DRes}) (none)) (none)) (cond (bif goodN z0 then bif goodNF z1 then goodSA z6 else false else false) (some {v:=V.tup [V.agg (RCod.enc cStock (Prod.fst (N.put21 z0 z1 z6))),V.agg (RCod.enc cStock (Prod.fst (Prod.snd (N.put21 z0 z1 z6)))),V.bool (Prod.snd (Prod.snd (N.put21 z0 z1 z6)))],bx:=[]:DRes}) (none))))))))):=by kernel_rfl
theorem q_lDone21 (s q:HStock) (a:HSAct):type_of% (by have h:=q_lDone21_ s q a; dsimp only at h; exact h):=by
 have h:=q_lDone21_ s q a
 dsimp only at h
 exact h
theorem ok_lDone21 (hN:FnOk Tryz.prog 95 dOutNum):FnOk Tryz.prog 19 dDone21:=by
 refine den_okF (env_ok (((((((((((((((((TOk.nil _).cons (ok_lPut21 hN)).cons ok_rSWake).cons ok_sWake).cons ok_rSRaise).cons (ok_sRaise hN)).cons ok_rSRemove).cons ok_sRemove).cons ok_rSBack).cons ok_sBack).cons ok_rSameI).cons ok_rSLend).cons ok_sLend).cons ok_rSDrop).cons ok_sDrop).cons ok_rSMake).cons ok_sMake)) (E:=eLDone21) Tryz.func19 [] (by kernel_rfl) (none0) fun a b hp=>?_
 obtain ⟨s,q,a⟩:=a
 obtain ⟨hs,hq⟩:=bcond (show cond (goodN s) (cond (goodNF q) (goodSA a) false) false=true from hp)
 obtain ⟨hq,ha⟩:=bcond hq
 obtain ⟨ha1,ha2⟩:=bcond ha
 have ha3:=fine_ok ha1
 have s1:=(bcond hs).1
 have s2:=(bcond (goodB_of s1).1).1
 have s3:=(bcond s2).1
 have q1:=(bcond hq).1
 have q2:=rowsF_ok (bcond q1).1
 have q3:=(bcond q2).1
 have hg:goodSA a=true:=ha
 have hl:=sLend_small a.name s2
 have hr:=sRemove_small a.name a.id s2
 refine (q_lDone21 s q a).trans ?_
 simp only [dec_encs,cStock.de,cMail.de,cSAct.de,cItem.de,hs,hq,ha1,ha2,ha3,s1,s2,s3,q1,q2,q3,hg,hl,hr,cond_true]
 show _=some (⟨.tup [.agg (cStock.enc (N.done21 s q a).1),.agg (cStock.enc (N.done21 s q a).2.1),.bool (N.done21 s q a).2.2],[],[]⟩:DRes)
 unfold N.done21
 cases Int.tmod a.op 10==3 with
 | true=>rfl
 | false =>
 cases Int.tmod a.op 10==4 with
 | true=>rfl
 | false =>
 cases Int.tmod a.op 10==5 with
 | true =>
  simp only [cond_true,cond_false]
  cases (N.sLend s a.name).2.2==(N.sLend q a.name).2.2<;>rfl
 | false =>
 cases Int.tmod a.op 10==6 with
 | true=>rfl
 | false =>
 cases Int.tmod a.op 10==7 with
 | true =>
  simp only [cond_true,cond_false]
  cases (N.sRemove s a.name a.id).2.2==(N.sRemove q a.name a.id).2.2<;>rfl
 | false =>
 cases Int.tmod a.op 10==8 with
 | true=>rfl
 | false=>cases Int.tmod a.op 10==9<;>rfl
end Go.Ev

/- What stocks keep,in plain terms: definitions and lemmas,no condition. -/
namespace Go.Ev
open Go
set_option maxRecDepth 100000
theorem lend_mails (l:List HItem):(N.lLend l).1.map HItem.mail=l.map HItem.mail:=by
 unfold N.lLend
 rcases ix_spec N.isReady l 0 (Int.le_refl _) with ⟨h1,_⟩ | ⟨k,h1,h2,_⟩
 ·rw [h1]; rfl
 ·rw [h1,ilt_f (by omega)]
  have e:(0+(k:Int)).toNat=k:=by omega
  rw [e]
  exact set_ids (f:=N.lendI) (fun _=>rfl) l k h2
theorem back_mails (l:List HItem) (id:Int):(N.lBack l id).1.map HItem.mail=l.map HItem.mail:=by
 unfold N.lBack
 rcases ix_spec (N.isId id) l 0 (Int.le_refl _) with ⟨h1,_⟩ | ⟨k,h1,h2,_⟩
 ·rw [h1]; rfl
 ·rw [h1,ilt_f (by omega)]
  have e:(0+(k:Int)).toNat=k:=by omega
  rw [e]
  simp only [cond_false]
  cases (l.getD k item0).lent with
  | true=>exact set_ids (f:=N.backI) (fun _=>rfl) l k h2
  | false=>rfl
theorem wake_mails (l:List HItem):(N.lWake l).map HItem.mail=l.map HItem.mail:=by
 unfold N.lWake
 rw [List.map_map]
 exact List.map_congr_left fun x _=>wake_mail x
theorem lSize_cons (x:HItem) (r:List HItem):N.lSize (x::r)=N.mailSize x.mail+N.lSize r:=rfl
theorem lSize_app:∀ (a b:List HItem),N.lSize (a++b)=N.lSize a+N.lSize b
 | [],b=>(Int.zero_add _).symm
 | x::r,b=>by rw [List.cons_append,lSize_cons,lSize_app r b,lSize_cons,Int.add_assoc]
theorem lSize_of:∀ {l l' : List HItem},l'.map HItem.mail=l.map HItem.mail→N.lSize l' = N.lSize l
 | [],[],_=>rfl
 | [],_::_,h=>by cases h
 | _::_,[],h=>by cases h
 | x::r,y::t,h=>by
  rw [List.map_cons,List.map_cons] at h
  injection h with h1 h2
  rw [lSize_cons,lSize_cons,h1,lSize_of h2]
theorem lSize_sub {l l' : List HItem} (h:l'.Sublist l):N.lSize l'≤N.lSize l:=by
 induction h with
 | slnil=>exact Int.le_refl _
 | cons x _ ih=>have:=(mailSize_le x.mail).1; rw [lSize_cons]; omega
 | cons_cons x _ ih=>rw [lSize_cons,lSize_cons]; omega
structure LineStep (l l' : List HItem):Prop where
 inv:LInv l→LInv l'
 fine:∀ p,allM p l=true→allM p l' = true
 len:l'.length≤l.length
 size:N.lSize l'≤N.lSize l
 low:∀ n:Int,(∀ y∈l,y.mail.id<n)→∀ y∈l',y.mail.id<n
theorem LineStep.mails {l l' : List HItem} (h:l'.map HItem.mail=l.map HItem.mail):LineStep l l' where
 inv:=linv_of_mails h
 fine _:=allM_of h
 len:=by have:=congrArg List.length h; simp only [List.length_map] at this; omega
 size:=by rw [lSize_of h]; exact Int.le_refl _
 low n hn y hy:=by
  have:y.mail∈l.map HItem.mail:=h ▸ List.mem_map_of_mem hy
  obtain ⟨z,hz,e⟩:=List.mem_map.1 this
  rw [← e]; exact hn z hz
theorem LineStep.sub {l l' : List HItem} (h:l'.Sublist l):LineStep l l' where
 inv:=linv_sub h
 fine _ ha:=List.all_eq_true.2 fun x hx=>List.all_eq_true.1 ha x (h.subset hx)
 len:=h.length_le
 size:=lSize_sub h
 low _ hn y hy:=hn y (h.subset hy)
theorem remove_sub (l:List HItem) (id:Int):(N.lRemove l id).1.Sublist l:=by
 unfold N.lRemove
 cases ilt (N.ix (N.isId id) l 0) 0 with
 | true=>exact List.Sublist.refl _
 | false=>exact cut_sub l _
structure StkRow (n:Int) (x:HRow):Prop where
 line:LInv x.line
 fine:allM N.fineCk x.line=true
 most:(x.line.length:Int)≤x.q.most
 q:N.qCheck x.q=0
 life:N.u64 x.q.life=true
 low:n=0∨∀ y∈x.line,y.mail.id<n
structure SInv (s:HStock):Prop where
 next0:0≤s.next
 next1:s.next<18446744073709551616
 bytes0:0≤s.bytes
 bytes1:s.bytes≤9223372036854775807
 few:s.rows.length≤8
 row:∀ x∈s.rows,StkRow s.next x
 names:(s.rows.map fun x=>x.q.name).Nodup
 rise:s.rises.list.all goodFineCk=true
 size:N.sSize s≤s.bytes
theorem qCheck_of {q:HQueue} (h:N.qCheck q=0):N.name q.name=0∧1≤q.most∧q.most≤64∧(q.dead=[]∨N.name q.dead=0):=by
 unfold N.qCheck at h
 cases h1:N.name q.name != 0 with
 | true=>rw [h1] at h; have h:N.name q.name=0:=h; rw [h] at h1; cases h1
 | false =>
  rw [h1] at h
  refine ⟨by simpa using h1,?_⟩
  cases h2:ilt q.most 1 with
  | true=>rw [h2] at h; cases h
  | false =>
   cases h3:ilt 64 q.most with
   | true=>rw [h2,h3] at h; cases h
   | false =>
    refine ⟨ilt_nof h2,ilt_nof h3,?_⟩
    cases h4:q.dead==[] with
    | true=>exact .inl (by simpa using h4)
    | false=>rw [h2,h3,h4] at h; exact .inr h
theorem fineCk_fine {m:HMail} (h:N.fineCk m=true):N.fineM m=true∧N.mailCheck m=0:=by
 obtain ⟨h1,h2⟩:=bcond h
 exact ⟨h1,ieq_of h2⟩
theorem lineF_good {l:List HItem} (h:LInv l) (hf:allM N.fineCk l=true):goodLineF l=true:=by
 have:=h.few
 unfold goodLineF
 rw [ble_t (show l.length≤100 by omega),h.small,List.all_eq_true.2 fun x hx=>(fineCk_fine (List.all_eq_true.1 hf x hx)).1]; rfl
theorem riseCk_fine {x:HRise} (h:goodFineCk x=true):goodFineR x=true:=by
 obtain ⟨h1,h2⟩:=bcond h
 unfold goodFineR
 rw [h1,List.all_eq_true.2 fun m hm=>(fineCk_fine (List.all_eq_true.1 h2 m hm)).1]; rfl
theorem SInv.goodRowsF {s:HStock} (h:SInv s):goodRowsF s=true:=by
 have:=h.few
 unfold Go.Ev.goodRowsF
 rw [ble_t (show s.rows.length≤100 by omega),show s.rows.all goodRowF=true from List.all_eq_true.2 fun x hx=>lineF_good (h.row x hx).line (h.row x hx).fine]; rfl
theorem SInv.goodNF {s:HStock} (h:SInv s):goodNF s=true:=by
 unfold Go.Ev.goodNF goodSF
 rw [h.goodRowsF,List.all_eq_true.2 fun x hx=>riseCk_fine (List.all_eq_true.1 h.rise x hx),ile_t h.next0,ilt_t h.next1]; rfl
theorem SInv.goodN {s:HStock} (h:SInv s):goodN s=true:=by
 unfold Go.Ev.goodN goodB
 rw [sF_ok (bcond h.goodNF).1,ile_t h.next0,ilt_t h.next1,ile_t h.bytes0,ile_t h.bytes1]; rfl
theorem SInv.goodS {s:HStock} (h:SInv s):goodS s=true:=sF_ok (bcond h.goodNF).1
theorem SInv.goodRows {s:HStock} (h:SInv s):goodRows s=true:=(bcond h.goodS).1
theorem SInv.fewRows {s:HStock} (h:SInv s):fewRows s=true:=(bcond h.goodRows).1
theorem SInv.goodB {s:HStock} (h:SInv s):goodB s=true:=(bcond h.goodN).1
theorem rowsSize_cons (x:HRow) (r:List HRow):N.rowsSize (x::r)=N.lSize x.line+N.rowsSize r:=rfl
theorem rowsSize_app:∀ (a b:List HRow),N.rowsSize (a++b)=N.rowsSize a+N.rowsSize b
 | [],b=>(Int.zero_add _).symm
 | x::r,b=>by rw [List.cons_append,rowsSize_cons,rowsSize_app r b,rowsSize_cons,Int.add_assoc]
theorem rowsSize_sub {l l' : List HRow} (h:l'.Sublist l):N.rowsSize l'≤N.rowsSize l:=by
 induction h with
 | slnil=>exact Int.le_refl _
 | cons x _ ih=>have:=(lSize_le x.line).1; rw [rowsSize_cons]; omega
 | cons_cons x _ ih=>rw [rowsSize_cons,rowsSize_cons]; omega
theorem rowsSize_set:∀ (l:List HRow) (k:Nat) (x:HRow),k<l.length→N.rowsSize (l.set k x)=N.rowsSize l-N.lSize (l.getD k row0).line+N.lSize x.line
 | y::r,0,x,_=>by
  show N.lSize x.line+N.rowsSize r=N.lSize y.line+N.rowsSize r-N.lSize y.line+N.lSize x.line
  omega
 | y::r,k+1,x,h=>by
  have:=rowsSize_set r k x (by simpa using h)
  show N.lSize y.line+N.rowsSize (r.set k x)=N.lSize y.line+N.rowsSize r-N.lSize (r.getD k row0).line+N.lSize x.line
  omega
theorem risesSize_set:∀ (l:List HRise) (k:Nat) (x:HRise),k<l.length→N.risesSize (l.set k x)=N.risesSize l-N.riseSize (l.getD k rise0).kept+N.riseSize x.kept
 | y::r,0,x,_=>by
  show N.riseSize x.kept+N.risesSize r=N.riseSize y.kept+N.risesSize r-N.riseSize y.kept+N.riseSize x.kept
  omega
 | y::r,k+1,x,h=>by
  have:=risesSize_set r k x (by simpa using h)
  show N.riseSize y.kept+N.risesSize (r.set k x)=N.riseSize y.kept+N.risesSize r-N.riseSize (r.getD k rise0).kept+N.riseSize x.kept
  omega
theorem set_names (rows:List HRow) (k:Nat) (l:List HItem):(rows.set k ⟨(rows.getD k row0).q,l⟩).map (fun x=>x.q.name)=rows.map fun x=>x.q.name:=by
 rw [List.map_set]
 refine List.ext_getElem? fun i=>?_
 rw [List.getElem?_set]
 by_cases h:k=i
 ·subst h
  by_cases hk:k<rows.length
  ·rw [List.getD_eq_getElem?_getD,List.getElem?_eq_getElem hk]; simp [hk]
  ·simp [hk]
 ·simp [h]
theorem set_rows {rows:List HRow} {n n' : Int} {k:Nat} {x:HRow} (h:∀ y∈rows,StkRow n y) (hn:∀ y,StkRow n y→StkRow n' y) (hx:StkRow n' x):∀ y∈rows.set k x,StkRow n' y:=fun y hy=>by
 rcases List.mem_or_eq_of_mem_set hy with hy | hy
 ·exact hn y (h y hy)
 ·rw [hy]; exact hx
theorem with_inv {s:HStock} (h:SInv s) {k:Int} (h0:0≤k) (h1:k<s.rows.length) {l:List HItem} (hl:LineStep (N.rowK s k).line l):SInv (N.sWith s k l):=by
 have hk:k.toNat<s.rows.length:=by omega
 have hr:=h.row _ (getD_mem row0 hk)
 have hz:=h.size
 have e:=rowsSize_set s.rows k.toNat ⟨(s.rows.getD k.toNat row0).q,l⟩ hk
 have hs:=hl.size
 refine ⟨h.next0,h.next1,h.bytes0,h.bytes1,by show (List.set _ _ _).length≤8; rw [List.length_set]; exact h.few,?_,?_,h.rise,?_⟩
 ·refine set_rows h.row (fun _ hy=>hy) ⟨hl.inv hr.line,hl.fine _ hr.fine,?_,hr.q,hr.life,?_⟩
  ·have h2:=hl.len
   have h3:((N.rowK s k).line.length:Int)≤(s.rows.getD k.toNat row0).q.most:=hr.most
   show (l.length:Int)≤(s.rows.getD k.toNat row0).q.most
   omega
  ·rcases hr.low with h2 | h2
   ·exact .inl h2
   ·exact .inr (hl.low _ h2)
 ·show ((s.rows.set k.toNat ⟨(s.rows.getD k.toNat row0).q,l⟩).map fun x=>x.q.name).Nodup
  rw [set_names]; exact h.names
 ·show N.rowsSize (s.rows.set k.toNat ⟨(s.rows.getD k.toNat row0).q,l⟩)+N.risesSize s.rises.list≤s.bytes
  have hz:N.rowsSize s.rows+N.risesSize s.rises.list≤s.bytes:=hz
  have hs:N.lSize l≤N.lSize (s.rows.getD k.toNat row0).line:=hs
  rw [e]
  show N.rowsSize s.rows-N.lSize (s.rows.getD k.toNat row0).line+N.lSize l+N.risesSize s.rises.list≤s.bytes
  omega
theorem lend_inv {s:HStock} (h:SInv s) (n:Bytes):SInv (N.sLend s n).1:=by
 unfold N.sLend
 cases h1:ilt (N.sAt s n) 0 with
 | true=>exact h
 | false =>
  obtain ⟨g1,g2,_,_⟩:=sAt_lt (nlt_ge h1)
  exact with_inv h g1 g2 (.mails (lend_mails _))
theorem back_inv {s:HStock} (h:SInv s) (n:Bytes) (id:Int):SInv (N.sBack s n id).1:=by
 unfold N.sBack
 cases h1:ilt (N.sAt s n) 0 with
 | true=>exact h
 | false =>
  obtain ⟨g1,g2,_,_⟩:=sAt_lt (nlt_ge h1)
  exact with_inv h g1 g2 (.mails (back_mails _ id))
theorem remove_inv {s:HStock} (h:SInv s) (n:Bytes) (id:Int):SInv (N.sRemove s n id).1:=by
 unfold N.sRemove
 cases h1:ilt (N.sAt s n) 0 with
 | true=>exact h
 | false =>
  obtain ⟨g1,g2,_,_⟩:=sAt_lt (nlt_ge h1)
  exact with_inv h g1 g2 (.sub (remove_sub _ id))
theorem wakeRow_size:∀ l:List HRow,N.rowsSize (l.map N.wakeRow)=N.rowsSize l
 | []=>rfl
 | x::r=>by
  rw [List.map_cons,rowsSize_cons,rowsSize_cons,wakeRow_size r,show N.lSize (N.wakeRow x).line=N.lSize x.line from lSize_of (wake_mails x.line)]
theorem wake_inv {s:HStock} (h:SInv s):SInv (N.sWake s):=by
 refine ⟨h.next0,h.next1,h.bytes0,h.bytes1,by show (List.map _ _).length≤8; rw [List.length_map]; exact h.few,fun y hy=>?_,?_,h.rise,?_⟩
 ·obtain ⟨x,hx,rfl⟩:=List.mem_map.1 (show y∈s.rows.map N.wakeRow from hy)
  have hr:=h.row x hx
  have hl:LineStep x.line (N.lWake x.line):=.mails (wake_mails x.line)
  refine ⟨hl.inv hr.line,hl.fine _ hr.fine,?_,hr.q,hr.life,?_⟩
  ·have h2:=hl.len
   have h3:=hr.most
   show ((N.lWake x.line).length:Int)≤x.q.most
   omega
  ·rcases hr.low with h2 | h2
   ·exact .inl h2
   ·exact .inr (hl.low _ h2)
 ·show ((s.rows.map N.wakeRow).map fun x=>x.q.name).Nodup
  rw [List.map_map]; exact h.names
 ·show N.rowsSize (s.rows.map N.wakeRow)+N.risesSize s.rises.list≤s.bytes
  rw [wakeRow_size]; exact h.size
theorem sAt_neg {s:HStock} {n:Bytes} (h:ile 0 (N.sAt s n)=false):∀ x∈s.rows,x.q.name ≠ n:=fun x hx e=>by
 rw [show ile 0 (N.sAt s n)=s.rows.any (N.isRow n) from ixG_ge _ _] at h
 rw [List.any_eq_true.2 ⟨x,hx,show (x.q.name==n)=true by rw [e]; exact beq_self_eq_true _⟩] at h
 cases h
theorem make_inv {s:HStock} (h:SInv s) {q:HQueue} (hq:N.u64 q.life=true):SInv (N.sMake s q).1:=by
 unfold N.sMake
 cases h1:N.qCheck q != 0 with
 | true=>exact h
 | false =>
  have hc:N.qCheck q=0:=by simpa using h1
  obtain ⟨_,h5,_,_⟩:=qCheck_of hc
  cases h2:ile 0 (N.sAt s q.name) with
  | true=>cases N.eqQ (N.rowK s (N.sAt s q.name)).q q<;>exact h
  | false =>
   cases h3:ile 8 s.rows.length with
   | true=>exact h
   | false =>
    have h4:=ile_nof h3
    simp only [cond_false]
    refine ⟨h.next0,h.next1,h.bytes0,h.bytes1,?_,fun y hy=>?_,?_,h.rise,?_⟩
    ·show (s.rows++[_]).length≤8
     rw [List.length_append]; simp only [List.length_cons,List.length_nil]; omega
    ·rcases List.mem_append.1 (show y∈s.rows++[(⟨q,[]⟩:HRow)] from hy) with hy | hy
     ·exact h.row y hy
     ·rw [List.mem_singleton.1 hy]
      exact ⟨linv0,rfl,by show ((0:Nat):Int)≤q.most; omega,hc,hq,.inr fun y hy=>by cases hy⟩
    ·show ((s.rows++[(⟨q,[]⟩:HRow)]).map fun x=>x.q.name).Nodup
     rw [List.map_append,List.map_cons,List.map_nil,List.nodup_append]
     refine ⟨h.names,List.nodup_cons.2 ⟨List.not_mem_nil,List.nodup_nil⟩,fun a ha b hb=>?_⟩
     obtain ⟨x,hx,rfl⟩:=List.mem_map.1 ha
     rw [List.mem_singleton.1 hb]
     exact sAt_neg h2 x hx
    ·show N.rowsSize (s.rows++[(⟨q,[]⟩:HRow)])+N.risesSize s.rises.list≤s.bytes
     rw [rowsSize_app]
     show N.rowsSize s.rows+0+N.risesSize s.rises.list≤s.bytes
     rw [Int.add_zero]; exact h.size
theorem cutG_sub {α:Type} (l:List α) (k:Nat):(N.cutG l k).Sublist l:=by
 unfold N.cutG
 have:(l.take k++l.drop (k+1)).Sublist (l.take k++l.drop k):=List.Sublist.append (List.Sublist.refl _) (by
  rw [← List.drop_drop]
  exact List.drop_sublist 1 (l.drop k))
 rwa [List.take_append_drop] at this
theorem drop_inv {s:HStock} (h:SInv s) (n:Bytes):SInv (N.sDrop s n).1:=by
 unfold N.sDrop
 cases h1:ilt (N.sAt s n) 0 with
 | true=>exact h
 | false =>
  have hs:=cutG_sub s.rows (N.sAt s n).toNat
  have hz:=rowsSize_sub hs
  have h2:=h.size
  have h3:=hs.length_le
  have h4:=h.few
  refine ⟨h.next0,h.next1,h.bytes0,h.bytes1,?_,fun y hy=>h.row y (hs.subset hy),List.Nodup.sublist (hs.map _) h.names,h.rise,?_⟩
  ·show (N.cutG s.rows (N.sAt s n).toNat).length≤8
   omega
  ·show N.rowsSize (N.cutG s.rows (N.sAt s n).toNat)+N.risesSize s.rises.list≤s.bytes
   have h2:N.rowsSize s.rows+N.risesSize s.rises.list≤s.bytes:=h2
   omega
theorem put_fineCk {x:HRise} (h:goodFineCk x=true) {m:HMail} (hm:N.fineM m=true) (hs:smallM m=true):goodFineCk (N.risePut x m).1=true:=by
 have h0:=put_fineR (riseCk_fine h) hm hs
 obtain ⟨h1,h2⟩:=bcond h
 have h3:=(bcond h0).1
 unfold goodFineCk
 rw [h3]
 show ((N.risePut x m).1.kept.all N.fineCk)=true
 unfold N.risePut
 cases hc:N.mailCheck m != 0 with
 | true=>exact h2
 | false =>
  cases x.total==18446744073709551615 with
  | true=>exact h2
  | false =>
   refine List.all_eq_true.2 fun y hy=>?_
   rcases List.mem_append.1 (List.mem_of_mem_drop hy) with hy | hy
   ·exact List.all_eq_true.1 h2 y hy
   ·rw [List.mem_singleton.1 hy]
    unfold N.fineCk
    rw [hm]
    show (N.mailCheck m==0)=true
    have:N.mailCheck m=0:=by simpa using hc
    rw [this]; rfl
theorem raise_inv {s:HStock} (h:SInv s) (p:Int) {m:HMail} (hm:N.fineM m=true) (hs:smallM m=true):SInv (N.sRaise s p m).1:=by
 unfold N.sRaise
 cases h1:ilt p 0 with
 | true=>exact h
 | false =>
  cases h2:ile 16 p with
  | true=>exact h
  | false =>
   have g1:=ilt_nof h1
   have g2:=ile_nof h2
   simp only [cond_false]
   cases (N.risePut (N.riseK s p) m).2 != 0 with
   | true=>exact h
   | false =>
    cases h3:ilt s.bytes (N.sSize s-N.riseSize (N.riseK s p).kept+N.riseSize (N.risePut (N.riseK s p) m).1.kept) with
    | true=>exact h
    | false =>
     have h4:=ilt_nof h3
     have hk:p.toNat<s.rises.list.length:=by rw [A16.list_len]; omega
     refine ⟨h.next0,h.next1,h.bytes0,h.bytes1,h.few,h.row,h.names,?_,?_⟩
     ·exact set_all _ h.rise (put_fineCk (List.all_eq_true.1 h.rise _ (getD_mem rise0 hk)) hm hs)
     ·show N.rowsSize s.rows+N.risesSize (s.rises.set p.toNat (N.risePut (N.riseK s p) m).1).list≤s.bytes
      rw [A16.list_set,risesSize_set _ _ _ hk]
      have h4:N.rowsSize s.rows+N.risesSize s.rises.list-N.riseSize (s.rises.list.getD p.toNat rise0).kept+N.riseSize (N.risePut (N.riseK s p) m).1.kept≤s.bytes:=h4
      omega
theorem isId_at {l:List HItem} (hs:Sorted l) {k:Nat} (hk:k<l.length):N.ix (N.isId (l.getD k item0).mail.id) l 0=k:=by
 rcases ix_spec (N.isId (l.getD k item0).mail.id) l 0 (Int.le_refl _) with ⟨_,h2⟩ | ⟨j,h1,h2,h3,h4⟩
 ·have:=h2 _ (getD_mem item0 hk)
  rw [show N.isId (l.getD k item0).mail.id (l.getD k item0)=true from beq_self_eq_true _] at this
  cases this
 ·rw [h1]
  have h3:(l.getD j item0).mail.id=(l.getD k item0).mail.id:=by simpa [N.isId] using h3
  have hj:j=k:=by
   rcases Nat.lt_trichotomy j k with hl | hl | hl
   ·have:=List.pairwise_iff_getElem.1 hs j k h2 hk hl
    rw [List.getD_eq_getElem?_getD,List.getElem?_eq_getElem h2,List.getD_eq_getElem?_getD,List.getElem?_eq_getElem hk] at h3
    simp only [Option.getD_some] at h3
    omega
   ·exact hl
   ·have:=h4 k hl
    rw [show N.isId (l.getD k item0).mail.id (l.getD k item0)=true from beq_self_eq_true _] at this
    cases this
  rw [hj]; omega
theorem first_at {l:List HItem} (hs:Sorted l) (h:(N.lFirst l).2=true):∃ k,k<l.length∧(l.getD k item0).lent=false∧(∀ j,j<k→(l.getD j item0).lent=true)∧N.lFirst l=((l.getD k item0).mail,true)∧(N.lRemove l (l.getD k item0).mail.id).1=N.cutAt l k∧N.ix N.isReady l 0=k:=by
 rcases ix_spec N.isReady l 0 (Int.le_refl _) with ⟨h1,_⟩ | ⟨k,h1,h2,h3,h4⟩
 ·unfold N.lFirst N.lTold at h
  rw [h1] at h; cases h
 ·have hl:∀ x:HItem,N.isReady x=true→x.lent=false:=fun x hx=>by
   unfold N.isReady at hx
   cases hc:x.lent with
   | true=>rw [hc] at hx; cases hx
   | false=>rfl
  have hl' : ∀ x:HItem,N.isReady x=false→x.lent=true:=fun x hx=>by
   unfold N.isReady at hx
   cases hc:x.lent with
   | true=>rfl
   | false=>rw [hc] at hx; cases hx
  refine ⟨k,h2,hl _ h3,fun j hj=>hl' _ (h4 j hj),?_,?_,by rw [h1]; omega⟩
  ·unfold N.lFirst N.lTold
   rw [h1,ilt_f (by omega),show (0+(k:Int)).toNat=k from by omega]; rfl
  ·unfold N.lRemove
   rw [isId_at hs h2,ilt_f (by omega)]; rfl
theorem cut_size {l:List HItem} {k:Nat} (h:k<l.length):N.lSize (N.cutAt l k)+N.mailSize (l.getD k item0).mail=N.lSize l:=by
 have e:=congrArg N.lSize (split_at h)
 rw [lSize_app,lSize_cons] at e
 unfold N.cutAt
 rw [lSize_app]
 omega
theorem numM_check (m:HMail) (n:Int):N.mailCheck (N.numM m n)=N.mailCheck m:=rfl
theorem numM_size (m:HMail) (n:Int):N.mailSize (N.numM m n)=N.mailSize m:=rfl
theorem rc_zero {l:List HItem} (hl:l.length<64) {m:HMail} (hm:N.mailCheck m=0) (h:∀ y∈l,y.mail.id<m.id):N.rRc l m=0:=by
 unfold N.rRc
 rw [hm,show (l.any fun y=>ile m.id y.mail.id)=false from by
  rw [Bool.eq_false_iff]
  intro ha
  obtain ⟨y,hy,hyi⟩:=List.any_eq_true.1 ha
  have h1:=ile_of hyi
  have h2:=h y hy
  omega,ile_f (show (l.length:Int)<64 by omega)]; rfl
theorem lput_zero {l:List HItem} (hs:Sorted l) (hl:l.length<64) {x:HItem} (hm:N.mailCheck x.mail=0) (h:∀ y∈l,y.mail.id<x.mail.id):N.lPut l x=(l++[x],0)∧N.rPut l x=(l++[x],0):=by
 have e:N.rPut l x=(l++[x],0):=by
  unfold N.rPut
  rw [rc_zero hl hm h]; rfl
 exact ⟨by rw [← rPut_eq hs]; exact e,e⟩
structure PutEnd (s:HStock) (k:Int) (m out:HMail) (l:List HItem):Prop where
 prog:N.sPutE s k m out l=cond (ilt (N.sRoom s+N.mailSize out) (N.mailSize m)) (s,0,mail0,12) (⟨IntKind.wrap .u64 (s.next+1),s.bytes,(N.sWith s k (l++[⟨N.numM m s.next,false,false⟩])).rows,s.rises⟩,s.next,out,0)
 docu:N.rPutE s k m out l=N.sPutE s k m out l
 inv:SInv (N.sPutE s k m out l).1
theorem wrap_next {n:Int} (h0:0≤n) (h1:n<18446744073709551616):(IntKind.wrap .u64 (n+1)=n+1∧n+1<18446744073709551616)∨IntKind.wrap .u64 (n+1)=0:=by
 by_cases h:n+1<18446744073709551616
 ·exact .inl ⟨wr_u64 (by omega) (by omega),h⟩
 ·have:n=18446744073709551615:=by omega
  subst this; exact .inr (by decide)
theorem put_end {s:HStock} (h:SInv s) (hn:s.next ≠ 0) {k:Int} (h0:0≤k) (h1:k<s.rows.length) {m out:HMail} (hm:N.fineM m=true) (hsm:smallM m=true) (hc:N.mailCheck m=0) {l:List HItem}
  (hl:LineStep (N.rowK s k).line l) (hlen:(l.length:Int)<(N.rowK s k).q.most) (hz:N.lSize l+N.mailSize out=N.lSize (N.rowK s k).line):PutEnd s k m out l:=by
 have hk:k.toNat<s.rows.length:=by omega
 have hr:=h.row _ (getD_mem row0 hk)
 obtain ⟨_,_,q3,_⟩:=qCheck_of hr.q
 have q3:(N.rowK s k).q.most≤64:=q3
 have hlow:∀ y∈l,y.mail.id<s.next:=hl.low _ (hr.low.resolve_left hn)
 have hs:=(hl.inv hr.line).sorted
 obtain ⟨e1,e2⟩:=lput_zero (l:=l) (x:=⟨N.numM m s.next,false,false⟩) hs (by omega) (show N.mailCheck (N.numM m s.next)=0 from hc) hlow
 have hsz:=rowsSize_set s.rows k.toNat ⟨(s.rows.getD k.toNat row0).q,l++[⟨N.numM m s.next,false,false⟩]⟩ hk
 have hla:N.lSize (l++[(⟨N.numM m s.next,false,false⟩:HItem)])=N.lSize l+N.mailSize m:=by
  rw [lSize_app,lSize_cons]
  show _+(N.mailSize m+0)=_
  omega
 have hss:N.sSize ⟨IntKind.wrap .u64 (s.next+1),s.bytes,(N.sWith s k (l++[⟨N.numM m s.next,false,false⟩])).rows,s.rises⟩=N.sSize s-N.mailSize out+N.mailSize m:=by
  show N.rowsSize (s.rows.set k.toNat ⟨(s.rows.getD k.toNat row0).q,l++[⟨N.numM m s.next,false,false⟩]⟩)+N.risesSize s.rises.list=N.rowsSize s.rows+N.risesSize s.rises.list-N.mailSize out+N.mailSize m
  rw [hsz]
  show N.rowsSize s.rows-N.lSize (s.rows.getD k.toNat row0).line+N.lSize (l++[(⟨N.numM m s.next,false,false⟩:HItem)])+N.risesSize s.rises.list=_
  have hz:N.lSize l+N.mailSize out=N.lSize (s.rows.getD k.toNat row0).line:=hz
  rw [hla]; omega
 have prog:N.sPutE s k m out l=cond (ilt (N.sRoom s+N.mailSize out) (N.mailSize m)) (s,0,mail0,12) (⟨IntKind.wrap .u64 (s.next+1),s.bytes,(N.sWith s k (l++[⟨N.numM m s.next,false,false⟩])).rows,s.rises⟩,s.next,out,0):=by
  unfold N.sPutE
  rw [e1,numM_size]; rfl
 refine ⟨prog,?_,?_⟩
 ·rw [prog]
  unfold N.rPutE
  rw [e2,hss]
  have:ilt s.bytes (N.sSize s-N.mailSize out+N.mailSize m)=ilt (N.sRoom s+N.mailSize out) (N.mailSize m):=by
   unfold N.sRoom
   cases hc:ilt s.bytes (N.sSize s-N.mailSize out+N.mailSize m) with
   | true=>rw [ilt_t]; have:=ilt_of hc; omega
   | false=>rw [ilt_f]; have:=ilt_nof hc; omega
  rw [this]; rfl
 ·rw [prog]
  cases hc2:ilt (N.sRoom s+N.mailSize out) (N.mailSize m) with
  | true=>exact h
  | false =>
   have hroom:=ilt_nof hc2
   have hw:=wrap_next h.next0 h.next1
   have hx:smallI ⟨N.numM m s.next,false,false⟩=true:=hsm
   have hli:=put_linv (hl.inv hr.line) hx
   rw [e1] at hli
   show SInv ⟨IntKind.wrap .u64 (s.next+1),s.bytes,(N.sWith s k (l++[⟨N.numM m s.next,false,false⟩])).rows,s.rises⟩
   refine ⟨?_,?_,h.bytes0,h.bytes1,?_,?_,?_,h.rise,?_⟩
   ·show 0≤IntKind.wrap .u64 (s.next+1)
    have:=h.next0
    rcases hw with ⟨e,_⟩ | e<;>rw [e]<;>omega
   ·show IntKind.wrap .u64 (s.next+1)<18446744073709551616
    rcases hw with ⟨e,_⟩ | e<;>rw [e]<;>omega
   ·show (List.set _ _ _).length≤8
    rw [List.length_set]; exact h.few
   ·refine set_rows h.row (fun y hy=>⟨hy.line,hy.fine,hy.most,hy.q,hy.life,?_⟩) ⟨hli,?_,?_,hr.q,hr.life,?_⟩
    ·rcases hw with ⟨e,_⟩ | e
     ·rw [e]
      exact .inr fun z hz=>by have:=hy.low.resolve_left hn z hz; show z.mail.id<s.next+1; omega
     ·exact .inl e
    ·show (l++[(⟨N.numM m s.next,false,false⟩:HItem)]).all (fun x=>N.fineCk x.mail)=true
     rw [List.all_append,show l.all (fun x=>N.fineCk x.mail)=true from hl.fine _ hr.fine]
     have:N.fineCk (N.numM m s.next)=true:=by
      unfold N.fineCk
      rw [numM_fine hm h.next0 h.next1,numM_check,hc]; rfl
     simp [this]
    ·show ((l++[_]).length:Int)≤(s.rows.getD k.toNat row0).q.most
     have hlen:(l.length:Int)<(s.rows.getD k.toNat row0).q.most:=hlen
     rw [List.length_append]; simp only [List.length_cons,List.length_nil]; omega
    ·rcases hw with ⟨e,_⟩ | e
     ·rw [e]
      refine .inr fun y hy=>?_
      rcases List.mem_append.1 hy with hy | hy
      ·have:=hlow y hy; show y.mail.id<s.next+1; omega
      ·rw [List.mem_singleton.1 hy]
       show s.next<s.next+1
       omega
     ·exact .inl e
   ·show ((s.rows.set k.toNat ⟨(s.rows.getD k.toNat row0).q,_⟩).map fun x=>x.q.name).Nodup
    rw [set_names]; exact h.names
   ·rw [hss]
    show N.sSize s-N.mailSize out+N.mailSize m≤s.bytes
    unfold N.sRoom at hroom
    omega
structure PutOk (s:HStock) (n:Bytes) (m:HMail):Prop where
 docu:N.rPutS s n m=N.sPut s n m
 inv:SInv (N.sPut s n m).1
 ends:(∃ e,N.sPut s n m=(s,0,mail0,e)∧e ≠ 0)∨(s.next ≠ 0∧N.mailCheck m=0∧0≤N.sAt s n∧N.sAt s n<s.rows.length∧∃ out l,N.sPut s n m=(⟨IntKind.wrap .u64 (s.next+1),s.bytes,(N.sWith s (N.sAt s n) (l++[⟨N.numM m s.next,false,false⟩])).rows,s.rises⟩,s.next,out,0) ∧
  ((out=mail0∧l=(N.rowK s (N.sAt s n)).line∧(l.length:Int)<(N.rowK s (N.sAt s n)).q.most)∨((N.rowK s (N.sAt s n)).q.most≤(N.rowK s (N.sAt s n)).line.length∧∃ k,k<(N.rowK s (N.sAt s n)).line.length∧((N.rowK s (N.sAt s n)).line.getD k item0).lent=false∧(∀ j,j<k→((N.rowK s (N.sAt s n)).line.getD j item0).lent=true)∧out=((N.rowK s (N.sAt s n)).line.getD k item0).mail∧l=N.cutAt (N.rowK s (N.sAt s n)).line k)))
theorem put_ok {s:HStock} (h:SInv s) (n:Bytes) {m:HMail} (hm:N.fineM m=true) (hsm:smallM m=true):PutOk s n m:=by
 cases h1:ilt (N.sAt s n) 0 with
 | true =>
  have e:N.sPut s n m=(s,0,mail0,10):=by unfold N.sPut; rw [h1]; rfl
  exact ⟨by rw [e]; unfold N.rPutS; rw [h1]; rfl,by rw [e]; exact h,.inl ⟨10,e,by decide⟩⟩
 | false =>
 cases h2:N.mailCheck m != 0 with
 | true =>
  have e:N.sPut s n m=(s,0,mail0,N.mailCheck m):=by unfold N.sPut; rw [h1,h2]; rfl
  exact ⟨by rw [e]; unfold N.rPutS; rw [h1,h2]; rfl,by rw [e]; exact h,.inl ⟨_,e,by simpa using h2⟩⟩
 | false =>
 have hc:N.mailCheck m=0:=by simpa using h2
 cases h3:s.next==0 with
 | true =>
  have e:N.sPut s n m=(s,0,mail0,18):=by unfold N.sPut; rw [h1,h2,h3]; rfl
  exact ⟨by rw [e]; unfold N.rPutS; rw [h1,h2,h3]; rfl,by rw [e]; exact h,.inl ⟨18,e,by decide⟩⟩
 | false =>
 have hn:s.next ≠ 0:=by simpa using h3
 obtain ⟨g1,g2,_,g4⟩:=sAt_lt (nlt_ge h1)
 have hr:=h.row _ (getD_mem row0 g4)
 have hrm:((N.rowK s (N.sAt s n)).line.length:Int)≤(N.rowK s (N.sAt s n)).q.most:=hr.most
 cases h4:ile (N.rowK s (N.sAt s n)).q.most (N.rowK s (N.sAt s n)).line.length with
 | true =>
  cases h5:(N.lFirst (N.rowK s (N.sAt s n)).line).2 with
  | false =>
   have e:N.sPut s n m=(s,0,mail0,12):=by unfold N.sPut; rw [h1,h2,h3,h4,h5]; rfl
   exact ⟨by rw [e]; unfold N.rPutS; rw [h1,h2,h3,h4,h5]; rfl,by rw [e]; exact h,.inl ⟨12,e,by decide⟩⟩
  | true =>
   obtain ⟨k,k1,k2,k3,k4,k5,_⟩:=first_at (l:=(N.rowK s (N.sAt s n)).line) hr.line.sorted h5
   have hcl:=cut_len k1
   have hpe:=put_end h hn g1 g2 (out:=((N.rowK s (N.sAt s n)).line.getD k item0).mail) hm hsm hc (.sub (cut_sub _ k)) (by omega) (cut_size k1)
   have e1:N.sPut s n m=N.sPutE s (N.sAt s n) m ((N.rowK s (N.sAt s n)).line.getD k item0).mail (N.cutAt (N.rowK s (N.sAt s n)).line k):=by unfold N.sPut; rw [h1,h2,h3,h4,k4,k5]; rfl
   have e2:N.rPutS s n m=N.rPutE s (N.sAt s n) m ((N.rowK s (N.sAt s n)).line.getD k item0).mail (N.cutAt (N.rowK s (N.sAt s n)).line k):=by unfold N.rPutS; rw [h1,h2,h3,h4,k4,k5]; rfl
   refine ⟨by rw [e1,e2]; exact hpe.docu,by rw [e1]; exact hpe.inv,?_⟩
   cases hc2:ilt (N.sRoom s+N.mailSize ((N.rowK s (N.sAt s n)).line.getD k item0).mail) (N.mailSize m) with
   | true=>exact .inl ⟨12,by rw [e1,hpe.prog,hc2]; rfl,by decide⟩
   | false=>exact .inr ⟨hn,hc,g1,g2,_,_,by rw [e1,hpe.prog,hc2]; rfl,.inr ⟨ile_of h4,k,k1,k2,k3,rfl,rfl⟩⟩
 | false =>
  have h4':=ile_nof h4
  have hpe:=put_end h hn g1 g2 (out:=mail0) hm hsm hc (.mails (l:=(N.rowK s (N.sAt s n)).line) rfl) (by omega) (Int.add_zero _)
  have e1:N.sPut s n m=N.sPutE s (N.sAt s n) m mail0 (N.rowK s (N.sAt s n)).line:=by unfold N.sPut; rw [h1,h2,h3,h4]; rfl
  have e2:N.rPutS s n m=N.rPutE s (N.sAt s n) m mail0 (N.rowK s (N.sAt s n)).line:=by unfold N.rPutS; rw [h1,h2,h3,h4]; rfl
  refine ⟨by rw [e1,e2]; exact hpe.docu,by rw [e1]; exact hpe.inv,?_⟩
  cases hc2:ilt (N.sRoom s+N.mailSize mail0) (N.mailSize m) with
  | true=>exact .inl ⟨12,by rw [e1,hpe.prog,hc2]; rfl,by decide⟩
  | false=>exact .inr ⟨hn,hc,g1,g2,_,_,by rw [e1,hpe.prog,hc2]; rfl,.inl ⟨rfl,rfl,h4'⟩⟩
def goodAct (a:HSAct):Bool:=cond (goodSA a) (N.u64 a.q.life) false
theorem goodAct_of {a:HSAct} (h:goodAct a=true):N.fineM a.mail=true∧smallM a.mail=true∧N.u64 a.q.life=true:=by
 obtain ⟨h1,h2⟩:=bcond h
 obtain ⟨h1,h3⟩:=bcond h1
 exact ⟨h1,h3,h2⟩
theorem done_inv {s:HStock} (h:SInv s) {a:HSAct} (ha:goodAct a=true) (q:HStock):SInv (N.done21 s q a).1:=by
 obtain ⟨h1,h2,h3⟩:=goodAct_of ha
 unfold N.done21
 cases Int.tmod a.op 10==3 with
 | true=>exact make_inv h h3
 | false =>
 cases Int.tmod a.op 10==4 with
 | true=>exact drop_inv h _
 | false =>
 cases Int.tmod a.op 10==5 with
 | true=>exact lend_inv h _
 | false =>
 cases Int.tmod a.op 10==6 with
 | true=>exact back_inv h _ _
 | false =>
 cases Int.tmod a.op 10==7 with
 | true=>exact remove_inv h _ _
 | false =>
 cases Int.tmod a.op 10==8 with
 | true=>exact raise_inv h _ h1 h2
 | false =>
 cases Int.tmod a.op 10==9 with
 | true=>exact wake_inv h
 | false=>exact (put_ok h _ h1 h2).inv
theorem new_inv (base bytes:Int) (h0:0≤base) (h1:base<18446744073709551616) (h2:bytes≤9223372036854775807):SInv (N.sNew base bytes):=by
 have hb:0≤cond (ilt 0 bytes) bytes 0∧cond (ilt 0 bytes) bytes 0≤9223372036854775807:=by
  cases hc:ilt 0 bytes with
  | true=>have:=ilt_of hc; exact ⟨by show 0≤bytes; omega,h2⟩
  | false=>exact ⟨Int.le_refl 0,show (0:Int)≤9223372036854775807 by omega⟩
 exact { next0:=h0,next1:=h1,bytes0:=hb.1,bytes1:=hb.2,few:=Nat.zero_le 8,row:=fun x hx=>(List.not_mem_nil hx).elim,names:=List.nodup_nil,rise:=rfl,size:=hb.1 }
end Go.Ev

/- The statements' own example of stocks: lemmas; the function that writes numbers is a premise. -/
namespace Go.Ev
open Go Go.Proofs
set_option maxRecDepth 100000
-- FOLD2
noncomputable def eAw18x:Env:=env Tryz.prog [(109,dTrue)] [] []
theorem q_aw18x  : evFn eAw18x 36 [] [] some =
 some {v:=V.bool true,bx:=[]:DRes}:=by kernel_rfl
theorem ok_aw18x (hN:FnOk Tryz.prog 95 dOutNum):FnOk Tryz.prog 36 dTrue :=
 den_okF (env_ok ((TOk.nil _).cons (ok_aw18 hN))) (E:=eAw18x) Tryz.func36 [] (by kernel_rfl) none0 fun _ _ _=>q_aw18x
noncomputable def eAw20x:Env:=env Tryz.prog [(110,dTrue)] [] []
theorem q_aw20x  : evFn eAw20x 37 [] [] some =
 some {v:=V.bool true,bx:=[]:DRes}:=by kernel_rfl
theorem ok_aw20x (hN:FnOk Tryz.prog 95 dOutNum):FnOk Tryz.prog 37 dTrue :=
 den_okF (env_ok ((TOk.nil _).cons (ok_aw20 hN))) (E:=eAw20x) Tryz.func37 [] (by kernel_rfl) none0 fun _ _ _=>q_aw20x
noncomputable def eAw21:Env:=env Tryz.prog [(10,dSNew),(11,dSMake),(13,dSPut),(35,dTrue),(36,dTrue),(37,dTrue)] [] []
theorem q_aw21  : evFn eAw21 8 [] [] some =
 some {v:=V.bool true,bx:=[]:DRes}:=by kernel_rfl
theorem ok_aw21 (hN:FnOk Tryz.prog 95 dOutNum):FnOk Tryz.prog 8 dTrue :=
 den_okF (env_ok (((((((TOk.nil _).cons (ok_aw20x hN)).cons (ok_aw18x hN)).cons ok_aw4').cons (ok_sPut hN)).cons ok_sMake).cons ok_sNew)) (E:=eAw21) Tryz.func8 [] (by kernel_rfl) none0 fun _ _ _=>q_aw21
end Go.Ev

/- Whatever is asked of a stock,no more is kept than may be: lemmas; the function that writes numbers is a premise. -/
namespace Go.Ev
open Go Go.Proofs
set_option maxRecDepth 100000
-- FOLD2
def stockZ:HStock:={ next:=0,bytes:=0,rows:=List.map cRow.dec [],rises:=⟨⟨0,List.map cMail.dec []⟩,⟨0,List.map cMail.dec []⟩,⟨0,List.map cMail.dec []⟩,⟨0,List.map cMail.dec []⟩,⟨0,List.map cMail.dec []⟩,⟨0,List.map cMail.dec []⟩,⟨0,List.map cMail.dec []⟩,⟨0,List.map cMail.dec []⟩,⟨0,List.map cMail.dec []⟩,⟨0,List.map cMail.dec []⟩,⟨0,List.map cMail.dec []⟩,⟨0,List.map cMail.dec []⟩,⟨0,List.map cMail.dec []⟩,⟨0,List.map cMail.dec []⟩,⟨0,List.map cMail.dec []⟩,⟨0,List.map cMail.dec []⟩⟩ }
theorem stockZ_eq:stockZ=stock0:=rfl
open Classical in
open Classical in
open Classical in
theorem line_le100 {s:HStock} (h:goodRows s=true) (n:Bytes):(N.sLine s n).length≤100:=by
 obtain ⟨_,h2⟩:=bcond h
 unfold N.sLine
 cases h1:ilt (N.sAt s n) 0 with
 | true=>exact Nat.zero_le _
 | false =>
  obtain ⟨g1,g2,g3,g4⟩:=sAt_lt (nlt_ge h1)
  exact (goodLine_of (rowK_good h2 g4)).1
def goodActW (a:HSAct):Bool:=cond (N.fineM a.mail) (N.u64 a.q.life) false
theorem lightSA_small {a:HSAct} (h:N.lightSA a=true):smallM a.mail=true:=by
 unfold N.lightSA at h
 cases hc:ilt 40 (N.max3 a.name.length a.q.name.length a.q.dead.length) with
 | true=>rw [hc] at h; cases h
 | false =>
  rw [hc] at h
  obtain ⟨_,h1⟩:=bcond (show N.lightM a.mail=true from h)
  obtain ⟨_,h1⟩:=bcond h1
  obtain ⟨h1,_⟩:=bcond h1
  exact ble_t (Nat.le_trans (light_small h1) (by decide))
theorem acts_good:∀ {l:List HSAct},N.lightSAs l=true→l.all goodActW=true→l.all goodAct=true
 | [],_,_=>rfl
 | a::r,h,hw=>by
  obtain ⟨h1,h2⟩:=bcond h
  rw [List.all_cons,Bool.and_eq_true] at hw
  obtain ⟨h3,h4⟩:=bcond hw.1
  rw [List.all_cons,acts_good h2 hw.2]
  show (cond (cond (N.fineM a.mail) (smallM a.mail) false) (N.u64 a.q.life) false && true)=true
  rw [h3,h4,lightSA_small h1]; rfl
theorem sact_wf {a:HSAct} (h:wfL (cSAct.enc a)=true):goodActW a=true:=by
 have h:cond (wfV (.int .u8 a.op)) (cond (wfV (.str a.name)) (cond (wfV (.str a.q.name)) (cond (wfV (.int .u64 a.q.most)) (cond (wfV (.int .u64 a.q.life)) (cond (wfV (.str a.q.dead)) (wfL (cMail.enc a.mail++[.int .u64 a.id,.int .i64 a.place])) false) false) false) false) false) false=true:=h
 obtain ⟨_,h⟩:=bcond h
 obtain ⟨_,h⟩:=bcond h
 obtain ⟨_,h⟩:=bcond h
 obtain ⟨_,h⟩:=bcond h
 obtain ⟨hl,h⟩:=bcond h
 obtain ⟨_,h⟩:=bcond h
 rw [wfL_append] at h
 have hm:=mail_wf (bcond h).1
 obtain ⟨l1,l2⟩:=int_wf hl
 have e1:IntKind.u64.min=0:=rfl
 have e2:IntKind.u64.max=18446744073709551615:=rfl
 show cond (N.fineM a.mail) (cond (ile 0 a.q.life) (ilt a.q.life 18446744073709551616) false) false=true
 rw [show N.fineM a.mail=true from hm,ile_t (by omega),ilt_t (by omega)]; rfl
theorem sacts_wfR:∀ l:List HSAct,wfRs (l.map cSAct.enc)=true→l.all goodActW=true
 | [],_=>rfl
 | m::r,h=>by
  have h:cond (wfL (cSAct.enc m)) (wfRs (r.map cSAct.enc)) false=true:=h
  obtain ⟨h1,h2⟩:=bcond h
  rw [List.all_cons,sacts_wfR r h2,sact_wf h1]; rfl
theorem sacts_wf {l:List HSAct} (h:wfL ((rSl cSAct).enc l)=true):l.all goodActW=true:=by
 have h:cond (cond (Nat.ble (l.map cSAct.enc).length 9223372036854775807) (cond (fitsRows cSAct.sh (l.map cSAct.enc)) (wfRs (l.map cSAct.enc)) false) false) true false=true:=h
 exact sacts_wfR l (bcond (bcond (bcond h).1).2).2
theorem stock0_good:goodNF stock0=true:=rfl
end Go.Ev

/- What is lent of a stock,and comes back,is lent next: lemmas; the function that writes numbers is a premise. -/
namespace Go.Ev
open Go Go.Proofs
set_option maxRecDepth 100000
-- FOLD2
def N.runS:HStock→List HSAct→HStock
 | s,[]=>s
 | s,a::r=>N.runS (N.done21 s stock0 a).1 r
theorem runS_inv:∀ (l:List HSAct) {s:HStock},SInv s→l.all goodAct=true→SInv (N.runS s l)
 | [],_,h,_=>h
 | a::r,s,h,hl=>by
  rw [List.all_cons,Bool.and_eq_true] at hl
  exact runS_inv r (done_inv h hl.1 stock0) hl.2
open Classical in
noncomputable def goodInvC (c:List V):Bool:=decide (∃ s:HStock,SInv s∧cStock.enc s=etaRow xsStock 0 c)
open Classical in
theorem goodInvC_of {c:List V} (h:goodInvC c=true):∃ s:HStock,SInv s∧cStock.enc s=etaRow xsStock 0 c:=of_decide_eq_true h
open Classical in
theorem goodInvC_t {s:HStock} (h:SInv s):goodInvC (cStock.enc s)=true:=decide_eq_true ⟨s,h,rfl⟩
theorem dec_of_enc {c:List V} {s:HStock} (h:cStock.enc s=etaRow xsStock 0 c):cStock.dec c=s:=by
 rw [← cStock.de s,h]; rfl
theorem ixG_names {n:Bytes}:∀ {a b:List HRow} (i:Int),a.map (fun x=>x.q.name)=b.map (fun x=>x.q.name)→N.ixG (N.isRow n) a i=N.ixG (N.isRow n) b i
 | [],[],_,_=>rfl
 | [],_::_,_,h=>by cases h
 | _::_,[],_,h=>by cases h
 | x::r,y::t,i,h=>by
  rw [List.map_cons,List.map_cons] at h
  injection h with h1 h2
  rw [ixG_cons,ixG_cons,ixG_names (i+1) h2]
  unfold N.isRow
  rw [h1]
theorem sAt_with (s:HStock) (k:Int) (l:List HItem) (n:Bytes):N.sAt (N.sWith s k l) n=N.sAt s n:=ixG_names 0 (set_names s.rows k.toNat l)
theorem rowK_with {s:HStock} {k:Int} (hk:k.toNat<s.rows.length) (l:List HItem):N.rowK (N.sWith s k l) k=⟨(N.rowK s k).q,l⟩:=by
 show (s.rows.set k.toNat _).getD k.toNat row0=_
 rw [List.getD_eq_getElem?_getD,List.getElem?_set_self hk]; rfl
theorem with_with {s:HStock} {k:Int} (hk:k.toNat<s.rows.length) (l m:List HItem):N.sWith (N.sWith s k l) k m=N.sWith s k m:=by
 have e:=congrArg HRow.q (rowK_with hk l)
 unfold N.sWith
 have e:(((s.rows.set k.toNat ⟨(s.rows.getD k.toNat row0).q,l⟩).getD k.toNat row0).q)=(s.rows.getD k.toNat row0).q:=e
 show (⟨s.next,s.bytes,(s.rows.set k.toNat ⟨(s.rows.getD k.toNat row0).q,l⟩).set k.toNat ⟨((s.rows.set k.toNat ⟨(s.rows.getD k.toNat row0).q,l⟩).getD k.toNat row0).q,m⟩,s.rises⟩:HStock)=_
 rw [e,List.set_set]
theorem with_self {s:HStock} {k:Int} (hk:k.toNat<s.rows.length):N.sWith s k (N.rowK s k).line=s:=by
 unfold N.sWith N.rowK
 have e:s.rows.set k.toNat ⟨(s.rows.getD k.toNat row0).q,(s.rows.getD k.toNat row0).line⟩=s.rows:=by
  rw [List.getD_eq_getElem?_getD,List.getElem?_eq_getElem hk]
  exact List.set_getElem_self hk
 rw [e]
theorem sLine_with {s:HStock} {n:Bytes} (h:0≤N.sAt s n) (hk:(N.sAt s n).toNat<s.rows.length) (l:List HItem):N.sLine (N.sWith s (N.sAt s n) l) n=l:=by
 unfold N.sLine
 rw [sAt_with,ilt_f h,rowK_with hk]; rfl
theorem ready_at {l:List HItem} {k:Nat} (hk:k<l.length) (h:(l.getD k item0).lent=false) (hj:∀ j,j<k→(l.getD j item0).lent=true):N.ix N.isReady l 0=k:=by
 have r1:∀ x:HItem,N.isReady x = !x.lent:=fun x=>by unfold N.isReady; cases x.lent<;>rfl
 rcases ix_spec N.isReady l 0 (Int.le_refl _) with ⟨_,h2⟩ | ⟨j,h1,h2,h3,h4⟩
 ·have:=h2 _ (getD_mem item0 hk)
  rw [r1,h] at this; cases this
 ·rw [h1]
  rw [r1] at h3
  have:j=k:=by
   rcases Nat.lt_trichotomy j k with hl | hl | hl
   ·rw [hj j hl] at h3; cases h3
   ·exact hl
   ·have:=h4 k hl
    rw [r1,h] at this; cases this
  rw [this]; omega
theorem set_get {l:List HItem} {k:Nat} (hk:k<l.length) (f:HItem→HItem):(N.setAt f l k).getD k item0=f (l.getD k item0):=by
 unfold N.setAt
 rw [List.getD_eq_getElem?_getD,List.getElem?_set_self hk]; rfl
theorem set_ne {l:List HItem} {k j:Nat} (h:j<k) (f:HItem→HItem):(N.setAt f l k).getD j item0=l.getD j item0:=by
 unfold N.setAt
 rw [List.getD_eq_getElem?_getD,List.getElem?_set_ne (by omega),← List.getD_eq_getElem?_getD]
inductive BackSays (s:HStock) (n:Bytes):Prop where
 | none (h:N.sLend s n=(s,item0,false)) (h0:N.lReady (N.sLine s n)=0)
 | some (t u w:HStock) (x y:HItem) (h1:N.sLend s n=(t,x,true)) (h2:N.sBack t n x.mail.id=(u,0)) (h3:N.sLend u n=(w,y,true)) (it:SInv t) (iu:SInv u)
  (hm:y.mail=x.mail) (ha:y.again=true) (hz:N.sSize u=N.sSize s) (hn:u.next=s.next) (hl:(N.sLine u n).length=(N.sLine s n).length) (hr:N.lReady (N.sLine t n)=N.lReady (N.sLine s n)-1) (hs:smallM x.mail=true)
theorem back_says {s:HStock} (h:SInv s) (n:Bytes):BackSays s n:=by
 cases h1:ilt (N.sAt s n) 0 with
 | true=>exact .none (by unfold N.sLend; rw [h1]; rfl) (by unfold N.sLine; rw [h1]; rfl)
 | false =>
  obtain ⟨g1,g2,_,g4⟩:=sAt_lt (nlt_ge h1)
  have hr:=h.row _ (getD_mem row0 g4)
  have hso:Sorted (N.rowK s (N.sAt s n)).line:=hr.line.sorted
  have hline:N.sLine s n=(N.rowK s (N.sAt s n)).line:=by unfold N.sLine; rw [h1]; rfl
  have e0:N.sLend s n=(N.sWith s (N.sAt s n) (N.lLend (N.rowK s (N.sAt s n)).line).1,(N.lLend (N.rowK s (N.sAt s n)).line).2):=by unfold N.sLend; rw [h1]; rfl
  cases hf:(N.lFirst (N.rowK s (N.sAt s n)).line).2 with
  | false =>
   have hr0:N.lReady (N.rowK s (N.sAt s n)).line=0:=by
    have e:(N.lTold (N.rowK s (N.sAt s n)).line (N.ix N.isReady (N.rowK s (N.sAt s n)).line 0)).2=false:=hf
    rw [told_some,← ready_pos] at e
    have:=ilt_nof e
    have:=(ready_le (N.rowK s (N.sAt s n)).line).1
    omega
   have hll:N.lLend (N.rowK s (N.sAt s n)).line=((N.rowK s (N.sAt s n)).line,item0,false):=by
    rcases ix_spec N.isReady (N.rowK s (N.sAt s n)).line 0 (Int.le_refl _) with ⟨h2,_⟩ | ⟨k,h2,h3,_⟩
    ·unfold N.lLend; rw [h2]; rfl
    ·unfold N.lFirst N.lTold at hf
     rw [h2,ilt_f (by omega)] at hf; cases hf
   refine .none ?_ (by rw [hline]; exact hr0)
   rw [e0,hll,with_self g4]
  | true =>
   obtain ⟨k,k1,k2,k3,_,_,k6⟩:=first_at hso hf
   generalize hl:(N.rowK s (N.sAt s n)).line=l at *
   have hlen:(N.setAt N.lendI l k).length=l.length:=setAt_len _ _ _
   have e1:N.lLend l=(N.setAt N.lendI l k,N.lendI (l.getD k item0),true):=by
    unfold N.lLend
    rw [k6,ilt_f (by omega),Int.toNat_natCast]; rfl
   have so1:Sorted (N.setAt N.lendI l k):=sorted_of_mails (set_ids (f:=N.lendI) (fun _=>rfl) l k k1) hso
   have g:=set_get k1 N.lendI
   have ei:N.ix (N.isId (l.getD k item0).mail.id) (N.setAt N.lendI l k) 0=k:=by
    have:=isId_at so1 (show k<(N.setAt N.lendI l k).length by omega)
    rwa [g] at this
   have e2:N.lBack (N.setAt N.lendI l k) (l.getD k item0).mail.id=(N.setAt N.backI (N.setAt N.lendI l k) k,0):=by
    unfold N.lBack
    rw [ei,ilt_f (by omega),Int.toNat_natCast,g]; rfl
   have k1' : k<(N.setAt N.lendI l k).length:=by omega
   have g':=set_get k1' N.backI
   rw [g] at g'
   have e3:N.lLend (N.setAt N.backI (N.setAt N.lendI l k) k)=(N.setAt N.lendI (N.setAt N.backI (N.setAt N.lendI l k) k) k,N.lendI (N.backI (N.lendI (l.getD k item0))),true):=by
    have:=ready_at (l:=N.setAt N.backI (N.setAt N.lendI l k) k) (k:=k) (by rw [setAt_len]; exact k1') (by rw [g']; rfl) (fun j hj=>by rw [set_ne hj,set_ne hj]; exact k3 j hj)
    unfold N.lLend
    rw [this,ilt_f (by omega),Int.toNat_natCast,g']; rfl
   have m2:(N.setAt N.backI (N.setAt N.lendI l k) k).map HItem.mail=l.map HItem.mail:=(set_ids (f:=N.backI) (fun _=>rfl) _ k k1').trans (set_ids (f:=N.lendI) (fun _=>rfl) l k k1)
   have ft:N.sLend s n=(N.sWith s (N.sAt s n) (N.setAt N.lendI l k),N.lendI (l.getD k item0),true):=by rw [e0,e1]
   have it:=lend_inv h n
   rw [ft] at it
   have fu:N.sBack (N.sWith s (N.sAt s n) (N.setAt N.lendI l k)) n (N.lendI (l.getD k item0)).mail.id=(N.sWith s (N.sAt s n) (N.setAt N.backI (N.setAt N.lendI l k) k),0):=by
    unfold N.sBack
    rw [sAt_with,h1,rowK_with g4,cond_false]
    show (N.sWith (N.sWith s _ _) _ (N.lBack (N.setAt N.lendI l k) (l.getD k item0).mail.id).1,(N.lBack (N.setAt N.lendI l k) (l.getD k item0).mail.id).2)=_
    rw [e2,with_with g4]
   have iu:=back_inv it n (N.lendI (l.getD k item0)).mail.id
   have fu' : N.sBack ((N.sWith s (N.sAt s n) (N.setAt N.lendI l k),N.lendI (l.getD k item0),true):HStock × HItem × Bool).1 n (N.lendI (l.getD k item0)).mail.id=(N.sWith s (N.sAt s n) (N.setAt N.backI (N.setAt N.lendI l k) k),0):=fu
   rw [fu'] at iu
   have fw:N.sLend (N.sWith s (N.sAt s n) (N.setAt N.backI (N.setAt N.lendI l k) k)) n=(N.sWith s (N.sAt s n) (N.setAt N.lendI (N.setAt N.backI (N.setAt N.lendI l k) k) k),N.lendI (N.backI (N.lendI (l.getD k item0))),true):=by
    unfold N.sLend
    rw [sAt_with,h1,rowK_with g4,cond_false]
    show (N.sWith (N.sWith s _ _) _ (N.lLend (N.setAt N.backI (N.setAt N.lendI l k) k)).1,(N.lLend (N.setAt N.backI (N.setAt N.lendI l k) k)).2)=_
    rw [e3,with_with g4]
   refine .some _ _ _ _ _ ft fu fw it iu rfl rfl ?_ rfl ?_ ?_ ?_
   ·show N.rowsSize (s.rows.set (N.sAt s n).toNat ⟨(s.rows.getD (N.sAt s n).toNat row0).q,N.setAt N.backI (N.setAt N.lendI l k) k⟩)+N.risesSize s.rises.list=N.rowsSize s.rows+N.risesSize s.rises.list
    rw [rowsSize_set _ _ _ g4]
    show N.rowsSize s.rows-N.lSize (N.rowK s (N.sAt s n)).line+N.lSize (N.setAt N.backI (N.setAt N.lendI l k) k)+_=_
    rw [hl,lSize_of m2]; omega
   ·rw [sLine_with g1 g4,setAt_len,setAt_len,hline]
   ·rw [sLine_with g1 g4,hline]
    exact ready_set l k k1 k2
   ·have:=hr.line.small
    have hl' : (s.rows.getD (N.sAt s n).toNat row0).line=l:=hl
    rw [hl'] at this
    exact (List.all_eq_true.1 this _ (getD_mem item0 k1):smallI (l.getD k item0)=true)
def dSBacks:Den:=den (aCons (vSl cSAct) (aOne vStr)) bNil (oV vBool) (fun a _=>cond (Nat.ble a.1.length 9223372036854775807) (a.1.all goodActW) false) fun _ _=>(true,())
theorem sameM_rows:∀ l:List HRow,N.sameRows l l=true
 | []=>rfl
 | x::r=>by
  show cond (cond (N.eqQ x.q x.q) (N.sameL x.line x.line) false) (N.sameRows r r) false=true
  rw [sameL_refl,sameM_rows r]
  unfold N.eqQ
  simp only [beq_self_eq_true,cond_true]
theorem same_rises:∀ l:List HRise,N.sameRs l l=true
 | []=>rfl
 | x::r=>by
  show cond (N.sameR x x) (N.sameRs r r) false=true
  rw [sameR_refl,same_rises r]; rfl
theorem sSame_refl (s:HStock):N.sSame s s=true:=by
 unfold N.sSame
 simp only [beq_self_eq_true,sameM_rows,same_rises,cond_true]
def schSBacks:SSch:={ fr:=[(1,.str),(5,.ptr 10000 0 0),(27,.slc [.int .u8,.str,.str,.int .u64,.int .u64,.str,.int .u64,.str,.str,.slc [.str,.int .u8,.int .i64,.str],.str,.int .u64,.int .u8,.int .u64,.int .i64]),(28,.int .i64),(29,.int .i64)],tab:=[(10000,.row [] xsStock)] }
noncomputable def gSBacks:List Leaf→(Ex→St→Option R)→Option R
 | [.s s1,.r r27,.i i28,.i i29,.c cx0],K=>cond (i28==r27.length) (cond (i29==0) (cond (Nat.ble r27.length 60) (cond (goodInvC cx0) (cond ((r27.map cSAct.dec).all goodAct) (K (.exit 0) { fr:=[(1,.str s1),(5,.ptr 10000 0 0 0)],tab:=[(10000,.var (cStock.enc (N.runS (cStock.dec cx0) (r27.map cSAct.dec))))] }) none) none) none) none) none
 | _,_=>none
noncomputable def eSBacks:Env:=env Tryz.prog [(8,dTrue),(18,dLight21),(10,dSNew),(19,dDone21),(16,dSLend),(14,dSLine),(17,dLReadyN),(23,dSSame),(24,dSBack),(25,dMailSame),(21,dSSize),(26,dSNext),(15,dLLen)] [(7,loopF schSBacks gSBacks)] [(7,[(0,[1,5,27,28,29]),(1,[1,5]),(1000,[4])])]
theorem q_sBacks_ (l:List HSAct) (name:Bytes):evFn eSBacks 5 ((aCons (vSl cSAct) (aOne vStr)).enc (l,name)) ([]) some =(
 let z7:=(List.map (RCod.dec cSAct) (List.map (RCod.enc cSAct) l));let z11:=(N.runS (RCod.dec cStock (RCod.enc cStock (N.sNew (1:Int) (5000:Int)))) z7);let z0:=(RCod.dec cStock (RCod.enc cStock z11));let z6:=(RCod.dec cStock (RCod.enc cStock (Prod.fst (N.sLend z0 name))));let z1:=(N.sBack z6 name (HMail.id (HItem.mail (Prod.fst (Prod.snd (N.sLend z0 name))))));let z2:=(Nat.ble (List.length (List.map (RCod.dec cRow) (List.map (RCod.enc cRow) (HStock.rows z11)))) 100);let z3:=(List.map (RCod.dec cItem) (List.map (RCod.enc cItem) (N.sLine z0 name)));let z4:=(some {v:=V.bool false,bx:=[]:DRes});let z5:=(RCod.dec cStock (RCod.enc cStock (Prod.fst z1)));let z8:=(RCod.dec cMail (RCod.enc cMail (HItem.mail (Prod.fst (Prod.snd (N.sLend z0 name))))));let z9:=(List.length (List.map (RCod.enc cSAct) l));let z10:=(List.map (RCod.dec cItem) (List.map (RCod.enc cItem) (N.sLine z6 name)));cond (Nat.ble (List.length z7) 9223372036854775807) (cond (!bif N.lightSAs z7 then ile (↑(List.length z7):Int) (60:Int) else false) (some {v:=V.bool true,bx:=[]:DRes}) (cond (ilt (40:Int) (↑(List.length name):Int)) (some {v:=V.bool true,bx:=[]:DRes}) (cond ((↑z9:Int)==(↑z9:Int)) (cond (Nat.ble z9 60) (cond (goodInvC (RCod.enc cStock (N.sNew (1:Int) (5000:Int)))) (cond (List.all z7 goodAct) (cond (goodRows z0) (cond (!Prod.snd (Prod.snd (N.sLend z0 name))) (cond z2 (cond (Nat.ble (List.length z3) 1000) (cond (N.lReady z3==(0:Int)) (cond (bif goodS z0 then goodS z6 else false) (some {v:=V.bool (N.sSame z0 z6),bx:=[]:DRes}) (none)) z4) (none)) (none)) (cond (goodRows z6) (cond (goodRows z5) (cond (Prod.snd z1==(0:Int)) (cond (Prod.snd (Prod.snd (N.sLend z5 name))) (cond (smallM z8) (cond (N.mailSame z8 (RCod.dec cMail (RCod.enc cMail (HItem.mail (Prod.fst (Prod.snd (N.sLend z5 name))))))) (cond (HItem.again (Prod.fst (Prod.snd (N.sLend z5 name)))) (cond (goodS z5) (cond (goodS z0) (cond (N.sSize z5==N.sSize z0) (cond (HStock.next (Prod.fst z1)==HStock.next z11) (cond (Nat.ble (List.length (List.map (RCod.dec cRow) (List.map (RCod.enc cRow) (HStock.rows (Prod.fst z1))))) 100) (cond z2 (cond ((↑(List.length (List.map (RCod.dec cItem) (List.map (RCod.enc cItem) (N.sLine z5 name)))):Int)==(↑(List.length z3):Int)) (cond (Nat.ble (List.length (List.map (RCod.dec cRow) (List.map (RCod.enc cRow) (HStock.rows (Prod.fst (N.sLend z0 name)))))) 100) (cond (Nat.ble (List.length z10) 1000) (cond z2 (cond (Nat.ble (List.length z3) 1000) (some {v:=V.bool (N.lReady z10==IntKind.wrap .i64 (N.lReady z3-(1:Int))),bx:=[]:DRes}) (none)) (none)) (none)) (none)) z4) (none)) (none)) z4) z4) (none)) (none)) z4) z4) (none)) z4) z4) (none)) (none))) (none)) (none)) (none)) (none)) (none)))) (none)):=by kernel_rfl
theorem q_sBacks (l:List HSAct) (name:Bytes):type_of% (by have h:=q_sBacks_ l name; dsimp only at h; exact h):=by
 have h:=q_sBacks_ l name
 dsimp only at h
 exact h
theorem q_sBacksR (s1:Bytes) (r27:List (List V)) (i28:Int) (i29:Int) (cx0:List V) (K:Ex→St→Option R):evRound eSBacks 5 7 { fr:=[(1,.str s1),(5,.ptr 10000 0 0 0),(27,.slc [.int .u8,.str,.str,.int .u64,.int .u64,.str,.int .u64,.str,.str,.slc [.str,.int .u8,.int .i64,.str],.str,.int .u64,.int .u8,.int .u64,.int .i64] r27),(28,.int .i64 i28),(29,.int .i64 i29)],tab:=[(10000,.var (etaRow xsStock 0 cx0))] } K =
 cond (ilt i29 i28) (cond (decide ((0:Int)≤i29∧i29<(↑(List.length r27):Int))) (cond (bif goodN (RCod.dec cStock cx0) then bif goodNF stockZ then goodSA (RCod.dec cSAct (List.getD r27 (Int.toNat i29) [])) else false else false) (K Ex.normal {fr:=[(1,V.str s1),(5,V.ptr 10000 0 0 0),(27,V.slc [.int .u8,.str,.str,.int .u64,.int .u64,.str,.int .u64,.str,.str,.slc [.str,.int .u8,.int .i64,.str],.str,.int .u64,.int .u8,.int .u64,.int .i64] r27),(28,V.int .i64 i28),(29,V.int .i64 (IntKind.wrap .i64 (i29+(1:Int))))],tab:=[(10000,Box.var (RCod.enc cStock (Prod.fst (N.done21 (RCod.dec cStock cx0) stockZ (RCod.dec cSAct (List.getD r27 (Int.toNat i29) []))))))]:St}) (none)) (none)) (K (Ex.exit 0) {fr:=[(1,V.str s1),(5,V.ptr 10000 0 0 0)],tab:=[(10000,Box.var (etaRow xsStock 0 cx0))]:St}):=by kernel_rfl
theorem ok_sBacks_7:RoundsOk eSBacks 5 7:=by
 refine rounds_of rfl fun l K q h=>?_
 unfold gSBacks at h
 split at h
 ·rename_i s1 r27 i28 i29 cx0
  have h1:=(cond_none h).1; replace h:=(cond_none h).2; have h2:=(cond_none h).1; replace h:=(cond_none h).2; have h3:=(cond_none h).1; replace h:=(cond_none h).2; have h4:=(cond_none h).1; replace h:=(cond_none h).2; have h5:=(cond_none h).1; replace h:=(cond_none h).2
  have e1:=ieq_of h1
  have e2:=ieq_of h2
  subst e1 e2
  have h3:r27.length≤60:=ble_of h3
  obtain ⟨s0,g1,g5⟩:=goodInvC_of h4
  rw [dec_of_enc g5] at h
  show ∃ n,iterR eSBacks 5 7 n { fr:=[(1,.str s1),(5,.ptr 10000 0 0 0),(27,.slc [.int .u8,.str,.str,.int .u64,.int .u64,.str,.int .u64,.str,.str,.slc [.str,.int .u8,.int .i64,.str],.str,.int .u64,.int .u8,.int .u64,.int .i64] r27),(28,.int .i64 r27.length),(29,.int .i64 0)],tab:=[(10000,.var (etaRow xsStock 0 cx0))] } K=some q
  rw [← g5]
  have main:=range_ind (E:=eSBacks) (f:=5) (id:=7) (A:=HStock) r27 (fun a i=>{ fr:=[(1,.str s1),(5,.ptr 10000 0 0 0),(27,.slc [.int .u8,.str,.str,.int .u64,.int .u64,.str,.int .u64,.str,.str,.slc [.str,.int .u8,.int .i64,.str],.str,.int .u64,.int .u8,.int .u64,.int .i64] r27),(28,.int .i64 r27.length),(29,.int .i64 i)],tab:=[(10000,.var (etaRow xsStock 0 (cStock.enc a)))] }) (fun a _=>SInv a)
   (fun a rows K=>K (.exit 0) { fr:=[(1,.str s1),(5,.ptr 10000 0 0 0)],tab:=[(10000,.var (cStock.enc (N.runS a (rows.map cSAct.dec))))] }) (fun a i ha hi=>?_) (fun a ha=>?_) s0 0 (Int.le_refl _) (by omega) g1 K q (by assumption)
  ·exact main
  ·have hq:=fun K=>q_sBacksR s1 r27 r27.length (i:Int) (cStock.enc a) K
   have t1:ilt (i:Int) r27.length=true:=ilt_t (by omega)
   have t2:decide ((0:Int)≤i∧(i:Int)<r27.length)=true:=decide_eq_true (by omega)
   have t3:IntKind.wrap .i64 ((i:Int)+1)=(i:Int)+1:=wr_i64 (by omega) (by omega)
   have hg:goodAct (cSAct.dec (r27.getD i []))=true:=all_get h5 hi
   simp only [Int.toNat_natCast,cStock.de,stockZ_eq] at hq
   simp only [t1,t2,t3,ha.goodN,stock0_good,(bcond hg).1,cond_true] at hq
   exact .inl ⟨_,done_inv ha hg stock0,fun K=>by rw [hq]; rfl,fun K=>rfl⟩
  ·refine ⟨.exit 0,{ fr:=[(1,.str s1),(5,.ptr 10000 0 0 0)],tab:=[(10000,.var (cStock.enc a))] },by simp,fun K=>?_,fun K=>rfl⟩
   rw [q_sBacksR,ilt_f (by omega)]
   try rfl
 ·cases h
theorem ok_sBacks (hN:FnOk Tryz.prog 95 dOutNum):FnOk Tryz.prog 5 dSBacks:=by
 refine den_okF (env_ok ((((((((((((((TOk.nil _).cons ok_lLen).cons ok_sNext).cons (ok_sSize hN)).cons ok_refMailSame).cons ok_sBack).cons ok_sSame).cons ok_lReadyN).cons ok_sLine).cons ok_sLend).cons (ok_lDone21 hN)).cons ok_sNew).cons ok_sLight).cons (ok_aw21 hN))) (E:=eSBacks) Tryz.func5 [7] (by kernel_rfl) (one1 ok_sBacks_7) fun a b hp=>?_
 obtain ⟨l,name⟩:=a
 obtain ⟨hp,hl⟩:=bcond (show cond (Nat.ble l.length 9223372036854775807) (l.all goodActW) false=true from hp)
 have i0:=new_inv 1 5000 (by decide) (by decide) (by decide)
 have hst:=goodInvC_t i0
 refine (q_sBacks l name).trans ?_
 simp only [dec_encs,cStock.de,cMail.de,List.length_map,hp,hst,beq_self_eq_true,cond_true]
 cases h5:N.lightSAs l with
 | false=>rfl
 | true =>
  have hl:=acts_good h5 hl
  cases h4:ile (l.length:Int) 60 with
  | false=>rfl
  | true =>
   have is:=runS_inv l i0 hl
   rw [ble_t (show l.length≤60 by have:=ile_of h4; omega),hl]
   generalize N.runS (N.sNew 1 5000) l=s at *
   cases ilt 40 (name.length:Int) with
   | true=>rfl
   | false =>
    have b1:Nat.ble s.rows.length 100=true:=ble_t (by have:=is.few; omega)
    have b2:Nat.ble (N.sLine s name).length 1000=true:=ble_t (by have:=line_le100 is.goodRows name; omega)
    cases back_says is name with
    | none h h0 =>
     simp only [is.goodRows,h,b1,b2,h0,is.goodS,sSame_refl,Bool.not_false,Bool.not_true,beq_self_eq_true,cond_true,cond_false]
     try rfl
    | some t u w x y h1 h2 h3 it iu hm ha hz hn hll hr hs =>
     have b3:Nat.ble t.rows.length 100=true:=ble_t (by have:=it.few; omega)
     have b4:Nat.ble (N.sLine t name).length 1000=true:=ble_t (by have:=line_le100 it.goodRows name; omega)
     have b5:Nat.ble u.rows.length 100=true:=ble_t (by have:=iu.few; omega)
     have hq:=(ready_le (N.sLine s name))
     have hq2:=line_le100 is.goodRows name
     simp only [is.goodRows,it.goodRows,iu.goodRows,h1,h2,h3,b1,b2,b3,b4,b5,is.goodS,iu.goodS,hm,ha,hz,hn,hll,hr,hs,mailSame_refl,wr_i64 (n:=N.lReady (N.sLine s name)-1) (by omega) (by omega),Bool.not_true,beq_self_eq_true,cond_true,cond_false]
     try rfl
end Go.Ev

/- The library's text builder in this program,and the function that writes a number's bytes with it: lemmas,no condition but the text's length. -/
namespace Go.Ev
open Go Go.Proofs Go.RowKit Go.Shelf
theorem bSize:(Tryz.prog.info? 223).map (·.size)=some 2:=by kernel_rfl
theorem bLies:liesAt Tryz.prog Tryz.prog.depth 223 (2 / Tryz.prog.cellsOf 223) 0 223 1=true:=by kernel_rfl
theorem bByte:(Tryz.prog.info? 5).map (fun i=>(i.zero,i.size,i.bytes))=some (some (.int .u8 0),1,1):=by kernel_rfl
set_option maxHeartbeats 1000000 in
set_option maxRecDepth 100000 in
theorem cc_used (b : Nat) (w : World) (h0 : w.cell? ⟨b, 0, none⟩ = some (.pointer (some ⟨b, 0, none⟩))) :
    Calls Tryz.prog 190 #[.pointer (some ⟨b, 0, none⟩)] w fun e w' => e = .returned (.tuple #[]) ∧ w' = w := by
  obtain ⟨j, hj, _⟩ := Option.map_eq_some_iff.1 bSize
  go_enter Tryz.func190, Tryz.ntmps190
  go_wp2
  rw [Lib.run_neq_ptr_same w _ Tryz.underlying221 hj]
  go_wp2
  go_end0
  exact ⟨rfl, rfl⟩
set_option maxHeartbeats 1000000 in
set_option maxRecDepth 100000 in
theorem cc_fresh (b : Nat) (w : World) (h0 : w.cell? ⟨b, 0, none⟩ = some (.pointer none)) (hsh : w.shape? b = some (223, 2)) (hfz : w.frozen? ⟨b, 0, none⟩ = false) :
    Calls Tryz.prog 190 #[.pointer (some ⟨b, 0, none⟩)] w fun e w' => e = .returned (.tuple #[]) ∧ w' = w.setCell ⟨b, 0, none⟩ (.pointer (some ⟨b, 0, none⟩)) := by
  obtain ⟨j, hj, hjs⟩ := Option.map_eq_some_iff.1 bSize
  go_enter Tryz.func190, Tryz.ntmps190
  go_wp2
  rw [Lib.run_to_unsafe w ⟨b, 0, none⟩ Tryz.underlying221 Tryz.underlying256 hj (by rw [hjs]; decide) hsh (Nat.zero_lt_succ 1)]
  simp only [Result.andThen]
  rw [Oper.upon_value]
  go_wp2
  rw [run_callFunc_extern Tryz.func198 (by kernel_rfl) (by kernel_rfl) (by kernel_rfl) (e := Extern.AbiNoEscape.same) (by kernel_rfl)]
  rw [Lib.run_noEscape]
  simp only [Result.andThen]
  rw [Oper.upon_value]
  go_wp2
  rw [Lib.run_from_unsafe w ⟨b, 0, none⟩ Tryz.underlying256 Tryz.underlying221 hj hsh bLies]
  simp only [Result.andThen]
  rw [Oper.upon_value]
  go_wp2
  go_end0
  exact ⟨rfl, rfl⟩
theorem cc (B b:Nat) (bs:List Value) (w:World) (h:Lib.IsBuilder 223 5 B b bs w) :
  Calls Tryz.prog 190 #[.pointer (some ⟨b,0,none⟩)] w fun e w'=>e = .returned (.tuple #[])∧(Lib.BuilderAt 223 5 B b (.pointer (some ⟨b,0,none⟩)) bs w'∧Below B w w'):=by
 rcases h with h | h
 ·refine (cc_fresh b w h.cell0 h.shape h.frozen0).mono ?_
  rintro e w' ⟨rfl,rfl⟩
  exact ⟨rfl,h.used _,(Below.refl B w).setCell (p:=⟨b,0,none⟩) h.1 _⟩
 ·refine (cc_used b w h.cell0).mono ?_
  rintro e w' ⟨rfl,rfl⟩
  exact ⟨rfl,h,Below.refl B _⟩
set_option maxHeartbeats 2000000 in
set_option maxRecDepth 100000 in
theorem writeByte (B b : Nat) (bs : List Value) (c : Int) (w : World) (h : Lib.IsBuilder 223 5 B b bs w) (hlen : bs.length + 1 ≤ 140737488355328) (hBw : B ≤ w.heap.size) :
    Calls Tryz.prog 161 #[.pointer (some ⟨b, 0, none⟩), .int .u8 c] w fun e w' => e = .returned .nilIface ∧ (Lib.BuilderAt 223 5 B b (.pointer (some ⟨b, 0, none⟩)) (bs ++ [.int .u8 c]) w' ∧ Below B w w') := by
  obtain ⟨i0, hi, hz0, hz1, hz2⟩ := info_parts bByte
  go_enter Tryz.func161, Tryz.ntmps161
  go_wp2_with (go_at_call 190; refine (cc B b bs _ h).mono ?_)
  rintro e w1 ⟨rfl, h1, hb1⟩
  obtain ⟨hB, v, hbk, hown, hne⟩ := h1
  have c0 : w1.cell? ⟨b, 0, none⟩ = some (.pointer (some ⟨b, 0, none⟩)) := by rw [Lib.cell_of_heap hbk]; rfl
  have c1 : w1.cell? ⟨b, 1, none⟩ = some v := by rw [Lib.cell_of_heap hbk]; rfl
  go_wp2_with (at_builtin; refine wpList_append_own _ rfl _ _ 208 rfl B 5 i0 (.int .u8 0) 1 1 Tryz.underlying208 hi hz0 hz1 hz2 rfl (by decide) _ _ _ rfl (hown.alloc _) ⟨w1.heap.size, 0, none⟩ 1 1 [.int .u8 c] rfl rfl ?c1 ?c2 ?c3 ?c4 ?c5 ?_)
  case c1 =>
    intro j u hj
    match j, hj with
    | 0, hj => simp at hj; subst hj; simp [Addr.add]
  case c2 => intro u hu; simp at hu; subst hu; rfl
  case c3 => unfold maxLen; omega
  case c4 => omega
  case c5 => have := hb1.size; simp; omega
  intro v' w2 hown' hgrow _
  have hlt : b < w1.heap.size := by
    rcases Nat.lt_or_ge b w1.heap.size with h' | h'
    · exact h'
    · simp [Array.getElem?_eq_none h'] at hbk
  have hb2 : w2.heap[b]? = some (.cells #[.pointer (some ⟨b, 0, none⟩), v] 223 (0, 0)) := by
    rw [hgrow.block b (by simp; omega) (fun e => hne e.symm), Lib.alloc_old w1 _ b hlt]
    exact hbk
  have d0 : w2.cell? ⟨b, 0, none⟩ = some (.pointer (some ⟨b, 0, none⟩)) := by rw [Lib.cell_of_heap hb2]; rfl
  have d1 : w2.cell? ⟨b, 1, none⟩ = some v := by rw [Lib.cell_of_heap hb2]; rfl
  have f1 : w2.frozen? ⟨b, 1, none⟩ = false := Lib.frozen_of_heap hb2 1
  obtain ⟨g, cap, rfl⟩ : ∃ g cap, v' = .slice (some ⟨g, 0, none⟩) (bs.length + 1) cap := by
    rcases hown'.2 with ⟨_, h0⟩ | ⟨g, cap, cur, hv, _⟩
    · omega
    · exact ⟨g, cap, hv⟩
  go_wp2
  go_ret
  refine ⟨rfl, ?_, ?_⟩
  · exact Lib.BuilderAt.put (T := 223) (e := 5) hB hb2 (bs' := bs ++ [.int .u8 c]) (by simpa using hown') (by decide)
  · exact ((hb1.alloc (by have := hb1.size; omega) _).grown hgrow (by have := hb1.size; simp; omega) (fun k hk => (hown.lt k hk).1)).setCell (p := ⟨b, 1, none⟩) hB _
def lays169_ren:Go.Shelf.Ren:=⟨fun | 169=>162 | n=>n,fun | 70=>221 | 9=>9 | 0=>0 | 72=>223 | 37=>208 | 127=>249 | 3=>3 | 5=>5 | n=>n,fun | n=>n⟩
theorem lays169:Go.Proofs.Lays.n169 Tryz.prog lays169_ren:={
 mixed:=by kernel_rfl
 f169:=Tryz.func162.trans (congrArg some (by kernel_rfl))
 t0:=Tryz.underlying0
 a0:=Tryz.isAgg0
 z0:=Tryz.sizeOf0
 v0:=Tryz.zeroValue0
 t3:=Tryz.underlying3
 a3:=Tryz.isAgg3
 z3:=Tryz.sizeOf3
 v3:=Tryz.zeroValue3
 t9:=Tryz.underlying9
 a9:=Tryz.isAgg9
 z9:=Tryz.sizeOf9
 v9:=Tryz.zeroValue9
 t37:=Tryz.underlying208
 a37:=Tryz.isAgg208
 z37:=Tryz.sizeOf208
 v37:=Tryz.zeroValue208
 t70:=Tryz.underlying221
 a70:=Tryz.isAgg221
 z70:=Tryz.sizeOf221
 v70:=Tryz.zeroValue221
 t72:=Tryz.underlying223
 a72:=Tryz.isAgg223
 z72:=Tryz.sizeOf223
 v72:=Tryz.zeroValue223
 t127:=Tryz.underlying249
 a127:=Tryz.isAgg249
 z127:=Tryz.sizeOf249
 v127:=Tryz.zeroValue249 }
theorem extra169:Builder.Extra Tryz.prog lays169_ren:={
 sizeBuilder:=by kernel_rfl
 liesBuilder:=by kernel_rfl
 t5:=Tryz.underlying5
 a5:=Tryz.isAgg5
 z5:=Tryz.sizeOf5
 v5:=Tryz.zeroValue5
 infoByte:=by kernel_rfl
 cellsByte:=by kernel_rfl
 sizeByte:=by kernel_rfl
 neB5:=by decide }
theorem bString (B b:Nat) (l:List UInt8) (w:World) (h:Lib.IsBuilder 223 5 B b (Lib.byteCells l) w) (hBw:B≤w.heap.size) :
  Calls Tryz.prog 162 #[.pointer (some ⟨b,0,none⟩)] w fun e w'=>e = .returned (.string ⟨l.toArray⟩)∧Below B w w':=Any.Builder_String_any lays169 extra169 B b l w h hBw
end Go.Ev

/- The function that writes a number's bytes: its walk. -/
namespace Go.Ev
open Go Go.Proofs Go.RowKit Go.Shelf
theorem clamp_eq {bytes:Int}:min (max bytes 0) 8=(N.clamp bytes:Int)∧N.clamp bytes≤8:=by
 unfold N.clamp
 rw [ilt_eq,ilt_eq]
 by_cases h1:0<bytes
 ·by_cases h2:8<bytes
  ·simp [h1,h2]; omega
  ·simp [h1,h2]; omega
 ·simp [h1]; omega
theorem two_blocks {w wr:World} {o1 o2:Obj} (h:Below (w.heap.size+1+1) ((w.alloc o1).alloc o2) wr):wr.heap[w.heap.size]? = some o1∧wr.heap[w.heap.size+1]? = some o2:=by
 have e:(w.alloc o1).heap.size=w.heap.size+1:=by simp
 refine ⟨?_,?_⟩
 ·rw [h.block _ (by omega),Below.heap_alloc _ _ _ (by omega)]; exact Go.heap_alloc_new w o1
 ·rw [h.block _ (by omega),← e]; exact Go.heap_alloc_new _ o2
set_option maxHeartbeats 4000000 in
set_option maxRecDepth 1000000 in
theorem outNum_walk (s : ByteArray) (er n bytes : Int) (w : World) (hs : (s.size : Int) ≤ 9223372036854775799) :
    Calls Tryz.prog 95 #[.agg #[.string s, .int .i64 er], .int .u64 n, .int .i64 bytes] w fun e w' =>
      e = .returned (.agg #[.string ⟨(s.data.toList ++ N.numB n (N.clamp bytes)).toArray⟩, .int .i64 er]) ∧ Below w.heap.size w w' := by
  go_enter Tryz.func95, Tryz.ntmps95
  go_wp2
  go_loopw [8] (fun i wr => ∃ (k : Int) (acc : List UInt8), i = .int .i64 k ∧ Lib.IsBuilder 223 5 (w.heap.size + 1 + 1) (w.heap.size + 1 + 1) (Lib.byteCells acc) wr ∧
      Below (w.heap.size + 1 + 1) ((w.alloc (Obj.cells #[Value.string s, Value.int IntKind.i64 er] 154)).alloc (Obj.cells #[Value.string { data := #[] }, Value.int IntKind.i64 0] 154)) wr ∧
      -1 ≤ k ∧ acc ++ N.numB n (k + 1).toNat = N.numB n (N.clamp bytes) ∧ acc.length + (k + 1).toNat ≤ 8) (fun i _ => (intOf i + 1).toNat)
  case atStart =>
    obtain ⟨hcl, hc8⟩ := clamp_eq (bytes := bytes)
    have hf := Lib.fresh_isBuilder 223 5 ((w.alloc (Obj.cells #[Value.string s, Value.int IntKind.i64 er] 154)).alloc (Obj.cells #[Value.string { data := #[] }, Value.int IntKind.i64 0] 154))
    have e0 : ((w.alloc (Obj.cells #[Value.string s, Value.int IntKind.i64 er] 154)).alloc (Obj.cells #[Value.string { data := #[] }, Value.int IntKind.i64 0] 154)).heap.size = w.heap.size + 1 + 1 := by simp
    rw [e0] at hf
    refine ⟨(N.clamp bytes : Int) - 1, [], by rw [hcl], hf, (Below.refl _ _).alloc (by simp) _, by omega, ?_, ?_⟩
    · rw [show ((N.clamp bytes : Int) - 1 + 1).toNat = N.clamp bytes by omega]; rfl
    · simp only [List.length_nil]; omega
  case round =>
    obtain ⟨k, acc, rfl, hI, hB, hk, hacc, hal⟩ := hrel
    by_cases hk0 : 0 ≤ k
    · go_wp2_with (go_at_call 161; refine (writeByte (w.heap.size + 1 + 1) (w.heap.size + 1 + 1) _ _ _ hI (by rw [Lib.byteCells_length]; omega) (by have := hB.size; simp at this; omega)).mono ?_)
      rintro e w1 ⟨rfl, h1, b1⟩
      go_wp2
      go_roundw
      case rel =>
        have e1 : N.numB n (k + 1).toNat = UInt8.ofNat ((n / 2 ^ (8 * k.toNat)) % 256).toNat :: N.numB n k.toNat := by
          rw [show (k + 1).toNat = k.toNat + 1 by omega]; rfl
        have e2 : ((UInt8.ofNat ((n / 2 ^ (8 * k.toNat)) % 256).toNat).toNat : Int) = n / 2 ^ (8 * k).toNat % 256 := by
          rw [show (8 * k).toNat = 8 * k.toNat by omega]
          have h0 : 0 ≤ (n / 2 ^ (8 * k.toNat)) % 256 := Int.emod_nonneg _ (by decide)
          have h1 : (n / 2 ^ (8 * k.toNat)) % 256 < 256 := Int.emod_lt_of_pos _ (by decide)
          have h2 : (UInt8.ofNat ((n / 2 ^ (8 * k.toNat)) % 256).toNat).toNat = ((n / 2 ^ (8 * k.toNat)) % 256).toNat := UInt8.toNat_ofNat_of_lt' (by
            show ((n / 2 ^ (8 * k.toNat)) % 256).toNat < 256
            omega)
          rw [h2]; omega
        refine ⟨k - 1, acc ++ [UInt8.ofNat ((n / 2 ^ (8 * k.toNat)) % 256).toNat], rfl, ?_, hB.trans b1, by omega, ?_, ?_⟩
        · rw [Lib.byteCells_append]
          have e3 : Lib.byteCells [UInt8.ofNat ((n / 2 ^ (8 * k.toNat)) % 256).toNat] = [Value.int .u8 (n / 2 ^ (8 * k).toNat % 256)] := by
            rw [← e2]; rfl
          rw [e3]; exact Or.inr h1
        · rw [e1] at hacc
          rw [← hacc, show (k - 1 + 1).toNat = k.toNat by omega, List.append_assoc]; rfl
        · rw [List.length_append]; simp only [List.length_cons, List.length_nil]; omega
      case measure => simp [intOf]; omega
    · have hk1 : k = -1 := by omega
      subst hk1
      have hfin : N.numB n (N.clamp bytes) = acc := by rw [← hacc]; show acc ++ [] = acc; simp
      have hal : acc.length ≤ 8 := by omega
      clear hacc
      rw [hfin]
      obtain ⟨hb0, hb1⟩ := two_blocks hB
      have c0 : wr.cell? ⟨w.heap.size, 0, none⟩ = some (.string s) := by rw [Lib.cell_of_heap hb0]; rfl
      have c1 : wr.cell? ⟨w.heap.size, 1, none⟩ = some (.int .i64 er) := by rw [Lib.cell_of_heap hb0]; rfl
      have c2 : wr.cell? ⟨w.heap.size + 1, 0, none⟩ = some (.string ⟨#[]⟩) := by rw [Lib.cell_of_heap hb1]; rfl
      have c3 : wr.cell? ⟨w.heap.size + 1, 1, none⟩ = some (.int .i64 0) := by rw [Lib.cell_of_heap hb1]; rfl
      have f0 : wr.frozen? ⟨w.heap.size, 0, none⟩ = false := Lib.frozen_of_heap hb0 0
      have f1 : wr.frozen? ⟨w.heap.size, 1, none⟩ = false := Lib.frozen_of_heap hb0 1
      have f2 : wr.frozen? ⟨w.heap.size + 1, 0, none⟩ = false := Lib.frozen_of_heap hb1 0
      have f3 : wr.frozen? ⟨w.heap.size + 1, 1, none⟩ = false := Lib.frozen_of_heap hb1 1
      have hBw : w.heap.size + 1 + 1 ≤ wr.heap.size := by have := hB.size; simp at this; omega
      have hadd : ¬ 9223372036854775807 < s.size + acc.length := by omega
      have hadd2 : ¬ 9223372036854775807 < s.size + (⟨acc.toArray⟩ : ByteArray).size := by
        show ¬ 9223372036854775807 < s.size + acc.toArray.size
        rw [List.size_toArray]; exact hadd
      have hadd3 : ¬ (s.size + (⟨acc.toArray⟩ : ByteArray).size > 9223372036854775807) := hadd2
      have hadd4 : s.size + (⟨acc.toArray⟩ : ByteArray).size ≤ 9223372036854775807 := Nat.not_lt.1 hadd2
      have hadd5 : s.size + acc.length ≤ 9223372036854775807 := Nat.not_lt.1 hadd
      go_wp2
      go_region_with (go_at_call 162; refine (bString (w.heap.size + 1 + 1) (w.heap.size + 1 + 1) acc _ (by exact hI) (by exact hBw)).mono ?_; rintro e w2 ⟨rfl, b2⟩
                      have d0 : w2.cell? ⟨w.heap.size, 0, none⟩ = some (.string s) := by rw [b2.cell (by show w.heap.size < w.heap.size + 1 + 1; omega)]; exact c0
                      have d1 : w2.cell? ⟨w.heap.size, 1, none⟩ = some (.int .i64 er) := by rw [b2.cell (by show w.heap.size < w.heap.size + 1 + 1; omega)]; exact c1
                      have d2 : w2.cell? ⟨w.heap.size + 1, 0, none⟩ = some (.string ⟨#[]⟩) := by rw [b2.cell (by show w.heap.size + 1 < w.heap.size + 1 + 1; omega)]; exact c2
                      have d3 : w2.cell? ⟨w.heap.size + 1, 1, none⟩ = some (.int .i64 0) := by rw [b2.cell (by show w.heap.size + 1 < w.heap.size + 1 + 1; omega)]; exact c3
                      have e0 : w2.frozen? ⟨w.heap.size, 0, none⟩ = false := by rw [b2.frozen (by show w.heap.size < w.heap.size + 1 + 1; omega)]; exact f0
                      have e1 : w2.frozen? ⟨w.heap.size, 1, none⟩ = false := by rw [b2.frozen (by show w.heap.size < w.heap.size + 1 + 1; omega)]; exact f1
                      have e2 : w2.frozen? ⟨w.heap.size + 1, 0, none⟩ = false := by rw [b2.frozen (by show w.heap.size + 1 < w.heap.size + 1 + 1; omega)]; exact f2
                      have e3 : w2.frozen? ⟨w.heap.size + 1, 1, none⟩ = false := by rw [b2.frozen (by show w.heap.size + 1 < w.heap.size + 1 + 1; omega)]; exact f3)
      all_goals go_wp2
      all_goals
        refine ⟨rfl, .agg #[.string (s ++ ⟨acc.toArray⟩), .int .i64 er], ?_, ?_, ?_⟩
        · simp [results, Tryz.results95, go_sem, d2, d3]
        · rw [hfin, ← bytes_append]
        · have b0 : Below w.heap.size w wr := (((Below.refl _ w).alloc (Nat.le_refl _) _).alloc (by simp) _).trans (hB.mono (by omega))
          exact (((b0.drew.trans (b2.mono (by omega))).setCell (p := ⟨w.heap.size, 0, none⟩) (Nat.le_refl _) _).setCell (p := ⟨w.heap.size + 1, 0, none⟩) (Nat.le_succ _) _).setCell (p := ⟨w.heap.size + 1, 1, none⟩) (Nat.le_succ _) _
theorem keeps_below {w w' : World} (X:Nat→Nat→Prop) (h:Below w.heap.size w w'):Keeps X w w' :=
 ⟨h.os,h.tape,h.output,h.size,fun b hb=>ObjOk.same (h.block b hb)⟩
theorem outNum_ok:FnOk Tryz.prog 95 dOutNum:=by
 refine den_of fun a b hp=>?_
 obtain ⟨o,n,bytes⟩:=a
 intro x y hxy w J locs xs hlen hJ hx _ _ _
 have hxy:x=(aCons (vAgg cOut) (aCons (vInt .u64) (aOne (vInt .i64)))).enc (o,n,bytes)∧y=bNil.enc b:=by simpa using hxy
 obtain ⟨rfl,rfl⟩:=hxy
 have hlen:locs=[]:=List.eq_nil_of_length_eq_zero hlen
 subst hlen
 obtain ⟨hp1,hp⟩:=bcond hp
 obtain ⟨hp2,hp3⟩:=bcond hp
 have hp3:o.s.length≤9223372036854775799:=Nat.le_of_ble_eq_true hp3
 obtain ⟨x0,xs1,rfl,hx0,hx⟩:=hx.uncons
 obtain ⟨x1,xs2,rfl,hx1,hx⟩:=hx.uncons
 obtain ⟨x2,rfl,hx2⟩:=hx.one
 obtain ⟨cs,rfl,hc1,hc2⟩:=Rv.agg_inv (show Rv w J _ (.agg [.str o.s,.int .i64 o.err]) x0 from hx0)
 have hx1:=Rv.int_inv (show Rv w J _ (.int .u64 n) x1 from hx1)
 have hx2:=Rv.int_inv (show Rv w J _ (.int .i64 bytes) x2 from hx2)
 subst hx1 hx2
 match cs,hc1,hc2 with
 | [c0,c1],_,hc2 =>
  have h0:=Rv.str_inv (show Rv w J _ (.str o.s) c0 from hc2 0 (by simp))
  have h1:=Rv.int_inv (show Rv w J _ (.int .i64 o.err) c1 from hc2 1 (by simp))
  subst h0 h1
  refine .inl ⟨?_,?_⟩
  ·have hnm : ¬ (Tryz.f95).name = "runtime.NumGoroutine" := by
    intro e
    have : ((Tryz.f95).name == "runtime.NumGoroutine") = false := by kernel_rfl
    rw [e] at this; cases this
   obtain ⟨c,hc⟩:=Option.isSome_iff_exists.1 (show (Tryz.f95).body.isSome=true by kernel_rfl)
   simp [callFunc,Tryz.func95,hnm,hc]
  ·refine (outNum_walk ⟨o.s.toArray⟩ o.err n bytes w (by rw [bytes_size]; omega)).mono fun e w' ⟨he,hb⟩=>⟨_,he,J,?_⟩
   refine ⟨keeps_below _ hb,fun _ _ h=>h,fun b o' h=>Nat.lt_of_lt_of_le (hJ b o' h) hb.size,fun _ _ h _=>h,rfl,(fun j cs cs' p hj=>by cases hj),.inl ⟨rfl,?_⟩⟩
   refine .agg [.str (N.outNum o n bytes).s,.int .i64 (N.outNum o n bytes).err] [.string ⟨(o.s++N.numB n (N.clamp bytes)).toArray⟩,.int .i64 o.err] rfl fun i hi=>?_
   match i,hi with
   | 0,_=>exact .dat (.str _)
   | 1,_=>exact .dat (.int _ _)
end Go.Ev
