/- Policies: Check,by the document: lemmas,no condition. -/
import Derived.Test.YtcfmdajabkjafaaGreatDoorGe
import Derived.Test.YtcfmdajabkjafaaGreatDoorGc
import Derived.CallsIn
import Derived.Stop.LaidErr
import Derived.MakeChecks
import Derived.Lib.LaidTab
import Derived.Test.YtcfmdajabkjafaaGreatDoorRows
import Derived.Lib.ItoaNum
import Derived.Test.YtcfmdajabkjafaaGreatDoorProg
import Derived.KernelRfl
import Derived.Shelf.Strings.Builder1
import Derived.RegionTactic
import Derived.Deep.RegionWith
namespace Go.Ev
open Go Go.Proofs
set_option maxRecDepth 100000
theorem consN {p:Nat→Prop} {a:Nat} {l:List Nat} (h:p a) (k:∀ id∈l,p id):∀ id∈a::l,p id:=fun id hi=>by
 rcases List.mem_cons.1 hi with rfl | hi
 ·exact h
 ·exact k id hi
theorem ilt_not (a b:Int):ilt a b = !(ile b a):=by
 rw [ilt_eq,ile_eq]
 by_cases h:a<b
 ·rw [decide_eq_true h,decide_eq_false (by omega)]; rfl
 ·rw [decide_eq_false h,decide_eq_true (by omega)]; rfl
theorem place_key {α:Type} (x:HPlace) (l:List HPlace) (K1:Int→α) (K2:α) :
  cond (N.name x.name != 0) (K1 (N.name x.name)) (cond (ilt 15 x.label.level) (K1 7) (cond (ilt x.bytes 0) (K1 7) (cond (ilt 65536 x.bytes) (K1 7) (cond (x.base==0) (K1 7) (cond (l.any (N.twiceP x)) (K1 9) K2)))))=cond (N.placeE x l != 0) (K1 (N.placeE x l)) K2:=by
 have e:N.placeE x l=cond (N.name x.name != 0) (N.name x.name) (cond (cond (ile x.label.level 15) (cond (cond (ile 0 x.bytes) (ile x.bytes 65536) false) (!(x.base==0)) false) false) (cond (l.any (N.twiceP x)) 9 0) 7):=rfl
 rw [e]
 simp only [ilt_not]
 cases h1:N.name x.name != 0 with
 | true=>simp only [cond_true,h1]
 | false=>cases ile x.label.level 15<;>cases ile 0 x.bytes<;>cases ile x.bytes 65536<;>cases x.base==0<;>cases l.any (N.twiceP x)<;>rfl
theorem slot_key {α:Type} (n k:Int) (a b:α):cond (ilt k 0) a (cond (ile n k) a b)=cond (cond (cond (ilt k 0) true (ile n k)) (10:Int) 0 != 0) a b:=by
 cases ilt k 0<;>cases ile n k<;>rfl
theorem there_c (p:HPolicy) (k:Int):N.there p k=cond (ilt k 0) false (!(ile (p.places.length:Int) k)):=by
 have e:N.there p k=cond (ile 0 k) (ile k ((p.places.length:Int)-1)) false:=rfl
 have e2:ile k ((p.places.length:Int)-1) = !(ile (p.places.length:Int) k):=by
  rw [← ilt_not,ilt_eq,ile_eq]
  by_cases h:k<p.places.length
  ·rw [decide_eq_true h,decide_eq_true (by omega)]
  ·rw [decide_eq_false h,decide_eq_false (by omega)]
 rw [e,e2,ilt_not]
 cases ile 0 k<;>rfl
theorem grant_key {α:Type} (p:HPolicy) (x:HGrant) (l:List HGrant) (u:Bool) {n:Int} (hn:n=p.places.length) (hu:N.there p x.src=true→N.there p x.dst=true→u=N.under (N.plAt p x.src).label (N.plAt p x.dst).label) (K1:Int→Option α) (K2:Option α) :
  cond (ilt x.src 0) (K1 10) (cond (ile n x.src) (K1 10) (cond (ilt x.dst 0) (K1 10) (cond (ile n x.dst) (K1 10) (cond (decide ((0:Int)≤x.src∧x.src<p.places.length)) (cond (decide ((0:Int)≤x.dst∧x.dst<p.places.length)) (cond u (K1 11) (cond (ilt x.budget 0) (K1 7) (cond (ilt 16 x.budget) (K1 7) (cond (l.any (N.isGr x.src x.dst)) (K1 9) K2)))) none) none))))=cond (N.grantE p x l != 0) (K1 (N.grantE p x l)) K2:=by
 subst hn
 have e:N.grantE p x l=cond (cond (N.there p x.src) (N.there p x.dst) false) (cond (N.under (N.plAt p x.src).label (N.plAt p x.dst).label) 11 (cond (cond (ile 0 x.budget) (ile x.budget 16) false) (cond (l.any (N.isGr x.src x.dst)) 9 0) 7)) 10:=rfl
 rw [e]
 cases h1:N.there p x.src with
 | false =>
  have h1:=h1
  rw [there_c] at h1
  cases a1:ilt x.src 0 with
  | true=>rfl
  | false =>
   rw [a1] at h1
   cases a2:ile p.places.length x.src with
   | true=>rfl
   | false=>rw [a2] at h1; cases h1
 | true =>
  have g1:=there_of h1
  have h1':=h1
  rw [there_c] at h1'
  cases a1:ilt x.src 0 with
  | true=>rw [a1] at h1'; cases h1'
  | false =>
   rw [a1] at h1'
   cases a2:ile p.places.length x.src with
   | true=>rw [a2] at h1'; cases h1'
   | false =>
    cases h2:N.there p x.dst with
    | false =>
     have h2:=h2
     rw [there_c] at h2
     cases b1:ilt x.dst 0 with
     | true=>rfl
     | false =>
      rw [b1] at h2
      cases b2:ile p.places.length x.dst with
      | true=>rfl
      | false=>rw [b2] at h2; cases h2
    | true =>
     have g2:=there_of h2
     have h2':=h2
     rw [there_c] at h2'
     cases b1:ilt x.dst 0 with
     | true=>rw [b1] at h2'; cases h2'
     | false =>
      rw [b1] at h2'
      cases b2:ile p.places.length x.dst with
      | true=>rw [b2] at h2'; cases h2'
      | false =>
       rw [decide_eq_true g1,decide_eq_true g2,hu h1 h2]
       simp only [ilt_not]
       cases N.under (N.plAt p x.src).label (N.plAt p x.dst).label<;>cases ile 0 x.budget<;>cases ile x.budget 16<;>cases l.any (N.isGr x.src x.dst)<;>rfl
theorem and_true3 (a b:Bool):(a && (b && true))=cond a b false:=by cases a<;>cases b<;>rfl
theorem fold_plc (x:HPlace):(⟨x.name,⟨x.label.level,x.label.set⟩,x.bytes,x.base⟩:HPlace)=x:=rfl
theorem errFrom_ne (f:Nat→Int) {e:Int} (h:(e==0)=false):∀ k i,N.errFrom f k i e=e
 | 0,_=>rfl
 | k+1,i=>by
  show cond (e==0) _ e=e
  rw [h]; rfl
theorem err_rows {α:Type} (d:α) (all:List α) (f:Nat→Int) (R:Int→List α→Int) (h0:∀ i,R i []=0) (h1:∀ (i:Nat),i<all.length→∀ r,R i (all.getD i d::r)=cond (f i != 0) (f i) (R ((i:Int)+1) r)) :
  ∀ k i,i+k=all.length→N.errFrom f k i 0=R i (all.drop i)
 | 0,i,h=>by
  rw [List.drop_eq_nil_of_le (by omega),h0]; rfl
 | k+1,i,h=>by
  have hi:i<all.length:=by omega
  have e:all.drop i=all.getD i d::all.drop (i+1):=by
   rw [List.drop_eq_getElem_cons hi,List.getD_eq_getElem?_getD,List.getElem?_eq_getElem hi]; rfl
  rw [e,h1 i hi]
  show N.errFrom f k (i+1) (f i)=_
  cases hf:f i != 0 with
  | true=>exact errFrom_ne f (by simpa using hf) k (i+1)
  | false =>
   have:f i=0:=by simpa using hf
   rw [this]
   exact err_rows d all f R h0 h1 k (i+1) (by omega)
theorem count_key (f:Nat→Int) (k:Nat) (n a b:Int):N.errFrom f k 0 (N.count n a b)=cond (ilt n a) 15 (cond (ilt b n) 6 (N.errFrom f k 0 0)):=by
 have e:N.count n a b=cond (ilt n a) 15 (cond (ilt b n) 6 0):=rfl
 rw [e]
 cases ilt n a with
 | true=>exact errFrom_ne f rfl k 0
 | false =>
  cases ilt b n with
  | true=>exact errFrom_ne f rfl k 0
  | false=>rfl
theorem placesE_r (p:HPolicy):N.placesE p=cond (ilt p.places.length 1) 15 (cond (ilt 16 p.places.length) 6 (N.rPl p.places 0 p.places)):=by
 have e:=err_rows place0 p.places (N.plF p) (N.rPl p.places) (fun _=>rfl) (fun i hi r=>rfl) p.places.length 0 (by omega)
 rw [List.drop_zero] at e
 exact (count_key (N.plF p) p.places.length p.places.length 1 16).trans (by rw [e]; rfl)
theorem slotsE_r (p:HPolicy):N.slotsE p=cond (ilt p.slots.length 1) 15 (cond (ilt 32 p.slots.length) 6 (N.rSl p.places.length p.slots)):=by
 have e:=err_rows (0:Int) p.slots (N.slF p) (fun _ l=>N.rSl p.places.length l) (fun _=>rfl) (fun i hi r=>by
  show cond (cond (ilt (p.slots.getD i 0) 0) true (ile p.places.length (p.slots.getD i 0))) 10 (N.rSl p.places.length r)=cond (cond (N.there p (p.slots.getD i 0)) (0:Int) 10 != 0) (cond (N.there p (p.slots.getD i 0)) 0 10) (N.rSl p.places.length r)
  rw [there_c]
  cases ilt (p.slots.getD i 0) 0<;>cases ile p.places.length (p.slots.getD i 0)<;>rfl) p.slots.length 0 (by omega)
 rw [List.drop_zero] at e
 exact (count_key (N.slF p) p.slots.length p.slots.length 1 32).trans (by rw [e])
theorem grantsE_r (p:HPolicy):N.grantsE p=cond (ilt p.grants.length 0) 15 (cond (ilt 8 p.grants.length) 6 (N.rGr p 0 p.grants)):=by
 have e:=err_rows grant0 p.grants (N.grF p) (N.rGr p) (fun _=>rfl) (fun i hi r=>rfl) p.grants.length 0 (by omega)
 rw [List.drop_zero] at e
 exact (count_key (N.grF p) p.grants.length p.grants.length 0 8).trans (by rw [e]; rfl)
theorem check_key (p:HPolicy) {w1 w2 v1 v2 n0 n1 s0 s1 g1:Bool} (a1:w1=ilt p.work 1) (a2:w2=ilt 16 p.work) (b1:v1=ilt p.give 1) (b2:v2=ilt 16 p.give) (c0:n0=((p.places.length:Int)==0)) (c1:n1=ilt 16 p.places.length) (d0:s0=((p.slots.length:Int)==0)) (d1:s1=ilt 32 p.slots.length) (f1:g1=ilt 8 p.grants.length) {α:Type} (K:Int→α) :
  cond w1 (K 7) (cond w2 (K 7) (cond v1 (K 7) (cond v2 (K 7) (cond n0 (K 15) (cond n1 (K 6) (cond (N.rPl p.places 0 p.places != 0) (K (N.rPl p.places 0 p.places)) (cond s0 (K 15) (cond s1 (K 6) (cond (N.rSl p.places.length p.slots != 0) (K (N.rSl p.places.length p.slots)) (cond g1 (K 6) (cond (N.rGr p 0 p.grants != 0) (K (N.rGr p 0 p.grants)) (cond (N.lacks p p.places.length 0==0) (K 0) (K 15)))))))))))))=K (N.checkP p):=by
 have z:∀ n:Nat,ilt (n:Int) 1=((n:Int)==0):=fun n=>by
  rw [ilt_eq]
  by_cases h:(n:Int)=0
  ·rw [h]; rfl
  ·rw [decide_eq_false (by omega),beq_eq_false_iff_ne.2 h]
 have e:N.checkP p=cond (cond (cond (ile 1 p.work) (ile p.work 16) false) (cond (ile 1 p.give) (ile p.give 16) false) false) (cond (N.or3 [N.placesE p,N.slotsE p,N.grantsE p] != 0) (N.or3 [N.placesE p,N.slotsE p,N.grantsE p]) (N.lacks p p.places.length 0)) 7:=rfl
 have o:N.or3 [N.placesE p,N.slotsE p,N.grantsE p]=cond (N.placesE p != 0) (N.placesE p) (cond (N.slotsE p != 0) (N.slotsE p) (cond (N.grantsE p != 0) (N.grantsE p) 0)):=rfl
 have g0:ilt (p.grants.length:Int) 0=false:=ilt_f (by omega)
 have lk:=lacks_or p p.places.length 0
 rw [e,o,placesE_r,slotsE_r,grantsE_r,a1,a2,b1,b2,c0,c1,d0,d1,f1,z,z,g0]
 simp only [ilt_not _ 1,ilt_not 16 p.work,ilt_not 16 p.give]
 generalize ((p.places.length:Int)==0)=n0
 generalize ilt 16 p.places.length=n1
 generalize ((p.slots.length:Int)==0)=s0
 generalize ilt 32 p.slots.length=s1
 generalize ilt 8 p.grants.length=g1
 generalize N.rPl p.places 0 p.places=rp
 generalize N.rSl p.places.length p.slots=rs
 generalize N.rGr p 0 p.grants=rg
 generalize N.lacks p p.places.length 0=lk at *
 generalize ile 1 p.work=w1
 generalize ile p.work 16=w2
 generalize ile 1 p.give=v1
 generalize ile p.give 16=v2
 cases w1 with
 | false=>rfl
 | true =>
 cases w2 with
 | false=>rfl
 | true =>
 cases v1 with
 | false=>rfl
 | true =>
 cases v2 with
 | false=>rfl
 | true =>
 cases n0 with
 | true=>rfl
 | false =>
 cases n1 with
 | true=>rfl
 | false =>
 cases hp:rp != 0 with
 | true=>simp only [cond_true,cond_false,Bool.not_true,hp]
 | false =>
 cases s0 with
 | true=>simp only [cond_true,cond_false,Bool.not_true,hp]; rfl
 | false =>
 cases s1 with
 | true=>simp only [cond_true,cond_false,Bool.not_true,hp]; rfl
 | false =>
 cases hs:rs != 0 with
 | true=>simp only [cond_true,cond_false,Bool.not_true,hp,hs]
 | false =>
 cases g1 with
 | true=>simp only [cond_true,cond_false,Bool.not_true,hp,hs]; rfl
 | false =>
 cases hg:rg != 0 with
 | true=>simp only [cond_true,cond_false,Bool.not_true,hp,hs,hg]
 | false =>
  simp only [cond_true,cond_false,Bool.not_true,hp,hs,hg]
  rcases lk with rfl | rfl<;>rfl
theorem ok_rCheckP_9:RoundsOk eRCheckP 29 9:=by
 refine rounds_of rfl fun l K q h=>?_
 unfold gRCheckP9 at h
 split at h
 ·rename_i i3 r45 i46 i47 cx0
  have h1:=(cond_none h).1; replace h:=(cond_none h).2; have h2:=(cond_none h).1; replace h:=(cond_none h).2; have h3:=(cond_none h).1; replace h:=(cond_none h).2; have g1:=(cond_none h).1; replace h:=(cond_none h).2; have g2:=(cond_none h).1; replace h:=(cond_none h).2; have g3:=(cond_none h).1; replace h:=(cond_none h).2; have g4:=(cond_none h).1; replace h:=(cond_none h).2
  have e1:=ieq_of h1
  have e2:=ieq_of h2
  subst e1 e2
  have h3:r45.length≤3000:=ble_of h3
  have g1:=ieq_of g1
  have g2:=ble_of g2
  have g3:=ble_of g3
  have g4:∀ r∈r45,Nat.ble (V.toStr (List.getD r 0 V.undef)).length 1000000=true:=fun r hr=>List.all_eq_true.1 g4 r hr
  have main:=range_ind (E:=eRCheckP) (f:=29) (id:=9) (A:=Int) (r45) (fun a i=>{ fr:=[(1,.ptr 10000 0 0 0),(3,.int .i64 i3),(45,.slc [.str,.int .u8,.int .u32,.int .i64,.int .u64] r45),(46,.int .i64 r45.length),(47,.int .i64 i)],tab:=[(10000,.var (etaRow xsPolicy 0 cx0))] }) (fun a i=>a=(i:Int))
   (fun a rows K=>cond (N.rPl (cPolicy.dec cx0).places a (rows.map cPlace.dec) != 0) (K .ret { fr:=[(2,.int .i64 (N.rPl (cPolicy.dec cx0).places a (rows.map cPlace.dec)))],tab:=[] }) (K (.exit 0) { fr:=[(1,.ptr 10000 0 0 0),(3,.int .i64 i3)],tab:=[(10000,.var (etaRow xsPolicy 0 cx0))] })) (fun a i ha hi=>?_) (fun a ha=>?_) ((0:Int)) 0 (Int.le_refl _) (by omega) rfl K q (by assumption)
  ·exact main
  ·have hq:=fun K=>q_rCheckPR9 (i3) (r45) (r45.length) ((i:Int)) (cx0) K
   have t1:ilt (i:Int) r45.length=true:=ilt_t (by omega)
   have t2:decide ((0:Int)≤i∧(i:Int)<r45.length)=true:=decide_eq_true (by omega)
   have t3:IntKind.wrap .i64 ((i:Int)+1)=(i:Int)+1:=wr_i64 (by omega) (by omega)
   simp only [Int.toNat_natCast] at hq
   simp only [t1,t2,t3,cond_true] at hq
   subst ha
   have a0:V.toStr (List.getD (List.getD r45 i []) 0 V.undef)=(cPlace.dec (List.getD r45 i [])).name:=rfl
   have a1:V.toInt (List.getD (List.getD r45 i []) 1 V.undef)=(cPlace.dec (List.getD r45 i [])).label.level:=rfl
   have a2:V.toInt (List.getD (List.getD r45 i []) 2 V.undef)=(cPlace.dec (List.getD r45 i [])).label.set:=rfl
   have a3:V.toInt (List.getD (List.getD r45 i []) 3 V.undef)=(cPlace.dec (List.getD r45 i [])).bytes:=rfl
   have a4:V.toInt (List.getD (List.getD r45 i []) 4 V.undef)=(cPlace.dec (List.getD r45 i [])).base:=rfl
   simp only [a0,a1,a2,a3,a4] at hq
   simp only [List.map_cons]
   generalize cPlace.dec (List.getD r45 i [])=x at *
   have t4:decide ((0:Int)≤i∧(i:Int)≤((cPolicy.dec cx0).places.length:Int))=true:=decide_eq_true (by omega)
   have t5:Nat.ble (min i (cPolicy.dec cx0).places.length) 3000=true:=Nat.ble_eq_true_of_le (by omega)
   simp only [rows_len2,List.drop_zero,List.length_take,t4,t5,beq_self_eq_true,cond_true,List.map_take,pol_rows,fold_plc] at hq
   have key:=fun K=>(hq K).trans (place_key x (List.take i (cPolicy.dec cx0).places) (fun e=>K .ret { fr:=[(2,.int .i64 e)],tab:=[] }) _)
   have er:∀ l:List HPlace,N.rPl (cPolicy.dec cx0).places (i:Int) (x::l)=cond (N.placeE x (List.take i (cPolicy.dec cx0).places) != 0) (N.placeE x (List.take i (cPolicy.dec cx0).places)) (N.rPl (cPolicy.dec cx0).places ((i:Int)+1) l):=fun _=>rfl
   cases hc:N.placeE x (List.take i (cPolicy.dec cx0).places) != 0 with
   | true =>
    refine .inr ⟨.ret,{ fr:=[(2,.int .i64 (N.placeE x (List.take i (cPolicy.dec cx0).places)))],tab:=[] },by simp,fun K=>?_,fun K=>?_⟩
    ·rw [key,hc]; rfl
    ·simp only [er,hc,cond_true]
   | false =>
    refine .inl ⟨(i:Int)+1,by omega,fun K=>?_,fun K=>?_⟩
    ·rw [key,hc]; rfl
    ·simp only [er,hc,cond_false]
  ·refine ⟨.exit 0,_,by simp,fun K=>?_,fun K=>rfl⟩
   rw [q_rCheckPR9]
   simp (disch:=omega) only [evs]
   try rfl
 ·cases h
theorem ok_rCheckP_17:RoundsOk eRCheckP 29 17:=by
 refine rounds_of rfl fun l K q h=>?_
 unfold gRCheckP17 at h
 split at h
 ·rename_i i3 r45 i46 i47 r80 i81 i82 cx0 sx1 ix1 ix1_1 ix1_2 ix1_3
  have h1:=(cond_none h).1; replace h:=(cond_none h).2; have h2:=(cond_none h).1; replace h:=(cond_none h).2; have h3:=(cond_none h).1; replace h:=(cond_none h).2
  have e1:=ieq_of h1
  have e2:=ieq_of h2
  subst e1 e2
  have h3:r80.length≤3000:=ble_of h3
  have main:=range_ind (E:=eRCheckP) (f:=29) (id:=17) (A:=Unit) (r80) (fun a i=>{ fr:=[(1,.ptr 10000 0 0 0),(3,.int .i64 i3),(5,.ptr 10001 0 0 0),(45,.slc [.str,.int .u8,.int .u32,.int .i64,.int .u64] r45),(46,.int .i64 i46),(47,.int .i64 i47),(80,.slc [.str,.int .u8,.int .u32,.int .i64,.int .u64] r80),(81,.int .i64 r80.length),(82,.int .i64 i)],tab:=[(10000,.var (etaRow xsPolicy 0 cx0)),(10001,.var [.str sx1,.int .u8 ix1,.int .u32 ix1_1,.int .i64 ix1_2,.int .u64 ix1_3])] }) (fun a i=>True)
   (fun a rows K=>cond ((rows.map cPlace.dec).any (N.twiceP ⟨sx1,⟨ix1,ix1_1⟩,ix1_2,ix1_3⟩)) (K .ret { fr:=[(2,.int .i64 9)],tab:=[] }) (K (.exit 2) { fr:=[(1,.ptr 10000 0 0 0),(3,.int .i64 i3),(45,.slc [.str,.int .u8,.int .u32,.int .i64,.int .u64] r45),(46,.int .i64 i46),(47,.int .i64 i47)],tab:=[(10000,.var (etaRow xsPolicy 0 cx0))] })) (fun a i ha hi=>?_) (fun a ha=>?_) (()) 0 (Int.le_refl _) (by omega) trivial K q (by assumption)
  ·exact main
  ·have hq:=fun K=>q_rCheckPR17 (i3) (r45) (i46) (i47) (r80) (r80.length) ((i:Int)) (cx0) (sx1) (ix1) (ix1_1) (ix1_2) (ix1_3) K
   have t1:ilt (i:Int) r80.length=true:=ilt_t (by omega)
   have t2:decide ((0:Int)≤i∧(i:Int)<r80.length)=true:=decide_eq_true (by omega)
   have t3:IntKind.wrap .i64 ((i:Int)+1)=(i:Int)+1:=wr_i64 (by omega) (by omega)
   simp only [Int.toNat_natCast] at hq
   simp only [t1,t2,t3,cond_true] at hq
   have a0:V.toStr (List.getD (List.getD r80 i []) 0 V.undef)=(cPlace.dec (List.getD r80 i [])).name:=rfl
   have a1:V.toInt (List.getD (List.getD r80 i []) 1 V.undef)=(cPlace.dec (List.getD r80 i [])).label.level:=rfl
   have a2:V.toInt (List.getD (List.getD r80 i []) 2 V.undef)=(cPlace.dec (List.getD r80 i [])).label.set:=rfl
   have a3:V.toInt (List.getD (List.getD r80 i []) 3 V.undef)=(cPlace.dec (List.getD r80 i [])).bytes:=rfl
   have a4:V.toInt (List.getD (List.getD r80 i []) 4 V.undef)=(cPlace.dec (List.getD r80 i [])).base:=rfl
   simp only [a0,a1,a2] at hq
   simp only [List.map_cons]
   generalize cPlace.dec (List.getD r80 i [])=x at *
   simp only [and_true3] at hq
   have er:∀ l:List HPlace,List.any (x::l) (N.twiceP ⟨sx1,⟨ix1,ix1_1⟩,ix1_2,ix1_3⟩)=(cond (x.name==sx1) true (cond (x.label.level==ix1) (x.label.set==ix1_1) false) || List.any l (N.twiceP ⟨sx1,⟨ix1,ix1_1⟩,ix1_2,ix1_3⟩)):=fun _=>rfl
   cases h1:x.name==sx1 with
   | true =>
    refine .inr ⟨.ret,{ fr:=[(2,.int .i64 9)],tab:=[] },by simp,fun K=>?_,fun K=>?_⟩
    ·rw [hq,h1]; rfl
    ·simp only [er,h1,cond_true,Bool.true_or]
   | false =>
    cases h2:cond (x.label.level==ix1) (x.label.set==ix1_1) false with
    | true =>
     refine .inr ⟨.ret,{ fr:=[(2,.int .i64 9)],tab:=[] },by simp,fun K=>?_,fun K=>?_⟩
     ·rw [hq,h1,h2]; rfl
     ·simp only [er,h1,h2,cond_true,cond_false,Bool.true_or]
    | false =>
     refine .inl ⟨(),trivial,fun K=>?_,fun K=>?_⟩
     ·rw [hq,h1,h2]; rfl
     ·simp only [er,h1,h2,cond_false,Bool.false_or]
  ·refine ⟨.exit 2,_,by simp,fun K=>?_,fun K=>rfl⟩
   rw [q_rCheckPR17]
   simp (disch:=omega) only [evs]
   try rfl
 ·cases h
theorem ok_rCheckP_28:RoundsOk eRCheckP 29 28:=by
 refine rounds_of rfl fun l K q h=>?_
 unfold gRCheckP28 at h
 split at h
 ·rename_i i3 r109 i110 i111 cx0
  have h1:=(cond_none h).1; replace h:=(cond_none h).2; have h2:=(cond_none h).1; replace h:=(cond_none h).2; have h3:=(cond_none h).1; replace h:=(cond_none h).2
  have e1:=ieq_of h1
  have e2:=ieq_of h2
  subst e1 e2
  have h3:r109.length≤3000:=ble_of h3
  have main:=range_ind (E:=eRCheckP) (f:=29) (id:=28) (A:=Unit) (r109) (fun a i=>{ fr:=[(1,.ptr 10000 0 0 0),(3,.int .i64 i3),(109,.slc [.int .i64] r109),(110,.int .i64 r109.length),(111,.int .i64 i)],tab:=[(10000,.var (etaRow xsPolicy 0 cx0))] }) (fun a i=>True)
   (fun a rows K=>cond (N.rSl i3 (rows.map (rInt .i64).dec) != 0) (K .ret { fr:=[(2,.int .i64 (N.rSl i3 (rows.map (rInt .i64).dec)))],tab:=[] }) (K (.exit 4) { fr:=[(1,.ptr 10000 0 0 0),(3,.int .i64 i3)],tab:=[(10000,.var (etaRow xsPolicy 0 cx0))] })) (fun a i ha hi=>?_) (fun a ha=>?_) (()) 0 (Int.le_refl _) (by omega) trivial K q (by assumption)
  ·exact main
  ·have hq:=fun K=>q_rCheckPR28 (i3) (r109) (r109.length) ((i:Int)) (cx0) K
   have t1:ilt (i:Int) r109.length=true:=ilt_t (by omega)
   have t2:decide ((0:Int)≤i∧(i:Int)<r109.length)=true:=decide_eq_true (by omega)
   have t3:IntKind.wrap .i64 ((i:Int)+1)=(i:Int)+1:=wr_i64 (by omega) (by omega)
   simp only [Int.toNat_natCast] at hq
   simp only [t1,t2,t3,cond_true] at hq
   have a0:V.toInt (List.getD (List.getD r109 i []) 0 V.undef)=(rInt .i64).dec (List.getD r109 i []):=rfl
   simp only [a0] at hq
   simp only [List.map_cons]
   generalize (rInt .i64).dec (List.getD r109 i [])=x at *
   have er:∀ l:List Int,N.rSl i3 (x::l)=cond (cond (ilt x 0) true (ile i3 x)) 10 (N.rSl i3 l):=fun _=>rfl
   simp only [slot_key] at hq
   cases h1:cond (ilt x 0) true (ile i3 x) with
   | true =>
    refine .inr ⟨.ret,{ fr:=[(2,.int .i64 10)],tab:=[] },by simp,fun K=>?_,fun K=>?_⟩
    ·rw [hq,h1]; rfl
    ·simp only [er,h1,cond_true]; rfl
   | false =>
    refine .inl ⟨(),trivial,fun K=>?_,fun K=>?_⟩
    ·rw [hq,h1]; rfl
    ·simp only [er,h1,cond_false]
  ·refine ⟨.exit 4,_,by simp,fun K=>?_,fun K=>rfl⟩
   rw [q_rCheckPR28]
   simp (disch:=omega) only [evs]
   try rfl
 ·cases h
theorem ok_rCheckP_36:RoundsOk eRCheckP 29 36:=by
 refine rounds_of rfl fun l K q h=>?_
 unfold gRCheckP36 at h
 split at h
 ·rename_i i3 r128 i129 i130 cx0
  have h1:=(cond_none h).1; replace h:=(cond_none h).2; have h2:=(cond_none h).1; replace h:=(cond_none h).2; have h3:=(cond_none h).1; replace h:=(cond_none h).2; have g1:=(cond_none h).1; replace h:=(cond_none h).2; have g2:=(cond_none h).1; replace h:=(cond_none h).2; have g3:=(cond_none h).1; replace h:=(cond_none h).2; have g4:=(cond_none h).1; replace h:=(cond_none h).2; have g5:=(cond_none h).1; replace h:=(cond_none h).2
  have e1:=ieq_of h1
  have e2:=ieq_of h2
  subst e1 e2
  have h3:r128.length≤3000:=ble_of h3
  have g1:=ieq_of g1
  have g2:=ble_of g2
  have g3:=ble_of g3
  have g4:=ble_of g4
  have main:=range_ind (E:=eRCheckP) (f:=29) (id:=36) (A:=Int) (r128) (fun a i=>{ fr:=[(1,.ptr 10000 0 0 0),(3,.int .i64 i3),(128,.slc [.int .i64,.int .i64,.int .i64] r128),(129,.int .i64 r128.length),(130,.int .i64 i)],tab:=[(10000,.var (etaRow xsPolicy 0 cx0))] }) (fun a i=>a=(i:Int))
   (fun a rows K=>cond (N.rGr (cPolicy.dec cx0) a (rows.map cGrant.dec) != 0) (K .ret { fr:=[(2,.int .i64 (N.rGr (cPolicy.dec cx0) a (rows.map cGrant.dec)))],tab:=[] }) (K (.exit 6) { fr:=[(1,.ptr 10000 0 0 0),(3,.int .i64 i3)],tab:=[(10000,.var (etaRow xsPolicy 0 cx0))] })) (fun a i ha hi=>?_) (fun a ha=>?_) ((0:Int)) 0 (Int.le_refl _) (by omega) rfl K q (by assumption)
  ·exact main
  ·have hq:=fun K=>q_rCheckPR36 (i3) (r128) (r128.length) ((i:Int)) (cx0) K
   have t1:ilt (i:Int) r128.length=true:=ilt_t (by omega)
   have t2:decide ((0:Int)≤i∧(i:Int)<r128.length)=true:=decide_eq_true (by omega)
   have t3:IntKind.wrap .i64 ((i:Int)+1)=(i:Int)+1:=wr_i64 (by omega) (by omega)
   simp only [Int.toNat_natCast] at hq
   simp only [t1,t2,t3,cond_true] at hq
   subst ha
   have a0:V.toInt (List.getD (List.getD r128 i []) 0 V.undef)=(cGrant.dec (List.getD r128 i [])).src:=rfl
   have a1:V.toInt (List.getD (List.getD r128 i []) 1 V.undef)=(cGrant.dec (List.getD r128 i [])).dst:=rfl
   have a2:V.toInt (List.getD (List.getD r128 i []) 2 V.undef)=(cGrant.dec (List.getD r128 i [])).budget:=rfl
   simp only [a0,a1,a2] at hq
   simp only [List.map_cons]
   generalize cGrant.dec (List.getD r128 i [])=x at *
   have t4:decide ((0:Int)≤i∧(i:Int)≤((cPolicy.dec cx0).grants.length:Int))=true:=decide_eq_true (by omega)
   have t5:Nat.ble (min i (cPolicy.dec cx0).grants.length) 3000=true:=Nat.ble_eq_true_of_le (by omega)
   simp only [rows_len2,rows_len4,List.drop_zero,List.length_take,t4,t5,beq_self_eq_true,cond_true,List.map_take,pol_grants] at hq
   have hu:N.there (cPolicy.dec cx0) x.src=true→N.there (cPolicy.dec cx0) x.dst=true→N.refUnder ⟨V.toInt (List.getD (List.getD (V.toRows (List.getD cx0 2 V.undef)) x.src.toNat []) 1 V.undef),V.toInt (List.getD (List.getD (V.toRows (List.getD cx0 2 V.undef)) x.src.toNat []) 2 V.undef)⟩ ⟨V.toInt (List.getD (List.getD (V.toRows (List.getD cx0 2 V.undef)) x.dst.toNat []) 1 V.undef),V.toInt (List.getD (List.getD (V.toRows (List.getD cx0 2 V.undef)) x.dst.toNat []) 2 V.undef)⟩=N.under (N.plAt (cPolicy.dec cx0) x.src).label (N.plAt (cPolicy.dec cx0) x.dst).label:=fun h1 h2=>by
    have h1:=there_of h1
    have h2:=there_of h2
    have lab:∀ k:Nat,k<(cPolicy.dec cx0).places.length→(⟨V.toInt (List.getD (List.getD (V.toRows (List.getD cx0 2 V.undef)) k []) 1 V.undef),V.toInt (List.getD (List.getD (V.toRows (List.getD cx0 2 V.undef)) k []) 2 V.undef)⟩:Label)=((cPolicy.dec cx0).places.getD k place0).label:=fun k hk=>by
     rw [← pol_rows,← dec_at cPlace place0 (by rw [rows_len2]; exact hk)]; rfl
    rw [lab _ (by omega),lab _ (by omega)]
    exact refUnder_eq (okPl_at g5 (by omega)) (okPl_at g5 (by omega))
   have key:=fun K=>(hq K).trans (grant_key (cPolicy.dec cx0) x (List.take i (cPolicy.dec cx0).grants) _ g1 hu (fun e=>K .ret { fr:=[(2,.int .i64 e)],tab:=[] }) _)
   have er:∀ l:List HGrant,N.rGr (cPolicy.dec cx0) (i:Int) (x::l)=cond (N.grantE (cPolicy.dec cx0) x (List.take i (cPolicy.dec cx0).grants) != 0) (N.grantE (cPolicy.dec cx0) x (List.take i (cPolicy.dec cx0).grants)) (N.rGr (cPolicy.dec cx0) ((i:Int)+1) l):=fun _=>rfl
   cases hc:N.grantE (cPolicy.dec cx0) x (List.take i (cPolicy.dec cx0).grants) != 0 with
   | true =>
    refine .inr ⟨.ret,{ fr:=[(2,.int .i64 (N.grantE (cPolicy.dec cx0) x (List.take i (cPolicy.dec cx0).grants)))],tab:=[] },by simp,fun K=>?_,fun K=>?_⟩
    ·rw [key,hc]; rfl
    ·simp only [er,hc,cond_true]
   | false =>
    refine .inl ⟨(i:Int)+1,by omega,fun K=>?_,fun K=>?_⟩
    ·rw [key,hc]; rfl
    ·simp only [er,hc,cond_false]
  ·refine ⟨.exit 6,_,by simp,fun K=>?_,fun K=>rfl⟩
   rw [q_rCheckPR36]
   simp (disch:=omega) only [evs]
   try rfl
 ·cases h
theorem ok_rCheckP_45:RoundsOk eRCheckP 29 45:=by
 refine rounds_of rfl fun l K q h=>?_
 unfold gRCheckP45 at h
 split at h
 ·rename_i i3 r128 i129 i130 r181 i182 i183 cx0 ix1 ix1_1 ix1_2
  have h1:=(cond_none h).1; replace h:=(cond_none h).2; have h2:=(cond_none h).1; replace h:=(cond_none h).2; have h3:=(cond_none h).1; replace h:=(cond_none h).2
  have e1:=ieq_of h1
  have e2:=ieq_of h2
  subst e1 e2
  have h3:r181.length≤3000:=ble_of h3
  have main:=range_ind (E:=eRCheckP) (f:=29) (id:=45) (A:=Unit) (r181) (fun a i=>{ fr:=[(1,.ptr 10000 0 0 0),(3,.int .i64 i3),(12,.ptr 10001 0 0 0),(128,.slc [.int .i64,.int .i64,.int .i64] r128),(129,.int .i64 i129),(130,.int .i64 i130),(181,.slc [.int .i64,.int .i64,.int .i64] r181),(182,.int .i64 r181.length),(183,.int .i64 i)],tab:=[(10000,.var (etaRow xsPolicy 0 cx0)),(10001,.var [.int .i64 ix1,.int .i64 ix1_1,.int .i64 ix1_2])] }) (fun a i=>True)
   (fun a rows K=>cond ((rows.map cGrant.dec).any (N.isGr ix1 ix1_1)) (K .ret { fr:=[(2,.int .i64 9)],tab:=[] }) (K (.exit 8) { fr:=[(1,.ptr 10000 0 0 0),(3,.int .i64 i3),(128,.slc [.int .i64,.int .i64,.int .i64] r128),(129,.int .i64 i129),(130,.int .i64 i130)],tab:=[(10000,.var (etaRow xsPolicy 0 cx0))] })) (fun a i ha hi=>?_) (fun a ha=>?_) (()) 0 (Int.le_refl _) (by omega) trivial K q (by assumption)
  ·exact main
  ·have hq:=fun K=>q_rCheckPR45 (i3) (r128) (i129) (i130) (r181) (r181.length) ((i:Int)) (cx0) (ix1) (ix1_1) (ix1_2) K
   have t1:ilt (i:Int) r181.length=true:=ilt_t (by omega)
   have t2:decide ((0:Int)≤i∧(i:Int)<r181.length)=true:=decide_eq_true (by omega)
   have t3:IntKind.wrap .i64 ((i:Int)+1)=(i:Int)+1:=wr_i64 (by omega) (by omega)
   simp only [Int.toNat_natCast] at hq
   simp only [t1,t2,t3,cond_true] at hq
   have a0:V.toInt (List.getD (List.getD r181 i []) 0 V.undef)=(cGrant.dec (List.getD r181 i [])).src:=rfl
   have a1:V.toInt (List.getD (List.getD r181 i []) 1 V.undef)=(cGrant.dec (List.getD r181 i [])).dst:=rfl
   have a2:V.toInt (List.getD (List.getD r181 i []) 2 V.undef)=(cGrant.dec (List.getD r181 i [])).budget:=rfl
   simp only [a0,a1] at hq
   simp only [List.map_cons]
   generalize cGrant.dec (List.getD r181 i [])=x at *
   have er:∀ l:List HGrant,List.any (x::l) (N.isGr ix1 ix1_1)=(cond (x.src==ix1) (x.dst==ix1_1) false || List.any l (N.isGr ix1 ix1_1)):=fun _=>rfl
   cases h1:x.src==ix1 with
   | false =>
    refine .inl ⟨(),trivial,fun K=>?_,fun K=>?_⟩
    ·rw [hq,h1]; rfl
    ·simp only [er,h1,cond_false,Bool.false_or]
   | true =>
    cases h2:x.dst==ix1_1 with
    | true =>
     refine .inr ⟨.ret,{ fr:=[(2,.int .i64 9)],tab:=[] },by simp,fun K=>?_,fun K=>?_⟩
     ·rw [hq,h1,h2]; rfl
     ·simp only [er,h1,h2,cond_true,Bool.true_or]
    | false =>
     refine .inl ⟨(),trivial,fun K=>?_,fun K=>?_⟩
     ·rw [hq,h1,h2]; rfl
     ·simp only [er,h1,h2,cond_true,Bool.false_or]
  ·refine ⟨.exit 8,_,by simp,fun K=>?_,fun K=>rfl⟩
   rw [q_rCheckPR45]
   simp (disch:=omega) only [evs]
   try rfl
 ·cases h
theorem ok_rCheckP_52:RoundsOk eRCheckP 29 52:=by
 refine rounds_of rfl fun l K q h=>?_
 unfold gRCheckP52 at h
 split at h
 ·rename_i i3 i15 cx0
  have g1:=(cond_none h).1; replace h:=(cond_none h).2; have g2:=(cond_none h).1; replace h:=(cond_none h).2; have g3:=(cond_none h).1; replace h:=(cond_none h).2; have g4:=(cond_none h).1; replace h:=(cond_none h).2
  have e1:=ieq_of g1
  have e2:=ieq_of g2
  subst e1 e2
  have h3:=ble_of g3
  have main:=loop_ind (E:=eRCheckP) (f:=29) (id:=52) (σ:=Nat) (fun i=>{ fr:=[(1,.ptr 10000 0 0 0),(3,.int .i64 (cPolicy.dec cx0).places.length),(15,.int .i64 (i:Int))],tab:=[(10000,.var (etaRow xsPolicy 0 cx0))] }) (fun i=>i≤(cPolicy.dec cx0).places.length) (fun i=>(cPolicy.dec cx0).places.length-i)
   (fun i K=>cond (N.lacks (cPolicy.dec cx0) ((cPolicy.dec cx0).places.length-i) i==0) (K (.exit 10) { fr:=[],tab:=[] }) (K .ret { fr:=[(2,.int .i64 15)],tab:=[] })) (fun i hi=>?_) 0 (Nat.zero_le _) K q (by assumption)
  ·exact main
  ·have hn:=fun K=>q_rCheckPR52 (cPolicy.dec cx0).places.length (i:Int) cx0 K
   simp only [rows_len3,pol_slots,g4,beq_self_eq_true,cond_true] at hn
   by_cases hk:i<(cPolicy.dec cx0).places.length
   ·obtain ⟨j,hj⟩:∃ j,(cPolicy.dec cx0).places.length-i=j+1:=⟨(cPolicy.dec cx0).places.length-i-1,by omega⟩
    have hj' : (cPolicy.dec cx0).places.length-(i+1)=j:=by omega
    have er:N.lacks (cPolicy.dec cx0) (j+1) i=cond ((cPolicy.dec cx0).slots.any (·==(i:Int))) (N.lacks (cPolicy.dec cx0) j (i+1)) 15:=rfl
    have t1:ilt (i:Int) ((cPolicy.dec cx0).places.length:Int)=true:=ilt_t (by omega)
    have t2:IntKind.wrap .i64 ((i:Int)+1)=(i:Int)+1:=wr_i64 (by omega) (by omega)
    simp only [t1,t2,cond_true] at hn
    cases hc:(cPolicy.dec cx0).slots.any (·==(i:Int)) with
    | true =>
     refine .inl ⟨i+1,hk,by omega,fun K=>?_,fun K=>?_⟩
     ·rw [hn,hc]; rfl
     ·simp only [hj,hj',er,hc,cond_true]
    | false =>
     refine .inr ⟨.ret,{ fr:=[(2,.int .i64 15)],tab:=[] },by simp,fun K=>?_,fun K=>?_⟩
     ·rw [hn,hc]; rfl
     ·simp only [hj,er,hc,cond_false]; rfl
   ·obtain rfl:i=(cPolicy.dec cx0).places.length:=by omega
    refine .inr ⟨.exit 10,{ fr:=[],tab:=[] },by simp,fun K=>?_,fun K=>?_⟩
    ·rw [hn,ilt_f (Int.le_refl _)]; rfl
    ·rw [Nat.sub_self]; rfl
 ·cases h
theorem ok_rCheckP_56:RoundsOk eRCheckP 29 56:=by
 refine rounds_of rfl fun l K q h=>?_
 unfold gRCheckP56 at h
 split at h
 ·rename_i i3 i15 b16 r207 i208 i209 cx0
  have h1:=(cond_none h).1; replace h:=(cond_none h).2; have h2:=(cond_none h).1; replace h:=(cond_none h).2; have h3:=(cond_none h).1; replace h:=(cond_none h).2
  have e1:=ieq_of h1
  have e2:=ieq_of h2
  subst e1 e2
  have h3:r207.length≤3000:=ble_of h3
  have main:=range_ind (E:=eRCheckP) (f:=29) (id:=56) (A:=Bool) (r207) (fun a i=>{ fr:=[(1,.ptr 10000 0 0 0),(3,.int .i64 i3),(15,.int .i64 i15),(16,.bool a),(207,.slc [.int .i64] r207),(208,.int .i64 r207.length),(209,.int .i64 i)],tab:=[(10000,.var (etaRow xsPolicy 0 cx0))] }) (fun a i=>True)
   (fun a rows K=>K (.exit 12) { fr:=[(1,.ptr 10000 0 0 0),(3,.int .i64 i3),(15,.int .i64 i15),(16,.bool (cond a true ((rows.map (rInt .i64).dec).any (·==i15))))],tab:=[(10000,.var (etaRow xsPolicy 0 cx0))] }) (fun a i ha hi=>?_) (fun a ha=>?_) (b16) 0 (Int.le_refl _) (by omega) trivial K q (by assumption)
  ·exact main
  ·have hq:=fun K=>q_rCheckPR56 (i3) (i15) (a) (r207) (r207.length) ((i:Int)) (cx0) K
   have t1:ilt (i:Int) r207.length=true:=ilt_t (by omega)
   have t2:decide ((0:Int)≤i∧(i:Int)<r207.length)=true:=decide_eq_true (by omega)
   have t3:IntKind.wrap .i64 ((i:Int)+1)=(i:Int)+1:=wr_i64 (by omega) (by omega)
   simp only [Int.toNat_natCast] at hq
   simp only [t1,t2,t3,cond_true] at hq
   have a0:V.toInt (List.getD (List.getD r207 i []) 0 V.undef)=(rInt .i64).dec (List.getD r207 i []):=rfl
   simp only [a0] at hq
   simp only [List.map_cons]
   generalize (rInt .i64).dec (List.getD r207 i [])=x at *
   have er:∀ l:List Int,(List.any (x::l) fun x=>x==i15)=((x==i15) || List.any l fun x=>x==i15):=fun _=>rfl
   refine .inl ⟨cond a true (x==i15),trivial,fun K=>?_,fun K=>?_⟩
   ·rw [hq]; cases a<;>rfl
   ·simp only [er]
    cases a<;>cases x==i15<;>rfl
  ·refine ⟨.exit 12,_,by simp,fun K=>?_,fun K=>rfl⟩
   rw [q_rCheckPR56]
   simp (disch:=omega) only [evs]
   cases a<;>rfl
 ·cases h
theorem ok_rCheckP:FnOk Tryz.prog 29 dCheckR:=by
 refine den_okF (env_ok (((TOk.nil _).cons ok_refUnder).cons ok_refName)) (E:=eRCheckP) Tryz.func29 [9,17,28,36,45,52,56] (by kernel_rfl) (consN ok_rCheckP_9 (consN ok_rCheckP_17 (consN ok_rCheckP_28 (consN ok_rCheckP_36 (consN ok_rCheckP_45 (consN ok_rCheckP_52 (one1 ok_rCheckP_56))))))) fun a b hp=>?_
 obtain ⟨hc,hok⟩:=bcond (show cond (fewC a) (a.places.all okPl) false=true from hp)
 obtain ⟨hf,hnm⟩:=bcond hc
 obtain ⟨f1,f2⟩:=bcond hf
 obtain ⟨f2,f3⟩:=bcond f2
 have hnm' : ((a.places.map cPlace.enc).all fun r=>Nat.ble (List.length (V.toStr (List.getD r 0 V.undef))) 1000000)=true:=by
  rw [List.all_map]; exact hnm
 have r1:Nat.ble a.places.length a.places.length=true:=Nat.ble_eq_true_of_le (Nat.le_refl _)
 have r2:Nat.ble a.grants.length a.grants.length=true:=Nat.ble_eq_true_of_le (Nat.le_refl _)
 have hok' : (List.all a.places fun x=>bif bif ile (0:Int) (Label.level (HPlace.label x)) then ile (Label.level (HPlace.label x)) (255:Int) else false then bif ile (0:Int) (Label.set (HPlace.label x)) then ilt (Label.set (HPlace.label x)) (4294967296:Int) else false else false)=true:=hok
 refine (q_rCheckP a).trans ?_
 simp only [dec_encsY,List.length_map,fold_pol,f1,f2,f3,hnm',hok',r1,r2,beq_self_eq_true,cond_true]
 exact check_key a rfl rfl rfl rfl rfl rfl rfl rfl rfl fun e=>some (⟨.int .i64 e,[],[]⟩:DRes)
end Go.Ev

/- Policies that are gone through: lemmas,no condition. -/
namespace Go.Ev
open Go Go.Proofs
set_option maxRecDepth 100000
-- FOLD
namespace N
def shortP (x:HPlace):Bool:=!ilt 40 x.name.length
def lightP5 (p:HPolicy):Bool:=cond (ilt 20 p.places.length) false (cond (ilt 40 p.slots.length) false (cond (ilt 10 p.grants.length) false (p.places.all shortP)))
end N
def dLightP5:Den:=den (aOne (vAgg cPolicy)) bNil (oV vBool) (fun _ _=>true) fun p _=>(N.lightP5 p,())
theorem pl_name (r:List V):V.toStr (List.getD r 0 V.undef)=(cPlace.dec r).name:=rfl
def schLightP:SSch:={ fr:=[(22,.slc [.str,.int .u8,.int .u32,.int .i64,.int .u64]),(23,.int .i64),(24,.int .i64)],tab:=[] }
def gLightP:List Leaf→(Ex→St→Option R)→Option R
 | [.r r22,.i i23,.i i24],K=>cond (i23==r22.length) (cond (i24==0) (cond (Nat.ble r22.length 20) (cond (((r22).map cPlace.dec).all N.shortP) (K (.exit 0) { fr:=[],tab:=[] }) (K .ret { fr:=[(2,.bool false)],tab:=[] })) none) none) none
 | _,_=>none
noncomputable def eLightP:Env:=env Tryz.prog [] [(4,loopF schLightP gLightP)] [(4,[(0,[22,23,24]),(1,[]),(1000,[2])])]
theorem q_lightP (p:HPolicy):evFn eLightP 28 ((aOne (vAgg cPolicy)).enc p) ([]) some =
 cond (ilt (20:Int) (↑(List.length (List.map (RCod.enc cPlace) (HPolicy.places p))):Int)) (some {v:=V.bool false,bx:=[]:DRes}) (cond (ilt (40:Int) (↑(List.length (List.map (RCod.enc (rInt .i64)) (HPolicy.slots p))):Int)) (some {v:=V.bool false,bx:=[]:DRes}) (cond (ilt (10:Int) (↑(List.length (List.map (RCod.enc cGrant) (HPolicy.grants p))):Int)) (some {v:=V.bool false,bx:=[]:DRes}) (cond ((↑(List.length (List.map (RCod.enc cPlace) (HPolicy.places p))):Int)==(↑(List.length (List.map (RCod.enc cPlace) (HPolicy.places p))):Int)) (cond (Nat.ble (List.length (List.map (RCod.enc cPlace) (HPolicy.places p))) 20) (cond (List.all (List.map (RCod.dec cPlace) (List.map (RCod.enc cPlace) (HPolicy.places p))) N.shortP) (some {v:=V.bool true,bx:=[]:DRes}) (some {v:=V.bool false,bx:=[]:DRes})) (none)) (none)))):=by kernel_rfl
theorem q_lightPR (r22:List (List V)) (i23:Int) (i24:Int) (K:Ex→St→Option R):evRound eLightP 28 4 { fr:=[(22,.slc [.str,.int .u8,.int .u32,.int .i64,.int .u64] r22),(23,.int .i64 i23),(24,.int .i64 i24)],tab:=[] } K =
 cond (ilt i24 i23) (cond (decide ((0:Int)≤i24∧i24<(↑(List.length r22):Int))) (cond (ilt (40:Int) (↑(List.length (V.toStr (List.getD (List.getD r22 (Int.toNat i24) []) 0 V.undef))):Int)) (K Ex.ret {fr:=[(2,V.bool false)],tab:=[]:St}) (K Ex.normal {fr:=[(22,V.slc [.str,.int .u8,.int .u32,.int .i64,.int .u64] r22),(23,V.int .i64 i23),(24,V.int .i64 (IntKind.wrap .i64 (i24+(1:Int))))],tab:=[]:St})) (none)) (K (Ex.exit 0) {fr:=[],tab:=[]:St}):=by kernel_rfl
theorem ok_lightP_4:RoundsOk eLightP 28 4:=by
 refine rounds_of rfl fun l K q h=>?_
 unfold gLightP at h
 split at h
 ·rename_i r22 i23 i24
  have h1:=(cond_none h).1; replace h:=(cond_none h).2; have h2:=(cond_none h).1; replace h:=(cond_none h).2; have h3:=(cond_none h).1; replace h:=(cond_none h).2
  have e1:=ieq_of h1
  have e2:=ieq_of h2
  subst e1 e2
  have h3:r22.length≤20:=ble_of h3
  have main:=range_ind (E:=eLightP) (f:=28) (id:=4) (A:=Unit) (r22) (fun a i=>{ fr:=[(22,.slc [.str,.int .u8,.int .u32,.int .i64,.int .u64] r22),(23,.int .i64 r22.length),(24,.int .i64 i)],tab:=[] }) (fun a i=>True)
   (fun a rows K=>cond (((rows).map cPlace.dec).all N.shortP) (K (.exit 0) { fr:=[],tab:=[] }) (K .ret { fr:=[(2,.bool false)],tab:=[] })) (fun a i ha hi=>?_) (fun a ha=>?_) (()) 0 (Int.le_refl _) (by omega) trivial K q (by assumption)
  ·exact main
  ·have hq:=fun K=>q_lightPR (r22) (r22.length) ((i:Int)) K
   have t1:ilt (i:Int) r22.length=true:=ilt_t (by omega)
   have t2:decide ((0:Int)≤i∧(i:Int)<r22.length)=true:=decide_eq_true (by omega)
   have t3:IntKind.wrap .i64 ((i:Int)+1)=(i:Int)+1:=wr_i64 (by omega) (by omega)
   simp only [Int.toNat_natCast,pl_name] at hq
   simp only [t1,t2,t3,cond_true] at hq
   simp only [List.map_cons,List.all_cons]
   cases hc:ilt 40 ((cPlace.dec (r22.getD i [])).name.length:Int) with
   | true =>
    refine .inr ⟨.ret,{ fr:=[(2,.bool false)],tab:=[] },by simp,fun K=>by rw [hq,hc]; rfl,fun K=>?_⟩
    rw [show N.shortP (cPlace.dec (r22.getD i []))=false from by unfold N.shortP; rw [hc]; rfl]; rfl
   | false =>
    refine .inl ⟨(),trivial,fun K=>by rw [hq,hc]; rfl,fun K=>?_⟩
    rw [show N.shortP (cPlace.dec (r22.getD i []))=true from by unfold N.shortP; rw [hc]; rfl]; rfl
  ·refine ⟨.exit 0,_,by simp,fun K=>?_,fun K=>rfl⟩
   rw [q_lightPR]
   simp (disch:=omega) only [evs]
   try rfl
 ·cases h
theorem ok_lightP:FnOk Tryz.prog 28 dLightP5:=by
 refine den_okF (env_ok (TOk.nil _)) (E:=eLightP) Tryz.func28 [4] (by kernel_rfl) (one1 ok_lightP_4) fun a b hp=>?_
 refine (q_lightP a).trans ?_
 simp only [List.length_map,dec_encsY,beq_self_eq_true,cond_true]
 show _=some (⟨.bool (N.lightP5 a),[],[]⟩:DRes)
 unfold N.lightP5
 cases h1:ilt 20 (a.places.length:Int) with
 | true=>rfl
 | false =>
  have h1':=ilt_nof h1
  rw [ble_t (show a.places.length≤20 by omega)]
  cases ilt 40 (a.slots.length:Int) with
  | true=>rfl
  | false =>
   cases ilt 10 (a.grants.length:Int) with
   | true=>rfl
   | false=>cases a.places.all N.shortP<;>rfl
end Go.Ev

/- A policy as the document's: lemmas,no condition. -/
namespace Go.Ev
open Go Go.Proofs
set_option maxRecDepth 100000
-- FOLD
def dLawTo:Den:=den (aOne (vAgg cPolicy)) bNil (oV (vAgg cPolicy)) (fun p _=>fewP p) fun p _=>(p,())
def schLawTo3:SSch:={ fr:=[(1,.ptr 10000 0 0),(2,.ptr 10001 0 0),(3,.ptr 10005 0 0),(14,.slc [.str,.int .u8,.int .u32,.int .i64,.int .u64]),(15,.int .i64),(16,.int .i64)],tab:=[(10000,.row [] xsPolicy),(10002,.sl [.str,.int .u8,.int .u32,.int .i64,.int .u64]),(10003,.sl [.int .i64]),(10004,.sl [.int .i64,.int .i64,.int .i64]),(10001,.var [.int .i64,.int .i64,.own 10002,.own 10003,.own 10004]),(10006,.sl [.str,.int .u8,.int .u32,.int .i64,.int .u64]),(10007,.sl [.int .i64]),(10008,.sl [.int .i64,.int .i64,.int .i64]),(10005,.var [.int .i64,.int .i64,.own 10006,.own 10007,.own 10008])] }
def gLawTo3:List Leaf→(Ex→St→Option R)→Option R
 | [.r r14,.i i15,.i i16,.c cx0,.r rx2,.r rx3,.r rx4,.i ix1,.i ix1_1,.r rx6,.r rx7,.r rx8,.i ix5,.i ix5_1],K=>cond (i15==r14.length) (cond (i16==0) (cond (Nat.ble r14.length 3000) (cond (Nat.beq rx6.length 0) (K (.exit 0) { fr:=[(1,.ptr 10000 0 0 0),(2,.ptr 10001 0 0 0),(3,.ptr 10005 0 0 0)],tab:=[(10000,.var (etaRow xsPolicy 0 cx0)),(10002,.sl [.str,.int .u8,.int .u32,.int .i64,.int .u64] rx2 0),(10003,.sl [.int .i64] rx3 0),(10004,.sl [.int .i64,.int .i64,.int .i64] rx4 0),(10001,.var [.int .i64 ix1,.int .i64 ix1_1,.own 10002 0,.own 10003 0,.own 10004 0]),(10006,.sl [.str,.int .u8,.int .u32,.int .i64,.int .u64] ((([]:List HPlace)++((r14).map cPlace.dec)).map cPlace.enc) 0),(10007,.sl [.int .i64] rx7 0),(10008,.sl [.int .i64,.int .i64,.int .i64] rx8 0),(10005,.var [.int .i64 ix5,.int .i64 ix5_1,.own 10006 0,.own 10007 0,.own 10008 0])] }) none) none) none) none
 | _,_=>none
def schLawTo9:SSch:={ fr:=[(2,.ptr 10000 0 0),(3,.ptr 10004 0 0),(34,.slc [.int .i64,.int .i64,.int .i64]),(35,.int .i64),(36,.int .i64)],tab:=[(10001,.sl [.str,.int .u8,.int .u32,.int .i64,.int .u64]),(10002,.sl [.int .i64]),(10003,.sl [.int .i64,.int .i64,.int .i64]),(10000,.var [.int .i64,.int .i64,.own 10001,.own 10002,.own 10003]),(10005,.sl [.str,.int .u8,.int .u32,.int .i64,.int .u64]),(10006,.sl [.int .i64]),(10007,.sl [.int .i64,.int .i64,.int .i64]),(10004,.var [.int .i64,.int .i64,.own 10005,.own 10006,.own 10007])] }
def gLawTo9:List Leaf→(Ex→St→Option R)→Option R
 | [.r r34,.i i35,.i i36,.r rx1,.r rx2,.r rx3,.i ix0,.i ix0_1,.r rx5,.r rx6,.r rx7,.i ix4,.i ix4_1],K=>cond (i35==r34.length) (cond (i36==0) (cond (Nat.ble r34.length 3000) (cond (Nat.beq rx7.length 0) (K (.exit 2) { fr:=[(2,.ptr 10000 0 0 0),(3,.ptr 10004 0 0 0)],tab:=[(10001,.sl [.str,.int .u8,.int .u32,.int .i64,.int .u64] rx1 0),(10002,.sl [.int .i64] rx2 0),(10003,.sl [.int .i64,.int .i64,.int .i64] rx3 0),(10000,.var [.int .i64 ix0,.int .i64 ix0_1,.own 10001 0,.own 10002 0,.own 10003 0]),(10005,.sl [.str,.int .u8,.int .u32,.int .i64,.int .u64] rx5 0),(10006,.sl [.int .i64] rx6 0),(10007,.sl [.int .i64,.int .i64,.int .i64] ((([]:List HGrant)++((r34).map cGrant.dec)).map cGrant.enc) 0),(10004,.var [.int .i64 ix4,.int .i64 ix4_1,.own 10005 0,.own 10006 0,.own 10007 0])] }) none) none) none) none
 | _,_=>none
noncomputable def eLawTo:Env:=env Tryz.prog [] [(9,loopF schLawTo9 gLawTo9),(3,loopF schLawTo3 gLawTo3)] [(3,[(0,[1,2,3,14,15,16]),(1,[1,2,3]),(1000,[2])]),(9,[(0,[2,3,34,35,36]),(3,[2,3]),(1000,[2])])]
theorem q_lawTo (p:HPolicy):evFn eLawTo 13 ((aOne (vAgg cPolicy)).enc p) ([]) some =
 cond ((↑(List.length (List.map (RCod.enc cPlace) (HPolicy.places p))):Int)==(↑(List.length (List.map (RCod.enc cPlace) (HPolicy.places p))):Int)) (cond (Nat.ble (List.length (List.map (RCod.enc cPlace) (HPolicy.places p))) 3000) (cond (decide ((0+List.length (List.map (RCod.enc (rInt .i64)) (HPolicy.slots p)))*8≤140737488355328)) (cond ((↑(List.length (List.map (RCod.enc cGrant) (HPolicy.grants p))):Int)==(↑(List.length (List.map (RCod.enc cGrant) (HPolicy.grants p))):Int)) (cond (Nat.ble (List.length (List.map (RCod.enc cGrant) (HPolicy.grants p))) 3000) (some {v:=V.agg [V.int .i64 (HPolicy.work p),V.int .i64 (HPolicy.give p),V.slc [.str,.int .u8,.int .u32,.int .i64,.int .u64] (List.map (RCod.enc cPlace) ([]++List.map (RCod.dec cPlace) (List.map (RCod.enc cPlace) (HPolicy.places p)))),V.slc [.int .i64] ([]++List.map (RCod.enc (rInt .i64)) (HPolicy.slots p)),V.slc [.int .i64,.int .i64,.int .i64] (List.map (RCod.enc cGrant) ([]++List.map (RCod.dec cGrant) (List.map (RCod.enc cGrant) (HPolicy.grants p))))],bx:=[]:DRes}) (none)) (none)) (none)) (none)) (none):=by kernel_rfl
theorem q_lawToR3 (r14:List (List V)) (i15:Int) (i16:Int) (cx0:List V) (rx2:List (List V)) (rx3:List (List V)) (rx4:List (List V)) (ix1:Int) (ix1_1:Int) (rx6:List (List V)) (rx7:List (List V)) (rx8:List (List V)) (ix5:Int) (ix5_1:Int) (K:Ex→St→Option R):evRound eLawTo 13 3 { fr:=[(1,.ptr 10000 0 0 0),(2,.ptr 10001 0 0 0),(3,.ptr 10005 0 0 0),(14,.slc [.str,.int .u8,.int .u32,.int .i64,.int .u64] r14),(15,.int .i64 i15),(16,.int .i64 i16)],tab:=[(10000,.var (etaRow xsPolicy 0 cx0)),(10002,.sl [.str,.int .u8,.int .u32,.int .i64,.int .u64] rx2 0),(10003,.sl [.int .i64] rx3 0),(10004,.sl [.int .i64,.int .i64,.int .i64] rx4 0),(10001,.var [.int .i64 ix1,.int .i64 ix1_1,.own 10002 0,.own 10003 0,.own 10004 0]),(10006,.sl [.str,.int .u8,.int .u32,.int .i64,.int .u64] rx6 0),(10007,.sl [.int .i64] rx7 0),(10008,.sl [.int .i64,.int .i64,.int .i64] rx8 0),(10005,.var [.int .i64 ix5,.int .i64 ix5_1,.own 10006 0,.own 10007 0,.own 10008 0])] } K =
 cond (ilt i16 i15) (cond (decide ((0:Int)≤i16∧i16<(↑(List.length r14):Int))) (cond (decide ((List.length rx6+1)*40≤140737488355328)) (K Ex.normal {fr:=[(1,V.ptr 10000 0 0 0),(2,V.ptr 10001 0 0 0),(3,V.ptr 10005 0 0 0),(14,V.slc [.str,.int .u8,.int .u32,.int .i64,.int .u64] r14),(15,V.int .i64 i15),(16,V.int .i64 (IntKind.wrap .i64 (i16+(1:Int))))],tab:=[(10000,Box.var [V.int .i64 (V.toInt (List.getD cx0 0 .undef)),V.int .i64 (V.toInt (List.getD cx0 1 .undef)),V.slc [.str,.int .u8,.int .u32,.int .i64,.int .u64] (V.toRows (List.getD cx0 2 .undef)),V.slc [.int .i64] (V.toRows (List.getD cx0 3 .undef)),V.slc [.int .i64,.int .i64,.int .i64] (V.toRows (List.getD cx0 4 .undef))]),(10002,Box.sl [.str,.int .u8,.int .u32,.int .i64,.int .u64] rx2 0),(10003,Box.sl [.int .i64] rx3 0),(10004,Box.sl [.int .i64,.int .i64,.int .i64] rx4 0),(10001,Box.var [V.int .i64 ix1,V.int .i64 ix1_1,V.own 10002 0,V.own 10003 0,V.own 10004 0]),(10006,Box.sl [.str,.int .u8,.int .u32,.int .i64,.int .u64] (rx6++[[V.str (V.toStr (List.getD (List.getD r14 (Int.toNat i16) []) 0 V.undef)),V.int .u8 (V.toInt (List.getD (List.getD r14 (Int.toNat i16) []) 1 V.undef)),V.int .u32 (V.toInt (List.getD (List.getD r14 (Int.toNat i16) []) 2 V.undef)),V.int .i64 (V.toInt (List.getD (List.getD r14 (Int.toNat i16) []) 3 V.undef)),V.int .u64 (V.toInt (List.getD (List.getD r14 (Int.toNat i16) []) 4 V.undef))]]) 0),(10007,Box.sl [.int .i64] rx7 0),(10008,Box.sl [.int .i64,.int .i64,.int .i64] rx8 0),(10005,Box.var [V.int .i64 ix5,V.int .i64 ix5_1,V.own 10006 0,V.own 10007 0,V.own 10008 0])]:St}) (none)) (none)) (K (Ex.exit 0) {fr:=[(1,V.ptr 10000 0 0 0),(2,V.ptr 10001 0 0 0),(3,V.ptr 10005 0 0 0)],tab:=[(10000,Box.var [V.int .i64 (V.toInt (List.getD cx0 0 .undef)),V.int .i64 (V.toInt (List.getD cx0 1 .undef)),V.slc [.str,.int .u8,.int .u32,.int .i64,.int .u64] (V.toRows (List.getD cx0 2 .undef)),V.slc [.int .i64] (V.toRows (List.getD cx0 3 .undef)),V.slc [.int .i64,.int .i64,.int .i64] (V.toRows (List.getD cx0 4 .undef))]),(10002,Box.sl [.str,.int .u8,.int .u32,.int .i64,.int .u64] rx2 0),(10003,Box.sl [.int .i64] rx3 0),(10004,Box.sl [.int .i64,.int .i64,.int .i64] rx4 0),(10001,Box.var [V.int .i64 ix1,V.int .i64 ix1_1,V.own 10002 0,V.own 10003 0,V.own 10004 0]),(10006,Box.sl [.str,.int .u8,.int .u32,.int .i64,.int .u64] rx6 0),(10007,Box.sl [.int .i64] rx7 0),(10008,Box.sl [.int .i64,.int .i64,.int .i64] rx8 0),(10005,Box.var [V.int .i64 ix5,V.int .i64 ix5_1,V.own 10006 0,V.own 10007 0,V.own 10008 0])]:St}):=by kernel_rfl
theorem q_lawToR9 (r34:List (List V)) (i35:Int) (i36:Int) (rx1:List (List V)) (rx2:List (List V)) (rx3:List (List V)) (ix0:Int) (ix0_1:Int) (rx5:List (List V)) (rx6:List (List V)) (rx7:List (List V)) (ix4:Int) (ix4_1:Int) (K:Ex→St→Option R):evRound eLawTo 13 9 { fr:=[(2,.ptr 10000 0 0 0),(3,.ptr 10004 0 0 0),(34,.slc [.int .i64,.int .i64,.int .i64] r34),(35,.int .i64 i35),(36,.int .i64 i36)],tab:=[(10001,.sl [.str,.int .u8,.int .u32,.int .i64,.int .u64] rx1 0),(10002,.sl [.int .i64] rx2 0),(10003,.sl [.int .i64,.int .i64,.int .i64] rx3 0),(10000,.var [.int .i64 ix0,.int .i64 ix0_1,.own 10001 0,.own 10002 0,.own 10003 0]),(10005,.sl [.str,.int .u8,.int .u32,.int .i64,.int .u64] rx5 0),(10006,.sl [.int .i64] rx6 0),(10007,.sl [.int .i64,.int .i64,.int .i64] rx7 0),(10004,.var [.int .i64 ix4,.int .i64 ix4_1,.own 10005 0,.own 10006 0,.own 10007 0])] } K =
 cond (ilt i36 i35) (cond (decide ((0:Int)≤i36∧i36<(↑(List.length r34):Int))) (cond (decide ((List.length rx7+1)*24≤140737488355328)) (K Ex.normal {fr:=[(2,V.ptr 10000 0 0 0),(3,V.ptr 10004 0 0 0),(34,V.slc [.int .i64,.int .i64,.int .i64] r34),(35,V.int .i64 i35),(36,V.int .i64 (IntKind.wrap .i64 (i36+(1:Int))))],tab:=[(10001,Box.sl [.str,.int .u8,.int .u32,.int .i64,.int .u64] rx1 0),(10002,Box.sl [.int .i64] rx2 0),(10003,Box.sl [.int .i64,.int .i64,.int .i64] rx3 0),(10000,Box.var [V.int .i64 ix0,V.int .i64 ix0_1,V.own 10001 0,V.own 10002 0,V.own 10003 0]),(10005,Box.sl [.str,.int .u8,.int .u32,.int .i64,.int .u64] rx5 0),(10006,Box.sl [.int .i64] rx6 0),(10007,Box.sl [.int .i64,.int .i64,.int .i64] (rx7++[[V.int .i64 (V.toInt (List.getD (List.getD r34 (Int.toNat i36) []) 0 V.undef)),V.int .i64 (V.toInt (List.getD (List.getD r34 (Int.toNat i36) []) 1 V.undef)),V.int .i64 (V.toInt (List.getD (List.getD r34 (Int.toNat i36) []) 2 V.undef))]]) 0),(10004,Box.var [V.int .i64 ix4,V.int .i64 ix4_1,V.own 10005 0,V.own 10006 0,V.own 10007 0])]:St}) (none)) (none)) (K (Ex.exit 2) {fr:=[(2,V.ptr 10000 0 0 0),(3,V.ptr 10004 0 0 0)],tab:=[(10001,Box.sl [.str,.int .u8,.int .u32,.int .i64,.int .u64] rx1 0),(10002,Box.sl [.int .i64] rx2 0),(10003,Box.sl [.int .i64,.int .i64,.int .i64] rx3 0),(10000,Box.var [V.int .i64 ix0,V.int .i64 ix0_1,V.own 10001 0,V.own 10002 0,V.own 10003 0]),(10005,Box.sl [.str,.int .u8,.int .u32,.int .i64,.int .u64] rx5 0),(10006,Box.sl [.int .i64] rx6 0),(10007,Box.sl [.int .i64,.int .i64,.int .i64] rx7 0),(10004,Box.var [V.int .i64 ix4,V.int .i64 ix4_1,V.own 10005 0,V.own 10006 0,V.own 10007 0])]:St}):=by kernel_rfl
theorem ok_lawTo_3:RoundsOk eLawTo 13 3:=by
 refine rounds_of rfl fun l K q h=>?_
 unfold gLawTo3 at h
 split at h
 ·rename_i r14 i15 i16 cx0 rx2 rx3 rx4 ix1 ix1_1 rx6 rx7 rx8 ix5 ix5_1
  have h1:=(cond_none h).1; replace h:=(cond_none h).2; have h2:=(cond_none h).1; replace h:=(cond_none h).2; have h3:=(cond_none h).1; replace h:=(cond_none h).2; have h4:=(cond_none h).1; replace h:=(cond_none h).2
  have e1:=ieq_of h1
  have e2:=ieq_of h2
  subst e1 e2
  have h3:r14.length≤3000:=ble_of h3
  have e4:=List.eq_nil_of_length_eq_zero (Nat.eq_of_beq_eq_true h4)
  subst e4
  have main:=range_ind (E:=eLawTo) (f:=13) (id:=3) (A:=List HPlace) (r14) (fun a i=>{ fr:=[(1,.ptr 10000 0 0 0),(2,.ptr 10001 0 0 0),(3,.ptr 10005 0 0 0),(14,.slc [.str,.int .u8,.int .u32,.int .i64,.int .u64] r14),(15,.int .i64 r14.length),(16,.int .i64 i)],tab:=[(10000,.var (etaRow xsPolicy 0 cx0)),(10002,.sl [.str,.int .u8,.int .u32,.int .i64,.int .u64] rx2 0),(10003,.sl [.int .i64] rx3 0),(10004,.sl [.int .i64,.int .i64,.int .i64] rx4 0),(10001,.var [.int .i64 ix1,.int .i64 ix1_1,.own 10002 0,.own 10003 0,.own 10004 0]),(10006,.sl [.str,.int .u8,.int .u32,.int .i64,.int .u64] (a.map cPlace.enc) 0),(10007,.sl [.int .i64] rx7 0),(10008,.sl [.int .i64,.int .i64,.int .i64] rx8 0),(10005,.var [.int .i64 ix5,.int .i64 ix5_1,.own 10006 0,.own 10007 0,.own 10008 0])] }) (fun a i=>a.length≤i)
   (fun a rows K=>K (.exit 0) { fr:=[(1,.ptr 10000 0 0 0),(2,.ptr 10001 0 0 0),(3,.ptr 10005 0 0 0)],tab:=[(10000,.var (etaRow xsPolicy 0 cx0)),(10002,.sl [.str,.int .u8,.int .u32,.int .i64,.int .u64] rx2 0),(10003,.sl [.int .i64] rx3 0),(10004,.sl [.int .i64,.int .i64,.int .i64] rx4 0),(10001,.var [.int .i64 ix1,.int .i64 ix1_1,.own 10002 0,.own 10003 0,.own 10004 0]),(10006,.sl [.str,.int .u8,.int .u32,.int .i64,.int .u64] ((a++((rows).map cPlace.dec)).map cPlace.enc) 0),(10007,.sl [.int .i64] rx7 0),(10008,.sl [.int .i64,.int .i64,.int .i64] rx8 0),(10005,.var [.int .i64 ix5,.int .i64 ix5_1,.own 10006 0,.own 10007 0,.own 10008 0])] }) (fun a i ha hi=>?_) (fun a ha=>?_) (([]:List HPlace)) 0 (Int.le_refl _) (by omega) (Nat.zero_le _) K q (by assumption)
  ·exact main
  ·have hq:=fun K=>q_lawToR3 (r14) (r14.length) ((i:Int)) (cx0) (rx2) (rx3) (rx4) (ix1) (ix1_1) ((a.map cPlace.enc)) (rx7) (rx8) (ix5) (ix5_1) K
   have t1:ilt (i:Int) r14.length=true:=ilt_t (by omega)
   have t2:decide ((0:Int)≤i∧(i:Int)<r14.length)=true:=decide_eq_true (by omega)
   have t3:IntKind.wrap .i64 ((i:Int)+1)=(i:Int)+1:=wr_i64 (by omega) (by omega)
   have t5:decide (((a.map cPlace.enc).length+1)*40≤140737488355328)=true:=decide_eq_true (by rw [List.length_map]; omega)
   simp only [Int.toNat_natCast] at hq
   simp only [t1,t2,t3,cond_true,t5] at hq
   refine .inl ⟨a++[cPlace.dec (r14.getD i [])],by rw [List.length_append,List.length_singleton]; omega,fun K=>?_,fun K=>?_⟩
   ·rw [hq]
    simp only [List.map_append]
    try rfl
   ·simp only [List.map_cons,List.append_assoc,List.singleton_append]
  ·refine ⟨.exit 0,_,by simp,fun K=>?_,fun K=>rfl⟩
   rw [q_lawToR3,ilt_f (Int.le_refl _)]
   simp only [List.map_nil,List.append_nil]
   try rfl
 ·cases h
theorem ok_lawTo_9:RoundsOk eLawTo 13 9:=by
 refine rounds_of rfl fun l K q h=>?_
 unfold gLawTo9 at h
 split at h
 ·rename_i r34 i35 i36 rx1 rx2 rx3 ix0 ix0_1 rx5 rx6 rx7 ix4 ix4_1
  have h1:=(cond_none h).1; replace h:=(cond_none h).2; have h2:=(cond_none h).1; replace h:=(cond_none h).2; have h3:=(cond_none h).1; replace h:=(cond_none h).2; have h4:=(cond_none h).1; replace h:=(cond_none h).2
  have e1:=ieq_of h1
  have e2:=ieq_of h2
  subst e1 e2
  have h3:r34.length≤3000:=ble_of h3
  have e4:=List.eq_nil_of_length_eq_zero (Nat.eq_of_beq_eq_true h4)
  subst e4
  have main:=range_ind (E:=eLawTo) (f:=13) (id:=9) (A:=List HGrant) (r34) (fun a i=>{ fr:=[(2,.ptr 10000 0 0 0),(3,.ptr 10004 0 0 0),(34,.slc [.int .i64,.int .i64,.int .i64] r34),(35,.int .i64 r34.length),(36,.int .i64 i)],tab:=[(10001,.sl [.str,.int .u8,.int .u32,.int .i64,.int .u64] rx1 0),(10002,.sl [.int .i64] rx2 0),(10003,.sl [.int .i64,.int .i64,.int .i64] rx3 0),(10000,.var [.int .i64 ix0,.int .i64 ix0_1,.own 10001 0,.own 10002 0,.own 10003 0]),(10005,.sl [.str,.int .u8,.int .u32,.int .i64,.int .u64] rx5 0),(10006,.sl [.int .i64] rx6 0),(10007,.sl [.int .i64,.int .i64,.int .i64] (a.map cGrant.enc) 0),(10004,.var [.int .i64 ix4,.int .i64 ix4_1,.own 10005 0,.own 10006 0,.own 10007 0])] }) (fun a i=>a.length≤i)
   (fun a rows K=>K (.exit 2) { fr:=[(2,.ptr 10000 0 0 0),(3,.ptr 10004 0 0 0)],tab:=[(10001,.sl [.str,.int .u8,.int .u32,.int .i64,.int .u64] rx1 0),(10002,.sl [.int .i64] rx2 0),(10003,.sl [.int .i64,.int .i64,.int .i64] rx3 0),(10000,.var [.int .i64 ix0,.int .i64 ix0_1,.own 10001 0,.own 10002 0,.own 10003 0]),(10005,.sl [.str,.int .u8,.int .u32,.int .i64,.int .u64] rx5 0),(10006,.sl [.int .i64] rx6 0),(10007,.sl [.int .i64,.int .i64,.int .i64] ((a++((rows).map cGrant.dec)).map cGrant.enc) 0),(10004,.var [.int .i64 ix4,.int .i64 ix4_1,.own 10005 0,.own 10006 0,.own 10007 0])] }) (fun a i ha hi=>?_) (fun a ha=>?_) (([]:List HGrant)) 0 (Int.le_refl _) (by omega) (Nat.zero_le _) K q (by assumption)
  ·exact main
  ·have hq:=fun K=>q_lawToR9 (r34) (r34.length) ((i:Int)) (rx1) (rx2) (rx3) (ix0) (ix0_1) (rx5) (rx6) ((a.map cGrant.enc)) (ix4) (ix4_1) K
   have t1:ilt (i:Int) r34.length=true:=ilt_t (by omega)
   have t2:decide ((0:Int)≤i∧(i:Int)<r34.length)=true:=decide_eq_true (by omega)
   have t3:IntKind.wrap .i64 ((i:Int)+1)=(i:Int)+1:=wr_i64 (by omega) (by omega)
   have t5:decide (((a.map cGrant.enc).length+1)*24≤140737488355328)=true:=decide_eq_true (by rw [List.length_map]; omega)
   simp only [Int.toNat_natCast] at hq
   simp only [t1,t2,t3,cond_true,t5] at hq
   refine .inl ⟨a++[cGrant.dec (r34.getD i [])],by rw [List.length_append,List.length_singleton]; omega,fun K=>?_,fun K=>?_⟩
   ·rw [hq]
    simp only [List.map_append]
    try rfl
   ·simp only [List.map_cons,List.append_assoc,List.singleton_append]
  ·refine ⟨.exit 2,_,by simp,fun K=>?_,fun K=>rfl⟩
   rw [q_lawToR9,ilt_f (Int.le_refl _)]
   simp only [List.map_nil,List.append_nil]
   try rfl
 ·cases h
theorem ok_lawTo:FnOk Tryz.prog 13 dLawTo:=by
 refine den_okF (env_ok (TOk.nil _)) (E:=eLawTo) Tryz.func13 [3,9] (by kernel_rfl) (two2 ok_lawTo_3 ok_lawTo_9) fun a b hp=>?_
 have hf:fewP a=true:=hp
 obtain ⟨f1,f2⟩:=bcond hf
 obtain ⟨f2,f3⟩:=bcond f2
 refine (q_lawTo a).trans ?_
 have f2':=ble_of f2
 have t5:decide ((0+a.slots.length)*8≤140737488355328)=true:=decide_eq_true (by omega)
 simp only [List.length_map,dec_encsY,f1,f3,t5,beq_self_eq_true,cond_true,List.nil_append]
 try rfl
end Go.Ev

/- Policies: the chapter's example,which may be,and the statement on flows: lemmas; the function that writes numbers is a premise. -/
namespace Go.Ev
open Go Go.Proofs
set_option maxRecDepth 100000
-- FOLD
noncomputable def eAw4p:Env:=env Tryz.prog [(69,dTrueW)] [] []
theorem q_aw4p:evFn eAw4p 36 [] [] some=some ⟨.bool true,[],[]⟩:=by kernel_rfl
theorem ok_aw4p:FnOk Tryz.prog 36 dTrue:=den_okF (env_ok ((TOk.nil _).cons ok_awW)) (E:=eAw4p) Tryz.func36 [] (by kernel_rfl) none0 fun _ _ _=>q_aw4p
noncomputable def eAw3p:Env:=env Tryz.prog [(68,dTrue)] [] []
theorem q_aw3p:evFn eAw3p 35 [] [] some=some ⟨.bool true,[],[]⟩:=by kernel_rfl
theorem ok_aw3p (hN:FnOk Tryz.prog 127 dOutNum):FnOk Tryz.prog 35 dTrue:=den_okF (env_ok ((TOk.nil _).cons (ok_aw3 hN))) (E:=eAw3p) Tryz.func35 [] (by kernel_rfl) none0 fun _ _ _=>q_aw3p
noncomputable def eAw5:Env:=env Tryz.prog [(10,dPParse),(35,dTrue),(36,dTrue)] [] []
theorem q_aw5:evFn eAw5 9 [] [] some=some ⟨.bool true,[],[]⟩:=by kernel_rfl
theorem ok_aw5 (hN:FnOk Tryz.prog 127 dOutNum):FnOk Tryz.prog 9 dTrue:=den_okF (env_ok ((((TOk.nil _).cons ok_aw4p).cons (ok_aw3p hN)).cons ok_pParse)) (E:=eAw5) Tryz.func9 [] (by kernel_rfl) none0 fun _ _ _=>q_aw5
namespace N
def mayP (p:HPolicy):Bool:=cond (lightP5 p) (checkP p==0) false
end N
theorem light_few {p:HPolicy} (h:N.lightP5 p=true):fewC p=true:=by
 have h:cond (ilt 20 p.places.length) false (cond (ilt 40 p.slots.length) false (cond (ilt 10 p.grants.length) false (p.places.all N.shortP)))=true:=h
 cases h1:ilt 20 (p.places.length:Int) with
 | true=>rw [h1] at h; cases h
 | false =>
  cases h2:ilt 40 (p.slots.length:Int) with
  | true=>rw [h1,h2] at h; cases h
  | false =>
   cases h3:ilt 10 (p.grants.length:Int) with
   | true=>rw [h1,h2,h3] at h; cases h
   | false =>
    rw [h1,h2,h3] at h
    have h4:∀ x∈p.places,Nat.ble x.name.length 1000000=true:=fun x hx=>by
     have:=List.all_eq_true.1 h x hx
     have:=ilt_nof (show ilt 40 (x.name.length:Int)=false by simpa [N.shortP] using this)
     exact Nat.ble_eq_true_of_le (by omega)
    have:=ilt_nof h1
    have:=ilt_nof h2
    have:=ilt_nof h3
    show cond (cond (Nat.ble p.places.length 3000) (cond (Nat.ble p.slots.length 3000) (Nat.ble p.grants.length 3000) false) false) (p.places.all fun x=>Nat.ble x.name.length 1000000) false=true
    rw [Nat.ble_eq_true_of_le (by omega),Nat.ble_eq_true_of_le (by omega),Nat.ble_eq_true_of_le (by omega),List.all_eq_true.2 h4]; rfl
def dMay5:Den:=den (aOne (vAgg cPolicy)) bNil (oV vBool) (fun p _=>p.places.all okPl) fun p _=>(N.mayP p,())
noncomputable def eMay5:Env:=env Tryz.prog [(28,dLightP5),(13,dLawTo),(29,dCheckR)] [] []
theorem q_may5_ (p:HPolicy):evFn eMay5 14 ((aOne (vAgg cPolicy)).enc p) ([]) some =(
 let z4:=(List.map (RCod.enc cPlace) (HPolicy.places p));let z0:=(List.map (RCod.enc cPlace) (List.map (RCod.dec cPlace) z4));let z1:=(List.map (RCod.dec (rInt .i64)) (List.map (RCod.enc (rInt .i64)) (HPolicy.slots p)));let z2:=(List.map (RCod.dec cGrant) (List.map (RCod.enc cGrant) (HPolicy.grants p)));let z3:=(List.map (RCod.dec cPlace) z0);cond (N.lightP5 {work:=HPolicy.work p,give:=HPolicy.give p,places:=List.map (RCod.dec cPlace) z4,slots:=List.map (RCod.dec (rInt .i64)) (List.map (RCod.enc (rInt .i64)) (HPolicy.slots p)),grants:=List.map (RCod.dec cGrant) (List.map (RCod.enc cGrant) (HPolicy.grants p)):HPolicy}) (cond (bif Nat.ble (List.length (List.map (RCod.dec cPlace) z4)) 3000 then bif Nat.ble (List.length z1) 3000 then Nat.ble (List.length z2) 3000 else false else false) (cond (bif bif bif Nat.ble (List.length z3) 3000 then bif Nat.ble (List.length (List.map (RCod.dec (rInt .i64)) (List.map (RCod.enc (rInt .i64)) z1))) 3000 then Nat.ble (List.length (List.map (RCod.dec cGrant) (List.map (RCod.enc cGrant) z2))) 3000 else false else false then List.all z3 fun x=>Nat.ble (List.length (HPlace.name x)) 1000000 else false then List.all z3 fun x=>bif bif ile (0:Int) (Label.level (HPlace.label x)) then ile (Label.level (HPlace.label x)) (255:Int) else false then bif ile (0:Int) (Label.set (HPlace.label x)) then ilt (Label.set (HPlace.label x)) (4294967296:Int) else false else false else false) (some {v:=V.bool (N.checkP {work:=HPolicy.work p,give:=HPolicy.give p,places:=List.map (RCod.dec cPlace) z0,slots:=List.map (RCod.dec (rInt .i64)) (List.map (RCod.enc (rInt .i64)) z1),grants:=List.map (RCod.dec cGrant) (List.map (RCod.enc cGrant) z2):HPolicy}==(0:Int)),bx:=[]:DRes}) (none)) (none)) (some {v:=V.bool false,bx:=[]:DRes})):=by kernel_rfl
theorem q_may5 (p:HPolicy):type_of% (by have h:=q_may5_ p; dsimp only at h; exact h):=by
 have h:=q_may5_ p
 dsimp only at h
 exact h
theorem ok_may5:FnOk Tryz.prog 14 dMay5:=by
 refine den_okF (env_ok ((((TOk.nil _).cons ok_rCheckP).cons ok_lawTo).cons ok_lightP)) (E:=eMay5) Tryz.func14 [] (by kernel_rfl) none0 fun p b hp=>?_
 have hp:p.places.all okPl=true:=hp
 refine (q_may5 p).trans ?_
 show _=some (⟨.bool (cond (N.lightP5 p) (N.checkP p==0) false),[],[]⟩:DRes)
 have hok' : (List.all p.places fun x=>bif bif ile (0:Int) (Label.level (HPlace.label x)) then ile (Label.level (HPlace.label x)) (255:Int) else false then bif ile (0:Int) (Label.set (HPlace.label x)) then ilt (Label.set (HPlace.label x)) (4294967296:Int) else false else false)=true:=hp
 simp only [dec_encsY,fold_pol,hok']
 cases hl:N.lightP5 p with
 | false=>rfl
 | true =>
  obtain ⟨hf,hnm⟩:=bcond (light_few hl)
  obtain ⟨f1,f2⟩:=bcond hf
  obtain ⟨f2,f3⟩:=bcond f2
  have hnm' : (List.all p.places fun x=>Nat.ble (List.length (HPlace.name x)) 1000000)=true:=hnm
  simp only [f1,f2,f3,hnm',cond_true]
end Go.Ev

/- Slots: whose turn it is,rounds,turns; the document's answers: lemmas,no condition. -/
namespace Go.Ev
open Go Go.Proofs
set_option maxRecDepth 100000
-- FOLD
def goodTick (p:HPolicy) (t:Int):Bool:=cond (Nat.ble 1 p.slots.length) (cond (Nat.ble p.slots.length 3000) (cond (ile 0 t) (ilt t 18446744073709551616) false) false) false
namespace N
def slAt (p:HPolicy) (t:Int):Int:=p.slots.getD (t.toNat % p.slots.length) 0
def rNextL (p:HPolicy) (x t:Int):Nat→Nat→Int × Bool
 | 0,_=>(0,false)
 | k+1,j=>cond (cond (ilt (t+j) 18446744073709551616) (slAt p (t+j)==x) false) (t+j,true) (rNextL p x t k (j+1))
end N
def dSlAt:Den:=den (aCons (vAgg cPolicy) (aOne (vInt .u64))) bNil (oV (vInt .i64)) (fun a _=>goodTick a.1 a.2) fun a _=>(N.slAt a.1 a.2,())
def dSlNextR:Den:=den (aCons (vAgg cPolicy) (aCons (vInt .i64) (aOne (vInt .u64)))) bNil (oTup (aCons (vInt .u64) (aOne vBool))) (fun a _=>goodTick a.1 a.2.2) fun a _=>(N.rNextL a.1 a.2.1 a.2.2 a.1.slots.length 0,())
theorem goodTick_of {p:HPolicy} {t:Int} (h:goodTick p t=true):1≤p.slots.length∧p.slots.length≤3000∧∃ T:Nat,t=T∧T<18446744073709551616:=by
 obtain ⟨h1,h⟩:=bcond (show cond (Nat.ble 1 p.slots.length) (cond (Nat.ble p.slots.length 3000) (cond (ile 0 t) (ilt t 18446744073709551616) false) false) false=true from h)
 obtain ⟨h2,h⟩:=bcond h
 obtain ⟨h3,h4⟩:=bcond h
 have h3:=ile_of h3
 have h4:=ilt_of h4
 exact ⟨ble_of h1,ble_of h2,t.toNat,by omega,by omega⟩
theorem goodTick_t {p:HPolicy} {T:Nat} (h1:1≤p.slots.length) (h2:p.slots.length≤3000) (h3:T<18446744073709551616):goodTick p T=true:=by
 show cond (Nat.ble 1 p.slots.length) (cond (Nat.ble p.slots.length 3000) (cond (ile 0 (T:Int)) (ilt (T:Int) 18446744073709551616) false) false) false=true
 rw [Nat.ble_eq_true_of_le h1,Nat.ble_eq_true_of_le h2,ile_t (by omega),ilt_t (by omega)]; rfl
theorem int_at:∀ (l:List Int) (k:Nat),V.toInt (List.getD (List.getD (l.map (rInt .i64).enc) k []) 0 V.undef)=l.getD k 0
 | [],0=>rfl
 | [],_+1=>rfl
 | _::_,0=>rfl
 | _::l,k+1=>int_at l k
theorem tmod_nat (a b:Nat):Int.tmod (a:Int) (b:Int)=((a % b:Nat):Int):=rfl
noncomputable def eSAt:Env:=env Tryz.prog [] [] []
theorem q_sAt (p:HPolicy) (t:Int):evFn eSAt 24 ((aCons (vAgg cPolicy) (aOne (vInt .u64))).enc (p,t)) ([]) some =
 cond (decide (IntKind.wrap .u64 (↑(List.length (List.map (RCod.enc (rInt .i64)) (HPolicy.slots p))):Int)=(0:Int))) (none) (cond (decide ((0:Int)≤Int.tmod t (IntKind.wrap .u64 (↑(List.length (List.map (RCod.enc (rInt .i64)) (HPolicy.slots p))):Int))∧Int.tmod t (IntKind.wrap .u64 (↑(List.length (List.map (RCod.enc (rInt .i64)) (HPolicy.slots p))):Int))<(↑(List.length (List.map (RCod.enc (rInt .i64)) (HPolicy.slots p))):Int))) (some {v:=V.int .i64 (V.toInt (List.getD (List.getD (List.map (RCod.enc (rInt .i64)) (HPolicy.slots p)) (Int.toNat (Int.tmod t (IntKind.wrap .u64 (↑(List.length (List.map (RCod.enc (rInt .i64)) (HPolicy.slots p))):Int)))) []) 0 V.undef)),bx:=[]:DRes}) (none)):=by kernel_rfl
theorem ok_sAt:FnOk Tryz.prog 24 dSlAt:=by
 refine den_okF (env_ok (TOk.nil _)) (E:=eSAt) Tryz.func24 [] (by kernel_rfl) (none0) fun a b hp=>?_
 obtain ⟨p,t⟩:=a
 obtain ⟨h1,h2,T,e,hT⟩:=goodTick_of (p:=p) (t:=t) hp
 subst e
 have hm:T % p.slots.length<p.slots.length:=Nat.mod_lt _ (by omega)
 have hq:T / p.slots.length≤T:=Nat.div_le_self _ _
 have w:IntKind.wrap .u64 (p.slots.length:Int)=p.slots.length:=wrU (by omega) (by omega)
 have w2:IntKind.wrap .u64 ((T % p.slots.length:Nat):Int)=((T % p.slots.length:Nat):Int):=wrU (by omega) (by omega)
 have wa:∀ m:Nat,m≤T→IntKind.wrap .u64 (m:Int)=m:=fun m hm=>wrU (by omega) (by omega)
 have w3:=wa _ hq
 have w4:IntKind.wrap .i64 ((T % p.slots.length:Nat):Int)=((T % p.slots.length:Nat):Int):=wr_i64 (by omega) (by omega)
 have z:decide ((p.slots.length:Int)=0)=false:=decide_eq_false (by omega)
 have bb:decide ((0:Int)≤((T % p.slots.length:Nat):Int)∧((T % p.slots.length:Nat):Int)<(p.slots.length:Int))=true:=decide_eq_true (by omega)
 refine (q_sAt p T).trans ?_
 simp only [List.length_map,w,tmod_nat,z,bb,Int.toNat_natCast,int_at,cond_true,cond_false]
 try rfl
noncomputable def eRSAt:Env:=env Tryz.prog [] [] []
theorem q_rSAt (p:HPolicy) (t:Int):evFn eRSAt 21 ((aCons (vAgg cPolicy) (aOne (vInt .u64))).enc (p,t)) ([]) some =
 cond (decide (IntKind.wrap .u64 (↑(List.length (List.map (RCod.enc (rInt .i64)) (HPolicy.slots p))):Int)=(0:Int))) (none) (cond (decide ((0:Int)≤IntKind.wrap .i64 (Int.tmod t (IntKind.wrap .u64 (↑(List.length (List.map (RCod.enc (rInt .i64)) (HPolicy.slots p))):Int)))∧IntKind.wrap .i64 (Int.tmod t (IntKind.wrap .u64 (↑(List.length (List.map (RCod.enc (rInt .i64)) (HPolicy.slots p))):Int)))<(↑(List.length (List.map (RCod.enc (rInt .i64)) (HPolicy.slots p))):Int))) (some {v:=V.int .i64 (V.toInt (List.getD (List.getD (List.map (RCod.enc (rInt .i64)) (HPolicy.slots p)) (Int.toNat (IntKind.wrap .i64 (Int.tmod t (IntKind.wrap .u64 (↑(List.length (List.map (RCod.enc (rInt .i64)) (HPolicy.slots p))):Int))))) []) 0 V.undef)),bx:=[]:DRes}) (none)):=by kernel_rfl
theorem ok_rSAt:FnOk Tryz.prog 21 dSlAt:=by
 refine den_okF (env_ok (TOk.nil _)) (E:=eRSAt) Tryz.func21 [] (by kernel_rfl) (none0) fun a b hp=>?_
 obtain ⟨p,t⟩:=a
 obtain ⟨h1,h2,T,e,hT⟩:=goodTick_of (p:=p) (t:=t) hp
 subst e
 have hm:T % p.slots.length<p.slots.length:=Nat.mod_lt _ (by omega)
 have hq:T / p.slots.length≤T:=Nat.div_le_self _ _
 have w:IntKind.wrap .u64 (p.slots.length:Int)=p.slots.length:=wrU (by omega) (by omega)
 have w2:IntKind.wrap .u64 ((T % p.slots.length:Nat):Int)=((T % p.slots.length:Nat):Int):=wrU (by omega) (by omega)
 have wa:∀ m:Nat,m≤T→IntKind.wrap .u64 (m:Int)=m:=fun m hm=>wrU (by omega) (by omega)
 have w3:=wa _ hq
 have w4:IntKind.wrap .i64 ((T % p.slots.length:Nat):Int)=((T % p.slots.length:Nat):Int):=wr_i64 (by omega) (by omega)
 have z:decide ((p.slots.length:Int)=0)=false:=decide_eq_false (by omega)
 have bb:decide ((0:Int)≤((T % p.slots.length:Nat):Int)∧((T % p.slots.length:Nat):Int)<(p.slots.length:Int))=true:=decide_eq_true (by omega)
 refine (q_rSAt p T).trans ?_
 simp only [List.length_map,w,tmod_nat,w4,z,bb,Int.toNat_natCast,int_at,cond_true,cond_false]
 try rfl
end Go.Ev

/- The first turn of a place,by the program: lemmas,no condition. -/
namespace Go.Ev
open Go Go.Proofs Go.RowKit
set_option maxRecDepth 100000
theorem grown_keeps {w w' : World} (h:Keeps (LocHas [] []) w w'):w.grownBy w' none:=by
 refine ⟨h.os,h.tape,h.output,h.size,fun k hk _=>?_⟩
 have hk':=h.obj k hk
 have hn:∀ i,¬ LocHas [] [] k i:=fun i ⟨j,p,cs,h1,_⟩=>by simp at h1
 unfold ObjOk at hk'
 split at hk'
 ·rename_i c e f h0
  obtain ⟨c',h1,_,h3⟩:=hk'
  obtain rfl:c' = c:=Array.ext_getElem? fun i=>h3 i (hn i)
  rw [h1,h0]
 ·exact hk'
theorem slAt_pre {p:HPolicy} {t:Int} (h:goodTick p t=true):dSlAt.pre ((aCons (vAgg cPolicy) (aOne (vInt .u64))).enc (p,t)) []=true:=by
 obtain ⟨h1,h2⟩:=(aCons (vAgg cPolicy) (aOne (vInt .u64))).ed (p,t)
 show cond ((aCons (vAgg cPolicy) (aOne (vInt .u64))).ok ((aCons (vAgg cPolicy) (aOne (vInt .u64))).enc (p,t))) (goodTick ((aCons (vAgg cPolicy) (aOne (vInt .u64))).dec ((aCons (vAgg cPolicy) (aOne (vInt .u64))).enc (p,t))).1 ((aCons (vAgg cPolicy) (aOne (vInt .u64))).dec ((aCons (vAgg cPolicy) (aOne (vInt .u64))).enc (p,t))).2) false=true
 rw [h1,h2]; exact h
theorem slAt_res (p:HPolicy) (t:Int):dSlAt.res ((aCons (vAgg cPolicy) (aOne (vInt .u64))).enc (p,t)) []={ v:=.int .i64 (N.slAt p t),bx:=[],nb:=[] }:=by
 obtain ⟨_,h2⟩:=(aCons (vAgg cPolicy) (aOne (vInt .u64))).ed (p,t)
 show ({ v:=.int .i64 (N.slAt ((aCons (vAgg cPolicy) (aOne (vInt .u64))).dec ((aCons (vAgg cPolicy) (aOne (vInt .u64))).enc (p,t))).1 ((aCons (vAgg cPolicy) (aOne (vInt .u64))).dec ((aCons (vAgg cPolicy) (aOne (vInt .u64))).enc (p,t))).2),bx:=[],nb:=[] }:DRes)=_
 rw [h2]
theorem slAt_calls {p:HPolicy} {T n:Nat} {x0:Value} {w W:World} {J:Nat→Nat→Prop} (hJ:∀ b o,J b o→b<w.heap.size) (hx:Rv w J noRho (.agg (cPolicy.enc p)) x0) (hH:Held Tryz.prog J w) (hb:Below w.heap.size w W)
  (h1:1≤p.slots.length) (h2:p.slots.length≤3000) (hT:T<18446744073709551616) :
  CallsIn Fence.wide n Tryz.prog 24 #[x0,.int .u64 (T:Int)] W fun e W'=>e = .returned (.int .i64 (N.slAt p T))∧W.grownBy W' none:=by
 have hcell:∀ b o,J b o→W.cell? ⟨b,o,none⟩=w.cell? ⟨b,o,none⟩:=fun b o h=>hb.cell (p:=⟨b,o,none⟩) (hJ b o h)
 have hx' : Rv W J noRho (.agg (cPolicy.enc p)) x0:=hx.keep hcell (fun _ _ h=>h) (Evo.refl _)
 have hH' : Held Tryz.prog J W:=fun b o x hx=>by
  obtain ⟨a,⟨y,hy,hc⟩,hn⟩:=hH b o x hx
  exact ⟨a,⟨y,hy,(hcell b o a).trans hc⟩,(hb.cell (p:=⟨b,GLn Tryz.prog b,none⟩) (hJ b o a)).trans hn⟩
 have hall:AllRv W J (locReal [] []) ((aCons (vAgg cPolicy) (aOne (vInt .u64))).enc (p,(T:Int))) [x0,.int .u64 (T:Int)]:=⟨rfl,fun i hi=>by
  match i,hi with
  | 0,_=>exact hx'
  | 1,_=>exact .dat (.int _ _)⟩
 have main:=ok_sAt _ [] (slAt_pre (goodTick_t h1 h2 hT)) W J [] [x0,.int .u64 (T:Int)] rfl (fun b o h=>Nat.lt_of_lt_of_le (hJ b o h) hb.size) hall (fun j p cs h=>by simp at h) (fun j j' p p' cs cs' b o h=>by simp at h) hH'
 rw [slAt_res] at main
 rcases main with ⟨_,hc⟩ | ⟨v,w',he,_⟩
 ·refine callsIn_wide.2 (hc.mono ?_)
  rintro e W' ⟨v,rfl,J',hr⟩
  rcases hr.val with ⟨_,hv⟩ | ⟨box,br,h,_⟩
  ·have hv:=Rv.int_inv hv
   subst hv
   exact ⟨rfl,grown_keeps hr.keeps⟩
  ·cases h
 ·rw [enter_ok' Tryz.func24 (by kernel_rfl) (by kernel_rfl)] at he
  cases he
theorem first_eq (p:HPolicy) (i:Int) (T:Nat):∀ k j,((slFirst (fun t=>N.slAt p t) i T k j).1:Int)=(N.rNextL p i T k j).1∧(slFirst (fun t=>N.slAt p t) i T k j).2=(N.rNextL p i T k j).2
 | 0,_=>⟨rfl,rfl⟩
 | k+1,j=>by
  have ih:=first_eq p i T k (j+1)
  have er:N.rNextL p i T (k+1) j=cond (cond (ilt ((T:Int)+j) 18446744073709551616) (N.slAt p ((T:Int)+j)==i) false) ((T:Int)+j,true) (N.rNextL p i T k (j+1)):=rfl
  have ec:((T+j:Nat):Int)=(T:Int)+j:=by omega
  unfold slFirst
  rw [er]
  by_cases h:T+j<18446744073709551616∧N.slAt p ((T+j:Nat):Int)=i
  ·rw [if_pos h]
   have h2:=h.2
   rw [ec] at h2
   rw [ilt_t (by omega),beq_iff_eq.2 h2]
   exact ⟨ec,rfl⟩
  ·rw [if_neg h]
   have hc:cond (ilt ((T:Int)+j) 18446744073709551616) (N.slAt p ((T:Int)+j)==i) false=false:=by
    cases h1:ilt ((T:Int)+j) 18446744073709551616 with
    | false=>rfl
    | true =>
     have:=ilt_of h1
     rw [ec] at h
     show (N.slAt p ((T:Int)+j)==i)=false
     exact beq_eq_false_iff_ne.2 fun e=>h ⟨by omega,e⟩
   rw [hc]; exact ih
theorem ok_slNext:FnOk Tryz.prog 22 dSlNextR:=by
 refine den_of fun a u h=>?_
 obtain ⟨p,i,t⟩:=a
 obtain ⟨h1,h2,T,e,hT⟩:=goodTick_of (p:=p) (t:=t) h
 subst e
 intro x y hxy w J locs xs hlen hJ hx _ _ hH
 have hxy:x=(aCons (vAgg cPolicy) (aCons (vInt .i64) (aOne (vInt .u64)))).enc (p,i,(T:Int))∧y=bNil.enc u:=by simpa using hxy
 obtain ⟨rfl,rfl⟩:=hxy
 have hlen:locs=[]:=List.eq_nil_of_length_eq_zero hlen
 subst hlen
 obtain ⟨x0,xs1,rfl,hx0,hx⟩:=hx.uncons
 obtain ⟨x1,xs2,rfl,hx1,hx⟩:=hx.uncons
 obtain ⟨x2,rfl,hx2⟩:=hx.one
 have hx0:Rv w J noRho (.agg (cPolicy.enc p)) x0:=hx0
 have hx1:=Rv.int_inv (show Rv w J _ (.int .i64 i) x1 from hx1)
 have hx2:=Rv.int_inv (show Rv w J _ (.int .u64 (T:Int)) x2 from hx2)
 subst hx1 hx2
 have hx0':=hx0
 obtain ⟨vs,rfl,hl,hv⟩:=Rv.agg_inv hx0
 match vs,hl with
 | [v0,v1,v2,v3,v4],_ =>
  have e0:=Rv.int_inv (show Rv w J _ (.int .i64 p.work) v0 from hv 0 (by show (0:Nat)<5; omega))
  have e1:=Rv.int_inv (show Rv w J _ (.int .i64 p.give) v1 from hv 1 (by show (1:Nat)<5; omega))
  have e3:Rv w J _ (.slc [.int .i64] (p.slots.map (rInt .i64).enc)) v3:=hv 3 (by show (3:Nat)<5; omega)
  obtain ⟨b,cap,rfl⟩:∃ b cap,v3 = .slice (some b) p.slots.length cap:=by
   generalize hr:p.slots.map (rInt .i64).enc=rows at e3
   have hrl:rows.length=p.slots.length:=by rw [← hr,List.length_map]
   cases e3 with
   | dat h =>
    cases h with
    | slc sh rows a cap val hcap hnil hfit ha hd =>
     obtain ⟨b,o,rfl,_⟩:=ha (fun e=>by rw [e] at hrl; simp at hrl; omega)
     exact ⟨⟨b,o,none⟩,cap,by rw [hrl]⟩
  subst e0 e1
  refine .inl ⟨enter_ok' Tryz.func22 (by kernel_rfl) (by kernel_rfl) _ _,?_⟩
  have main:=slNext_in Fence.wide 3 trivial trivial trivial trivial rfl (by omega) p.work p.give v2 v4 (some b) p.slots.length cap T (fun t=>N.slAt p t) i h1 h2 hT w (fun t W ht hb=>slAt_calls hJ hx0' hH hb h1 h2 ht)
  refine (callsIn_wide.1 main).mono ?_
  rintro e w' ⟨rfl,hb⟩
  obtain ⟨q1,q2⟩:=first_eq p i T p.slots.length 0
  refine ⟨_,rfl,J,?_⟩
  show RetOk w w' J [] [] ⟨.tup [.int .u64 (N.rNextL p i T p.slots.length 0).1,.bool (N.rNextL p i T p.slots.length 0).2],[],[]⟩ _ J
  rw [q1,q2]
  exact ret_plain' hJ hb (.tup [.int .u64 (N.rNextL p i T p.slots.length 0).1,.bool (N.rNextL p i T p.slots.length 0).2] [.int .u64 (N.rNextL p i T p.slots.length 0).1,.bool (N.rNextL p i T p.slots.length 0).2] rfl fun j hj=>by
   match j,hj with
   | 0,_=>exact .dat (.int _ _)
   | 1,_=>exact .dat (.bool _))
end Go.Ev

/- Slots: the chapter's example,the statements on turns and on rounds: lemmas; the function that writes numbers is a premise. -/
namespace Go.Ev
open Go Go.Proofs
set_option maxRecDepth 100000
-- FOLD
noncomputable def eAw5w:Env:=env Tryz.prog [(9,dTrue)] [] []
theorem q_aw5w:evFn eAw5w 48 [] [] some=some ⟨.bool true,[],[]⟩:=by kernel_rfl
theorem ok_aw5w (hN:FnOk Tryz.prog 127 dOutNum):FnOk Tryz.prog 48 dTrue:=den_okF (env_ok ((TOk.nil _).cons (ok_aw5 hN))) (E:=eAw5w) Tryz.func48 [] (by kernel_rfl) none0 fun _ _ _=>q_aw5w
noncomputable def eAw6:Env:=env Tryz.prog [(10,dPParse),(22,dSlNextR),(48,dTrue),(24,dSlAt)] [] []
theorem q_aw6:evFn eAw6 19 [] [] some=some ⟨.bool true,[],[]⟩:=by kernel_rfl
theorem ok_aw6 (hN:FnOk Tryz.prog 127 dOutNum):FnOk Tryz.prog 19 dTrue:=den_okF (env_ok (((((TOk.nil _).cons ok_sAt).cons (ok_aw5w hN)).cons ok_slNext).cons ok_pParse)) (E:=eAw6) Tryz.func19 [] (by kernel_rfl) none0 fun _ _ _=>q_aw6
theorem may_slots {p:HPolicy} (h:N.mayP p=true):1≤p.slots.length∧p.slots.length≤32:=by
 obtain ⟨_,hc⟩:=bcond h
 obtain ⟨-,-,hs,-⟩:=checkP_zero (ieq_of hc)
 have:=count_zero (errFrom_zero _ _ _ _ hs).1
 omega
end Go.Ev

/- The statement on the ticks that are gone through: lemmas; the function that writes numbers is a premise. -/
namespace Go.Ev
open Go Go.Proofs Go.RowKit
set_option maxRecDepth 100000
theorem denN_pre {α γ:Type} {A:ACod α} {O:γ→Out} {p:α→Unit→Bool} {g:α→Unit→γ × Unit} (a:α) (h:p a ()=true):(den A bNil O p g).pre (A.enc a) []=true:=by
 obtain ⟨h1,h2⟩:=A.ed a
 show cond (A.ok (A.enc a)) (cond true (p (A.dec (A.enc a)) ()) false) false=true
 rw [h1,h2]; exact h
theorem denN_res {α γ:Type} {A:ACod α} {O:γ→Out} {p:α→Unit→Bool} {g:α→Unit→γ × Unit} (a:α):(den A bNil O p g).res (A.enc a) []={ v:=(O (g a ()).1).v,bx:=[],nb:=(O (g a ()).1).nb }:=by
 obtain ⟨_,h2⟩:=A.ed a
 show ({ v:=(O (g (A.dec (A.enc a)) ()).1).v,bx:=[],nb:=(O (g (A.dec (A.enc a)) ()).1).nb }:DRes)=_
 rw [h2]
theorem plain_calls {P : Program} {f : FuncId} {fn : Func} {D : Den} (hf : P.funcs[f]? = some fn) (hbd : fn.body.isSome = true) (hnm : (fn.name == "runtime.NumGoroutine") = false) (ok : FnOk P f D) {args : List V} {r : V} (hpre : D.pre args [] = true) (hres : D.res args [] = { v := r, bx := [], nb := [] })
  {xs:List Value} {w W:World} {J:Nat→Nat→Prop} (hJ:∀ b o,J b o→b<w.heap.size) (hl:args.length=xs.length) (hx:∀ i,i<args.length→Rv w J noRho (args.getD i .undef) (xs.getD i Go.undef)) (hH:Held P J w) (hb:Below w.heap.size w W) (n:Nat) :
  CallsIn Fence.wide n P f xs.toArray W fun e W'=>∃ v J',e = .returned v∧W.grownBy W' none∧Rv W' J' noRho r v∧(∀ b o,J' b o→b<W'.heap.size)∧Held P J' W':=by
 have hcell:∀ b o,J b o→W.cell? ⟨b,o,none⟩=w.cell? ⟨b,o,none⟩:=fun b o h=>hb.cell (p:=⟨b,o,none⟩) (hJ b o h)
 have hH' : Held P J W:=fun b o x hx=>by
  obtain ⟨a,⟨y,hy,hc⟩,hn⟩:=hH b o x hx
  exact ⟨a,⟨y,hy,(hcell b o a).trans hc⟩,(hb.cell (p:=⟨b,GLn P b,none⟩) (hJ b o a)).trans hn⟩
 have hall:AllRv W J (locReal [] []) args xs:=⟨hl,fun i hi=>(hx i hi).keep hcell (fun _ _ h=>h) (fun d br h=>by cases h)⟩
 have main:=ok args [] hpre W J [] xs rfl (fun b o h=>Nat.lt_of_lt_of_le (hJ b o h) hb.size) hall (fun j p cs h=>by simp at h) (fun j j' p p' cs cs' b o h=>by simp at h) hH'
 rw [hres] at main
 rcases main with ⟨_,hc⟩ | ⟨v,w',he,_⟩
 ·refine callsIn_wide.2 (hc.mono ?_)
  rintro e W' ⟨v,rfl,J',hr⟩
  have hg:=grown_keeps hr.keeps
  rcases hr.val with ⟨_,hv⟩ | ⟨box,br,h,_⟩
  ·refine ⟨v,J',rfl,hg,hv,hr.lt,fun b o x hx=>?_⟩
   obtain ⟨a,⟨y,hy,hc⟩,hn⟩:=hH' b o x hx
   have hlt:b<W.heap.size:=Nat.lt_of_lt_of_le (hJ b o a) hb.size
   have hbk:=hg.block b hlt (by simp)
   exact ⟨hr.mono b o a,⟨y,hy,(World.cell?_of_block (a:=⟨b,o,none⟩) hbk).trans hc⟩,(World.cell?_of_block (a:=⟨b,GLn P b,none⟩) hbk).trans hn⟩
  ·cases h
 ·rw [enter_ok' hf hbd hnm] at he
  cases he
theorem pol_inv {w:World} {J:Nat→Nat→Prop} {p:HPolicy} {x:Value} (h:Rv w J noRho (.agg (cPolicy.enc p)) x) :
  ∃ (x2 x3 x4:Option Addr) (n2 m2 m3 n4 m4:Nat),x = .agg #[.int .i64 p.work,.int .i64 p.give,.slice x2 n2 m2,.slice x3 p.slots.length m3,.slice x4 n4 m4]:=by
 obtain ⟨vs,rfl,hl,hv⟩:=Rv.agg_inv h
 match vs,hl with
 | [v0,v1,v2,v3,v4],_ =>
  have e0:=Rv.int_inv (show Rv w J _ (.int .i64 p.work) v0 from hv 0 (by show (0:Nat)<5; omega))
  have e1:=Rv.int_inv (show Rv w J _ (.int .i64 p.give) v1 from hv 1 (by show (1:Nat)<5; omega))
  have slc:∀ {sh:List Sh} {rows:List (List V)} {v:Value},Rv w J noRho (.slc sh rows) v→∃ a m,v = .slice a rows.length m:=fun h=>by
   cases h with
   | dat h=>cases h with | slc sh rows a cap val hcap hnil hfit ha hd=>exact ⟨a,cap,rfl⟩
  obtain ⟨x2,m2,rfl⟩:=slc (show Rv w J _ (.slc [.str,.int .u8,.int .u32,.int .i64,.int .u64] (p.places.map cPlace.enc)) v2 from hv 2 (by show (2:Nat)<5; omega))
  obtain ⟨x3,m3,rfl⟩:=slc (show Rv w J _ (.slc [.int .i64] (p.slots.map (rInt .i64).enc)) v3 from hv 3 (by show (3:Nat)<5; omega))
  obtain ⟨x4,m4,rfl⟩:=slc (show Rv w J _ (.slc [.int .i64,.int .i64,.int .i64] (p.grants.map cGrant.enc)) v4 from hv 4 (by show (4:Nat)<5; omega))
  subst e0 e1
  have hle:(p.slots.map (rInt .i64).enc).length=p.slots.length:=List.length_map ..
  exact ⟨x2,x3,x4,_,m2,m3,_,m4,by rw [hle]⟩
def dAllLaw:Den:=den (aCons (vAgg cPolicy) (aCons (vInt .u64) (aOne (vInt .u8)))) bNil (oV vBool) (fun a _=>cond (a.1.places.all okPl) (cond (cond (ile 0 a.2.1) (ilt a.2.1 18446744073709551616) false) (cond (ile 0 a.2.2) (ile a.2.2 255) false) false) false) fun _ _=>(true,())
theorem at_calls {p : HPolicy} {T n : Nat} {f : FuncId} {fn : Func} (hf : Tryz.prog.funcs[f]? = some fn) (hbd : fn.body.isSome = true) (hnm : (fn.name == "runtime.NumGoroutine") = false) (ok : FnOk Tryz.prog f dSlAt) {x0 : Value} {w W : World} {J : Nat → Nat → Prop} (hJ : ∀ b o, J b o → b < w.heap.size) (hx : Rv w J noRho (.agg (cPolicy.enc p)) x0) (hH : Held Tryz.prog J w) (hb : Below w.heap.size w W)
  (h1:1≤p.slots.length) (h2:p.slots.length≤3000) (hT:T<18446744073709551616) :
  CallsIn Fence.wide n Tryz.prog f #[x0,.int .u64 (T:Int)] W fun e W'=>e = .returned (.int .i64 (N.slAt p T))∧W.grownBy W' none:=by
 refine (plain_calls hf hbd hnm ok (slAt_pre (goodTick_t h1 h2 hT)) (slAt_res p (T:Int)) (xs:=[x0,.int .u64 (T:Int)]) hJ rfl (fun i hi=>?_) hH hb n).mono ?_
 ·match i,hi with
  | 0,_=>exact hx
  | 1,_=>exact .dat (.int _ _)
 ·rintro e W' ⟨v,J',rfl,hg,hv,_⟩
  have hv:=Rv.int_inv hv
  subst hv
  exact ⟨rfl,hg⟩
theorem ok_lawAll (hN:FnOk Tryz.prog 127 dOutNum):FnOk Tryz.prog 5 dAllLaw:=by
 refine den_of fun a u h=>?_
 obtain ⟨p,t,s⟩:=a
 obtain ⟨hok,h⟩:=bcond (show cond (p.places.all okPl) (cond (cond (ile 0 t) (ilt t 18446744073709551616) false) (cond (ile 0 s) (ile s 255) false) false) false=true from h)
 obtain ⟨ht,hs⟩:=bcond h
 obtain ⟨ht0,ht1⟩:=bcond ht
 obtain ⟨hs0,hs1⟩:=bcond hs
 obtain ⟨T,e⟩:=Int.eq_ofNat_of_zero_le (ile_of ht0)
 subst e
 obtain ⟨S,e⟩:=Int.eq_ofNat_of_zero_le (ile_of hs0)
 subst e
 have hT:=ilt_of ht1
 have hS:=ile_of hs1
 intro x y hxy w J locs xs hlen hJ hx _ _ hH
 have hxy:x=(aCons (vAgg cPolicy) (aCons (vInt .u64) (aOne (vInt .u8)))).enc (p,(T:Int),(S:Int))∧y=bNil.enc u:=by simpa using hxy
 obtain ⟨rfl,rfl⟩:=hxy
 have hlen:locs=[]:=List.eq_nil_of_length_eq_zero hlen
 subst hlen
 obtain ⟨x0,xs1,rfl,hx0,hx⟩:=hx.uncons
 obtain ⟨x1,xs2,rfl,hx1,hx⟩:=hx.uncons
 obtain ⟨x2,rfl,hx2⟩:=hx.one
 have hx0:Rv w J noRho (.agg (cPolicy.enc p)) x0:=hx0
 have hx1:=Rv.int_inv (show Rv w J _ (.int .u64 (T:Int)) x1 from hx1)
 have hx2:=Rv.int_inv (show Rv w J _ (.int .u8 (S:Int)) x2 from hx2)
 subst hx1 hx2
 obtain ⟨a2,a3,a4,n2,m2,m3,n4,m4,rfl⟩:=pol_inv hx0
 refine .inl ⟨enter_ok' Tryz.func5 (by kernel_rfl) (by kernel_rfl) _ _,?_⟩
 have one:∀ i,i<1→Rv w J noRho ([V.agg (cPolicy.enc p)].getD i .undef) ([Value.agg #[.int .i64 p.work,.int .i64 p.give,.slice a2 n2 m2,.slice a3 p.slots.length m3,.slice a4 n4 m4]].getD i Go.undef):=fun i hi=>by
  obtain rfl:i=0:=by omega
  exact hx0
 have main:=slLaw_in Fence.wide 4 (fun _=>trivial) rfl (by omega) p.work p.give (.slice a2 n2 m2) (.slice a4 n4 m4) a3 p.slots.length m3 T S (fun t=>N.slAt p t) (N.mayP p) (by omega) (by omega) w
  (fun m W hb=>(plain_calls Tryz.func19 (by kernel_rfl) (by kernel_rfl) (ok_aw6 hN) (args:=[]) (r:=.bool true) rfl rfl (xs:=[]) hJ rfl (fun i hi=>by cases hi) hH hb m).mono fun e W' ⟨v,J',h1,h2,h3,_⟩=>⟨by rw [h1,Rv.bool_inv h3],h2⟩)
  (fun m W hb=>(plain_calls Tryz.func14 (by kernel_rfl) (by kernel_rfl) ok_may5 (denN_pre p hok) (denN_res p) (xs:=[_]) hJ rfl one hH hb m).mono fun e W' ⟨v,J',h1,h2,h3,_⟩=>⟨by rw [h1,Rv.bool_inv h3],h2⟩)
  (fun hm m W hb=>by
   obtain ⟨s1,s2⟩:=may_slots hm
   obtain ⟨hl,_⟩:=bcond hm
   obtain ⟨hf,_⟩:=bcond (light_few hl)
   refine (plain_calls Tryz.func13 (by kernel_rfl) (by kernel_rfl) ok_lawTo (denN_pre p hf) (denN_res p) (xs:=[_]) hJ rfl one hH hb m).mono ?_
   rintro e W' ⟨v,J',rfl,hg,hv,hJ',hH'⟩
   have hv:Rv W' J' noRho (.agg (cPolicy.enc p)) v:=hv
   obtain ⟨b2,b3,b4,k2,l2,l3,k4,l4,rfl⟩:=pol_inv hv
   exact ⟨p.work,p.give,b2,b3,b4,k2,l2,_,l3,k4,l4,rfl,hg,fun n t W2 ht hb2=>at_calls Tryz.func21 (by kernel_rfl) (by kernel_rfl) ok_rSAt hJ' hv hH' hb2 s1 (by omega) ht⟩)
  (fun hm m t W ht hb=>by
   obtain ⟨s1,s2⟩:=may_slots hm
   exact at_calls Tryz.func24 (by kernel_rfl) (by kernel_rfl) ok_sAt hJ hx0 hH hb s1 (by omega) ht)
 refine (callsIn_wide.1 main).mono ?_
 rintro e w' ⟨rfl,hb⟩
 exact ⟨_,rfl,J,ret_plain' hJ hb (.dat (.bool true))⟩
end Go.Ev

/- Listed variables of the library hold at the start: lemmas,no condition. -/
namespace Go.Ev
open Go Go.RowKit Go.ChangeShapes
def glTabs (P:Program) (ns:List String):Bool:=(List.range P.globals.size).all fun i=>match P.globals[i]? with | some g=>(tabNamed g.name).isEmpty || (ns.any fun n=>g.name==n && (P.globalNamed n==some i)) | none=>true
def VarOk (P:Program) (W:World) (n:String):Prop:=∃ cs:Array Value,W.var? P n=some cs∧cs.size=(tabNamed n).length∧∀ (o:Nat) (x:GQ),(tabNamed n)[o]? = some x→∃ y:Value,cs[o]? = some y∧GQ.ok x y
theorem held_vars {P:Program} {ns:List String} {W:World} (h1:glTabs P ns=true) (h2:∀ n∈ns,VarOk P W n):Held P (oldI W) W:=by
 intro b o x hx
 unfold GLv at hx
 split at hx
 ·rename_i g hg
  have hb:b<P.globals.size:=(Array.getElem?_eq_some_iff.1 hg).1
  have h:=List.all_eq_true.1 h1 b (List.mem_range.2 hb)
  simp only [hg,Bool.or_eq_true,List.any_eq_true,Bool.and_eq_true] at h
  rcases h with h | ⟨n,hn,h,h'⟩
  ·rw [List.isEmpty_iff.1 h] at hx
   simp at hx
  ·have e1:g.name=n:=by simpa using h
   have e2:P.globalNamed n=some b:=by simpa using h'
   obtain ⟨cs,v1,v2,v3⟩:=h2 n hn
   have en:GLn P b=cs.size:=by
    unfold GLn
    rw [hg]
    show (tabNamed g.name).length=_
    rw [e1,v2]
   rw [e1] at hx
   obtain ⟨y,hy,hxy⟩:=v3 o x hx
   unfold World.var? at v1
   rw [e2] at v1
   have v1:(match W.heap[b]? with | some (.cells cs _ _)=>some cs | _=>none)=some cs:=v1
   cases hh:W.heap[b]? with
   | none=>rw [hh] at v1; cases v1
   | some ob =>
    have hlt:b<W.heap.size:=(Array.getElem?_eq_some_iff.1 hh).1
    cases ob with
    | cells c e f =>
     rw [hh] at v1
     obtain rfl:c=cs:=Option.some.inj v1
     refine ⟨hlt,⟨y,hxy,?_⟩,?_⟩
     ·rw [cell_eq,hh]; exact hy
     ·rw [cell_eq,hh,en]
      show c[c.size]? = none
      simp
    | _=>rw [hh] at v1; cases v1
 ·cases hx
theorem varOk_tab {P:Program} {W:World} {n:String} {k:IntKind} {zs:List Int} (h:tabNamed n=zs.map fun z=>GQ.val (.int k z)) (hT:Lib.TabIs P W n k zs):VarOk P W n:=by
 refine ⟨_,hT,?_,fun o x hx=>?_⟩
 ·rw [h]; simp
 ·rw [h,List.getElem?_map] at hx
  obtain ⟨z,hz,rfl⟩:=Option.map_eq_some_iff.1 hx
  exact ⟨.int k z,by simp [hz],rfl⟩
def ifaceVar (P:Program) (n:String):Bool:=match P.globalNamed n with
 | some g=>match P.globals[g]? with
  | some gl=>match P.underlying gl.type with
   | some (.interface _)=>true
   | _=>false
  | none=>false
 | none=>false
theorem varOk_err {P:Program} {W:World} {n nm:String} {d:DataW Unit} {r:List (String × DataW Unit)} (h:laidMet P ((n,.iface nm d)::r) W) (hf:ifaceVar P n=true) (hT:tabNamed n=[.ifc]):VarOk P W n:=by
 obtain ⟨ps,⟨g0,t0,cs0,f0,p0,q0,hg0,ht0,hv0,hd0,_,e0⟩,_,hrows⟩:=h
 obtain ⟨l0⟩:=cs0
 unfold ifaceVar at hf
 split at hf
 ·rename_i g hg
  obtain rfl:=Option.some.inj (hg.symm.trans hg0)
  split at hf
  ·rename_i gl hgl
   split at hf
   ·rename_i ms hi
    rw [hgl] at ht0
    obtain rfl:gl.type=t0:=Option.some.inj ht0
    obtain ⟨f1,u,v,rfl,hn,h1⟩:=iface_of_trod hi hd0
    refine ⟨_,hv0,by rw [hT]; rfl,fun o x hx=>?_⟩
    rw [hT] at hx
    match o,hx with
    | 0,hx =>
     obtain rfl:=Option.some.inj hx
     exact ⟨_,rfl,.inr ⟨u,v,rfl⟩⟩
    | o+1,hx=>cases hx
   ·cases hf
  ·cases hf
 ·cases hf
def tabFits (P:Program) (n:String) (k:IntKind):Bool:=match P.globalNamed n with
 | some g=>match P.globals[g]? with
  | some gl=>match P.underlying gl.type with
   | some (.array m e)=>match P.underlying e with
    | some (.int k')=>decide (k' = k) && (P.cellsOf e==1 && P.cellsOf gl.type==m)
    | _=>false
   | _=>false
  | none=>false
 | none=>false
theorem tabIs_laid {P:Program} {n:String} {k:IntKind} {zs:List Int} {rest:List (String × DataW Unit)} {W:World} (h:tabFits P n k=true) (hL:laidMet P ((n,Lib.tabData k zs)::rest) W):Lib.TabIs P W n k zs:=by
 unfold tabFits at h
 split at h
 ·rename_i g hg
  split at h
  ·rename_i gl hgl
   split at h
   ·rename_i m e ht
    split at h
    ·rename_i k' he
     simp only [Bool.and_eq_true,decide_eq_true_eq,beq_iff_eq] at h
     obtain ⟨rfl,h1,h2⟩:=h
     exact Lib.tabIs_of_head hg (by rw [hgl]; rfl) ht he h1 h2 hL
    ·cases h
   ·cases h
  ·cases h
 ·cases h
end Go.Ev

/- Policies that come in: lemmas,no condition. -/
namespace Go.Ev
open Go Go.Proofs
set_option maxRecDepth 100000
theorem int_wfY {k:IntKind} {n:Int} (h:wfV (.int k n)=true):k.min≤n∧n≤k.max:=by
 unfold wfV Lit.wf at h
 simp at h
 exact h
theorem place_wf {x:HPlace} (h:wfL (cPlace.enc x)=true):okPl x=true:=by
 have h:cond (wfV (.str x.name)) (cond (wfV (.int .u8 x.label.level)) (cond (wfV (.int .u32 x.label.set)) (wfL [V.int .i64 x.bytes,V.int .u64 x.base]) false) false) false=true:=h
 obtain ⟨_,h⟩:=bcond h
 obtain ⟨h1,h⟩:=bcond h
 obtain ⟨h2,_⟩:=bcond h
 obtain ⟨a1,a2⟩:=int_wfY h1
 obtain ⟨b1,b2⟩:=int_wfY h2
 have e1:IntKind.u8.min=0:=rfl
 have e2:IntKind.u8.max=255:=rfl
 have e3:IntKind.u32.min=0:=rfl
 have e4:IntKind.u32.max=4294967295:=rfl
 unfold okPl
 rw [ile_t (by omega),ile_t (by omega),ile_t (by omega),ilt_t (by omega)]; rfl
theorem places_wfR:∀ l:List HPlace,wfRs (l.map cPlace.enc)=true→l.all okPl=true
 | [],_=>rfl
 | p::r,h=>by
  have h:cond (wfL (cPlace.enc p)) (wfRs (r.map cPlace.enc)) false=true:=h
  obtain ⟨h1,h2⟩:=bcond h
  rw [List.all_cons,place_wf h1,places_wfR r h2]; rfl
theorem policy_wf {p:HPolicy} (h:wfL (cPolicy.enc p)=true):p.places.all okPl=true:=by
 have h:cond (wfV (.int .i64 p.work)) (cond (wfV (.int .i64 p.give)) (cond (cond (Nat.ble (p.places.map cPlace.enc).length 9223372036854775807) (cond (fitsRows cPlace.sh (p.places.map cPlace.enc)) (wfRs (p.places.map cPlace.enc)) false) false) (wfL [V.slc [.int .i64] (p.slots.map (rInt .i64).enc),V.slc [.int .i64,.int .i64,.int .i64] (p.grants.map cGrant.enc)]) false) false) false=true:=h
 obtain ⟨_,h⟩:=bcond h
 obtain ⟨_,h⟩:=bcond h
 obtain ⟨h,_⟩:=bcond h
 obtain ⟨_,h⟩:=bcond h
 obtain ⟨_,h⟩:=bcond h
 exact places_wfR p.places h
theorem tick_wf {t:Int} (h:wfL ((rInt .u64).enc t)=true):cond (ile 0 t) (ilt t 18446744073709551616) false=true:=by
 have h:cond (wfV (.int .u64 t)) true false=true:=h
 obtain ⟨h,_⟩:=bcond h
 obtain ⟨a1,a2⟩:=int_wfY h
 have e1:IntKind.u64.min=0:=rfl
 have e2:IntKind.u64.max=18446744073709551615:=rfl
 rw [ile_t (by omega),ilt_t (by omega)]; rfl
theorem byte_wf {t:Int} (h:wfL ((rInt .u8).enc t)=true):cond (ile 0 t) (ile t 255) false=true:=by
 have h:cond (wfV (.int .u8 t)) true false=true:=h
 obtain ⟨h,_⟩:=bcond h
 obtain ⟨a1,a2⟩:=int_wfY h
 have e1:IntKind.u8.min=0:=rfl
 have e2:IntKind.u8.max=255:=rfl
 rw [ile_t (by omega),ile_t (by omega)]; rfl
theorem all_wf {p:HPolicy} {t s:Int} (h:wfL (cPolicy.enc p)=true) (k:wfL ((rInt .u64).enc t)=true) (l:wfL ((rInt .u8).enc s)=true):cond (p.places.all okPl) (cond (cond (ile 0 t) (ilt t 18446744073709551616) false) (cond (ile 0 s) (ile s 255) false) false) false=true:=by
 rw [policy_wf h,tick_wf k,byte_wf l]; rfl
end Go.Ev

/- What the policies' statements list holds at the start: lemmas,no condition. -/
namespace Go.Proofs.YtcfmdajabkjafaaGreatDoor
open Go.ChangeShapes Go.WideShapes Go.ChangeAt Go.RowKit Go.Ev
theorem laidTab5:(Rows.laid_internal_strconv_uint64pow10:DataW Unit)=Lib.tabData .u64 Lib.pow10Tab:=by kernel_rfl
theorem held5 {W:World} (hL:laidMetH Tryz.prog Rows.policyFlowsRow.laid W):Held Tryz.prog (oldI W) W:=by
 rw [MakeChecks.laidMetH_plain _ _ _ (by kernel_rfl)] at hL
 have h3:=laidMet.tail (laidMet.tail hL)
 have h5:=laidMet.tail (laidMet.tail h3)
 have h6:=laidMet.tail h5
 have h3 : laidMet Tryz.prog (("internal/strconv.uint64pow10", Rows.laid_internal_strconv_uint64pow10) :: _) W := h3
 rw [laidTab5] at h3
 refine held_vars (ns := ["internal/strconv.uint64pow10", "strconv.ErrRange", "strconv.ErrSyntax"]) (by kernel_rfl) fun n hn => ?_
 rcases List.mem_cons.1 hn with rfl | hn
 ·exact varOk_tab (zs:=Lib.pow10Tab) (by kernel_rfl) (tabIs_laid (by kernel_rfl) h3)
 rcases List.mem_cons.1 hn with rfl | hn
 ·exact varOk_err h5 (by kernel_rfl) (by kernel_rfl)
 rcases List.mem_cons.1 hn with rfl | hn
 ·exact varOk_err h6 (by kernel_rfl) (by kernel_rfl)
 ·cases hn
end Go.Proofs.YtcfmdajabkjafaaGreatDoor

/- The library's text builder in this program,and the function that writes a number's bytes with it: lemmas,no condition but the text's length. -/
namespace Go.Ev
open Go Go.Proofs Go.RowKit Go.Shelf
theorem bSize:(Tryz.prog.info? 91).map (·.size)=some 2:=by kernel_rfl
theorem bLies:liesAt Tryz.prog Tryz.prog.depth 91 (2 / Tryz.prog.cellsOf 91) 0 91 1=true:=by kernel_rfl
theorem bByte:(Tryz.prog.info? 5).map (fun i=>(i.zero,i.size,i.bytes))=some (some (.int .u8 0),1,1):=by kernel_rfl
set_option maxHeartbeats 1000000 in
set_option maxRecDepth 100000 in
theorem cc_used (b : Nat) (w : World) (h0 : w.cell? ⟨b, 0, none⟩ = some (.pointer (some ⟨b, 0, none⟩))) :
    Calls Tryz.prog 82 #[.pointer (some ⟨b, 0, none⟩)] w fun e w' => e = .returned (.tuple #[]) ∧ w' = w := by
  obtain ⟨j, hj, _⟩ := Option.map_eq_some_iff.1 bSize
  go_enter Tryz.func82, Tryz.ntmps82
  go_wp2
  rw [Lib.run_neq_ptr_same w _ Tryz.underlying88 hj]
  go_wp2
  go_end0
  exact ⟨rfl, rfl⟩
set_option maxHeartbeats 1000000 in
set_option maxRecDepth 100000 in
theorem cc_fresh (b : Nat) (w : World) (h0 : w.cell? ⟨b, 0, none⟩ = some (.pointer none)) (hsh : w.shape? b = some (91, 2)) (hfz : w.frozen? ⟨b, 0, none⟩ = false) :
    Calls Tryz.prog 82 #[.pointer (some ⟨b, 0, none⟩)] w fun e w' => e = .returned (.tuple #[]) ∧ w' = w.setCell ⟨b, 0, none⟩ (.pointer (some ⟨b, 0, none⟩)) := by
  obtain ⟨j, hj, hjs⟩ := Option.map_eq_some_iff.1 bSize
  go_enter Tryz.func82, Tryz.ntmps82
  go_wp2
  rw [Lib.run_to_unsafe w ⟨b, 0, none⟩ Tryz.underlying88 Tryz.underlying142 hj (by rw [hjs]; decide) hsh (Nat.zero_lt_succ 1)]
  simp only [Result.andThen]
  rw [Oper.upon_value]
  go_wp2
  rw [run_callFunc_extern Tryz.func100 (by kernel_rfl) (by kernel_rfl) (by kernel_rfl) (e := Extern.AbiNoEscape.same) (by kernel_rfl)]
  rw [Lib.run_noEscape]
  simp only [Result.andThen]
  rw [Oper.upon_value]
  go_wp2
  rw [Lib.run_from_unsafe w ⟨b, 0, none⟩ Tryz.underlying142 Tryz.underlying88 hj hsh bLies]
  simp only [Result.andThen]
  rw [Oper.upon_value]
  go_wp2
  go_end0
  exact ⟨rfl, rfl⟩
theorem cc (B b:Nat) (bs:List Value) (w:World) (h:Lib.IsBuilder 91 5 B b bs w) :
  Calls Tryz.prog 82 #[.pointer (some ⟨b,0,none⟩)] w fun e w'=>e = .returned (.tuple #[])∧(Lib.BuilderAt 91 5 B b (.pointer (some ⟨b,0,none⟩)) bs w'∧Below B w w'):=by
 rcases h with h | h
 ·refine (cc_fresh b w h.cell0 h.shape h.frozen0).mono ?_
  rintro e w' ⟨rfl,rfl⟩
  exact ⟨rfl,h.used _,(Below.refl B w).setCell (p:=⟨b,0,none⟩) h.1 _⟩
 ·refine (cc_used b w h.cell0).mono ?_
  rintro e w' ⟨rfl,rfl⟩
  exact ⟨rfl,h,Below.refl B _⟩
set_option maxHeartbeats 2000000 in
set_option maxRecDepth 100000 in
theorem writeByte (B b : Nat) (bs : List Value) (c : Int) (w : World) (h : Lib.IsBuilder 91 5 B b bs w) (hlen : bs.length + 1 ≤ 140737488355328) (hBw : B ≤ w.heap.size) :
    Calls Tryz.prog 141 #[.pointer (some ⟨b, 0, none⟩), .int .u8 c] w fun e w' => e = .returned .nilIface ∧ (Lib.BuilderAt 91 5 B b (.pointer (some ⟨b, 0, none⟩)) (bs ++ [.int .u8 c]) w' ∧ Below B w w') := by
  obtain ⟨i0, hi, hz0, hz1, hz2⟩ := info_parts bByte
  go_enter Tryz.func141, Tryz.ntmps141
  go_wp2_with (go_at_call 82; refine (cc B b bs _ h).mono ?_)
  rintro e w1 ⟨rfl, h1, hb1⟩
  obtain ⟨hB, v, hbk, hown, hne⟩ := h1
  have c0 : w1.cell? ⟨b, 0, none⟩ = some (.pointer (some ⟨b, 0, none⟩)) := by rw [Lib.cell_of_heap hbk]; rfl
  have c1 : w1.cell? ⟨b, 1, none⟩ = some v := by rw [Lib.cell_of_heap hbk]; rfl
  go_wp2_with (at_builtin; refine wpList_append_own _ rfl _ _ 89 rfl B 5 i0 (.int .u8 0) 1 1 Tryz.underlying89 hi hz0 hz1 hz2 rfl (by decide) _ _ _ rfl (hown.alloc _) ⟨w1.heap.size, 0, none⟩ 1 1 [.int .u8 c] rfl rfl ?c1 ?c2 ?c3 ?c4 ?c5 ?_)
  case c1 =>
    intro j u hj
    match j, hj with
    | 0, hj => simp at hj; subst hj; simp [Addr.add]
  case c2 => intro u hu; simp at hu; subst hu; rfl
  case c3 => unfold maxLen; omega
  case c4 => omega
  case c5 => have := hb1.size; simp; omega
  intro v' w2 hown' hgrow _
  have hlt : b < w1.heap.size := by
    rcases Nat.lt_or_ge b w1.heap.size with h' | h'
    · exact h'
    · simp [Array.getElem?_eq_none h'] at hbk
  have hb2 : w2.heap[b]? = some (.cells #[.pointer (some ⟨b, 0, none⟩), v] 91 (0, 0)) := by
    rw [hgrow.block b (by simp; omega) (fun e => hne e.symm), Lib.alloc_old w1 _ b hlt]
    exact hbk
  have d0 : w2.cell? ⟨b, 0, none⟩ = some (.pointer (some ⟨b, 0, none⟩)) := by rw [Lib.cell_of_heap hb2]; rfl
  have d1 : w2.cell? ⟨b, 1, none⟩ = some v := by rw [Lib.cell_of_heap hb2]; rfl
  have f1 : w2.frozen? ⟨b, 1, none⟩ = false := Lib.frozen_of_heap hb2 1
  obtain ⟨g, cap, rfl⟩ : ∃ g cap, v' = .slice (some ⟨g, 0, none⟩) (bs.length + 1) cap := by
    rcases hown'.2 with ⟨_, h0⟩ | ⟨g, cap, cur, hv, _⟩
    · omega
    · exact ⟨g, cap, hv⟩
  go_wp2
  go_ret
  refine ⟨rfl, ?_, ?_⟩
  · exact Lib.BuilderAt.put (T := 91) (e := 5) hB hb2 (bs' := bs ++ [.int .u8 c]) (by simpa using hown') (by decide)
  · exact ((hb1.alloc (by have := hb1.size; omega) _).grown hgrow (by have := hb1.size; simp; omega) (fun k hk => (hown.lt k hk).1)).setCell (p := ⟨b, 1, none⟩) hB _
def lays169_ren:Go.Shelf.Ren:=⟨fun | 169=>57 | n=>n,fun | 70=>88 | 9=>9 | 0=>0 | 72=>91 | 37=>89 | 127=>123 | 3=>3 | 5=>5 | n=>n,fun | n=>n⟩
theorem lays169:Go.Proofs.Lays.n169 Tryz.prog lays169_ren:={
 mixed:=by kernel_rfl
 f169:=Tryz.func57.trans (congrArg some (by kernel_rfl))
 t0:=Tryz.underlying0
 a0:=Tryz.isAgg0
 z0:=Tryz.sizeOf0
 v0:=Tryz.zeroValue0
 t3:=Tryz.underlying3
 a3:=Tryz.isAgg3
 z3:=Tryz.sizeOf3
 v3:=Tryz.zeroValue3
 t9:=Tryz.underlying9
 a9:=Tryz.isAgg9
 z9:=Tryz.sizeOf9
 v9:=Tryz.zeroValue9
 t37:=Tryz.underlying89
 a37:=Tryz.isAgg89
 z37:=Tryz.sizeOf89
 v37:=Tryz.zeroValue89
 t70:=Tryz.underlying88
 a70:=Tryz.isAgg88
 z70:=Tryz.sizeOf88
 v70:=Tryz.zeroValue88
 t72:=Tryz.underlying91
 a72:=Tryz.isAgg91
 z72:=Tryz.sizeOf91
 v72:=Tryz.zeroValue91
 t127:=Tryz.underlying123
 a127:=Tryz.isAgg123
 z127:=Tryz.sizeOf123
 v127:=Tryz.zeroValue123 }
theorem extra169:Builder.Extra Tryz.prog lays169_ren:={
 sizeBuilder:=by kernel_rfl
 liesBuilder:=by kernel_rfl
 t5:=Tryz.underlying5
 a5:=Tryz.isAgg5
 z5:=Tryz.sizeOf5
 v5:=Tryz.zeroValue5
 infoByte:=by kernel_rfl
 cellsByte:=by kernel_rfl
 sizeByte:=by kernel_rfl
 neB5:=by decide }
theorem bString (B b:Nat) (l:List UInt8) (w:World) (h:Lib.IsBuilder 91 5 B b (Lib.byteCells l) w) (hBw:B≤w.heap.size) :
  Calls Tryz.prog 57 #[.pointer (some ⟨b,0,none⟩)] w fun e w'=>e = .returned (.string ⟨l.toArray⟩)∧Below B w w':=Any.Builder_String_any lays169 extra169 B b l w h hBw
end Go.Ev

/- The function that writes a number's bytes: its walk. -/
namespace Go.Ev
open Go Go.Proofs Go.RowKit Go.Shelf
theorem clamp_eq {bytes:Int}:min (max bytes 0) 8=(N.clamp bytes:Int)∧N.clamp bytes≤8:=by
 unfold N.clamp
 rw [ilt_eq,ilt_eq]
 by_cases h1:0<bytes
 ·by_cases h2:8<bytes
  ·simp [h1,h2]; omega
  ·simp [h1,h2]; omega
 ·simp [h1]; omega
theorem two_blocks {w wr:World} {o1 o2:Obj} (h:Below (w.heap.size+1+1) ((w.alloc o1).alloc o2) wr):wr.heap[w.heap.size]? = some o1∧wr.heap[w.heap.size+1]? = some o2:=by
 have e:(w.alloc o1).heap.size=w.heap.size+1:=by simp
 refine ⟨?_,?_⟩
 ·rw [h.block _ (by omega),Below.heap_alloc _ _ _ (by omega)]; exact Go.heap_alloc_new w o1
 ·rw [h.block _ (by omega),← e]; exact Go.heap_alloc_new _ o2
set_option maxHeartbeats 4000000 in
set_option maxRecDepth 1000000 in
theorem outNum_walk (s : ByteArray) (er n bytes : Int) (w : World) (hs : (s.size : Int) ≤ 9223372036854775799) :
    Calls Tryz.prog 127 #[.agg #[.string s, .int .i64 er], .int .u64 n, .int .i64 bytes] w fun e w' =>
      e = .returned (.agg #[.string ⟨(s.data.toList ++ N.numB n (N.clamp bytes)).toArray⟩, .int .i64 er]) ∧ Below w.heap.size w w' := by
  go_enter Tryz.func127, Tryz.ntmps127
  go_wp2
  go_loopw [8] (fun i wr => ∃ (k : Int) (acc : List UInt8), i = .int .i64 k ∧ Lib.IsBuilder 91 5 (w.heap.size + 1 + 1) (w.heap.size + 1 + 1) (Lib.byteCells acc) wr ∧
      Below (w.heap.size + 1 + 1) ((w.alloc (Obj.cells #[Value.string s, Value.int IntKind.i64 er] 168)).alloc (Obj.cells #[Value.string { data := #[] }, Value.int IntKind.i64 0] 168)) wr ∧
      -1 ≤ k ∧ acc ++ N.numB n (k + 1).toNat = N.numB n (N.clamp bytes) ∧ acc.length + (k + 1).toNat ≤ 8) (fun i _ => (RowKit.intOf i + 1).toNat)
  case atStart =>
    obtain ⟨hcl, hc8⟩ := clamp_eq (bytes := bytes)
    have hf := Lib.fresh_isBuilder 91 5 ((w.alloc (Obj.cells #[Value.string s, Value.int IntKind.i64 er] 168)).alloc (Obj.cells #[Value.string { data := #[] }, Value.int IntKind.i64 0] 168))
    have e0 : ((w.alloc (Obj.cells #[Value.string s, Value.int IntKind.i64 er] 168)).alloc (Obj.cells #[Value.string { data := #[] }, Value.int IntKind.i64 0] 168)).heap.size = w.heap.size + 1 + 1 := by simp
    rw [e0] at hf
    refine ⟨(N.clamp bytes : Int) - 1, [], by rw [hcl], hf, (Below.refl _ _).alloc (by simp) _, by omega, ?_, ?_⟩
    · rw [show ((N.clamp bytes : Int) - 1 + 1).toNat = N.clamp bytes by omega]; rfl
    · simp only [List.length_nil]; omega
  case round =>
    obtain ⟨k, acc, rfl, hI, hB, hk, hacc, hal⟩ := hrel
    by_cases hk0 : 0 ≤ k
    · go_wp2_with (go_at_call 141; refine (writeByte (w.heap.size + 1 + 1) (w.heap.size + 1 + 1) _ _ _ hI (by rw [Lib.byteCells_length]; omega) (by have := hB.size; simp at this; omega)).mono ?_)
      rintro e w1 ⟨rfl, h1, b1⟩
      go_wp2
      go_roundw
      case rel =>
        have e1 : N.numB n (k + 1).toNat = UInt8.ofNat ((n / 2 ^ (8 * k.toNat)) % 256).toNat :: N.numB n k.toNat := by
          rw [show (k + 1).toNat = k.toNat + 1 by omega]; rfl
        have e2 : ((UInt8.ofNat ((n / 2 ^ (8 * k.toNat)) % 256).toNat).toNat : Int) = n / 2 ^ (8 * k).toNat % 256 := by
          rw [show (8 * k).toNat = 8 * k.toNat by omega]
          have h0 : 0 ≤ (n / 2 ^ (8 * k.toNat)) % 256 := Int.emod_nonneg _ (by decide)
          have h1 : (n / 2 ^ (8 * k.toNat)) % 256 < 256 := Int.emod_lt_of_pos _ (by decide)
          have h2 : (UInt8.ofNat ((n / 2 ^ (8 * k.toNat)) % 256).toNat).toNat = ((n / 2 ^ (8 * k.toNat)) % 256).toNat := UInt8.toNat_ofNat_of_lt' (by
            show ((n / 2 ^ (8 * k.toNat)) % 256).toNat < 256
            omega)
          rw [h2]; omega
        refine ⟨k - 1, acc ++ [UInt8.ofNat ((n / 2 ^ (8 * k.toNat)) % 256).toNat], rfl, ?_, hB.trans b1, by omega, ?_, ?_⟩
        · rw [Lib.byteCells_append]
          have e3 : Lib.byteCells [UInt8.ofNat ((n / 2 ^ (8 * k.toNat)) % 256).toNat] = [Value.int .u8 (n / 2 ^ (8 * k).toNat % 256)] := by
            rw [← e2]; rfl
          rw [e3]; exact Or.inr h1
        · rw [e1] at hacc
          rw [← hacc, show (k - 1 + 1).toNat = k.toNat by omega, List.append_assoc]; rfl
        · rw [List.length_append]; simp only [List.length_cons, List.length_nil]; omega
      case measure => simp [RowKit.intOf]; omega
    · have hk1 : k = -1 := by omega
      subst hk1
      have hfin : N.numB n (N.clamp bytes) = acc := by rw [← hacc]; show acc ++ [] = acc; simp
      have hal : acc.length ≤ 8 := by omega
      clear hacc
      rw [hfin]
      obtain ⟨hb0, hb1⟩ := two_blocks hB
      have c0 : wr.cell? ⟨w.heap.size, 0, none⟩ = some (.string s) := by rw [Lib.cell_of_heap hb0]; rfl
      have c1 : wr.cell? ⟨w.heap.size, 1, none⟩ = some (.int .i64 er) := by rw [Lib.cell_of_heap hb0]; rfl
      have c2 : wr.cell? ⟨w.heap.size + 1, 0, none⟩ = some (.string ⟨#[]⟩) := by rw [Lib.cell_of_heap hb1]; rfl
      have c3 : wr.cell? ⟨w.heap.size + 1, 1, none⟩ = some (.int .i64 0) := by rw [Lib.cell_of_heap hb1]; rfl
      have f0 : wr.frozen? ⟨w.heap.size, 0, none⟩ = false := Lib.frozen_of_heap hb0 0
      have f1 : wr.frozen? ⟨w.heap.size, 1, none⟩ = false := Lib.frozen_of_heap hb0 1
      have f2 : wr.frozen? ⟨w.heap.size + 1, 0, none⟩ = false := Lib.frozen_of_heap hb1 0
      have f3 : wr.frozen? ⟨w.heap.size + 1, 1, none⟩ = false := Lib.frozen_of_heap hb1 1
      have hBw : w.heap.size + 1 + 1 ≤ wr.heap.size := by have := hB.size; simp at this; omega
      have hadd : ¬ 9223372036854775807 < s.size + acc.length := by omega
      have hadd2 : ¬ 9223372036854775807 < s.size + (⟨acc.toArray⟩ : ByteArray).size := by
        show ¬ 9223372036854775807 < s.size + acc.toArray.size
        rw [List.size_toArray]; exact hadd
      have hadd3 : ¬ (s.size + (⟨acc.toArray⟩ : ByteArray).size > 9223372036854775807) := hadd2
      have hadd4 : s.size + (⟨acc.toArray⟩ : ByteArray).size ≤ 9223372036854775807 := Nat.not_lt.1 hadd2
      have hadd5 : s.size + acc.length ≤ 9223372036854775807 := Nat.not_lt.1 hadd
      go_wp2
      go_region_with (go_at_call 57; refine (bString (w.heap.size + 1 + 1) (w.heap.size + 1 + 1) acc _ (by exact hI) (by exact hBw)).mono ?_; rintro e w2 ⟨rfl, b2⟩
                      have d0 : w2.cell? ⟨w.heap.size, 0, none⟩ = some (.string s) := by rw [b2.cell (by show w.heap.size < w.heap.size + 1 + 1; omega)]; exact c0
                      have d1 : w2.cell? ⟨w.heap.size, 1, none⟩ = some (.int .i64 er) := by rw [b2.cell (by show w.heap.size < w.heap.size + 1 + 1; omega)]; exact c1
                      have d2 : w2.cell? ⟨w.heap.size + 1, 0, none⟩ = some (.string ⟨#[]⟩) := by rw [b2.cell (by show w.heap.size + 1 < w.heap.size + 1 + 1; omega)]; exact c2
                      have d3 : w2.cell? ⟨w.heap.size + 1, 1, none⟩ = some (.int .i64 0) := by rw [b2.cell (by show w.heap.size + 1 < w.heap.size + 1 + 1; omega)]; exact c3
                      have e0 : w2.frozen? ⟨w.heap.size, 0, none⟩ = false := by rw [b2.frozen (by show w.heap.size < w.heap.size + 1 + 1; omega)]; exact f0
                      have e1 : w2.frozen? ⟨w.heap.size, 1, none⟩ = false := by rw [b2.frozen (by show w.heap.size < w.heap.size + 1 + 1; omega)]; exact f1
                      have e2 : w2.frozen? ⟨w.heap.size + 1, 0, none⟩ = false := by rw [b2.frozen (by show w.heap.size + 1 < w.heap.size + 1 + 1; omega)]; exact f2
                      have e3 : w2.frozen? ⟨w.heap.size + 1, 1, none⟩ = false := by rw [b2.frozen (by show w.heap.size + 1 < w.heap.size + 1 + 1; omega)]; exact f3)
      all_goals go_wp2
      all_goals
        refine ⟨rfl, .agg #[.string (s ++ ⟨acc.toArray⟩), .int .i64 er], ?_, ?_, ?_⟩
        · simp [results, Tryz.results127, go_sem, d2, d3]
        · rw [hfin, ← bytes_append]
        · have b0 : Below w.heap.size w wr := (((Below.refl _ w).alloc (Nat.le_refl _) _).alloc (by simp) _).trans (hB.mono (by omega))
          exact (((b0.drew.trans (b2.mono (by omega))).setCell (p := ⟨w.heap.size, 0, none⟩) (Nat.le_refl _) _).setCell (p := ⟨w.heap.size + 1, 0, none⟩) (Nat.le_succ _) _).setCell (p := ⟨w.heap.size + 1, 1, none⟩) (Nat.le_succ _) _
theorem keeps_below {w w' : World} (X:Nat→Nat→Prop) (h:Below w.heap.size w w'):Keeps X w w' :=
 ⟨h.os,h.tape,h.output,h.size,fun b hb=>ObjOk.same (h.block b hb)⟩
theorem outNum_ok:FnOk Tryz.prog 127 dOutNum:=by
 refine den_of fun a b hp=>?_
 obtain ⟨o,n,bytes⟩:=a
 intro x y hxy w J locs xs hlen hJ hx _ _ _
 have hxy:x=(aCons (vAgg cOut) (aCons (vInt .u64) (aOne (vInt .i64)))).enc (o,n,bytes)∧y=bNil.enc b:=by simpa using hxy
 obtain ⟨rfl,rfl⟩:=hxy
 have hlen:locs=[]:=List.eq_nil_of_length_eq_zero hlen
 subst hlen
 obtain ⟨hp1,hp⟩:=bcond hp
 obtain ⟨hp2,hp3⟩:=bcond hp
 have hp3:o.s.length≤9223372036854775799:=Nat.le_of_ble_eq_true hp3
 obtain ⟨x0,xs1,rfl,hx0,hx⟩:=hx.uncons
 obtain ⟨x1,xs2,rfl,hx1,hx⟩:=hx.uncons
 obtain ⟨x2,rfl,hx2⟩:=hx.one
 obtain ⟨cs,rfl,hc1,hc2⟩:=Rv.agg_inv (show Rv w J _ (.agg [.str o.s,.int .i64 o.err]) x0 from hx0)
 have hx1:=Rv.int_inv (show Rv w J _ (.int .u64 n) x1 from hx1)
 have hx2:=Rv.int_inv (show Rv w J _ (.int .i64 bytes) x2 from hx2)
 subst hx1 hx2
 match cs,hc1,hc2 with
 | [c0,c1],_,hc2 =>
  have h0:=Rv.str_inv (show Rv w J _ (.str o.s) c0 from hc2 0 (by simp))
  have h1:=Rv.int_inv (show Rv w J _ (.int .i64 o.err) c1 from hc2 1 (by simp))
  subst h0 h1
  refine .inl ⟨?_,?_⟩
  ·have hnm : ¬ (Tryz.f127).name = "runtime.NumGoroutine" := by
    intro e
    have : ((Tryz.f127).name == "runtime.NumGoroutine") = false := by kernel_rfl
    rw [e] at this; cases this
   obtain ⟨c,hc⟩:=Option.isSome_iff_exists.1 (show (Tryz.f127).body.isSome=true by kernel_rfl)
   simp [callFunc,Tryz.func127,hnm,hc]
  ·refine (outNum_walk ⟨o.s.toArray⟩ o.err n bytes w (by rw [bytes_size]; omega)).mono fun e w' ⟨he,hb⟩=>⟨_,he,J,?_⟩
   refine ⟨keeps_below _ hb,fun _ _ h=>h,fun b o' h=>Nat.lt_of_lt_of_le (hJ b o' h) hb.size,fun _ _ h _=>h,rfl,(fun j cs cs' p hj=>by cases hj),.inl ⟨rfl,?_⟩⟩
   refine .agg [.str (N.outNum o n bytes).s,.int .i64 (N.outNum o n bytes).err] [.string ⟨(o.s++N.numB n (N.clamp bytes)).toArray⟩,.int .i64 o.err] rfl fun i hi=>?_
   match i,hi with
   | 0,_=>exact .dat (.str _)
   | 1,_=>exact .dat (.int _ _)
end Go.Ev
