/- Policies that may be: where things flow: definitions and lemmas,no condition. -/
import Derived.Test.YtcfmdajabkjafaaGreatDoorGg
import Derived.Test.YtcfmdajabkjafaaGreatDoorGe
import Derived.CallsIn
import Derived.Lib.ItoaNum
import Derived.Deep.RegionHeld3
import Derived.Test.YtcfmdajabkjafaaGreatDoorGc
import Derived.Stop.LaidErr
import Derived.MakeChecks
import Derived.Lib.LaidTab
import Derived.Test.YtcfmdajabkjafaaGreatDoorRows
namespace Go.Ev
open Go Go.Proofs
set_option maxRecDepth 100000
theorem errFrom_zero (f:Nat→Int):∀ (k i:Nat) (e:Int),N.errFrom f k i e=0→e=0∧∀ j,i≤j→j<i+k→f j=0
 | 0,i,e,h=>⟨h,fun j h1 h2=>by omega⟩
 | k+1,i,e,h=>by
  have h:cond (e==0) (N.errFrom f k (i+1) (f i)) e=0:=h
  cases he:e==0 with
  | false=>rw [he] at h; exact absurd h (by simpa using he)
  | true =>
   rw [he] at h
   obtain ⟨h1,h2⟩:=errFrom_zero f k (i+1) (f i) h
   refine ⟨by simpa using he,fun j a b=>?_⟩
   by_cases hj:j=i
   ·subst hj; exact h1
   ·exact h2 j (by omega) (by omega)
theorem or3_zero {a b c:Int} (h:N.or3 [a,b,c]=0):a=0∧b=0∧c=0:=by
 have h:cond (a != 0) a (cond (b != 0) b (cond (c != 0) c 0))=0:=h
 cases ha:a != 0 with
 | true=>rw [ha] at h; exact absurd h (by simpa using ha)
 | false =>
  cases hb:b != 0 with
  | true=>rw [ha,hb] at h; exact absurd h (by simpa using hb)
  | false =>
   cases hc:c != 0 with
   | true=>rw [ha,hb,hc] at h; exact absurd h (by simpa using hc)
   | false=>exact ⟨by simpa using ha,by simpa using hb,by simpa using hc⟩
theorem checkP_zero {p:HPolicy} (h:N.checkP p=0):(N.within p.work 1 16=true∧N.within p.give 1 16=true)∧N.placesE p=0∧N.slotsE p=0∧N.grantsE p=0∧N.lacks p p.places.length 0=0:=by
 unfold N.checkP at h
 cases hw:cond (N.within p.work 1 16) (N.within p.give 1 16) false with
 | false=>rw [hw] at h; cases h
 | true =>
  rw [hw] at h
  cases ho:N.or3 [N.placesE p,N.slotsE p,N.grantsE p] != 0 with
  | true=>rw [ho] at h; exact absurd h (by simpa using ho)
  | false =>
   rw [ho] at h
   obtain ⟨a,b,c⟩:=or3_zero (by simpa using ho)
   exact ⟨bcond hw,a,b,c,h⟩
theorem placeE_zero {x:HPlace} {l:List HPlace} (h:N.placeE x l=0):N.name x.name=0∧N.right x.label=true∧N.within x.bytes 0 65536=true∧(x.base==0)=false∧l.any (N.twiceP x)=false:=by
 unfold N.placeE at h
 cases h1:N.name x.name != 0 with
 | true=>rw [h1] at h; exact absurd h (by simpa using h1)
 | false =>
  rw [h1] at h
  cases h2:cond (N.right x.label) (cond (N.within x.bytes 0 65536) (!(x.base==0)) false) false with
  | false=>rw [h2] at h; cases h
  | true =>
   rw [h2] at h
   cases h3:l.any (N.twiceP x) with
   | true=>rw [h3] at h; cases h
   | false =>
    obtain ⟨a,b⟩:=bcond h2
    obtain ⟨b,c⟩:=bcond b
    exact ⟨by simpa using h1,a,b,by simpa using c,rfl⟩
theorem grantE_zero {p:HPolicy} {x:HGrant} {l:List HGrant} (h:N.grantE p x l=0):(N.there p x.src=true∧N.there p x.dst=true)∧N.under (N.plAt p x.src).label (N.plAt p x.dst).label=false∧N.within x.budget 0 16=true∧l.any (N.isGr x.src x.dst)=false:=by
 unfold N.grantE at h
 cases h1:cond (N.there p x.src) (N.there p x.dst) false with
 | false=>rw [h1] at h; cases h
 | true =>
  rw [h1] at h
  cases h2:N.under (N.plAt p x.src).label (N.plAt p x.dst).label with
  | true=>rw [h2] at h; cases h
  | false =>
   rw [h2] at h
   cases h3:N.within x.budget 0 16 with
   | false=>rw [h3] at h; cases h
   | true =>
    rw [h3] at h
    cases h4:l.any (N.isGr x.src x.dst) with
    | true=>rw [h4] at h; cases h
    | false=>exact ⟨bcond h1,rfl,rfl,rfl⟩
theorem plF_zero {p:HPolicy} (h:N.placesE p=0) {i:Nat} (hi:i<p.places.length):N.plF p i=0 :=
 (errFrom_zero _ _ _ _ h).2 i (Nat.zero_le _) (by omega)
theorem slF_zero {p:HPolicy} (h:N.slotsE p=0) {i:Nat} (hi:i<p.slots.length):N.slF p i=0 :=
 (errFrom_zero _ _ _ _ h).2 i (Nat.zero_le _) (by omega)
theorem grF_zero {p:HPolicy} (h:N.grantsE p=0) {i:Nat} (hi:i<p.grants.length):N.grF p i=0 :=
 (errFrom_zero _ _ _ _ h).2 i (Nat.zero_le _) (by omega)
end Go.Ev

/- The program's forms of words answer what the plain ones do: lemmas,no condition. -/
namespace Go.Ev
open Go Go.Proofs
set_option maxRecDepth 100000
def schRefName:SSch:={ fr:=[(0,.str),(3,.int .i64)],tab:=[] }
def gRefName:List Leaf→(Ex→St→Option R)→Option R
 | [.s s0,.i i3],K=>cond (ile 0 i3) (cond (Nat.ble s0.length LIM) (cond (N.plain (s0.drop i3.toNat)) (K (.exit 0) { fr:=[],tab:=[] }) (K .ret { fr:=[(2,.int .i64 4)],tab:=[] })) none) none
 | _,_=>none
noncomputable def eRefName:Env:=env Tryz.prog [(81,dLetter)] [(6,loopF schRefName gRefName)] [(6,[(0,[0,3]),(1,[]),(1000,[2])])]
theorem q_refName (s:Bytes):evFn eRefName 50 ((aOne vStr).enc s) ([]) some =
 cond ((↑(List.length s):Int)==(0:Int)) (some {v:=V.int .i64 (15:Int),bx:=[]}) (cond (ilt (16:Int) (↑(List.length s):Int)) (some {v:=V.int .i64 (5:Int),bx:=[]}) (cond (Nat.ble (List.length s) 1000000) (cond (N.plain (List.drop 0 s)) (some {v:=V.int .i64 (0:Int),bx:=[]}) (some {v:=V.int .i64 (4:Int),bx:=[]})) (none))):=by kernel_rfl
theorem q_refNameR (s0:Bytes) (i3:Int) (K:Ex→St→Option R):evRound eRefName 50 6 { fr:=[(0,.str s0),(3,.int .i64 i3)],tab:=[] } K =
 cond (ilt i3 (↑(List.length s0):Int)) (cond (decide ((0:Int)≤i3∧i3<(↑(List.length s0):Int))) (cond (!N.letterI (↑(UInt8.toNat (List.getD s0 (Int.toNat i3) (0:UInt8))):Int)) (K Ex.ret {fr:=[(2,V.int .i64 (4:Int))],tab:=[]}) (K Ex.normal {fr:=[(0,V.str s0),(3,V.int .i64 (IntKind.wrap .i64 (i3+(1:Int))))],tab:=[]})) (none)) (K (Ex.exit 0) {fr:=[],tab:=[]}):=by kernel_rfl
theorem ok_refName:FnOk Tryz.prog 50 dName:=by
 refine den_okF (env_ok ((TOk.nil _).cons ok_letter)) (E:=eRefName) Tryz.func50 [6] (by kernel_rfl) (one1 (rounds_of rfl fun l K q h=>?_)) fun s _ h=>?_
 ·unfold gRefName at h
  split at h
  ·rename_i s i
   have h1:=(cond_none h).1; replace h:=(cond_none h).2; have h2:=(cond_none h).1; replace h:=(cond_none h).2
   have h2:s.length≤1000000:=ble_of h2
   refine loop_ind (E:=eRefName) (f:=50) (id:=6) (fun i:Int=>{ fr:=[(0,.str s),(3,.int .i64 i)],tab:=[] }) (fun i=>0≤i) (fun i=>s.length-i.toNat)
    (fun i K=>cond (N.plain (s.drop i.toNat)) (K (.exit 0) { fr:=[],tab:=[] }) (K .ret { fr:=[(2,.int .i64 4)],tab:=[] })) (fun i hi=>?_) i (ile_of h1) K q h
   by_cases hl:i<s.length
   ·rw [drop_byte (show i.toNat<s.length by omega),plain_cons]
    cases hc:N.letterI (s.getD i.toNat 0).toNat with
    | true =>
     refine .inl ⟨i+1,by omega,by omega,fun K=>?_,fun K=>?_⟩
     ·rw [q_refNameR]
      simp (disch:=omega) only [evs,hc,Bool.not_true]
     ·rw [cond_true,show (i+1).toNat=i.toNat+1 by omega]
    | false =>
     refine .inr ⟨.ret,{ fr:=[(2,.int .i64 4)],tab:=[] },by simp,fun K=>?_,fun K=>rfl⟩
     rw [q_refNameR]
     simp (disch:=omega) only [evs,hc,Bool.not_false]
   ·refine .inr ⟨.exit 0,{ fr:=[],tab:=[] },by simp,fun K=>?_,fun K=>?_⟩
    ·rw [q_refNameR]
     simp (disch:=omega) only [evs]
    ·rw [List.drop_eq_nil_of_le (by omega)]; rfl
  ·cases h
 ·refine (q_refName s).trans ?_
  show _=some (⟨.int .i64 (N.name s),[],[]⟩:DRes)
  unfold N.name
  cases s with
  | nil=>rfl
  | cons c r =>
   generalize hs:c::r=s at *
   have h0:(s==[])=false:=by rw [← hs]; rfl
   have h1:0<s.length:=by rw [← hs]; simp
   rw [h0]
   cases h:ilt 16 s.length with
   | true=>simp (disch:=omega) only [evs]
   | false =>
    have h:=ilt_nof h
    simp (disch:=omega) only [evs,List.drop_zero]
    cases N.plain s<;>rfl
end Go.Ev

/- Policies: Check,by the document: lemmas,no condition. -/
namespace Go.Ev
open Go Go.Proofs
set_option maxRecDepth 100000
theorem consN {p:Nat→Prop} {a:Nat} {l:List Nat} (h:p a) (k:∀ id∈l,p id):∀ id∈a::l,p id:=fun id hi=>by
 rcases List.mem_cons.1 hi with rfl | hi
 ·exact h
 ·exact k id hi
theorem ilt_not (a b:Int):ilt a b = !(ile b a):=by
 rw [ilt_eq,ile_eq]
 by_cases h:a<b
 ·rw [decide_eq_true h,decide_eq_false (by omega)]; rfl
 ·rw [decide_eq_false h,decide_eq_true (by omega)]; rfl
theorem place_key {α:Type} (x:HPlace) (l:List HPlace) (K1:Int→α) (K2:α) :
  cond (N.name x.name != 0) (K1 (N.name x.name)) (cond (ilt 15 x.label.level) (K1 7) (cond (ilt x.bytes 0) (K1 7) (cond (ilt 65536 x.bytes) (K1 7) (cond (x.base==0) (K1 7) (cond (l.any (N.twiceP x)) (K1 9) K2)))))=cond (N.placeE x l != 0) (K1 (N.placeE x l)) K2:=by
 have e:N.placeE x l=cond (N.name x.name != 0) (N.name x.name) (cond (cond (ile x.label.level 15) (cond (cond (ile 0 x.bytes) (ile x.bytes 65536) false) (!(x.base==0)) false) false) (cond (l.any (N.twiceP x)) 9 0) 7):=rfl
 rw [e]
 simp only [ilt_not]
 cases h1:N.name x.name != 0 with
 | true=>simp only [cond_true,h1]
 | false=>cases ile x.label.level 15<;>cases ile 0 x.bytes<;>cases ile x.bytes 65536<;>cases x.base==0<;>cases l.any (N.twiceP x)<;>rfl
theorem slot_key {α:Type} (n k:Int) (a b:α):cond (ilt k 0) a (cond (ile n k) a b)=cond (cond (cond (ilt k 0) true (ile n k)) (10:Int) 0 != 0) a b:=by
 cases ilt k 0<;>cases ile n k<;>rfl
theorem there_c (p:HPolicy) (k:Int):N.there p k=cond (ilt k 0) false (!(ile (p.places.length:Int) k)):=by
 have e:N.there p k=cond (ile 0 k) (ile k ((p.places.length:Int)-1)) false:=rfl
 have e2:ile k ((p.places.length:Int)-1) = !(ile (p.places.length:Int) k):=by
  rw [← ilt_not,ilt_eq,ile_eq]
  by_cases h:k<p.places.length
  ·rw [decide_eq_true h,decide_eq_true (by omega)]
  ·rw [decide_eq_false h,decide_eq_false (by omega)]
 rw [e,e2,ilt_not]
 cases ile 0 k<;>rfl
theorem grant_key {α:Type} (p:HPolicy) (x:HGrant) (l:List HGrant) (u:Bool) {n:Int} (hn:n=p.places.length) (hu:N.there p x.src=true→N.there p x.dst=true→u=N.under (N.plAt p x.src).label (N.plAt p x.dst).label) (K1:Int→Option α) (K2:Option α) :
  cond (ilt x.src 0) (K1 10) (cond (ile n x.src) (K1 10) (cond (ilt x.dst 0) (K1 10) (cond (ile n x.dst) (K1 10) (cond (decide ((0:Int)≤x.src∧x.src<p.places.length)) (cond (decide ((0:Int)≤x.dst∧x.dst<p.places.length)) (cond u (K1 11) (cond (ilt x.budget 0) (K1 7) (cond (ilt 16 x.budget) (K1 7) (cond (l.any (N.isGr x.src x.dst)) (K1 9) K2)))) none) none))))=cond (N.grantE p x l != 0) (K1 (N.grantE p x l)) K2:=by
 subst hn
 have e:N.grantE p x l=cond (cond (N.there p x.src) (N.there p x.dst) false) (cond (N.under (N.plAt p x.src).label (N.plAt p x.dst).label) 11 (cond (cond (ile 0 x.budget) (ile x.budget 16) false) (cond (l.any (N.isGr x.src x.dst)) 9 0) 7)) 10:=rfl
 rw [e]
 cases h1:N.there p x.src with
 | false =>
  have h1:=h1
  rw [there_c] at h1
  cases a1:ilt x.src 0 with
  | true=>rfl
  | false =>
   rw [a1] at h1
   cases a2:ile p.places.length x.src with
   | true=>rfl
   | false=>rw [a2] at h1; cases h1
 | true =>
  have g1:=there_of h1
  have h1':=h1
  rw [there_c] at h1'
  cases a1:ilt x.src 0 with
  | true=>rw [a1] at h1'; cases h1'
  | false =>
   rw [a1] at h1'
   cases a2:ile p.places.length x.src with
   | true=>rw [a2] at h1'; cases h1'
   | false =>
    cases h2:N.there p x.dst with
    | false =>
     have h2:=h2
     rw [there_c] at h2
     cases b1:ilt x.dst 0 with
     | true=>rfl
     | false =>
      rw [b1] at h2
      cases b2:ile p.places.length x.dst with
      | true=>rfl
      | false=>rw [b2] at h2; cases h2
    | true =>
     have g2:=there_of h2
     have h2':=h2
     rw [there_c] at h2'
     cases b1:ilt x.dst 0 with
     | true=>rw [b1] at h2'; cases h2'
     | false =>
      rw [b1] at h2'
      cases b2:ile p.places.length x.dst with
      | true=>rw [b2] at h2'; cases h2'
      | false =>
       rw [decide_eq_true g1,decide_eq_true g2,hu h1 h2]
       simp only [ilt_not]
       cases N.under (N.plAt p x.src).label (N.plAt p x.dst).label<;>cases ile 0 x.budget<;>cases ile x.budget 16<;>cases l.any (N.isGr x.src x.dst)<;>rfl
theorem and_true3 (a b:Bool):(a && (b && true))=cond a b false:=by cases a<;>cases b<;>rfl
theorem fold_plc (x:HPlace):(⟨x.name,⟨x.label.level,x.label.set⟩,x.bytes,x.base⟩:HPlace)=x:=rfl
theorem errFrom_ne (f:Nat→Int) {e:Int} (h:(e==0)=false):∀ k i,N.errFrom f k i e=e
 | 0,_=>rfl
 | k+1,i=>by
  show cond (e==0) _ e=e
  rw [h]; rfl
theorem err_rows {α:Type} (d:α) (all:List α) (f:Nat→Int) (R:Int→List α→Int) (h0:∀ i,R i []=0) (h1:∀ (i:Nat),i<all.length→∀ r,R i (all.getD i d::r)=cond (f i != 0) (f i) (R ((i:Int)+1) r)) :
  ∀ k i,i+k=all.length→N.errFrom f k i 0=R i (all.drop i)
 | 0,i,h=>by
  rw [List.drop_eq_nil_of_le (by omega),h0]; rfl
 | k+1,i,h=>by
  have hi:i<all.length:=by omega
  have e:all.drop i=all.getD i d::all.drop (i+1):=by
   rw [List.drop_eq_getElem_cons hi,List.getD_eq_getElem?_getD,List.getElem?_eq_getElem hi]; rfl
  rw [e,h1 i hi]
  show N.errFrom f k (i+1) (f i)=_
  cases hf:f i != 0 with
  | true=>exact errFrom_ne f (by simpa using hf) k (i+1)
  | false =>
   have:f i=0:=by simpa using hf
   rw [this]
   exact err_rows d all f R h0 h1 k (i+1) (by omega)
theorem count_key (f:Nat→Int) (k:Nat) (n a b:Int):N.errFrom f k 0 (N.count n a b)=cond (ilt n a) 15 (cond (ilt b n) 6 (N.errFrom f k 0 0)):=by
 have e:N.count n a b=cond (ilt n a) 15 (cond (ilt b n) 6 0):=rfl
 rw [e]
 cases ilt n a with
 | true=>exact errFrom_ne f rfl k 0
 | false =>
  cases ilt b n with
  | true=>exact errFrom_ne f rfl k 0
  | false=>rfl
theorem placesE_r (p:HPolicy):N.placesE p=cond (ilt p.places.length 1) 15 (cond (ilt 16 p.places.length) 6 (N.rPl p.places 0 p.places)):=by
 have e:=err_rows place0 p.places (N.plF p) (N.rPl p.places) (fun _=>rfl) (fun i hi r=>rfl) p.places.length 0 (by omega)
 rw [List.drop_zero] at e
 exact (count_key (N.plF p) p.places.length p.places.length 1 16).trans (by rw [e]; rfl)
theorem slotsE_r (p:HPolicy):N.slotsE p=cond (ilt p.slots.length 1) 15 (cond (ilt 32 p.slots.length) 6 (N.rSl p.places.length p.slots)):=by
 have e:=err_rows (0:Int) p.slots (N.slF p) (fun _ l=>N.rSl p.places.length l) (fun _=>rfl) (fun i hi r=>by
  show cond (cond (ilt (p.slots.getD i 0) 0) true (ile p.places.length (p.slots.getD i 0))) 10 (N.rSl p.places.length r)=cond (cond (N.there p (p.slots.getD i 0)) (0:Int) 10 != 0) (cond (N.there p (p.slots.getD i 0)) 0 10) (N.rSl p.places.length r)
  rw [there_c]
  cases ilt (p.slots.getD i 0) 0<;>cases ile p.places.length (p.slots.getD i 0)<;>rfl) p.slots.length 0 (by omega)
 rw [List.drop_zero] at e
 exact (count_key (N.slF p) p.slots.length p.slots.length 1 32).trans (by rw [e])
theorem grantsE_r (p:HPolicy):N.grantsE p=cond (ilt p.grants.length 0) 15 (cond (ilt 8 p.grants.length) 6 (N.rGr p 0 p.grants)):=by
 have e:=err_rows grant0 p.grants (N.grF p) (N.rGr p) (fun _=>rfl) (fun i hi r=>rfl) p.grants.length 0 (by omega)
 rw [List.drop_zero] at e
 exact (count_key (N.grF p) p.grants.length p.grants.length 0 8).trans (by rw [e]; rfl)
theorem check_key (p:HPolicy) {w1 w2 v1 v2 n0 n1 s0 s1 g1:Bool} (a1:w1=ilt p.work 1) (a2:w2=ilt 16 p.work) (b1:v1=ilt p.give 1) (b2:v2=ilt 16 p.give) (c0:n0=((p.places.length:Int)==0)) (c1:n1=ilt 16 p.places.length) (d0:s0=((p.slots.length:Int)==0)) (d1:s1=ilt 32 p.slots.length) (f1:g1=ilt 8 p.grants.length) {α:Type} (K:Int→α) :
  cond w1 (K 7) (cond w2 (K 7) (cond v1 (K 7) (cond v2 (K 7) (cond n0 (K 15) (cond n1 (K 6) (cond (N.rPl p.places 0 p.places != 0) (K (N.rPl p.places 0 p.places)) (cond s0 (K 15) (cond s1 (K 6) (cond (N.rSl p.places.length p.slots != 0) (K (N.rSl p.places.length p.slots)) (cond g1 (K 6) (cond (N.rGr p 0 p.grants != 0) (K (N.rGr p 0 p.grants)) (cond (N.lacks p p.places.length 0==0) (K 0) (K 15)))))))))))))=K (N.checkP p):=by
 have z:∀ n:Nat,ilt (n:Int) 1=((n:Int)==0):=fun n=>by
  rw [ilt_eq]
  by_cases h:(n:Int)=0
  ·rw [h]; rfl
  ·rw [decide_eq_false (by omega),beq_eq_false_iff_ne.2 h]
 have e:N.checkP p=cond (cond (cond (ile 1 p.work) (ile p.work 16) false) (cond (ile 1 p.give) (ile p.give 16) false) false) (cond (N.or3 [N.placesE p,N.slotsE p,N.grantsE p] != 0) (N.or3 [N.placesE p,N.slotsE p,N.grantsE p]) (N.lacks p p.places.length 0)) 7:=rfl
 have o:N.or3 [N.placesE p,N.slotsE p,N.grantsE p]=cond (N.placesE p != 0) (N.placesE p) (cond (N.slotsE p != 0) (N.slotsE p) (cond (N.grantsE p != 0) (N.grantsE p) 0)):=rfl
 have g0:ilt (p.grants.length:Int) 0=false:=ilt_f (by omega)
 have lk:=lacks_or p p.places.length 0
 rw [e,o,placesE_r,slotsE_r,grantsE_r,a1,a2,b1,b2,c0,c1,d0,d1,f1,z,z,g0]
 simp only [ilt_not _ 1,ilt_not 16 p.work,ilt_not 16 p.give]
 generalize ((p.places.length:Int)==0)=n0
 generalize ilt 16 p.places.length=n1
 generalize ((p.slots.length:Int)==0)=s0
 generalize ilt 32 p.slots.length=s1
 generalize ilt 8 p.grants.length=g1
 generalize N.rPl p.places 0 p.places=rp
 generalize N.rSl p.places.length p.slots=rs
 generalize N.rGr p 0 p.grants=rg
 generalize N.lacks p p.places.length 0=lk at *
 generalize ile 1 p.work=w1
 generalize ile p.work 16=w2
 generalize ile 1 p.give=v1
 generalize ile p.give 16=v2
 cases w1 with
 | false=>rfl
 | true =>
 cases w2 with
 | false=>rfl
 | true =>
 cases v1 with
 | false=>rfl
 | true =>
 cases v2 with
 | false=>rfl
 | true =>
 cases n0 with
 | true=>rfl
 | false =>
 cases n1 with
 | true=>rfl
 | false =>
 cases hp:rp != 0 with
 | true=>simp only [cond_true,cond_false,Bool.not_true,hp]
 | false =>
 cases s0 with
 | true=>simp only [cond_true,cond_false,Bool.not_true,hp]; rfl
 | false =>
 cases s1 with
 | true=>simp only [cond_true,cond_false,Bool.not_true,hp]; rfl
 | false =>
 cases hs:rs != 0 with
 | true=>simp only [cond_true,cond_false,Bool.not_true,hp,hs]
 | false =>
 cases g1 with
 | true=>simp only [cond_true,cond_false,Bool.not_true,hp,hs]; rfl
 | false =>
 cases hg:rg != 0 with
 | true=>simp only [cond_true,cond_false,Bool.not_true,hp,hs,hg]
 | false =>
  simp only [cond_true,cond_false,Bool.not_true,hp,hs,hg]
  rcases lk with rfl | rfl<;>rfl
theorem ok_rCheckP_9:RoundsOk eRCheckP 29 9:=by
 refine rounds_of rfl fun l K q h=>?_
 unfold gRCheckP9 at h
 split at h
 ·rename_i i3 r45 i46 i47 cx0
  have h1:=(cond_none h).1; replace h:=(cond_none h).2; have h2:=(cond_none h).1; replace h:=(cond_none h).2; have h3:=(cond_none h).1; replace h:=(cond_none h).2; have g1:=(cond_none h).1; replace h:=(cond_none h).2; have g2:=(cond_none h).1; replace h:=(cond_none h).2; have g3:=(cond_none h).1; replace h:=(cond_none h).2; have g4:=(cond_none h).1; replace h:=(cond_none h).2
  have e1:=ieq_of h1
  have e2:=ieq_of h2
  subst e1 e2
  have h3:r45.length≤3000:=ble_of h3
  have g1:=ieq_of g1
  have g2:=ble_of g2
  have g3:=ble_of g3
  have g4:∀ r∈r45,Nat.ble (V.toStr (List.getD r 0 V.undef)).length 1000000=true:=fun r hr=>List.all_eq_true.1 g4 r hr
  have main:=range_ind (E:=eRCheckP) (f:=29) (id:=9) (A:=Int) (r45) (fun a i=>{ fr:=[(1,.ptr 10000 0 0 0),(3,.int .i64 i3),(45,.slc [.str,.int .u8,.int .u32,.int .i64,.int .u64] r45),(46,.int .i64 r45.length),(47,.int .i64 i)],tab:=[(10000,.var (etaRow xsPolicy 0 cx0))] }) (fun a i=>a=(i:Int))
   (fun a rows K=>cond (N.rPl (cPolicy.dec cx0).places a (rows.map cPlace.dec) != 0) (K .ret { fr:=[(2,.int .i64 (N.rPl (cPolicy.dec cx0).places a (rows.map cPlace.dec)))],tab:=[] }) (K (.exit 0) { fr:=[(1,.ptr 10000 0 0 0),(3,.int .i64 i3)],tab:=[(10000,.var (etaRow xsPolicy 0 cx0))] })) (fun a i ha hi=>?_) (fun a ha=>?_) ((0:Int)) 0 (Int.le_refl _) (by omega) rfl K q (by assumption)
  ·exact main
  ·have hq:=fun K=>q_rCheckPR9 (i3) (r45) (r45.length) ((i:Int)) (cx0) K
   have t1:ilt (i:Int) r45.length=true:=ilt_t (by omega)
   have t2:decide ((0:Int)≤i∧(i:Int)<r45.length)=true:=decide_eq_true (by omega)
   have t3:IntKind.wrap .i64 ((i:Int)+1)=(i:Int)+1:=wr_i64 (by omega) (by omega)
   simp only [Int.toNat_natCast] at hq
   simp only [t1,t2,t3,cond_true] at hq
   subst ha
   have a0:V.toStr (List.getD (List.getD r45 i []) 0 V.undef)=(cPlace.dec (List.getD r45 i [])).name:=rfl
   have a1:V.toInt (List.getD (List.getD r45 i []) 1 V.undef)=(cPlace.dec (List.getD r45 i [])).label.level:=rfl
   have a2:V.toInt (List.getD (List.getD r45 i []) 2 V.undef)=(cPlace.dec (List.getD r45 i [])).label.set:=rfl
   have a3:V.toInt (List.getD (List.getD r45 i []) 3 V.undef)=(cPlace.dec (List.getD r45 i [])).bytes:=rfl
   have a4:V.toInt (List.getD (List.getD r45 i []) 4 V.undef)=(cPlace.dec (List.getD r45 i [])).base:=rfl
   simp only [a0,a1,a2,a3,a4] at hq
   simp only [List.map_cons]
   generalize cPlace.dec (List.getD r45 i [])=x at *
   have t4:decide ((0:Int)≤i∧(i:Int)≤((cPolicy.dec cx0).places.length:Int))=true:=decide_eq_true (by omega)
   have t5:Nat.ble (min i (cPolicy.dec cx0).places.length) 3000=true:=Nat.ble_eq_true_of_le (by omega)
   simp only [rows_len2,List.drop_zero,List.length_take,t4,t5,beq_self_eq_true,cond_true,List.map_take,pol_rows,fold_plc] at hq
   have key:=fun K=>(hq K).trans (place_key x (List.take i (cPolicy.dec cx0).places) (fun e=>K .ret { fr:=[(2,.int .i64 e)],tab:=[] }) _)
   have er:∀ l:List HPlace,N.rPl (cPolicy.dec cx0).places (i:Int) (x::l)=cond (N.placeE x (List.take i (cPolicy.dec cx0).places) != 0) (N.placeE x (List.take i (cPolicy.dec cx0).places)) (N.rPl (cPolicy.dec cx0).places ((i:Int)+1) l):=fun _=>rfl
   cases hc:N.placeE x (List.take i (cPolicy.dec cx0).places) != 0 with
   | true =>
    refine .inr ⟨.ret,{ fr:=[(2,.int .i64 (N.placeE x (List.take i (cPolicy.dec cx0).places)))],tab:=[] },by simp,fun K=>?_,fun K=>?_⟩
    ·rw [key,hc]; rfl
    ·simp only [er,hc,cond_true]
   | false =>
    refine .inl ⟨(i:Int)+1,by omega,fun K=>?_,fun K=>?_⟩
    ·rw [key,hc]; rfl
    ·simp only [er,hc,cond_false]
  ·refine ⟨.exit 0,_,by simp,fun K=>?_,fun K=>rfl⟩
   rw [q_rCheckPR9]
   simp (disch:=omega) only [evs]
   try rfl
 ·cases h
theorem ok_rCheckP_17:RoundsOk eRCheckP 29 17:=by
 refine rounds_of rfl fun l K q h=>?_
 unfold gRCheckP17 at h
 split at h
 ·rename_i i3 r45 i46 i47 r80 i81 i82 cx0 sx1 ix1 ix1_1 ix1_2 ix1_3
  have h1:=(cond_none h).1; replace h:=(cond_none h).2; have h2:=(cond_none h).1; replace h:=(cond_none h).2; have h3:=(cond_none h).1; replace h:=(cond_none h).2
  have e1:=ieq_of h1
  have e2:=ieq_of h2
  subst e1 e2
  have h3:r80.length≤3000:=ble_of h3
  have main:=range_ind (E:=eRCheckP) (f:=29) (id:=17) (A:=Unit) (r80) (fun a i=>{ fr:=[(1,.ptr 10000 0 0 0),(3,.int .i64 i3),(5,.ptr 10001 0 0 0),(45,.slc [.str,.int .u8,.int .u32,.int .i64,.int .u64] r45),(46,.int .i64 i46),(47,.int .i64 i47),(80,.slc [.str,.int .u8,.int .u32,.int .i64,.int .u64] r80),(81,.int .i64 r80.length),(82,.int .i64 i)],tab:=[(10000,.var (etaRow xsPolicy 0 cx0)),(10001,.var [.str sx1,.int .u8 ix1,.int .u32 ix1_1,.int .i64 ix1_2,.int .u64 ix1_3])] }) (fun a i=>True)
   (fun a rows K=>cond ((rows.map cPlace.dec).any (N.twiceP ⟨sx1,⟨ix1,ix1_1⟩,ix1_2,ix1_3⟩)) (K .ret { fr:=[(2,.int .i64 9)],tab:=[] }) (K (.exit 2) { fr:=[(1,.ptr 10000 0 0 0),(3,.int .i64 i3),(45,.slc [.str,.int .u8,.int .u32,.int .i64,.int .u64] r45),(46,.int .i64 i46),(47,.int .i64 i47)],tab:=[(10000,.var (etaRow xsPolicy 0 cx0))] })) (fun a i ha hi=>?_) (fun a ha=>?_) (()) 0 (Int.le_refl _) (by omega) trivial K q (by assumption)
  ·exact main
  ·have hq:=fun K=>q_rCheckPR17 (i3) (r45) (i46) (i47) (r80) (r80.length) ((i:Int)) (cx0) (sx1) (ix1) (ix1_1) (ix1_2) (ix1_3) K
   have t1:ilt (i:Int) r80.length=true:=ilt_t (by omega)
   have t2:decide ((0:Int)≤i∧(i:Int)<r80.length)=true:=decide_eq_true (by omega)
   have t3:IntKind.wrap .i64 ((i:Int)+1)=(i:Int)+1:=wr_i64 (by omega) (by omega)
   simp only [Int.toNat_natCast] at hq
   simp only [t1,t2,t3,cond_true] at hq
   have a0:V.toStr (List.getD (List.getD r80 i []) 0 V.undef)=(cPlace.dec (List.getD r80 i [])).name:=rfl
   have a1:V.toInt (List.getD (List.getD r80 i []) 1 V.undef)=(cPlace.dec (List.getD r80 i [])).label.level:=rfl
   have a2:V.toInt (List.getD (List.getD r80 i []) 2 V.undef)=(cPlace.dec (List.getD r80 i [])).label.set:=rfl
   have a3:V.toInt (List.getD (List.getD r80 i []) 3 V.undef)=(cPlace.dec (List.getD r80 i [])).bytes:=rfl
   have a4:V.toInt (List.getD (List.getD r80 i []) 4 V.undef)=(cPlace.dec (List.getD r80 i [])).base:=rfl
   simp only [a0,a1,a2] at hq
   simp only [List.map_cons]
   generalize cPlace.dec (List.getD r80 i [])=x at *
   simp only [and_true3] at hq
   have er:∀ l:List HPlace,List.any (x::l) (N.twiceP ⟨sx1,⟨ix1,ix1_1⟩,ix1_2,ix1_3⟩)=(cond (x.name==sx1) true (cond (x.label.level==ix1) (x.label.set==ix1_1) false) || List.any l (N.twiceP ⟨sx1,⟨ix1,ix1_1⟩,ix1_2,ix1_3⟩)):=fun _=>rfl
   cases h1:x.name==sx1 with
   | true =>
    refine .inr ⟨.ret,{ fr:=[(2,.int .i64 9)],tab:=[] },by simp,fun K=>?_,fun K=>?_⟩
    ·rw [hq,h1]; rfl
    ·simp only [er,h1,cond_true,Bool.true_or]
   | false =>
    cases h2:cond (x.label.level==ix1) (x.label.set==ix1_1) false with
    | true =>
     refine .inr ⟨.ret,{ fr:=[(2,.int .i64 9)],tab:=[] },by simp,fun K=>?_,fun K=>?_⟩
     ·rw [hq,h1,h2]; rfl
     ·simp only [er,h1,h2,cond_true,cond_false,Bool.true_or]
    | false =>
     refine .inl ⟨(),trivial,fun K=>?_,fun K=>?_⟩
     ·rw [hq,h1,h2]; rfl
     ·simp only [er,h1,h2,cond_false,Bool.false_or]
  ·refine ⟨.exit 2,_,by simp,fun K=>?_,fun K=>rfl⟩
   rw [q_rCheckPR17]
   simp (disch:=omega) only [evs]
   try rfl
 ·cases h
theorem ok_rCheckP_28:RoundsOk eRCheckP 29 28:=by
 refine rounds_of rfl fun l K q h=>?_
 unfold gRCheckP28 at h
 split at h
 ·rename_i i3 r109 i110 i111 cx0
  have h1:=(cond_none h).1; replace h:=(cond_none h).2; have h2:=(cond_none h).1; replace h:=(cond_none h).2; have h3:=(cond_none h).1; replace h:=(cond_none h).2
  have e1:=ieq_of h1
  have e2:=ieq_of h2
  subst e1 e2
  have h3:r109.length≤3000:=ble_of h3
  have main:=range_ind (E:=eRCheckP) (f:=29) (id:=28) (A:=Unit) (r109) (fun a i=>{ fr:=[(1,.ptr 10000 0 0 0),(3,.int .i64 i3),(109,.slc [.int .i64] r109),(110,.int .i64 r109.length),(111,.int .i64 i)],tab:=[(10000,.var (etaRow xsPolicy 0 cx0))] }) (fun a i=>True)
   (fun a rows K=>cond (N.rSl i3 (rows.map (rInt .i64).dec) != 0) (K .ret { fr:=[(2,.int .i64 (N.rSl i3 (rows.map (rInt .i64).dec)))],tab:=[] }) (K (.exit 4) { fr:=[(1,.ptr 10000 0 0 0),(3,.int .i64 i3)],tab:=[(10000,.var (etaRow xsPolicy 0 cx0))] })) (fun a i ha hi=>?_) (fun a ha=>?_) (()) 0 (Int.le_refl _) (by omega) trivial K q (by assumption)
  ·exact main
  ·have hq:=fun K=>q_rCheckPR28 (i3) (r109) (r109.length) ((i:Int)) (cx0) K
   have t1:ilt (i:Int) r109.length=true:=ilt_t (by omega)
   have t2:decide ((0:Int)≤i∧(i:Int)<r109.length)=true:=decide_eq_true (by omega)
   have t3:IntKind.wrap .i64 ((i:Int)+1)=(i:Int)+1:=wr_i64 (by omega) (by omega)
   simp only [Int.toNat_natCast] at hq
   simp only [t1,t2,t3,cond_true] at hq
   have a0:V.toInt (List.getD (List.getD r109 i []) 0 V.undef)=(rInt .i64).dec (List.getD r109 i []):=rfl
   simp only [a0] at hq
   simp only [List.map_cons]
   generalize (rInt .i64).dec (List.getD r109 i [])=x at *
   have er:∀ l:List Int,N.rSl i3 (x::l)=cond (cond (ilt x 0) true (ile i3 x)) 10 (N.rSl i3 l):=fun _=>rfl
   simp only [slot_key] at hq
   cases h1:cond (ilt x 0) true (ile i3 x) with
   | true =>
    refine .inr ⟨.ret,{ fr:=[(2,.int .i64 10)],tab:=[] },by simp,fun K=>?_,fun K=>?_⟩
    ·rw [hq,h1]; rfl
    ·simp only [er,h1,cond_true]; rfl
   | false =>
    refine .inl ⟨(),trivial,fun K=>?_,fun K=>?_⟩
    ·rw [hq,h1]; rfl
    ·simp only [er,h1,cond_false]
  ·refine ⟨.exit 4,_,by simp,fun K=>?_,fun K=>rfl⟩
   rw [q_rCheckPR28]
   simp (disch:=omega) only [evs]
   try rfl
 ·cases h
theorem ok_rCheckP_36:RoundsOk eRCheckP 29 36:=by
 refine rounds_of rfl fun l K q h=>?_
 unfold gRCheckP36 at h
 split at h
 ·rename_i i3 r128 i129 i130 cx0
  have h1:=(cond_none h).1; replace h:=(cond_none h).2; have h2:=(cond_none h).1; replace h:=(cond_none h).2; have h3:=(cond_none h).1; replace h:=(cond_none h).2; have g1:=(cond_none h).1; replace h:=(cond_none h).2; have g2:=(cond_none h).1; replace h:=(cond_none h).2; have g3:=(cond_none h).1; replace h:=(cond_none h).2; have g4:=(cond_none h).1; replace h:=(cond_none h).2; have g5:=(cond_none h).1; replace h:=(cond_none h).2
  have e1:=ieq_of h1
  have e2:=ieq_of h2
  subst e1 e2
  have h3:r128.length≤3000:=ble_of h3
  have g1:=ieq_of g1
  have g2:=ble_of g2
  have g3:=ble_of g3
  have g4:=ble_of g4
  have main:=range_ind (E:=eRCheckP) (f:=29) (id:=36) (A:=Int) (r128) (fun a i=>{ fr:=[(1,.ptr 10000 0 0 0),(3,.int .i64 i3),(128,.slc [.int .i64,.int .i64,.int .i64] r128),(129,.int .i64 r128.length),(130,.int .i64 i)],tab:=[(10000,.var (etaRow xsPolicy 0 cx0))] }) (fun a i=>a=(i:Int))
   (fun a rows K=>cond (N.rGr (cPolicy.dec cx0) a (rows.map cGrant.dec) != 0) (K .ret { fr:=[(2,.int .i64 (N.rGr (cPolicy.dec cx0) a (rows.map cGrant.dec)))],tab:=[] }) (K (.exit 6) { fr:=[(1,.ptr 10000 0 0 0),(3,.int .i64 i3)],tab:=[(10000,.var (etaRow xsPolicy 0 cx0))] })) (fun a i ha hi=>?_) (fun a ha=>?_) ((0:Int)) 0 (Int.le_refl _) (by omega) rfl K q (by assumption)
  ·exact main
  ·have hq:=fun K=>q_rCheckPR36 (i3) (r128) (r128.length) ((i:Int)) (cx0) K
   have t1:ilt (i:Int) r128.length=true:=ilt_t (by omega)
   have t2:decide ((0:Int)≤i∧(i:Int)<r128.length)=true:=decide_eq_true (by omega)
   have t3:IntKind.wrap .i64 ((i:Int)+1)=(i:Int)+1:=wr_i64 (by omega) (by omega)
   simp only [Int.toNat_natCast] at hq
   simp only [t1,t2,t3,cond_true] at hq
   subst ha
   have a0:V.toInt (List.getD (List.getD r128 i []) 0 V.undef)=(cGrant.dec (List.getD r128 i [])).src:=rfl
   have a1:V.toInt (List.getD (List.getD r128 i []) 1 V.undef)=(cGrant.dec (List.getD r128 i [])).dst:=rfl
   have a2:V.toInt (List.getD (List.getD r128 i []) 2 V.undef)=(cGrant.dec (List.getD r128 i [])).budget:=rfl
   simp only [a0,a1,a2] at hq
   simp only [List.map_cons]
   generalize cGrant.dec (List.getD r128 i [])=x at *
   have t4:decide ((0:Int)≤i∧(i:Int)≤((cPolicy.dec cx0).grants.length:Int))=true:=decide_eq_true (by omega)
   have t5:Nat.ble (min i (cPolicy.dec cx0).grants.length) 3000=true:=Nat.ble_eq_true_of_le (by omega)
   simp only [rows_len2,rows_len4,List.drop_zero,List.length_take,t4,t5,beq_self_eq_true,cond_true,List.map_take,pol_grants] at hq
   have hu:N.there (cPolicy.dec cx0) x.src=true→N.there (cPolicy.dec cx0) x.dst=true→N.refUnder ⟨V.toInt (List.getD (List.getD (V.toRows (List.getD cx0 2 V.undef)) x.src.toNat []) 1 V.undef),V.toInt (List.getD (List.getD (V.toRows (List.getD cx0 2 V.undef)) x.src.toNat []) 2 V.undef)⟩ ⟨V.toInt (List.getD (List.getD (V.toRows (List.getD cx0 2 V.undef)) x.dst.toNat []) 1 V.undef),V.toInt (List.getD (List.getD (V.toRows (List.getD cx0 2 V.undef)) x.dst.toNat []) 2 V.undef)⟩=N.under (N.plAt (cPolicy.dec cx0) x.src).label (N.plAt (cPolicy.dec cx0) x.dst).label:=fun h1 h2=>by
    have h1:=there_of h1
    have h2:=there_of h2
    have lab:∀ k:Nat,k<(cPolicy.dec cx0).places.length→(⟨V.toInt (List.getD (List.getD (V.toRows (List.getD cx0 2 V.undef)) k []) 1 V.undef),V.toInt (List.getD (List.getD (V.toRows (List.getD cx0 2 V.undef)) k []) 2 V.undef)⟩:Label)=((cPolicy.dec cx0).places.getD k place0).label:=fun k hk=>by
     rw [← pol_rows,← dec_at cPlace place0 (by rw [rows_len2]; exact hk)]; rfl
    rw [lab _ (by omega),lab _ (by omega)]
    exact refUnder_eq (okPl_at g5 (by omega)) (okPl_at g5 (by omega))
   have key:=fun K=>(hq K).trans (grant_key (cPolicy.dec cx0) x (List.take i (cPolicy.dec cx0).grants) _ g1 hu (fun e=>K .ret { fr:=[(2,.int .i64 e)],tab:=[] }) _)
   have er:∀ l:List HGrant,N.rGr (cPolicy.dec cx0) (i:Int) (x::l)=cond (N.grantE (cPolicy.dec cx0) x (List.take i (cPolicy.dec cx0).grants) != 0) (N.grantE (cPolicy.dec cx0) x (List.take i (cPolicy.dec cx0).grants)) (N.rGr (cPolicy.dec cx0) ((i:Int)+1) l):=fun _=>rfl
   cases hc:N.grantE (cPolicy.dec cx0) x (List.take i (cPolicy.dec cx0).grants) != 0 with
   | true =>
    refine .inr ⟨.ret,{ fr:=[(2,.int .i64 (N.grantE (cPolicy.dec cx0) x (List.take i (cPolicy.dec cx0).grants)))],tab:=[] },by simp,fun K=>?_,fun K=>?_⟩
    ·rw [key,hc]; rfl
    ·simp only [er,hc,cond_true]
   | false =>
    refine .inl ⟨(i:Int)+1,by omega,fun K=>?_,fun K=>?_⟩
    ·rw [key,hc]; rfl
    ·simp only [er,hc,cond_false]
  ·refine ⟨.exit 6,_,by simp,fun K=>?_,fun K=>rfl⟩
   rw [q_rCheckPR36]
   simp (disch:=omega) only [evs]
   try rfl
 ·cases h
theorem ok_rCheckP_45:RoundsOk eRCheckP 29 45:=by
 refine rounds_of rfl fun l K q h=>?_
 unfold gRCheckP45 at h
 split at h
 ·rename_i i3 r128 i129 i130 r181 i182 i183 cx0 ix1 ix1_1 ix1_2
  have h1:=(cond_none h).1; replace h:=(cond_none h).2; have h2:=(cond_none h).1; replace h:=(cond_none h).2; have h3:=(cond_none h).1; replace h:=(cond_none h).2
  have e1:=ieq_of h1
  have e2:=ieq_of h2
  subst e1 e2
  have h3:r181.length≤3000:=ble_of h3
  have main:=range_ind (E:=eRCheckP) (f:=29) (id:=45) (A:=Unit) (r181) (fun a i=>{ fr:=[(1,.ptr 10000 0 0 0),(3,.int .i64 i3),(12,.ptr 10001 0 0 0),(128,.slc [.int .i64,.int .i64,.int .i64] r128),(129,.int .i64 i129),(130,.int .i64 i130),(181,.slc [.int .i64,.int .i64,.int .i64] r181),(182,.int .i64 r181.length),(183,.int .i64 i)],tab:=[(10000,.var (etaRow xsPolicy 0 cx0)),(10001,.var [.int .i64 ix1,.int .i64 ix1_1,.int .i64 ix1_2])] }) (fun a i=>True)
   (fun a rows K=>cond ((rows.map cGrant.dec).any (N.isGr ix1 ix1_1)) (K .ret { fr:=[(2,.int .i64 9)],tab:=[] }) (K (.exit 8) { fr:=[(1,.ptr 10000 0 0 0),(3,.int .i64 i3),(128,.slc [.int .i64,.int .i64,.int .i64] r128),(129,.int .i64 i129),(130,.int .i64 i130)],tab:=[(10000,.var (etaRow xsPolicy 0 cx0))] })) (fun a i ha hi=>?_) (fun a ha=>?_) (()) 0 (Int.le_refl _) (by omega) trivial K q (by assumption)
  ·exact main
  ·have hq:=fun K=>q_rCheckPR45 (i3) (r128) (i129) (i130) (r181) (r181.length) ((i:Int)) (cx0) (ix1) (ix1_1) (ix1_2) K
   have t1:ilt (i:Int) r181.length=true:=ilt_t (by omega)
   have t2:decide ((0:Int)≤i∧(i:Int)<r181.length)=true:=decide_eq_true (by omega)
   have t3:IntKind.wrap .i64 ((i:Int)+1)=(i:Int)+1:=wr_i64 (by omega) (by omega)
   simp only [Int.toNat_natCast] at hq
   simp only [t1,t2,t3,cond_true] at hq
   have a0:V.toInt (List.getD (List.getD r181 i []) 0 V.undef)=(cGrant.dec (List.getD r181 i [])).src:=rfl
   have a1:V.toInt (List.getD (List.getD r181 i []) 1 V.undef)=(cGrant.dec (List.getD r181 i [])).dst:=rfl
   have a2:V.toInt (List.getD (List.getD r181 i []) 2 V.undef)=(cGrant.dec (List.getD r181 i [])).budget:=rfl
   simp only [a0,a1] at hq
   simp only [List.map_cons]
   generalize cGrant.dec (List.getD r181 i [])=x at *
   have er:∀ l:List HGrant,List.any (x::l) (N.isGr ix1 ix1_1)=(cond (x.src==ix1) (x.dst==ix1_1) false || List.any l (N.isGr ix1 ix1_1)):=fun _=>rfl
   cases h1:x.src==ix1 with
   | false =>
    refine .inl ⟨(),trivial,fun K=>?_,fun K=>?_⟩
    ·rw [hq,h1]; rfl
    ·simp only [er,h1,cond_false,Bool.false_or]
   | true =>
    cases h2:x.dst==ix1_1 with
    | true =>
     refine .inr ⟨.ret,{ fr:=[(2,.int .i64 9)],tab:=[] },by simp,fun K=>?_,fun K=>?_⟩
     ·rw [hq,h1,h2]; rfl
     ·simp only [er,h1,h2,cond_true,Bool.true_or]
    | false =>
     refine .inl ⟨(),trivial,fun K=>?_,fun K=>?_⟩
     ·rw [hq,h1,h2]; rfl
     ·simp only [er,h1,h2,cond_true,Bool.false_or]
  ·refine ⟨.exit 8,_,by simp,fun K=>?_,fun K=>rfl⟩
   rw [q_rCheckPR45]
   simp (disch:=omega) only [evs]
   try rfl
 ·cases h
theorem ok_rCheckP_52:RoundsOk eRCheckP 29 52:=by
 refine rounds_of rfl fun l K q h=>?_
 unfold gRCheckP52 at h
 split at h
 ·rename_i i3 i15 cx0
  have g1:=(cond_none h).1; replace h:=(cond_none h).2; have g2:=(cond_none h).1; replace h:=(cond_none h).2; have g3:=(cond_none h).1; replace h:=(cond_none h).2; have g4:=(cond_none h).1; replace h:=(cond_none h).2
  have e1:=ieq_of g1
  have e2:=ieq_of g2
  subst e1 e2
  have h3:=ble_of g3
  have main:=loop_ind (E:=eRCheckP) (f:=29) (id:=52) (σ:=Nat) (fun i=>{ fr:=[(1,.ptr 10000 0 0 0),(3,.int .i64 (cPolicy.dec cx0).places.length),(15,.int .i64 (i:Int))],tab:=[(10000,.var (etaRow xsPolicy 0 cx0))] }) (fun i=>i≤(cPolicy.dec cx0).places.length) (fun i=>(cPolicy.dec cx0).places.length-i)
   (fun i K=>cond (N.lacks (cPolicy.dec cx0) ((cPolicy.dec cx0).places.length-i) i==0) (K (.exit 10) { fr:=[],tab:=[] }) (K .ret { fr:=[(2,.int .i64 15)],tab:=[] })) (fun i hi=>?_) 0 (Nat.zero_le _) K q (by assumption)
  ·exact main
  ·have hn:=fun K=>q_rCheckPR52 (cPolicy.dec cx0).places.length (i:Int) cx0 K
   simp only [rows_len3,pol_slots,g4,beq_self_eq_true,cond_true] at hn
   by_cases hk:i<(cPolicy.dec cx0).places.length
   ·obtain ⟨j,hj⟩:∃ j,(cPolicy.dec cx0).places.length-i=j+1:=⟨(cPolicy.dec cx0).places.length-i-1,by omega⟩
    have hj' : (cPolicy.dec cx0).places.length-(i+1)=j:=by omega
    have er:N.lacks (cPolicy.dec cx0) (j+1) i=cond ((cPolicy.dec cx0).slots.any (·==(i:Int))) (N.lacks (cPolicy.dec cx0) j (i+1)) 15:=rfl
    have t1:ilt (i:Int) ((cPolicy.dec cx0).places.length:Int)=true:=ilt_t (by omega)
    have t2:IntKind.wrap .i64 ((i:Int)+1)=(i:Int)+1:=wr_i64 (by omega) (by omega)
    simp only [t1,t2,cond_true] at hn
    cases hc:(cPolicy.dec cx0).slots.any (·==(i:Int)) with
    | true =>
     refine .inl ⟨i+1,hk,by omega,fun K=>?_,fun K=>?_⟩
     ·rw [hn,hc]; rfl
     ·simp only [hj,hj',er,hc,cond_true]
    | false =>
     refine .inr ⟨.ret,{ fr:=[(2,.int .i64 15)],tab:=[] },by simp,fun K=>?_,fun K=>?_⟩
     ·rw [hn,hc]; rfl
     ·simp only [hj,er,hc,cond_false]; rfl
   ·obtain rfl:i=(cPolicy.dec cx0).places.length:=by omega
    refine .inr ⟨.exit 10,{ fr:=[],tab:=[] },by simp,fun K=>?_,fun K=>?_⟩
    ·rw [hn,ilt_f (Int.le_refl _)]; rfl
    ·rw [Nat.sub_self]; rfl
 ·cases h
theorem ok_rCheckP_56:RoundsOk eRCheckP 29 56:=by
 refine rounds_of rfl fun l K q h=>?_
 unfold gRCheckP56 at h
 split at h
 ·rename_i i3 i15 b16 r207 i208 i209 cx0
  have h1:=(cond_none h).1; replace h:=(cond_none h).2; have h2:=(cond_none h).1; replace h:=(cond_none h).2; have h3:=(cond_none h).1; replace h:=(cond_none h).2
  have e1:=ieq_of h1
  have e2:=ieq_of h2
  subst e1 e2
  have h3:r207.length≤3000:=ble_of h3
  have main:=range_ind (E:=eRCheckP) (f:=29) (id:=56) (A:=Bool) (r207) (fun a i=>{ fr:=[(1,.ptr 10000 0 0 0),(3,.int .i64 i3),(15,.int .i64 i15),(16,.bool a),(207,.slc [.int .i64] r207),(208,.int .i64 r207.length),(209,.int .i64 i)],tab:=[(10000,.var (etaRow xsPolicy 0 cx0))] }) (fun a i=>True)
   (fun a rows K=>K (.exit 12) { fr:=[(1,.ptr 10000 0 0 0),(3,.int .i64 i3),(15,.int .i64 i15),(16,.bool (cond a true ((rows.map (rInt .i64).dec).any (·==i15))))],tab:=[(10000,.var (etaRow xsPolicy 0 cx0))] }) (fun a i ha hi=>?_) (fun a ha=>?_) (b16) 0 (Int.le_refl _) (by omega) trivial K q (by assumption)
  ·exact main
  ·have hq:=fun K=>q_rCheckPR56 (i3) (i15) (a) (r207) (r207.length) ((i:Int)) (cx0) K
   have t1:ilt (i:Int) r207.length=true:=ilt_t (by omega)
   have t2:decide ((0:Int)≤i∧(i:Int)<r207.length)=true:=decide_eq_true (by omega)
   have t3:IntKind.wrap .i64 ((i:Int)+1)=(i:Int)+1:=wr_i64 (by omega) (by omega)
   simp only [Int.toNat_natCast] at hq
   simp only [t1,t2,t3,cond_true] at hq
   have a0:V.toInt (List.getD (List.getD r207 i []) 0 V.undef)=(rInt .i64).dec (List.getD r207 i []):=rfl
   simp only [a0] at hq
   simp only [List.map_cons]
   generalize (rInt .i64).dec (List.getD r207 i [])=x at *
   have er:∀ l:List Int,(List.any (x::l) fun x=>x==i15)=((x==i15) || List.any l fun x=>x==i15):=fun _=>rfl
   refine .inl ⟨cond a true (x==i15),trivial,fun K=>?_,fun K=>?_⟩
   ·rw [hq]; cases a<;>rfl
   ·simp only [er]
    cases a<;>cases x==i15<;>rfl
  ·refine ⟨.exit 12,_,by simp,fun K=>?_,fun K=>rfl⟩
   rw [q_rCheckPR56]
   simp (disch:=omega) only [evs]
   cases a<;>rfl
 ·cases h
theorem ok_rCheckP:FnOk Tryz.prog 29 dCheckR:=by
 refine den_okF (env_ok (((TOk.nil _).cons ok_refUnder).cons ok_refName)) (E:=eRCheckP) Tryz.func29 [9,17,28,36,45,52,56] (by kernel_rfl) (consN ok_rCheckP_9 (consN ok_rCheckP_17 (consN ok_rCheckP_28 (consN ok_rCheckP_36 (consN ok_rCheckP_45 (consN ok_rCheckP_52 (one1 ok_rCheckP_56))))))) fun a b hp=>?_
 obtain ⟨hc,hok⟩:=bcond (show cond (fewC a) (a.places.all okPl) false=true from hp)
 obtain ⟨hf,hnm⟩:=bcond hc
 obtain ⟨f1,f2⟩:=bcond hf
 obtain ⟨f2,f3⟩:=bcond f2
 have hnm' : ((a.places.map cPlace.enc).all fun r=>Nat.ble (List.length (V.toStr (List.getD r 0 V.undef))) 1000000)=true:=by
  rw [List.all_map]; exact hnm
 have r1:Nat.ble a.places.length a.places.length=true:=Nat.ble_eq_true_of_le (Nat.le_refl _)
 have r2:Nat.ble a.grants.length a.grants.length=true:=Nat.ble_eq_true_of_le (Nat.le_refl _)
 have hok' : (List.all a.places fun x=>bif bif ile (0:Int) (Label.level (HPlace.label x)) then ile (Label.level (HPlace.label x)) (255:Int) else false then bif ile (0:Int) (Label.set (HPlace.label x)) then ilt (Label.set (HPlace.label x)) (4294967296:Int) else false else false)=true:=hok
 refine (q_rCheckP a).trans ?_
 simp only [dec_encsY,List.length_map,fold_pol,f1,f2,f3,hnm',hok',r1,r2,beq_self_eq_true,cond_true]
 exact check_key a rfl rfl rfl rfl rfl rfl rfl rfl rfl fun e=>some (⟨.int .i64 e,[],[]⟩:DRes)
end Go.Ev

/- Policies that are gone through: lemmas,no condition. -/
namespace Go.Ev
open Go Go.Proofs
set_option maxRecDepth 100000
-- FOLD
namespace N
def shortP (x:HPlace):Bool:=!ilt 40 x.name.length
def lightP5 (p:HPolicy):Bool:=cond (ilt 20 p.places.length) false (cond (ilt 40 p.slots.length) false (cond (ilt 10 p.grants.length) false (p.places.all shortP)))
end N
def dLightP5:Den:=den (aOne (vAgg cPolicy)) bNil (oV vBool) (fun _ _=>true) fun p _=>(N.lightP5 p,())
theorem pl_name (r:List V):V.toStr (List.getD r 0 V.undef)=(cPlace.dec r).name:=rfl
def schLightP:SSch:={ fr:=[(22,.slc [.str,.int .u8,.int .u32,.int .i64,.int .u64]),(23,.int .i64),(24,.int .i64)],tab:=[] }
def gLightP:List Leaf→(Ex→St→Option R)→Option R
 | [.r r22,.i i23,.i i24],K=>cond (i23==r22.length) (cond (i24==0) (cond (Nat.ble r22.length 20) (cond (((r22).map cPlace.dec).all N.shortP) (K (.exit 0) { fr:=[],tab:=[] }) (K .ret { fr:=[(2,.bool false)],tab:=[] })) none) none) none
 | _,_=>none
noncomputable def eLightP:Env:=env Tryz.prog [] [(4,loopF schLightP gLightP)] [(4,[(0,[22,23,24]),(1,[]),(1000,[2])])]
theorem q_lightP (p:HPolicy):evFn eLightP 28 ((aOne (vAgg cPolicy)).enc p) ([]) some =
 cond (ilt (20:Int) (↑(List.length (List.map (RCod.enc cPlace) (HPolicy.places p))):Int)) (some {v:=V.bool false,bx:=[]:DRes}) (cond (ilt (40:Int) (↑(List.length (List.map (RCod.enc (rInt .i64)) (HPolicy.slots p))):Int)) (some {v:=V.bool false,bx:=[]:DRes}) (cond (ilt (10:Int) (↑(List.length (List.map (RCod.enc cGrant) (HPolicy.grants p))):Int)) (some {v:=V.bool false,bx:=[]:DRes}) (cond ((↑(List.length (List.map (RCod.enc cPlace) (HPolicy.places p))):Int)==(↑(List.length (List.map (RCod.enc cPlace) (HPolicy.places p))):Int)) (cond (Nat.ble (List.length (List.map (RCod.enc cPlace) (HPolicy.places p))) 20) (cond (List.all (List.map (RCod.dec cPlace) (List.map (RCod.enc cPlace) (HPolicy.places p))) N.shortP) (some {v:=V.bool true,bx:=[]:DRes}) (some {v:=V.bool false,bx:=[]:DRes})) (none)) (none)))):=by kernel_rfl
theorem q_lightPR (r22:List (List V)) (i23:Int) (i24:Int) (K:Ex→St→Option R):evRound eLightP 28 4 { fr:=[(22,.slc [.str,.int .u8,.int .u32,.int .i64,.int .u64] r22),(23,.int .i64 i23),(24,.int .i64 i24)],tab:=[] } K =
 cond (ilt i24 i23) (cond (decide ((0:Int)≤i24∧i24<(↑(List.length r22):Int))) (cond (ilt (40:Int) (↑(List.length (V.toStr (List.getD (List.getD r22 (Int.toNat i24) []) 0 V.undef))):Int)) (K Ex.ret {fr:=[(2,V.bool false)],tab:=[]:St}) (K Ex.normal {fr:=[(22,V.slc [.str,.int .u8,.int .u32,.int .i64,.int .u64] r22),(23,V.int .i64 i23),(24,V.int .i64 (IntKind.wrap .i64 (i24+(1:Int))))],tab:=[]:St})) (none)) (K (Ex.exit 0) {fr:=[],tab:=[]:St}):=by kernel_rfl
theorem ok_lightP_4:RoundsOk eLightP 28 4:=by
 refine rounds_of rfl fun l K q h=>?_
 unfold gLightP at h
 split at h
 ·rename_i r22 i23 i24
  have h1:=(cond_none h).1; replace h:=(cond_none h).2; have h2:=(cond_none h).1; replace h:=(cond_none h).2; have h3:=(cond_none h).1; replace h:=(cond_none h).2
  have e1:=ieq_of h1
  have e2:=ieq_of h2
  subst e1 e2
  have h3:r22.length≤20:=ble_of h3
  have main:=range_ind (E:=eLightP) (f:=28) (id:=4) (A:=Unit) (r22) (fun a i=>{ fr:=[(22,.slc [.str,.int .u8,.int .u32,.int .i64,.int .u64] r22),(23,.int .i64 r22.length),(24,.int .i64 i)],tab:=[] }) (fun a i=>True)
   (fun a rows K=>cond (((rows).map cPlace.dec).all N.shortP) (K (.exit 0) { fr:=[],tab:=[] }) (K .ret { fr:=[(2,.bool false)],tab:=[] })) (fun a i ha hi=>?_) (fun a ha=>?_) (()) 0 (Int.le_refl _) (by omega) trivial K q (by assumption)
  ·exact main
  ·have hq:=fun K=>q_lightPR (r22) (r22.length) ((i:Int)) K
   have t1:ilt (i:Int) r22.length=true:=ilt_t (by omega)
   have t2:decide ((0:Int)≤i∧(i:Int)<r22.length)=true:=decide_eq_true (by omega)
   have t3:IntKind.wrap .i64 ((i:Int)+1)=(i:Int)+1:=wr_i64 (by omega) (by omega)
   simp only [Int.toNat_natCast,pl_name] at hq
   simp only [t1,t2,t3,cond_true] at hq
   simp only [List.map_cons,List.all_cons]
   cases hc:ilt 40 ((cPlace.dec (r22.getD i [])).name.length:Int) with
   | true =>
    refine .inr ⟨.ret,{ fr:=[(2,.bool false)],tab:=[] },by simp,fun K=>by rw [hq,hc]; rfl,fun K=>?_⟩
    rw [show N.shortP (cPlace.dec (r22.getD i []))=false from by unfold N.shortP; rw [hc]; rfl]; rfl
   | false =>
    refine .inl ⟨(),trivial,fun K=>by rw [hq,hc]; rfl,fun K=>?_⟩
    rw [show N.shortP (cPlace.dec (r22.getD i []))=true from by unfold N.shortP; rw [hc]; rfl]; rfl
  ·refine ⟨.exit 0,_,by simp,fun K=>?_,fun K=>rfl⟩
   rw [q_lightPR]
   simp (disch:=omega) only [evs]
   try rfl
 ·cases h
theorem ok_lightP:FnOk Tryz.prog 28 dLightP5:=by
 refine den_okF (env_ok (TOk.nil _)) (E:=eLightP) Tryz.func28 [4] (by kernel_rfl) (one1 ok_lightP_4) fun a b hp=>?_
 refine (q_lightP a).trans ?_
 simp only [List.length_map,dec_encsY,beq_self_eq_true,cond_true]
 show _=some (⟨.bool (N.lightP5 a),[],[]⟩:DRes)
 unfold N.lightP5
 cases h1:ilt 20 (a.places.length:Int) with
 | true=>rfl
 | false =>
  have h1':=ilt_nof h1
  rw [ble_t (show a.places.length≤20 by omega)]
  cases ilt 40 (a.slots.length:Int) with
  | true=>rfl
  | false =>
   cases ilt 10 (a.grants.length:Int) with
   | true=>rfl
   | false=>cases a.places.all N.shortP<;>rfl
end Go.Ev

/- A policy as the document's: lemmas,no condition. -/
namespace Go.Ev
open Go Go.Proofs
set_option maxRecDepth 100000
-- FOLD
def dLawTo:Den:=den (aOne (vAgg cPolicy)) bNil (oV (vAgg cPolicy)) (fun p _=>fewP p) fun p _=>(p,())
def schLawTo3:SSch:={ fr:=[(1,.ptr 10000 0 0),(2,.ptr 10001 0 0),(3,.ptr 10005 0 0),(14,.slc [.str,.int .u8,.int .u32,.int .i64,.int .u64]),(15,.int .i64),(16,.int .i64)],tab:=[(10000,.row [] xsPolicy),(10002,.sl [.str,.int .u8,.int .u32,.int .i64,.int .u64]),(10003,.sl [.int .i64]),(10004,.sl [.int .i64,.int .i64,.int .i64]),(10001,.var [.int .i64,.int .i64,.own 10002,.own 10003,.own 10004]),(10006,.sl [.str,.int .u8,.int .u32,.int .i64,.int .u64]),(10007,.sl [.int .i64]),(10008,.sl [.int .i64,.int .i64,.int .i64]),(10005,.var [.int .i64,.int .i64,.own 10006,.own 10007,.own 10008])] }
def gLawTo3:List Leaf→(Ex→St→Option R)→Option R
 | [.r r14,.i i15,.i i16,.c cx0,.r rx2,.r rx3,.r rx4,.i ix1,.i ix1_1,.r rx6,.r rx7,.r rx8,.i ix5,.i ix5_1],K=>cond (i15==r14.length) (cond (i16==0) (cond (Nat.ble r14.length 3000) (cond (Nat.beq rx6.length 0) (K (.exit 0) { fr:=[(1,.ptr 10000 0 0 0),(2,.ptr 10001 0 0 0),(3,.ptr 10005 0 0 0)],tab:=[(10000,.var (etaRow xsPolicy 0 cx0)),(10002,.sl [.str,.int .u8,.int .u32,.int .i64,.int .u64] rx2 0),(10003,.sl [.int .i64] rx3 0),(10004,.sl [.int .i64,.int .i64,.int .i64] rx4 0),(10001,.var [.int .i64 ix1,.int .i64 ix1_1,.own 10002 0,.own 10003 0,.own 10004 0]),(10006,.sl [.str,.int .u8,.int .u32,.int .i64,.int .u64] ((([]:List HPlace)++((r14).map cPlace.dec)).map cPlace.enc) 0),(10007,.sl [.int .i64] rx7 0),(10008,.sl [.int .i64,.int .i64,.int .i64] rx8 0),(10005,.var [.int .i64 ix5,.int .i64 ix5_1,.own 10006 0,.own 10007 0,.own 10008 0])] }) none) none) none) none
 | _,_=>none
def schLawTo9:SSch:={ fr:=[(2,.ptr 10000 0 0),(3,.ptr 10004 0 0),(34,.slc [.int .i64,.int .i64,.int .i64]),(35,.int .i64),(36,.int .i64)],tab:=[(10001,.sl [.str,.int .u8,.int .u32,.int .i64,.int .u64]),(10002,.sl [.int .i64]),(10003,.sl [.int .i64,.int .i64,.int .i64]),(10000,.var [.int .i64,.int .i64,.own 10001,.own 10002,.own 10003]),(10005,.sl [.str,.int .u8,.int .u32,.int .i64,.int .u64]),(10006,.sl [.int .i64]),(10007,.sl [.int .i64,.int .i64,.int .i64]),(10004,.var [.int .i64,.int .i64,.own 10005,.own 10006,.own 10007])] }
def gLawTo9:List Leaf→(Ex→St→Option R)→Option R
 | [.r r34,.i i35,.i i36,.r rx1,.r rx2,.r rx3,.i ix0,.i ix0_1,.r rx5,.r rx6,.r rx7,.i ix4,.i ix4_1],K=>cond (i35==r34.length) (cond (i36==0) (cond (Nat.ble r34.length 3000) (cond (Nat.beq rx7.length 0) (K (.exit 2) { fr:=[(2,.ptr 10000 0 0 0),(3,.ptr 10004 0 0 0)],tab:=[(10001,.sl [.str,.int .u8,.int .u32,.int .i64,.int .u64] rx1 0),(10002,.sl [.int .i64] rx2 0),(10003,.sl [.int .i64,.int .i64,.int .i64] rx3 0),(10000,.var [.int .i64 ix0,.int .i64 ix0_1,.own 10001 0,.own 10002 0,.own 10003 0]),(10005,.sl [.str,.int .u8,.int .u32,.int .i64,.int .u64] rx5 0),(10006,.sl [.int .i64] rx6 0),(10007,.sl [.int .i64,.int .i64,.int .i64] ((([]:List HGrant)++((r34).map cGrant.dec)).map cGrant.enc) 0),(10004,.var [.int .i64 ix4,.int .i64 ix4_1,.own 10005 0,.own 10006 0,.own 10007 0])] }) none) none) none) none
 | _,_=>none
noncomputable def eLawTo:Env:=env Tryz.prog [] [(9,loopF schLawTo9 gLawTo9),(3,loopF schLawTo3 gLawTo3)] [(3,[(0,[1,2,3,14,15,16]),(1,[1,2,3]),(1000,[2])]),(9,[(0,[2,3,34,35,36]),(3,[2,3]),(1000,[2])])]
theorem q_lawTo (p:HPolicy):evFn eLawTo 13 ((aOne (vAgg cPolicy)).enc p) ([]) some =
 cond ((↑(List.length (List.map (RCod.enc cPlace) (HPolicy.places p))):Int)==(↑(List.length (List.map (RCod.enc cPlace) (HPolicy.places p))):Int)) (cond (Nat.ble (List.length (List.map (RCod.enc cPlace) (HPolicy.places p))) 3000) (cond (decide ((0+List.length (List.map (RCod.enc (rInt .i64)) (HPolicy.slots p)))*8≤140737488355328)) (cond ((↑(List.length (List.map (RCod.enc cGrant) (HPolicy.grants p))):Int)==(↑(List.length (List.map (RCod.enc cGrant) (HPolicy.grants p))):Int)) (cond (Nat.ble (List.length (List.map (RCod.enc cGrant) (HPolicy.grants p))) 3000) (some {v:=V.agg [V.int .i64 (HPolicy.work p),V.int .i64 (HPolicy.give p),V.slc [.str,.int .u8,.int .u32,.int .i64,.int .u64] (List.map (RCod.enc cPlace) ([]++List.map (RCod.dec cPlace) (List.map (RCod.enc cPlace) (HPolicy.places p)))),V.slc [.int .i64] ([]++List.map (RCod.enc (rInt .i64)) (HPolicy.slots p)),V.slc [.int .i64,.int .i64,.int .i64] (List.map (RCod.enc cGrant) ([]++List.map (RCod.dec cGrant) (List.map (RCod.enc cGrant) (HPolicy.grants p))))],bx:=[]:DRes}) (none)) (none)) (none)) (none)) (none):=by kernel_rfl
theorem q_lawToR3 (r14:List (List V)) (i15:Int) (i16:Int) (cx0:List V) (rx2:List (List V)) (rx3:List (List V)) (rx4:List (List V)) (ix1:Int) (ix1_1:Int) (rx6:List (List V)) (rx7:List (List V)) (rx8:List (List V)) (ix5:Int) (ix5_1:Int) (K:Ex→St→Option R):evRound eLawTo 13 3 { fr:=[(1,.ptr 10000 0 0 0),(2,.ptr 10001 0 0 0),(3,.ptr 10005 0 0 0),(14,.slc [.str,.int .u8,.int .u32,.int .i64,.int .u64] r14),(15,.int .i64 i15),(16,.int .i64 i16)],tab:=[(10000,.var (etaRow xsPolicy 0 cx0)),(10002,.sl [.str,.int .u8,.int .u32,.int .i64,.int .u64] rx2 0),(10003,.sl [.int .i64] rx3 0),(10004,.sl [.int .i64,.int .i64,.int .i64] rx4 0),(10001,.var [.int .i64 ix1,.int .i64 ix1_1,.own 10002 0,.own 10003 0,.own 10004 0]),(10006,.sl [.str,.int .u8,.int .u32,.int .i64,.int .u64] rx6 0),(10007,.sl [.int .i64] rx7 0),(10008,.sl [.int .i64,.int .i64,.int .i64] rx8 0),(10005,.var [.int .i64 ix5,.int .i64 ix5_1,.own 10006 0,.own 10007 0,.own 10008 0])] } K =
 cond (ilt i16 i15) (cond (decide ((0:Int)≤i16∧i16<(↑(List.length r14):Int))) (cond (decide ((List.length rx6+1)*40≤140737488355328)) (K Ex.normal {fr:=[(1,V.ptr 10000 0 0 0),(2,V.ptr 10001 0 0 0),(3,V.ptr 10005 0 0 0),(14,V.slc [.str,.int .u8,.int .u32,.int .i64,.int .u64] r14),(15,V.int .i64 i15),(16,V.int .i64 (IntKind.wrap .i64 (i16+(1:Int))))],tab:=[(10000,Box.var [V.int .i64 (V.toInt (List.getD cx0 0 .undef)),V.int .i64 (V.toInt (List.getD cx0 1 .undef)),V.slc [.str,.int .u8,.int .u32,.int .i64,.int .u64] (V.toRows (List.getD cx0 2 .undef)),V.slc [.int .i64] (V.toRows (List.getD cx0 3 .undef)),V.slc [.int .i64,.int .i64,.int .i64] (V.toRows (List.getD cx0 4 .undef))]),(10002,Box.sl [.str,.int .u8,.int .u32,.int .i64,.int .u64] rx2 0),(10003,Box.sl [.int .i64] rx3 0),(10004,Box.sl [.int .i64,.int .i64,.int .i64] rx4 0),(10001,Box.var [V.int .i64 ix1,V.int .i64 ix1_1,V.own 10002 0,V.own 10003 0,V.own 10004 0]),(10006,Box.sl [.str,.int .u8,.int .u32,.int .i64,.int .u64] (rx6++[[V.str (V.toStr (List.getD (List.getD r14 (Int.toNat i16) []) 0 V.undef)),V.int .u8 (V.toInt (List.getD (List.getD r14 (Int.toNat i16) []) 1 V.undef)),V.int .u32 (V.toInt (List.getD (List.getD r14 (Int.toNat i16) []) 2 V.undef)),V.int .i64 (V.toInt (List.getD (List.getD r14 (Int.toNat i16) []) 3 V.undef)),V.int .u64 (V.toInt (List.getD (List.getD r14 (Int.toNat i16) []) 4 V.undef))]]) 0),(10007,Box.sl [.int .i64] rx7 0),(10008,Box.sl [.int .i64,.int .i64,.int .i64] rx8 0),(10005,Box.var [V.int .i64 ix5,V.int .i64 ix5_1,V.own 10006 0,V.own 10007 0,V.own 10008 0])]:St}) (none)) (none)) (K (Ex.exit 0) {fr:=[(1,V.ptr 10000 0 0 0),(2,V.ptr 10001 0 0 0),(3,V.ptr 10005 0 0 0)],tab:=[(10000,Box.var [V.int .i64 (V.toInt (List.getD cx0 0 .undef)),V.int .i64 (V.toInt (List.getD cx0 1 .undef)),V.slc [.str,.int .u8,.int .u32,.int .i64,.int .u64] (V.toRows (List.getD cx0 2 .undef)),V.slc [.int .i64] (V.toRows (List.getD cx0 3 .undef)),V.slc [.int .i64,.int .i64,.int .i64] (V.toRows (List.getD cx0 4 .undef))]),(10002,Box.sl [.str,.int .u8,.int .u32,.int .i64,.int .u64] rx2 0),(10003,Box.sl [.int .i64] rx3 0),(10004,Box.sl [.int .i64,.int .i64,.int .i64] rx4 0),(10001,Box.var [V.int .i64 ix1,V.int .i64 ix1_1,V.own 10002 0,V.own 10003 0,V.own 10004 0]),(10006,Box.sl [.str,.int .u8,.int .u32,.int .i64,.int .u64] rx6 0),(10007,Box.sl [.int .i64] rx7 0),(10008,Box.sl [.int .i64,.int .i64,.int .i64] rx8 0),(10005,Box.var [V.int .i64 ix5,V.int .i64 ix5_1,V.own 10006 0,V.own 10007 0,V.own 10008 0])]:St}):=by kernel_rfl
theorem q_lawToR9 (r34:List (List V)) (i35:Int) (i36:Int) (rx1:List (List V)) (rx2:List (List V)) (rx3:List (List V)) (ix0:Int) (ix0_1:Int) (rx5:List (List V)) (rx6:List (List V)) (rx7:List (List V)) (ix4:Int) (ix4_1:Int) (K:Ex→St→Option R):evRound eLawTo 13 9 { fr:=[(2,.ptr 10000 0 0 0),(3,.ptr 10004 0 0 0),(34,.slc [.int .i64,.int .i64,.int .i64] r34),(35,.int .i64 i35),(36,.int .i64 i36)],tab:=[(10001,.sl [.str,.int .u8,.int .u32,.int .i64,.int .u64] rx1 0),(10002,.sl [.int .i64] rx2 0),(10003,.sl [.int .i64,.int .i64,.int .i64] rx3 0),(10000,.var [.int .i64 ix0,.int .i64 ix0_1,.own 10001 0,.own 10002 0,.own 10003 0]),(10005,.sl [.str,.int .u8,.int .u32,.int .i64,.int .u64] rx5 0),(10006,.sl [.int .i64] rx6 0),(10007,.sl [.int .i64,.int .i64,.int .i64] rx7 0),(10004,.var [.int .i64 ix4,.int .i64 ix4_1,.own 10005 0,.own 10006 0,.own 10007 0])] } K =
 cond (ilt i36 i35) (cond (decide ((0:Int)≤i36∧i36<(↑(List.length r34):Int))) (cond (decide ((List.length rx7+1)*24≤140737488355328)) (K Ex.normal {fr:=[(2,V.ptr 10000 0 0 0),(3,V.ptr 10004 0 0 0),(34,V.slc [.int .i64,.int .i64,.int .i64] r34),(35,V.int .i64 i35),(36,V.int .i64 (IntKind.wrap .i64 (i36+(1:Int))))],tab:=[(10001,Box.sl [.str,.int .u8,.int .u32,.int .i64,.int .u64] rx1 0),(10002,Box.sl [.int .i64] rx2 0),(10003,Box.sl [.int .i64,.int .i64,.int .i64] rx3 0),(10000,Box.var [V.int .i64 ix0,V.int .i64 ix0_1,V.own 10001 0,V.own 10002 0,V.own 10003 0]),(10005,Box.sl [.str,.int .u8,.int .u32,.int .i64,.int .u64] rx5 0),(10006,Box.sl [.int .i64] rx6 0),(10007,Box.sl [.int .i64,.int .i64,.int .i64] (rx7++[[V.int .i64 (V.toInt (List.getD (List.getD r34 (Int.toNat i36) []) 0 V.undef)),V.int .i64 (V.toInt (List.getD (List.getD r34 (Int.toNat i36) []) 1 V.undef)),V.int .i64 (V.toInt (List.getD (List.getD r34 (Int.toNat i36) []) 2 V.undef))]]) 0),(10004,Box.var [V.int .i64 ix4,V.int .i64 ix4_1,V.own 10005 0,V.own 10006 0,V.own 10007 0])]:St}) (none)) (none)) (K (Ex.exit 2) {fr:=[(2,V.ptr 10000 0 0 0),(3,V.ptr 10004 0 0 0)],tab:=[(10001,Box.sl [.str,.int .u8,.int .u32,.int .i64,.int .u64] rx1 0),(10002,Box.sl [.int .i64] rx2 0),(10003,Box.sl [.int .i64,.int .i64,.int .i64] rx3 0),(10000,Box.var [V.int .i64 ix0,V.int .i64 ix0_1,V.own 10001 0,V.own 10002 0,V.own 10003 0]),(10005,Box.sl [.str,.int .u8,.int .u32,.int .i64,.int .u64] rx5 0),(10006,Box.sl [.int .i64] rx6 0),(10007,Box.sl [.int .i64,.int .i64,.int .i64] rx7 0),(10004,Box.var [V.int .i64 ix4,V.int .i64 ix4_1,V.own 10005 0,V.own 10006 0,V.own 10007 0])]:St}):=by kernel_rfl
theorem ok_lawTo_3:RoundsOk eLawTo 13 3:=by
 refine rounds_of rfl fun l K q h=>?_
 unfold gLawTo3 at h
 split at h
 ·rename_i r14 i15 i16 cx0 rx2 rx3 rx4 ix1 ix1_1 rx6 rx7 rx8 ix5 ix5_1
  have h1:=(cond_none h).1; replace h:=(cond_none h).2; have h2:=(cond_none h).1; replace h:=(cond_none h).2; have h3:=(cond_none h).1; replace h:=(cond_none h).2; have h4:=(cond_none h).1; replace h:=(cond_none h).2
  have e1:=ieq_of h1
  have e2:=ieq_of h2
  subst e1 e2
  have h3:r14.length≤3000:=ble_of h3
  have e4:=List.eq_nil_of_length_eq_zero (Nat.eq_of_beq_eq_true h4)
  subst e4
  have main:=range_ind (E:=eLawTo) (f:=13) (id:=3) (A:=List HPlace) (r14) (fun a i=>{ fr:=[(1,.ptr 10000 0 0 0),(2,.ptr 10001 0 0 0),(3,.ptr 10005 0 0 0),(14,.slc [.str,.int .u8,.int .u32,.int .i64,.int .u64] r14),(15,.int .i64 r14.length),(16,.int .i64 i)],tab:=[(10000,.var (etaRow xsPolicy 0 cx0)),(10002,.sl [.str,.int .u8,.int .u32,.int .i64,.int .u64] rx2 0),(10003,.sl [.int .i64] rx3 0),(10004,.sl [.int .i64,.int .i64,.int .i64] rx4 0),(10001,.var [.int .i64 ix1,.int .i64 ix1_1,.own 10002 0,.own 10003 0,.own 10004 0]),(10006,.sl [.str,.int .u8,.int .u32,.int .i64,.int .u64] (a.map cPlace.enc) 0),(10007,.sl [.int .i64] rx7 0),(10008,.sl [.int .i64,.int .i64,.int .i64] rx8 0),(10005,.var [.int .i64 ix5,.int .i64 ix5_1,.own 10006 0,.own 10007 0,.own 10008 0])] }) (fun a i=>a.length≤i)
   (fun a rows K=>K (.exit 0) { fr:=[(1,.ptr 10000 0 0 0),(2,.ptr 10001 0 0 0),(3,.ptr 10005 0 0 0)],tab:=[(10000,.var (etaRow xsPolicy 0 cx0)),(10002,.sl [.str,.int .u8,.int .u32,.int .i64,.int .u64] rx2 0),(10003,.sl [.int .i64] rx3 0),(10004,.sl [.int .i64,.int .i64,.int .i64] rx4 0),(10001,.var [.int .i64 ix1,.int .i64 ix1_1,.own 10002 0,.own 10003 0,.own 10004 0]),(10006,.sl [.str,.int .u8,.int .u32,.int .i64,.int .u64] ((a++((rows).map cPlace.dec)).map cPlace.enc) 0),(10007,.sl [.int .i64] rx7 0),(10008,.sl [.int .i64,.int .i64,.int .i64] rx8 0),(10005,.var [.int .i64 ix5,.int .i64 ix5_1,.own 10006 0,.own 10007 0,.own 10008 0])] }) (fun a i ha hi=>?_) (fun a ha=>?_) (([]:List HPlace)) 0 (Int.le_refl _) (by omega) (Nat.zero_le _) K q (by assumption)
  ·exact main
  ·have hq:=fun K=>q_lawToR3 (r14) (r14.length) ((i:Int)) (cx0) (rx2) (rx3) (rx4) (ix1) (ix1_1) ((a.map cPlace.enc)) (rx7) (rx8) (ix5) (ix5_1) K
   have t1:ilt (i:Int) r14.length=true:=ilt_t (by omega)
   have t2:decide ((0:Int)≤i∧(i:Int)<r14.length)=true:=decide_eq_true (by omega)
   have t3:IntKind.wrap .i64 ((i:Int)+1)=(i:Int)+1:=wr_i64 (by omega) (by omega)
   have t5:decide (((a.map cPlace.enc).length+1)*40≤140737488355328)=true:=decide_eq_true (by rw [List.length_map]; omega)
   simp only [Int.toNat_natCast] at hq
   simp only [t1,t2,t3,cond_true,t5] at hq
   refine .inl ⟨a++[cPlace.dec (r14.getD i [])],by rw [List.length_append,List.length_singleton]; omega,fun K=>?_,fun K=>?_⟩
   ·rw [hq]
    simp only [List.map_append]
    try rfl
   ·simp only [List.map_cons,List.append_assoc,List.singleton_append]
  ·refine ⟨.exit 0,_,by simp,fun K=>?_,fun K=>rfl⟩
   rw [q_lawToR3,ilt_f (Int.le_refl _)]
   simp only [List.map_nil,List.append_nil]
   try rfl
 ·cases h
theorem ok_lawTo_9:RoundsOk eLawTo 13 9:=by
 refine rounds_of rfl fun l K q h=>?_
 unfold gLawTo9 at h
 split at h
 ·rename_i r34 i35 i36 rx1 rx2 rx3 ix0 ix0_1 rx5 rx6 rx7 ix4 ix4_1
  have h1:=(cond_none h).1; replace h:=(cond_none h).2; have h2:=(cond_none h).1; replace h:=(cond_none h).2; have h3:=(cond_none h).1; replace h:=(cond_none h).2; have h4:=(cond_none h).1; replace h:=(cond_none h).2
  have e1:=ieq_of h1
  have e2:=ieq_of h2
  subst e1 e2
  have h3:r34.length≤3000:=ble_of h3
  have e4:=List.eq_nil_of_length_eq_zero (Nat.eq_of_beq_eq_true h4)
  subst e4
  have main:=range_ind (E:=eLawTo) (f:=13) (id:=9) (A:=List HGrant) (r34) (fun a i=>{ fr:=[(2,.ptr 10000 0 0 0),(3,.ptr 10004 0 0 0),(34,.slc [.int .i64,.int .i64,.int .i64] r34),(35,.int .i64 r34.length),(36,.int .i64 i)],tab:=[(10001,.sl [.str,.int .u8,.int .u32,.int .i64,.int .u64] rx1 0),(10002,.sl [.int .i64] rx2 0),(10003,.sl [.int .i64,.int .i64,.int .i64] rx3 0),(10000,.var [.int .i64 ix0,.int .i64 ix0_1,.own 10001 0,.own 10002 0,.own 10003 0]),(10005,.sl [.str,.int .u8,.int .u32,.int .i64,.int .u64] rx5 0),(10006,.sl [.int .i64] rx6 0),(10007,.sl [.int .i64,.int .i64,.int .i64] (a.map cGrant.enc) 0),(10004,.var [.int .i64 ix4,.int .i64 ix4_1,.own 10005 0,.own 10006 0,.own 10007 0])] }) (fun a i=>a.length≤i)
   (fun a rows K=>K (.exit 2) { fr:=[(2,.ptr 10000 0 0 0),(3,.ptr 10004 0 0 0)],tab:=[(10001,.sl [.str,.int .u8,.int .u32,.int .i64,.int .u64] rx1 0),(10002,.sl [.int .i64] rx2 0),(10003,.sl [.int .i64,.int .i64,.int .i64] rx3 0),(10000,.var [.int .i64 ix0,.int .i64 ix0_1,.own 10001 0,.own 10002 0,.own 10003 0]),(10005,.sl [.str,.int .u8,.int .u32,.int .i64,.int .u64] rx5 0),(10006,.sl [.int .i64] rx6 0),(10007,.sl [.int .i64,.int .i64,.int .i64] ((a++((rows).map cGrant.dec)).map cGrant.enc) 0),(10004,.var [.int .i64 ix4,.int .i64 ix4_1,.own 10005 0,.own 10006 0,.own 10007 0])] }) (fun a i ha hi=>?_) (fun a ha=>?_) (([]:List HGrant)) 0 (Int.le_refl _) (by omega) (Nat.zero_le _) K q (by assumption)
  ·exact main
  ·have hq:=fun K=>q_lawToR9 (r34) (r34.length) ((i:Int)) (rx1) (rx2) (rx3) (ix0) (ix0_1) (rx5) (rx6) ((a.map cGrant.enc)) (ix4) (ix4_1) K
   have t1:ilt (i:Int) r34.length=true:=ilt_t (by omega)
   have t2:decide ((0:Int)≤i∧(i:Int)<r34.length)=true:=decide_eq_true (by omega)
   have t3:IntKind.wrap .i64 ((i:Int)+1)=(i:Int)+1:=wr_i64 (by omega) (by omega)
   have t5:decide (((a.map cGrant.enc).length+1)*24≤140737488355328)=true:=decide_eq_true (by rw [List.length_map]; omega)
   simp only [Int.toNat_natCast] at hq
   simp only [t1,t2,t3,cond_true,t5] at hq
   refine .inl ⟨a++[cGrant.dec (r34.getD i [])],by rw [List.length_append,List.length_singleton]; omega,fun K=>?_,fun K=>?_⟩
   ·rw [hq]
    simp only [List.map_append]
    try rfl
   ·simp only [List.map_cons,List.append_assoc,List.singleton_append]
  ·refine ⟨.exit 2,_,by simp,fun K=>?_,fun K=>rfl⟩
   rw [q_lawToR9,ilt_f (Int.le_refl _)]
   simp only [List.map_nil,List.append_nil]
   try rfl
 ·cases h
theorem ok_lawTo:FnOk Tryz.prog 13 dLawTo:=by
 refine den_okF (env_ok (TOk.nil _)) (E:=eLawTo) Tryz.func13 [3,9] (by kernel_rfl) (two2 ok_lawTo_3 ok_lawTo_9) fun a b hp=>?_
 have hf:fewP a=true:=hp
 obtain ⟨f1,f2⟩:=bcond hf
 obtain ⟨f2,f3⟩:=bcond f2
 refine (q_lawTo a).trans ?_
 have f2':=ble_of f2
 have t5:decide ((0+a.slots.length)*8≤140737488355328)=true:=decide_eq_true (by omega)
 simp only [List.length_map,dec_encsY,f1,f3,t5,beq_self_eq_true,cond_true,List.nil_append]
 try rfl
end Go.Ev

/- Policies: the chapter's example,which may be,and the statement on flows: lemmas; the function that writes numbers is a premise. -/
namespace Go.Ev
open Go Go.Proofs
set_option maxRecDepth 100000
-- FOLD
noncomputable def eAw4p:Env:=env Tryz.prog [(69,dTrueW)] [] []
theorem q_aw4p:evFn eAw4p 36 [] [] some=some ⟨.bool true,[],[]⟩:=by kernel_rfl
theorem ok_aw4p:FnOk Tryz.prog 36 dTrue:=den_okF (env_ok ((TOk.nil _).cons ok_awW)) (E:=eAw4p) Tryz.func36 [] (by kernel_rfl) none0 fun _ _ _=>q_aw4p
noncomputable def eAw3p:Env:=env Tryz.prog [(68,dTrue)] [] []
theorem q_aw3p:evFn eAw3p 35 [] [] some=some ⟨.bool true,[],[]⟩:=by kernel_rfl
theorem ok_aw3p (hN:FnOk Tryz.prog 127 dOutNum):FnOk Tryz.prog 35 dTrue:=den_okF (env_ok ((TOk.nil _).cons (ok_aw3 hN))) (E:=eAw3p) Tryz.func35 [] (by kernel_rfl) none0 fun _ _ _=>q_aw3p
noncomputable def eAw5:Env:=env Tryz.prog [(10,dPParse),(35,dTrue),(36,dTrue)] [] []
theorem q_aw5:evFn eAw5 9 [] [] some=some ⟨.bool true,[],[]⟩:=by kernel_rfl
theorem ok_aw5 (hN:FnOk Tryz.prog 127 dOutNum):FnOk Tryz.prog 9 dTrue:=den_okF (env_ok ((((TOk.nil _).cons ok_aw4p).cons (ok_aw3p hN)).cons ok_pParse)) (E:=eAw5) Tryz.func9 [] (by kernel_rfl) none0 fun _ _ _=>q_aw5
namespace N
end N
theorem light_few {p:HPolicy} (h:N.lightP5 p=true):fewC p=true:=by
 have h:cond (ilt 20 p.places.length) false (cond (ilt 40 p.slots.length) false (cond (ilt 10 p.grants.length) false (p.places.all N.shortP)))=true:=h
 cases h1:ilt 20 (p.places.length:Int) with
 | true=>rw [h1] at h; cases h
 | false =>
  cases h2:ilt 40 (p.slots.length:Int) with
  | true=>rw [h1,h2] at h; cases h
  | false =>
   cases h3:ilt 10 (p.grants.length:Int) with
   | true=>rw [h1,h2,h3] at h; cases h
   | false =>
    rw [h1,h2,h3] at h
    have h4:∀ x∈p.places,Nat.ble x.name.length 1000000=true:=fun x hx=>by
     have:=List.all_eq_true.1 h x hx
     have:=ilt_nof (show ilt 40 (x.name.length:Int)=false by simpa [N.shortP] using this)
     exact Nat.ble_eq_true_of_le (by omega)
    have:=ilt_nof h1
    have:=ilt_nof h2
    have:=ilt_nof h3
    show cond (cond (Nat.ble p.places.length 3000) (cond (Nat.ble p.slots.length 3000) (Nat.ble p.grants.length 3000) false) false) (p.places.all fun x=>Nat.ble x.name.length 1000000) false=true
    rw [Nat.ble_eq_true_of_le (by omega),Nat.ble_eq_true_of_le (by omega),Nat.ble_eq_true_of_le (by omega),List.all_eq_true.2 h4]; rfl
end Go.Ev

/- Slots: whose turn it is,rounds,turns; the document's answers: lemmas,no condition. -/
namespace Go.Ev
open Go Go.Proofs
set_option maxRecDepth 100000
-- FOLD
namespace N
end N
end Go.Ev

/- The first turn of a place,by the program: lemmas,no condition. -/
namespace Go.Ev
open Go Go.Proofs Go.RowKit
set_option maxRecDepth 100000
theorem grown_keeps {w w' : World} (h:Keeps (LocHas [] []) w w'):w.grownBy w' none:=by
 refine ⟨h.os,h.tape,h.output,h.size,fun k hk _=>?_⟩
 have hk':=h.obj k hk
 have hn:∀ i,¬ LocHas [] [] k i:=fun i ⟨j,p,cs,h1,_⟩=>by simp at h1
 unfold ObjOk at hk'
 split at hk'
 ·rename_i c e f h0
  obtain ⟨c',h1,_,h3⟩:=hk'
  obtain rfl:c' = c:=Array.ext_getElem? fun i=>h3 i (hn i)
  rw [h1,h0]
 ·exact hk'
end Go.Ev

/- Slots: the chapter's example,the statements on turns and on rounds: lemmas; the function that writes numbers is a premise. -/
namespace Go.Ev
open Go Go.Proofs
set_option maxRecDepth 100000
-- FOLD
end Go.Ev

/- Numbers are written,by the document: lemmas,no condition. -/
namespace Go.Ev
open Go Go.Proofs
set_option maxRecDepth 100000
-- FOLD
namespace N
def decU (n:Int):Bytes:=Lib.decDigits n.toNat
end N
theorem dec_small {n:Nat} (h:n<10):Lib.decDigits n=[UInt8.ofNat (48+n)]:=by rw [Lib.decDigits,dif_pos h]
theorem dec_step10 {n:Nat} (h:¬ n<10):Lib.decDigits n=Lib.decDigits (n / 10)++Lib.decDigits (n % 10):=by
 rw [dec_small (n:=n % 10) (Nat.mod_lt _ (by omega)),Lib.decDigits,dif_neg h]
def dDigU (k:Nat):Den:=den (aOne (vInt .u64)) bNil (oV vStr) (fun n _=>cond (ile 0 n) (cond (ilt n ((10 ^ k:Nat):Int)) (ilt n 18446744073709551616) false) false) fun n _=>(N.decU n,())
noncomputable def eDigU0:Env:=env Tryz.prog [] [] []
noncomputable def eDigU (k:Nat):Env:=env Tryz.prog [(66,dDigU k)] [] []
theorem q_digU0 (n:Int):evFn eDigU0 66 ((aOne (vInt .u64)).enc n) ([]) some =
 cond (ilt n (10:Int)) (cond (decide ((0:Int)≤IntKind.wrap .u64 (n+(1:Int))∧IntKind.wrap .u64 (n+(1:Int))≤(↑(10:Nat):Int))) (cond (decide ((0:Int)≤n∧n≤(↑(Int.toNat (IntKind.wrap .u64 (n+(1:Int)))):Int))) (some {v:=V.str (List.drop (Int.toNat n) (List.take (Int.toNat (IntKind.wrap .u64 (n+(1:Int)))) [(48:UInt8),(49:UInt8),(50:UInt8),(51:UInt8),(52:UInt8),(53:UInt8),(54:UInt8),(55:UInt8),(56:UInt8),(57:UInt8)])),bx:=[]:DRes}) (none)) (none)) (none):=by kernel_rfl
theorem q_digU (k:Nat) (n:Int):evFn (eDigU k) 66 ((aOne (vInt .u64)).enc n) ([]) some =
 cond (ilt n (10:Int)) (cond (decide ((0:Int)≤IntKind.wrap .u64 (n+(1:Int))∧IntKind.wrap .u64 (n+(1:Int))≤(↑(10:Nat):Int))) (cond (decide ((0:Int)≤n∧n≤(↑(Int.toNat (IntKind.wrap .u64 (n+(1:Int)))):Int))) (some {v:=V.str (List.drop (Int.toNat n) (List.take (Int.toNat (IntKind.wrap .u64 (n+(1:Int)))) [(48:UInt8),(49:UInt8),(50:UInt8),(51:UInt8),(52:UInt8),(53:UInt8),(54:UInt8),(55:UInt8),(56:UInt8),(57:UInt8)])),bx:=[]:DRes}) (none)) (none)) (cond (bif ile (0:Int) (IntKind.wrap .u64 (Int.tdiv n (10:Int))) then bif ilt (IntKind.wrap .u64 (Int.tdiv n (10:Int))) (↑((10:Nat) ^ k):Int) then ilt (IntKind.wrap .u64 (Int.tdiv n (10:Int))) (18446744073709551616:Int) else false else false) (cond (bif ile (0:Int) (Int.tmod n (10:Int)) then bif ilt (Int.tmod n (10:Int)) (↑((10:Nat) ^ k):Int) then ilt (Int.tmod n (10:Int)) (18446744073709551616:Int) else false else false) (cond (Nat.ble (List.length (N.decU (IntKind.wrap .u64 (Int.tdiv n (10:Int))))+List.length (N.decU (Int.tmod n (10:Int)))) 9223372036854775807) (some {v:=V.str (N.decU (IntKind.wrap .u64 (Int.tdiv n (10:Int)))++N.decU (Int.tmod n (10:Int))),bx:=[]:DRes}) (none)) (none)) (none)):=by kernel_rfl
theorem dec_len:∀ (k n:Nat),1≤k→n<10 ^ k→(Lib.decDigits n).length≤k
 | 0,_,h,_=>by omega
 | k+1,n,_,h=>by
  by_cases h1:n<10
  ·rw [dec_small h1]; exact Nat.succ_le_succ (Nat.zero_le _)
  ·cases k with
   | zero=>exact absurd h (by simpa using h1)
   | succ k =>
    rw [dec_step10 h1,List.length_append,dec_small (n:=n % 10) (Nat.mod_lt _ (by omega))]
    have:=dec_len (k+1) (n / 10) (by omega) (by rw [Nat.pow_succ] at h; omega)
    simp only [List.length_cons,List.length_nil]; omega
theorem dig_piece {n:Nat} (h:n<10):List.drop n (List.take (n+1) ([48,49,50,51,52,53,54,55,56,57]:Bytes))=Lib.decDigits n:=by
 rw [dec_small h]
 have:∀ m:Fin 10,List.drop m.val (List.take (m.val+1) ([48,49,50,51,52,53,54,55,56,57]:Bytes))=[UInt8.ofNat (48+m.val)]:=by decide +kernel
 exact this ⟨n,h⟩
theorem decU_nat (n:Nat):N.decU (n:Int)=Lib.decDigits n:=rfl
theorem dDigU_of {k:Nat} {n:Int} (h:cond (ile 0 n) (cond (ilt n ((10 ^ k:Nat):Int)) (ilt n 18446744073709551616) false) false=true):∃ m:Nat,n=m∧m<10 ^ k∧m<18446744073709551616:=by
 obtain ⟨h1,h⟩:=bcond h
 obtain ⟨h2,h3⟩:=bcond h
 have h1:=ile_of h1
 have h2:=ilt_of h2
 have h3:=ilt_of h3
 exact ⟨n.toNat,by omega,by omega,by omega⟩
theorem small_piece {m:Nat} (h:m<10):(cond (decide ((0:Int)≤IntKind.wrap .u64 ((m:Int)+1)∧IntKind.wrap .u64 ((m:Int)+1)≤((10:Nat):Int)))
  (cond (decide ((0:Int)≤(m:Int)∧(m:Int)≤((Int.toNat (IntKind.wrap .u64 ((m:Int)+1)):Nat):Int))) (some (⟨.str (List.drop (Int.toNat (m:Int)) (List.take (Int.toNat (IntKind.wrap .u64 ((m:Int)+1))) ([48,49,50,51,52,53,54,55,56,57]:Bytes))),[],[]⟩:DRes)) none) none)=some ⟨.str (N.decU m),[],[]⟩:=by
 have w:IntKind.wrap .u64 ((m:Int)+1)=((m+1:Nat):Int):=by rw [show (m:Int)+1=((m+1:Nat):Int) by omega]; exact wrU (by omega) (by omega)
 rw [w,decide_eq_true (by omega),decide_eq_true (by omega)]
 simp only [Int.toNat_natCast,cond_true,dig_piece h,decU_nat]
theorem ok_digU:∀ k,FnOk Tryz.prog 66 (dDigU (k+1))
 | 0=>by
  refine den_okF (env_ok (TOk.nil _)) (E:=eDigU0) Tryz.func66 [] (by kernel_rfl) none0 fun n u hp=>?_
  obtain ⟨m,rfl,h1,h2⟩:=dDigU_of (k:=0+1) hp
  have h1:m<10:=h1
  refine (q_digU0 m).trans ?_
  rw [ilt_t (by omega)]
  exact small_piece h1
 | k+1=>by
  refine den_okF (env_ok ((TOk.nil _).cons (ok_digU k))) (E:=eDigU (k+1)) Tryz.func66 [] (by kernel_rfl) none0 fun n u hp=>?_
  obtain ⟨m,rfl,h1,h2⟩:=dDigU_of (k:=k+1+1) hp
  refine (q_digU (k+1) m).trans ?_
  by_cases h:m<10
  ·rw [ilt_t (by omega)]
   exact small_piece h
  ·rw [ilt_f (by omega)]
   have hp1:10≤10 ^ (k+1):=by
    have:=Nat.one_le_pow k 10 (by omega)
    rw [Nat.pow_succ]; omega
   have hd:m / 10<10 ^ (k+1):=by
    have:10 ^ (k+1+1)=10 ^ (k+1)*10:=Nat.pow_succ ..
    omega
   have hm:m % 10<10:=Nat.mod_lt _ (by omega)
   have e1:Int.tdiv (m:Int) 10=((m / 10:Nat):Int):=rfl
   have e2:Int.tmod (m:Int) 10=((m % 10:Nat):Int):=rfl
   have w:IntKind.wrap .u64 ((m / 10:Nat):Int)=((m / 10:Nat):Int):=wrU (by omega) (by omega)
   have l1:=dec_len 20 (m / 10) (by omega) (by omega)
   have l2:=dec_len 1 (m % 10) (by omega) (by omega)
   have bl:Nat.ble ((N.decU ((m / 10:Nat):Int)).length+(N.decU ((m % 10:Nat):Int)).length) 9223372036854775807=true:=Nat.ble_eq_true_of_le (by rw [decU_nat,decU_nat]; omega)
   have t1:ile 0 ((m / 10:Nat):Int)=true:=ile_t (by omega)
   have t2:ilt ((m / 10:Nat):Int) ((10 ^ (k+1):Nat):Int)=true:=ilt_t (by omega)
   have t3:ilt ((m / 10:Nat):Int) 18446744073709551616=true:=ilt_t (by omega)
   have t4:ile 0 ((m % 10:Nat):Int)=true:=ile_t (by omega)
   have t5:ilt ((m % 10:Nat):Int) ((10 ^ (k+1):Nat):Int)=true:=ilt_t (by omega)
   have t6:ilt ((m % 10:Nat):Int) 18446744073709551616=true:=ilt_t (by omega)
   simp only [e1,e2,w,t1,t2,t3,t4,t5,t6,bl,cond_true,cond_false]
   show some (⟨.str (Lib.decDigits (m / 10)++Lib.decDigits (m % 10)),[],[]⟩:DRes)=some (⟨.str (Lib.decDigits m),[],[]⟩:DRes)
   rw [← dec_step10 h]
def dDigP:Den:=dDigU 20
theorem ok_digP:FnOk Tryz.prog 66 dDigP:=ok_digU 19
end Go.Ev

/- The library writes numbers: the plain functions: lemmas,no condition. -/
namespace Go.Ev
open Go Go.Proofs Go.RowKit Go.Sort
set_option maxRecDepth 100000
theorem tab_of {W : World} {J : Nat → Nat → Prop} (hH : Held Tryz.prog J W) : Lib.TabIs Tryz.prog W "internal/strconv.uint64pow10" .u64 Lib.pow10Tab := tabIs_of (by kernel_rfl) rfl (by kernel_rfl) (by rw [Lib.pow10Tab_length]; omega) hH
def dFmtU:Den:=den (aCons (vInt .u64) (aOne (vInt .i64))) bNil (oV vStr) (fun a _=>cond (cond (ile 0 a.1) (ilt a.1 18446744073709551616) false) (a.2==10) false) fun a _=>(N.decU a.1,())
def dItoaP:Den:=den (aOne (vInt .i64)) bNil (oV vStr) (fun n _=>cond (ile 0 n) (ile n 1000000) false) fun n _=>(N.decU n,())
theorem ok_fmtUi:FnOk Tryz.prog 85 dFmtU:=by
 refine den_of fun a u h=>?_
 obtain ⟨n,b⟩:=a
 obtain ⟨h1,h2⟩:=bcond (show cond (cond (ile 0 n) (ilt n 18446744073709551616) false) (b==10) false=true from h)
 obtain ⟨h1,h3⟩:=bcond h1
 have h1:=ile_of h1
 have h3:=ilt_of h3
 obtain rfl:=ieq_of h2
 obtain ⟨m,rfl⟩:=Int.eq_ofNat_of_zero_le h1
 intro x y hxy w J locs xs hlen hJ hx _ _ hH
 have hxy:x=(aCons (vInt .u64) (aOne (vInt .i64))).enc ((m:Int),10)∧y=bNil.enc u:=by simpa using hxy
 obtain ⟨rfl,rfl⟩:=hxy
 have hlen:locs=[]:=List.eq_nil_of_length_eq_zero hlen
 subst hlen
 obtain ⟨x0,xs1,rfl,hx0,hx⟩:=hx.uncons
 obtain ⟨x1,rfl,hx1⟩:=hx.one
 have hx0:=Rv.int_inv (show Rv w J _ (.int .u64 m) x0 from hx0)
 have hx1:=Rv.int_inv (show Rv w J _ (.int .i64 10) x1 from hx1)
 subst hx0 hx1
 refine .inl ⟨enter_ok' Tryz.func85 (by kernel_rfl) (by kernel_rfl) _ _,?_⟩
 refine (fmtU_in m (by omega) w (tab_of hH)).mono fun e w' ⟨he,k,os,hw⟩=>⟨_,he,J,?_⟩
 subst hw
 exact ret_plain hJ (grow_below w k os) (.dat (.str _))
noncomputable def eFmtU:Env:=env Tryz.prog [(85,dFmtU)] [] []
theorem q_fmtU (n:Int):evFn eFmtU 56 ((aCons (vInt .u64) (aOne (vInt .i64))).enc (n,10)) ([]) some=cond (cond (cond (ile 0 n) (ilt n 18446744073709551616) false) ((10:Int)==10) false) (some (⟨.str (N.decU n),[],[]⟩:DRes)) none:=by kernel_rfl
theorem ok_fmtU:FnOk Tryz.prog 56 dFmtU:=by
 refine den_okF (env_ok ((TOk.nil _).cons ok_fmtUi)) (E:=eFmtU) Tryz.func56 [] (by kernel_rfl) none0 fun a u hp=>?_
 obtain ⟨n,b⟩:=a
 obtain ⟨h1,h2⟩:=bcond (show cond (cond (ile 0 n) (ilt n 18446744073709551616) false) (b==10) false=true from hp)
 obtain rfl:=ieq_of h2
 refine (q_fmtU n).trans ?_
 rw [h1]; rfl
theorem ok_itoaP:FnOk Tryz.prog 54 dItoaP:=by
 refine den_of fun n u h=>?_
 obtain ⟨h1,h2⟩:=bcond (show cond (ile 0 n) (ile n 1000000) false=true from h)
 have h1:=ile_of h1
 have h2:=ile_of h2
 obtain ⟨m,rfl⟩:=Int.eq_ofNat_of_zero_le h1
 intro x y hxy w J locs xs hlen hJ hx _ _ hH
 have hxy:x=(aOne (vInt .i64)).enc (m:Int)∧y=bNil.enc u:=by simpa using hxy
 obtain ⟨rfl,rfl⟩:=hxy
 have hlen:locs=[]:=List.eq_nil_of_length_eq_zero hlen
 subst hlen
 obtain ⟨x0,rfl,hx0⟩:=hx.one
 have hx0:=Rv.int_inv (show Rv w J _ (.int .i64 m) x0 from hx0)
 subst hx0
 refine .inl ⟨enter_ok' Tryz.func54 (by kernel_rfl) (by kernel_rfl) _ _,?_⟩
 refine (Tryz.strconv_Itoa m (by omega) (by omega) w (tab_of hH)).mono fun e w' ⟨he,k,os,hw⟩=>⟨_,he,J,?_⟩
 subst hw
 have:Lib.itoa (m:Int)=N.decU m:=by
  unfold Lib.itoa
  rw [if_neg (by omega)]; rfl
 rw [this]
 exact ret_plain hJ (grow_below w k os) (.dat (.str _))
end Go.Ev

/- The statement on the ticks that are gone through,walked: lemmas,no condition. -/
namespace Go.Proofs
open Go.RowKit Go.Shelf
attribute [local go_sem] Oper.semAt_some
structure SlF (A:Nat) (wk gv:Int) (pl gr:Value) (b:Option Addr) (len cap:Nat) (T S:Nat) (w W:World):Prop where
 hp:W.heap[A]? = some (.cells (slPol wk gv pl gr b len cap) 27)
 hf:W.heap[A+1]? = some (.cells #[.int .u64 (T:Int)] 46)
 hs:W.heap[A+1+1]? = some (.cells #[.int .u8 (S:Int)] 5)
 hr:W.heap[A+1+1+1]? = some (.cells #[.bool false] 4)
 below:Below w.heap.size w W
def SlC (A:Nat) (wk gv:Int) (pl gr:Value) (b:Option Addr) (len cap:Nat) (T S:Nat) (W:World):Prop :=
 W.cell? ⟨A,0,none⟩=some (.int .i64 wk)∧W.cell? ⟨A,1,none⟩=some (.int .i64 gv)∧W.cell? ⟨A,2,none⟩=some pl∧W.cell? ⟨A,3,none⟩=some (.slice b len cap)∧W.cell? ⟨A,4,none⟩=some gr ∧
 W.cell? ⟨A+1,0,none⟩=some (.int .u64 (T:Int))∧W.cell? ⟨A+1+1,0,none⟩=some (.int .u8 (S:Int))∧W.cell? ⟨A+1+1+1,0,none⟩=some (.bool false)∧W.frozen? ⟨A+1+1+1,0,none⟩=false
theorem SlF.cells {A:Nat} {wk gv:Int} {pl gr:Value} {b:Option Addr} {len cap T S:Nat} {w W:World} (h:SlF A wk gv pl gr b len cap T S w W):SlC A wk gv pl gr b len cap T S W :=
 ⟨by simp [World.cell?,h.hp],by simp [World.cell?,h.hp],by simp [World.cell?,h.hp],by simp [World.cell?,h.hp],by simp [World.cell?,h.hp],by simp [World.cell?,h.hf],by simp [World.cell?,h.hs],by simp [World.cell?,h.hr],by simp [World.frozen?,h.hr]⟩
theorem SlF.grown {A:Nat} {wk gv:Int} {pl gr:Value} {b:Option Addr} {len cap T S:Nat} {w W W' : World} (h:SlF A wk gv pl gr b len cap T S w W) (hg:W.grownBy W' none):SlF A wk gv pl gr b len cap T S w W':=by
 have hk:∀ k o,W.heap[k]? = some o→W'.heap[k]? = some o:=fun k o hk=>by
  rw [hg.block k (Array.getElem?_eq_some_iff.1 hk).1 (by simp)]; exact hk
 exact ⟨hk _ _ h.hp,hk _ _ h.hf,hk _ _ h.hs,hk _ _ h.hr,h.below.grown hg h.below.size (fun k e=>by cases e)⟩
end Go.Proofs

/- The statement on the ticks that are gone through: lemmas; the function that writes numbers is a premise. -/
namespace Go.Ev
open Go Go.Proofs Go.RowKit
set_option maxRecDepth 100000
theorem denN_pre {α γ:Type} {A:ACod α} {O:γ→Out} {p:α→Unit→Bool} {g:α→Unit→γ × Unit} (a:α) (h:p a ()=true):(den A bNil O p g).pre (A.enc a) []=true:=by
 obtain ⟨h1,h2⟩:=A.ed a
 show cond (A.ok (A.enc a)) (cond true (p (A.dec (A.enc a)) ()) false) false=true
 rw [h1,h2]; exact h
theorem denN_res {α γ:Type} {A:ACod α} {O:γ→Out} {p:α→Unit→Bool} {g:α→Unit→γ × Unit} (a:α):(den A bNil O p g).res (A.enc a) []={ v:=(O (g a ()).1).v,bx:=[],nb:=(O (g a ()).1).nb }:=by
 obtain ⟨_,h2⟩:=A.ed a
 show ({ v:=(O (g (A.dec (A.enc a)) ()).1).v,bx:=[],nb:=(O (g (A.dec (A.enc a)) ()).1).nb }:DRes)=_
 rw [h2]
theorem plain_calls {P : Program} {f : FuncId} {fn : Func} {D : Den} (hf : P.funcs[f]? = some fn) (hbd : fn.body.isSome = true) (hnm : (fn.name == "runtime.NumGoroutine") = false) (ok : FnOk P f D) {args : List V} {r : V} (hpre : D.pre args [] = true) (hres : D.res args [] = { v := r, bx := [], nb := [] })
  {xs:List Value} {w W:World} {J:Nat→Nat→Prop} (hJ:∀ b o,J b o→b<w.heap.size) (hl:args.length=xs.length) (hx:∀ i,i<args.length→Rv w J noRho (args.getD i .undef) (xs.getD i Go.undef)) (hH:Held P J w) (hb:Below w.heap.size w W) (n:Nat) :
  CallsIn Fence.wide n P f xs.toArray W fun e W'=>∃ v J',e = .returned v∧W.grownBy W' none∧Rv W' J' noRho r v∧(∀ b o,J' b o→b<W'.heap.size)∧Held P J' W':=by
 have hcell:∀ b o,J b o→W.cell? ⟨b,o,none⟩=w.cell? ⟨b,o,none⟩:=fun b o h=>hb.cell (p:=⟨b,o,none⟩) (hJ b o h)
 have hH' : Held P J W:=fun b o x hx=>by
  obtain ⟨a,⟨y,hy,hc⟩,hn⟩:=hH b o x hx
  exact ⟨a,⟨y,hy,(hcell b o a).trans hc⟩,(hb.cell (p:=⟨b,GLn P b,none⟩) (hJ b o a)).trans hn⟩
 have hall:AllRv W J (locReal [] []) args xs:=⟨hl,fun i hi=>(hx i hi).keep hcell (fun _ _ h=>h) (fun d br h=>by cases h)⟩
 have main:=ok args [] hpre W J [] xs rfl (fun b o h=>Nat.lt_of_lt_of_le (hJ b o h) hb.size) hall (fun j p cs h=>by simp at h) (fun j j' p p' cs cs' b o h=>by simp at h) hH'
 rw [hres] at main
 rcases main with ⟨_,hc⟩ | ⟨v,w',he,_⟩
 ·refine callsIn_wide.2 (hc.mono ?_)
  rintro e W' ⟨v,rfl,J',hr⟩
  have hg:=grown_keeps hr.keeps
  rcases hr.val with ⟨_,hv⟩ | ⟨box,br,h,_⟩
  ·refine ⟨v,J',rfl,hg,hv,hr.lt,fun b o x hx=>?_⟩
   obtain ⟨a,⟨y,hy,hc⟩,hn⟩:=hH' b o x hx
   have hlt:b<W.heap.size:=Nat.lt_of_lt_of_le (hJ b o a) hb.size
   have hbk:=hg.block b hlt (by simp)
   exact ⟨hr.mono b o a,⟨y,hy,(World.cell?_of_block (a:=⟨b,o,none⟩) hbk).trans hc⟩,(World.cell?_of_block (a:=⟨b,GLn P b,none⟩) hbk).trans hn⟩
  ·cases h
 ·rw [enter_ok' hf hbd hnm] at he
  cases he
theorem pol_inv {w:World} {J:Nat→Nat→Prop} {p:HPolicy} {x:Value} (h:Rv w J noRho (.agg (cPolicy.enc p)) x) :
  ∃ (x2 x3 x4:Option Addr) (n2 m2 m3 n4 m4:Nat),x = .agg #[.int .i64 p.work,.int .i64 p.give,.slice x2 n2 m2,.slice x3 p.slots.length m3,.slice x4 n4 m4]:=by
 obtain ⟨vs,rfl,hl,hv⟩:=Rv.agg_inv h
 match vs,hl with
 | [v0,v1,v2,v3,v4],_ =>
  have e0:=Rv.int_inv (show Rv w J _ (.int .i64 p.work) v0 from hv 0 (by show (0:Nat)<5; omega))
  have e1:=Rv.int_inv (show Rv w J _ (.int .i64 p.give) v1 from hv 1 (by show (1:Nat)<5; omega))
  have slc:∀ {sh:List Sh} {rows:List (List V)} {v:Value},Rv w J noRho (.slc sh rows) v→∃ a m,v = .slice a rows.length m:=fun h=>by
   cases h with
   | dat h=>cases h with | slc sh rows a cap val hcap hnil hfit ha hd=>exact ⟨a,cap,rfl⟩
  obtain ⟨x2,m2,rfl⟩:=slc (show Rv w J _ (.slc [.str,.int .u8,.int .u32,.int .i64,.int .u64] (p.places.map cPlace.enc)) v2 from hv 2 (by show (2:Nat)<5; omega))
  obtain ⟨x3,m3,rfl⟩:=slc (show Rv w J _ (.slc [.int .i64] (p.slots.map (rInt .i64).enc)) v3 from hv 3 (by show (3:Nat)<5; omega))
  obtain ⟨x4,m4,rfl⟩:=slc (show Rv w J _ (.slc [.int .i64,.int .i64,.int .i64] (p.grants.map cGrant.enc)) v4 from hv 4 (by show (4:Nat)<5; omega))
  subst e0 e1
  have hle:(p.slots.map (rInt .i64).enc).length=p.slots.length:=List.length_map ..
  exact ⟨x2,x3,x4,_,m2,m3,_,m4,by rw [hle]⟩
end Go.Ev

/- Policies' texts: what the document's writer needs: no lemma of its own. -/
namespace Go.Ev
end Go.Ev

/- Policies: Print,by the document: what the evaluator makes of it: definitions and lemmas,no condition. -/
namespace Go.Ev
open Go Go.Proofs
set_option maxRecDepth 100000
-- FOLD
namespace N
def labLn (x:HPlace):Bytes:=[108,97,98,101,108,32]++(x.name++([32]++(text x.label++([32]++(decU x.bytes++([32]++(decU x.base++[10])))))))
def slotLn (p:HPolicy) (i:Int):Bytes:=[115,108,111,116,32]++((plAt p i).name++[10])
def graLn (p:HPolicy) (x:HGrant):Bytes:=[103,114,97,110,116,32]++((plAt p x.src).name++([32]++((plAt p x.dst).name++([32]++(decU x.budget++[10])))))
def labsT:List HPlace→Bytes
 | []=>[]
 | x::r=>labLn x++labsT r
def slotsT (p:HPolicy):List Int→Bytes
 | []=>[]
 | i::r=>slotLn p i++slotsT p r
def grasT (p:HPolicy):List HGrant→Bytes
 | []=>[]
 | x::r=>graLn p x++grasT p r
def headT (p:HPolicy):Bytes:=[119,111,114,107,32]++(decU p.work++([10,103,105,118,101,32]++(decU p.give++[10])))
def textP (p:HPolicy):Bytes:=headT p++(labsT p.places++(slotsT p p.slots++grasT p p.grants))
end N
def goodPlc (x:HPlace):Bool:=cond (Nat.ble x.name.length 40) (cond (okL x.label) (cond (cond (ile 0 x.bytes) (ile x.bytes 65536) false) (cond (ile 0 x.base) (ilt x.base 18446744073709551616) false) false) false) false
def goodGra (p:HPolicy) (x:HGrant):Bool:=cond (cond (N.there p x.src) (N.there p x.dst) false) (cond (ile 0 x.budget) (ile x.budget 16) false) false
def goodPr (p:HPolicy):Bool:=cond (cond (ile 0 p.work) (ile p.work 16) false) (cond (cond (ile 0 p.give) (ile p.give 16) false) (cond (cond (Nat.ble p.places.length 20) (p.places.all goodPlc) false) (cond (cond (Nat.ble p.slots.length 40) (p.slots.all (N.there p)) false) (cond (Nat.ble p.grants.length 10) (p.grants.all (goodGra p)) false) false) false) false) false
def dPrintR:Den:=den (aOne (vAgg cPolicy)) bNil (oV vStr) (fun p _=>goodPr p) fun p _=>(N.textP p,())
def schRPrint3:SSch:={ fr:=[(1,.ptr 10000 0 0),(3,.str),(23,.slc [.str,.int .u8,.int .u32,.int .i64,.int .u64]),(24,.int .i64),(25,.int .i64)],tab:=[(10000,.row [] xsPolicy)] }
def gRPrint3:List Leaf→(Ex→St→Option R)→Option R
 | [.s s3,.r r23,.i i24,.i i25,.c cx0],K=>cond (i24==r23.length) (cond (i25==0) (cond (Nat.ble r23.length 20) (cond (Nat.ble s3.length 1000) (cond ((r23.map cPlace.dec).all goodPlc) (K (.exit 0) { fr:=[(1,.ptr 10000 0 0 0),(3,.str (s3++N.labsT (r23.map cPlace.dec)))],tab:=[(10000,.var (etaRow xsPolicy 0 cx0))] }) none) none) none) none) none
 | _,_=>none
def schRPrint8:SSch:={ fr:=[(1,.ptr 10000 0 0),(3,.str),(53,.slc [.int .i64]),(54,.int .i64),(55,.int .i64)],tab:=[(10000,.row [] xsPolicy)] }
def gRPrint8:List Leaf→(Ex→St→Option R)→Option R
 | [.s s3,.r r53,.i i54,.i i55,.c cx0],K=>cond (i54==r53.length) (cond (i55==0) (cond (Nat.ble r53.length 40) (cond (Nat.ble s3.length 100000) (cond ((r53.map (rInt .i64).dec).all (N.there (cPolicy.dec cx0))) (cond ((cPolicy.dec cx0).places.all goodPlc) (K (.exit 2) { fr:=[(1,.ptr 10000 0 0 0),(3,.str (s3++N.slotsT (cPolicy.dec cx0) (r53.map (rInt .i64).dec)))],tab:=[(10000,.var (etaRow xsPolicy 0 cx0))] }) none) none) none) none) none) none
 | _,_=>none
def schRPrint13:SSch:={ fr:=[(1,.ptr 10000 0 0),(3,.str),(71,.slc [.int .i64,.int .i64,.int .i64]),(72,.int .i64),(73,.int .i64)],tab:=[(10000,.row [] xsPolicy)] }
def gRPrint13:List Leaf→(Ex→St→Option R)→Option R
 | [.s s3,.r r71,.i i72,.i i73,.c cx0],K=>cond (i72==r71.length) (cond (i73==0) (cond (Nat.ble r71.length 10) (cond (Nat.ble s3.length 200000) (cond ((r71.map cGrant.dec).all (goodGra (cPolicy.dec cx0))) (cond ((cPolicy.dec cx0).places.all goodPlc) (K (.exit 4) { fr:=[(3,.str (s3++N.grasT (cPolicy.dec cx0) (r71.map cGrant.dec)))],tab:=[] }) none) none) none) none) none) none
 | _,_=>none
noncomputable def eRPrint:Env:=env Tryz.prog [(66,dDigP),(67,dLText)] [(13,loopF schRPrint13 gRPrint13),(8,loopF schRPrint8 gRPrint8),(3,loopF schRPrint3 gRPrint3)] [(3,[(0,[1,3,23,24,25]),(1,[1,3]),(1000,[2])]),(8,[(0,[1,3,53,54,55]),(3,[1,3]),(1000,[2])]),(13,[(0,[1,3,71,72,73]),(5,[3]),(1000,[2])])]
theorem q_rPrint_ (p:HPolicy):evFn eRPrint 34 ((aOne (vAgg cPolicy)).enc p) ([]) some =(
 let z0:=(List.map (RCod.enc cPlace) (HPolicy.places p));let z1:=(List.map (RCod.enc (rInt .i64)) (HPolicy.slots p));let z2:=(List.map (RCod.enc cGrant) (HPolicy.grants p));let z3:=(IntKind.wrap .u64 (HPolicy.work p));let z4:=(IntKind.wrap .u64 (HPolicy.give p));let z5:=(List.map (RCod.dec cPlace) z0);let z6:=(List.map (RCod.dec (rInt .i64)) z1);cond (bif ile (0:Int) z3 then bif ilt z3 (↑(100000000000000000000:Nat):Int) then ilt z3 (18446744073709551616:Int) else false else false) (cond (Nat.ble (5+List.length (N.decU z3)) 9223372036854775807) (cond (Nat.ble (List.length ([(119:UInt8),(111:UInt8),(114:UInt8),(107:UInt8),(32:UInt8)]++N.decU z3)+6) 9223372036854775807) (cond (bif ile (0:Int) z4 then bif ilt z4 (↑(100000000000000000000:Nat):Int) then ilt z4 (18446744073709551616:Int) else false else false) (cond (Nat.ble (List.length ([(119:UInt8),(111:UInt8),(114:UInt8),(107:UInt8),(32:UInt8)]++N.decU z3++[(10:UInt8),(103:UInt8),(105:UInt8),(118:UInt8),(101:UInt8),(32:UInt8)])+List.length (N.decU z4)) 9223372036854775807) (cond (Nat.ble (List.length ([(119:UInt8),(111:UInt8),(114:UInt8),(107:UInt8),(32:UInt8)]++N.decU z3++[(10:UInt8),(103:UInt8),(105:UInt8),(118:UInt8),(101:UInt8),(32:UInt8)]++N.decU z4)+1) 9223372036854775807) (cond ((↑(List.length z0):Int)==(↑(List.length z0):Int)) (cond (Nat.ble (List.length z0) 20) (cond (Nat.ble (List.length ([(119:UInt8),(111:UInt8),(114:UInt8),(107:UInt8),(32:UInt8)]++N.decU z3++[(10:UInt8),(103:UInt8),(105:UInt8),(118:UInt8),(101:UInt8),(32:UInt8)]++N.decU z4++[(10:UInt8)])) 1000) (cond (List.all z5 goodPlc) (cond ((↑(List.length z1):Int)==(↑(List.length z1):Int)) (cond (Nat.ble (List.length z1) 40) (cond (Nat.ble (List.length ([(119:UInt8),(111:UInt8),(114:UInt8),(107:UInt8),(32:UInt8)]++N.decU z3++[(10:UInt8),(103:UInt8),(105:UInt8),(118:UInt8),(101:UInt8),(32:UInt8)]++N.decU z4++[(10:UInt8)]++N.labsT z5)) 100000) (cond (List.all z6 (N.there {work:=HPolicy.work p,give:=HPolicy.give p,places:=List.map (RCod.dec cPlace) z0,slots:=List.map (RCod.dec (rInt .i64)) z1,grants:=List.map (RCod.dec cGrant) z2:HPolicy})) (cond (List.all z5 goodPlc) (cond ((↑(List.length z2):Int)==(↑(List.length z2):Int)) (cond (Nat.ble (List.length z2) 10) (cond (Nat.ble (List.length ([(119:UInt8),(111:UInt8),(114:UInt8),(107:UInt8),(32:UInt8)]++N.decU z3++[(10:UInt8),(103:UInt8),(105:UInt8),(118:UInt8),(101:UInt8),(32:UInt8)]++N.decU z4++[(10:UInt8)]++N.labsT z5++N.slotsT {work:=HPolicy.work p,give:=HPolicy.give p,places:=List.map (RCod.dec cPlace) z0,slots:=List.map (RCod.dec (rInt .i64)) z1,grants:=List.map (RCod.dec cGrant) z2:HPolicy} z6)) 200000) (cond (List.all (List.map (RCod.dec cGrant) z2) (goodGra {work:=HPolicy.work p,give:=HPolicy.give p,places:=List.map (RCod.dec cPlace) z0,slots:=List.map (RCod.dec (rInt .i64)) z1,grants:=List.map (RCod.dec cGrant) z2:HPolicy})) (cond (List.all z5 goodPlc) (some {v:=V.str ([(119:UInt8),(111:UInt8),(114:UInt8),(107:UInt8),(32:UInt8)]++N.decU z3++[(10:UInt8),(103:UInt8),(105:UInt8),(118:UInt8),(101:UInt8),(32:UInt8)]++N.decU z4++[(10:UInt8)]++N.labsT z5++N.slotsT {work:=HPolicy.work p,give:=HPolicy.give p,places:=List.map (RCod.dec cPlace) z0,slots:=List.map (RCod.dec (rInt .i64)) z1,grants:=List.map (RCod.dec cGrant) z2:HPolicy} z6++N.grasT {work:=HPolicy.work p,give:=HPolicy.give p,places:=List.map (RCod.dec cPlace) z0,slots:=List.map (RCod.dec (rInt .i64)) z1,grants:=List.map (RCod.dec cGrant) z2:HPolicy} (List.map (RCod.dec cGrant) z2)),bx:=[]:DRes}) (none)) (none)) (none)) (none)) (none)) (none)) (none)) (none)) (none)) (none)) (none)) (none)) (none)) (none)) (none)) (none)) (none)) (none)) (none)) (none)):=by kernel_rfl
theorem q_rPrint (p:HPolicy):type_of% (by have h:=q_rPrint_ p; dsimp only at h; exact h):=by
 have h:=q_rPrint_ p
 dsimp only at h
 exact h
theorem q_rPrintR3_ (s3:Bytes) (r23:List (List V)) (i24:Int) (i25:Int) (cx0:List V) (K:Ex→St→Option R):evRound eRPrint 34 3 { fr:=[(1,.ptr 10000 0 0 0),(3,.str s3),(23,.slc [.str,.int .u8,.int .u32,.int .i64,.int .u64] r23),(24,.int .i64 i24),(25,.int .i64 i25)],tab:=[(10000,.var (etaRow xsPolicy 0 cx0))] } K =(
 let z0:=(List.getD r23 (Int.toNat i25) []);let z1:=(IntKind.wrap .u64 (V.toInt (List.getD z0 3 V.undef)));let z2:=(List.getD z0 0 V.undef);let z3:=(List.getD z0 1 V.undef);let z4:=(List.getD z0 2 V.undef);let z5:=(V.toInt (List.getD z0 4 V.undef));cond (ilt i25 i24) (cond (decide ((0:Int)≤i25∧i25<(↑(List.length r23):Int))) (cond (Nat.ble (List.length s3+6) 9223372036854775807) (cond (Nat.ble (List.length (s3++[(108:UInt8),(97:UInt8),(98:UInt8),(101:UInt8),(108:UInt8),(32:UInt8)])+List.length (V.toStr z2)) 9223372036854775807) (cond (Nat.ble (List.length (s3++[(108:UInt8),(97:UInt8),(98:UInt8),(101:UInt8),(108:UInt8),(32:UInt8)]++V.toStr z2)+1) 9223372036854775807) (cond (bif bif ile (0:Int) (V.toInt z3) then ile (V.toInt z3) (255:Int) else false then bif ile (0:Int) (V.toInt z4) then ilt (V.toInt z4) (4294967296:Int) else false else false) (cond (Nat.ble (List.length (s3++[(108:UInt8),(97:UInt8),(98:UInt8),(101:UInt8),(108:UInt8),(32:UInt8)]++V.toStr z2++[(32:UInt8)])+List.length (N.text {level:=V.toInt z3,set:=V.toInt z4:Label})) 9223372036854775807) (cond (Nat.ble (List.length (s3++[(108:UInt8),(97:UInt8),(98:UInt8),(101:UInt8),(108:UInt8),(32:UInt8)]++V.toStr z2++[(32:UInt8)]++N.text {level:=V.toInt z3,set:=V.toInt z4:Label})+1) 9223372036854775807) (cond (bif ile (0:Int) z1 then bif ilt z1 (↑(100000000000000000000:Nat):Int) then ilt z1 (18446744073709551616:Int) else false else false) (cond (Nat.ble (List.length (s3++[(108:UInt8),(97:UInt8),(98:UInt8),(101:UInt8),(108:UInt8),(32:UInt8)]++V.toStr z2++[(32:UInt8)]++N.text {level:=V.toInt z3,set:=V.toInt z4:Label}++[(32:UInt8)])+List.length (N.decU z1)) 9223372036854775807) (cond (Nat.ble (List.length (s3++[(108:UInt8),(97:UInt8),(98:UInt8),(101:UInt8),(108:UInt8),(32:UInt8)]++V.toStr z2++[(32:UInt8)]++N.text {level:=V.toInt z3,set:=V.toInt z4:Label}++[(32:UInt8)]++N.decU z1)+1) 9223372036854775807) (cond (bif ile (0:Int) z5 then bif ilt z5 (↑(100000000000000000000:Nat):Int) then ilt z5 (18446744073709551616:Int) else false else false) (cond (Nat.ble (List.length (s3++[(108:UInt8),(97:UInt8),(98:UInt8),(101:UInt8),(108:UInt8),(32:UInt8)]++V.toStr z2++[(32:UInt8)]++N.text {level:=V.toInt z3,set:=V.toInt z4:Label}++[(32:UInt8)]++N.decU z1++[(32:UInt8)])+List.length (N.decU z5)) 9223372036854775807) (cond (Nat.ble (List.length (s3++[(108:UInt8),(97:UInt8),(98:UInt8),(101:UInt8),(108:UInt8),(32:UInt8)]++V.toStr z2++[(32:UInt8)]++N.text {level:=V.toInt z3,set:=V.toInt z4:Label}++[(32:UInt8)]++N.decU z1++[(32:UInt8)]++N.decU z5)+1) 9223372036854775807) (K Ex.normal {fr:=[(1,V.ptr 10000 0 0 0),(3,V.str (s3++[(108:UInt8),(97:UInt8),(98:UInt8),(101:UInt8),(108:UInt8),(32:UInt8)]++V.toStr z2++[(32:UInt8)]++N.text {level:=V.toInt z3,set:=V.toInt z4:Label}++[(32:UInt8)]++N.decU z1++[(32:UInt8)]++N.decU z5++[(10:UInt8)])),(23,V.slc [.str,.int .u8,.int .u32,.int .i64,.int .u64] r23),(24,V.int .i64 i24),(25,V.int .i64 (IntKind.wrap .i64 (i25+(1:Int))))],tab:=[(10000,Box.var [V.int .i64 (V.toInt (List.getD cx0 0 .undef)),V.int .i64 (V.toInt (List.getD cx0 1 .undef)),V.slc [.str,.int .u8,.int .u32,.int .i64,.int .u64] (V.toRows (List.getD cx0 2 .undef)),V.slc [.int .i64] (V.toRows (List.getD cx0 3 .undef)),V.slc [.int .i64,.int .i64,.int .i64] (V.toRows (List.getD cx0 4 .undef))])]:St}) (none)) (none)) (none)) (none)) (none)) (none)) (none)) (none)) (none)) (none)) (none)) (none)) (none)) (K (Ex.exit 0) {fr:=[(1,V.ptr 10000 0 0 0),(3,V.str s3)],tab:=[(10000,Box.var [V.int .i64 (V.toInt (List.getD cx0 0 .undef)),V.int .i64 (V.toInt (List.getD cx0 1 .undef)),V.slc [.str,.int .u8,.int .u32,.int .i64,.int .u64] (V.toRows (List.getD cx0 2 .undef)),V.slc [.int .i64] (V.toRows (List.getD cx0 3 .undef)),V.slc [.int .i64,.int .i64,.int .i64] (V.toRows (List.getD cx0 4 .undef))])]:St})):=by kernel_rfl
theorem q_rPrintR3 (s3:Bytes) (r23:List (List V)) (i24:Int) (i25:Int) (cx0:List V) (K:Ex→St→Option R):type_of% (by have h:=q_rPrintR3_ s3 r23 i24 i25 cx0 K; dsimp only at h; exact h):=by
 have h:=q_rPrintR3_ s3 r23 i24 i25 cx0 K
 dsimp only at h
 exact h
theorem q_rPrintR8_ (s3:Bytes) (r53:List (List V)) (i54:Int) (i55:Int) (cx0:List V) (K:Ex→St→Option R):evRound eRPrint 34 8 { fr:=[(1,.ptr 10000 0 0 0),(3,.str s3),(53,.slc [.int .i64] r53),(54,.int .i64 i54),(55,.int .i64 i55)],tab:=[(10000,.var (etaRow xsPolicy 0 cx0))] } K =(
 let z1:=(V.toRows (List.getD cx0 2 .undef));let z2:=(List.getD (List.getD r53 (Int.toNat i55) []) 0 V.undef);let z0:=(List.getD (List.getD z1 (Int.toNat (V.toInt z2)) []) 0 V.undef);cond (ilt i55 i54) (cond (decide ((0:Int)≤i55∧i55<(↑(List.length r53):Int))) (cond (Nat.ble (List.length s3+5) 9223372036854775807) (cond (decide ((0:Int)≤V.toInt z2∧V.toInt z2<(↑(List.length z1):Int))) (cond (Nat.ble (List.length (s3++[(115:UInt8),(108:UInt8),(111:UInt8),(116:UInt8),(32:UInt8)])+List.length (V.toStr z0)) 9223372036854775807) (cond (Nat.ble (List.length (s3++[(115:UInt8),(108:UInt8),(111:UInt8),(116:UInt8),(32:UInt8)]++V.toStr z0)+1) 9223372036854775807) (K Ex.normal {fr:=[(1,V.ptr 10000 0 0 0),(3,V.str (s3++[(115:UInt8),(108:UInt8),(111:UInt8),(116:UInt8),(32:UInt8)]++V.toStr z0++[(10:UInt8)])),(53,V.slc [.int .i64] r53),(54,V.int .i64 i54),(55,V.int .i64 (IntKind.wrap .i64 (i55+(1:Int))))],tab:=[(10000,Box.var [V.int .i64 (V.toInt (List.getD cx0 0 .undef)),V.int .i64 (V.toInt (List.getD cx0 1 .undef)),V.slc [.str,.int .u8,.int .u32,.int .i64,.int .u64] z1,V.slc [.int .i64] (V.toRows (List.getD cx0 3 .undef)),V.slc [.int .i64,.int .i64,.int .i64] (V.toRows (List.getD cx0 4 .undef))])]:St}) (none)) (none)) (none)) (none)) (none)) (K (Ex.exit 2) {fr:=[(1,V.ptr 10000 0 0 0),(3,V.str s3)],tab:=[(10000,Box.var [V.int .i64 (V.toInt (List.getD cx0 0 .undef)),V.int .i64 (V.toInt (List.getD cx0 1 .undef)),V.slc [.str,.int .u8,.int .u32,.int .i64,.int .u64] z1,V.slc [.int .i64] (V.toRows (List.getD cx0 3 .undef)),V.slc [.int .i64,.int .i64,.int .i64] (V.toRows (List.getD cx0 4 .undef))])]:St})):=by kernel_rfl
theorem q_rPrintR8 (s3:Bytes) (r53:List (List V)) (i54:Int) (i55:Int) (cx0:List V) (K:Ex→St→Option R):type_of% (by have h:=q_rPrintR8_ s3 r53 i54 i55 cx0 K; dsimp only at h; exact h):=by
 have h:=q_rPrintR8_ s3 r53 i54 i55 cx0 K
 dsimp only at h
 exact h
theorem q_rPrintR13_ (s3:Bytes) (r71:List (List V)) (i72:Int) (i73:Int) (cx0:List V) (K:Ex→St→Option R):evRound eRPrint 34 13 { fr:=[(1,.ptr 10000 0 0 0),(3,.str s3),(71,.slc [.int .i64,.int .i64,.int .i64] r71),(72,.int .i64 i72),(73,.int .i64 i73)],tab:=[(10000,.var (etaRow xsPolicy 0 cx0))] } K =(
 let z4:=(V.toRows (List.getD cx0 2 .undef));let z3:=(List.getD r71 (Int.toNat i73) []);let z0:=(List.getD (List.getD z4 (Int.toNat (V.toInt (List.getD z3 0 V.undef))) []) 0 V.undef);let z1:=(List.getD (List.getD z4 (Int.toNat (V.toInt (List.getD z3 1 V.undef))) []) 0 V.undef);let z2:=(IntKind.wrap .u64 (V.toInt (List.getD z3 2 V.undef)));cond (ilt i73 i72) (cond (decide ((0:Int)≤i73∧i73<(↑(List.length r71):Int))) (cond (Nat.ble (List.length s3+6) 9223372036854775807) (cond (decide ((0:Int)≤V.toInt (List.getD z3 0 V.undef)∧V.toInt (List.getD z3 0 V.undef)<(↑(List.length z4):Int))) (cond (Nat.ble (List.length (s3++[(103:UInt8),(114:UInt8),(97:UInt8),(110:UInt8),(116:UInt8),(32:UInt8)])+List.length (V.toStr z0)) 9223372036854775807) (cond (Nat.ble (List.length (s3++[(103:UInt8),(114:UInt8),(97:UInt8),(110:UInt8),(116:UInt8),(32:UInt8)]++V.toStr z0)+1) 9223372036854775807) (cond (decide ((0:Int)≤V.toInt (List.getD z3 1 V.undef)∧V.toInt (List.getD z3 1 V.undef)<(↑(List.length z4):Int))) (cond (Nat.ble (List.length (s3++[(103:UInt8),(114:UInt8),(97:UInt8),(110:UInt8),(116:UInt8),(32:UInt8)]++V.toStr z0++[(32:UInt8)])+List.length (V.toStr z1)) 9223372036854775807) (cond (Nat.ble (List.length (s3++[(103:UInt8),(114:UInt8),(97:UInt8),(110:UInt8),(116:UInt8),(32:UInt8)]++V.toStr z0++[(32:UInt8)]++V.toStr z1)+1) 9223372036854775807) (cond (bif ile (0:Int) z2 then bif ilt z2 (↑(100000000000000000000:Nat):Int) then ilt z2 (18446744073709551616:Int) else false else false) (cond (Nat.ble (List.length (s3++[(103:UInt8),(114:UInt8),(97:UInt8),(110:UInt8),(116:UInt8),(32:UInt8)]++V.toStr z0++[(32:UInt8)]++V.toStr z1++[(32:UInt8)])+List.length (N.decU z2)) 9223372036854775807) (cond (Nat.ble (List.length (s3++[(103:UInt8),(114:UInt8),(97:UInt8),(110:UInt8),(116:UInt8),(32:UInt8)]++V.toStr z0++[(32:UInt8)]++V.toStr z1++[(32:UInt8)]++N.decU z2)+1) 9223372036854775807) (K Ex.normal {fr:=[(1,V.ptr 10000 0 0 0),(3,V.str (s3++[(103:UInt8),(114:UInt8),(97:UInt8),(110:UInt8),(116:UInt8),(32:UInt8)]++V.toStr z0++[(32:UInt8)]++V.toStr z1++[(32:UInt8)]++N.decU z2++[(10:UInt8)])),(71,V.slc [.int .i64,.int .i64,.int .i64] r71),(72,V.int .i64 i72),(73,V.int .i64 (IntKind.wrap .i64 (i73+(1:Int))))],tab:=[(10000,Box.var [V.int .i64 (V.toInt (List.getD cx0 0 .undef)),V.int .i64 (V.toInt (List.getD cx0 1 .undef)),V.slc [.str,.int .u8,.int .u32,.int .i64,.int .u64] z4,V.slc [.int .i64] (V.toRows (List.getD cx0 3 .undef)),V.slc [.int .i64,.int .i64,.int .i64] (V.toRows (List.getD cx0 4 .undef))])]:St}) (none)) (none)) (none)) (none)) (none)) (none)) (none)) (none)) (none)) (none)) (none)) (K (Ex.exit 4) {fr:=[(3,V.str s3)],tab:=[]:St})):=by kernel_rfl
theorem q_rPrintR13 (s3:Bytes) (r71:List (List V)) (i72:Int) (i73:Int) (cx0:List V) (K:Ex→St→Option R):type_of% (by have h:=q_rPrintR13_ s3 r71 i72 i73 cx0 K; dsimp only at h; exact h):=by
 have h:=q_rPrintR13_ s3 r71 i72 i73 cx0 K
 dsimp only at h
 exact h
end Go.Ev

/- Policies: Print,by the document: lemmas,no condition. -/
namespace Go.Ev
open Go Go.Proofs
set_option maxRecDepth 100000
theorem textLoop_lenP (set:Int):∀ (f:Nat) (i:Int),(N.textLoop set f i).length≤4*f
 | 0,_=>Nat.le_refl _
 | f+1,i=>by
  have ih:=textLoop_lenP set f (i+1)
  have dl:=dig_len i.toNat
  show (cond (N.refHas ⟨0,set⟩ i) (58::(N.digN i.toNat++N.textLoop set f (i+1))) (N.textLoop set f (i+1))).length≤_
  cases N.refHas ⟨0,set⟩ i with
  | true=>simp only [cond_true,List.length_cons,List.length_append]; omega
  | false=>simp only [cond_false]; omega
theorem text_lenP (a:Label):(N.text a).length≤200:=by
 have h:=textLoop_lenP a.set 32 0
 have dl:=dig_len a.level.toNat
 unfold N.text
 rw [List.length_append]; omega
theorem decU_len {n:Int} (h:n<18446744073709551616):(N.decU n).length≤20:=dec_len 20 n.toNat (by omega) (by omega)
theorem goodPlc_of {x:HPlace} (h:goodPlc x=true):x.name.length≤40∧okL x.label=true∧(0≤x.bytes∧x.bytes≤65536)∧0≤x.base∧x.base<18446744073709551616:=by
 obtain ⟨h1,h⟩:=bcond h
 obtain ⟨h2,h⟩:=bcond h
 obtain ⟨h3,h4⟩:=bcond h
 obtain ⟨h5,h6⟩:=bcond h3
 obtain ⟨h7,h8⟩:=bcond h4
 exact ⟨ble_of h1,h2,⟨ile_of h5,ile_of h6⟩,ile_of h7,ilt_of h8⟩
theorem goodGra_of {p:HPolicy} {x:HGrant} (h:goodGra p x=true):(N.there p x.src=true∧N.there p x.dst=true)∧0≤x.budget∧x.budget≤16:=by
 obtain ⟨h1,h2⟩:=bcond h
 obtain ⟨h3,h4⟩:=bcond h2
 exact ⟨bcond h1,ile_of h3,ile_of h4⟩
theorem dig_pre {n:Int} (h0:0≤n) (h1:n<18446744073709551616):ile 0 n=true∧ilt n ((100000000000000000000:Nat):Int)=true∧ilt n 18446744073709551616=true:=⟨ile_t h0,ilt_t (by omega),ilt_t h1⟩
theorem name_at {c:List V} {k:Nat} (h:k<(cPolicy.dec c).places.length):V.toStr (List.getD (List.getD (V.toRows (List.getD c 2 V.undef)) k []) 0 V.undef)=((cPolicy.dec c).places.getD k place0).name:=by
 rw [← pol_rows,← dec_at cPlace place0 (by rw [rows_len2]; exact h)]; rfl
theorem all_rowP {α:Type} (c:RCod α) {r:List (List V)} {q:α→Bool} (h:(r.map c.dec).all q=true) {i:Nat} (hi:i<r.length):q (c.dec (r.getD i []))=true:=by
 rw [List.all_map] at h
 exact List.all_eq_true.1 h (r.getD i []) (by rw [List.getD_eq_getElem?_getD,List.getElem?_eq_getElem hi]; exact List.getElem_mem hi)
theorem nm_at {l:List HPlace} (h:l.all goodPlc=true) {k:Nat} (hk:k<l.length):(l.getD k place0).name.length≤40:=by
 have hm:l.getD k place0∈l:=by
  rw [List.getD_eq_getElem?_getD,List.getElem?_eq_getElem hk]; exact List.getElem_mem hk
 exact (goodPlc_of (List.all_eq_true.1 h _ hm)).1
theorem labs_len:∀ {l:List HPlace},l.all goodPlc=true→(N.labsT l).length≤1000*l.length
 | [],_=>Nat.le_refl _
 | x::r,h=>by
  rw [List.all_cons,Bool.and_eq_true] at h
  obtain ⟨n1,l1,⟨b1,b2⟩,c1,c2⟩:=goodPlc_of h.1
  have ih:=labs_len h.2
  have m1:=text_lenP x.label
  have m2:=decU_len (n:=x.bytes) (by omega)
  have m3:=decU_len (n:=x.base) c2
  show (N.labLn x++N.labsT r).length≤_
  simp only [N.labLn,List.length_append,List.length_cons,List.length_nil]; omega
theorem slots_len {p:HPolicy} (hp:p.places.all goodPlc=true):∀ {l:List Int},l.all (N.there p)=true→(N.slotsT p l).length≤1000*l.length
 | [],_=>Nat.le_refl _
 | x::r,h=>by
  rw [List.all_cons,Bool.and_eq_true] at h
  obtain ⟨x0,x1⟩:=there_of h.1
  have ih:=slots_len hp h.2
  have n1:=nm_at hp (k:=x.toNat) (by omega)
  have es:N.slotLn p x=[115,108,111,116,32]++((p.places.getD x.toNat place0).name++[10]):=rfl
  show (N.slotLn p x++N.slotsT p r).length≤_
  simp only [es,List.length_append,List.length_cons,List.length_nil]; omega
theorem ok_rPrint_3:RoundsOk eRPrint 34 3:=by
 refine rounds_of rfl fun l K q h=>?_
 unfold gRPrint3 at h
 split at h
 ·rename_i s3 r23 i24 i25 cx0
  have h1:=(cond_none h).1; replace h:=(cond_none h).2; have h2:=(cond_none h).1; replace h:=(cond_none h).2; have h3:=(cond_none h).1; replace h:=(cond_none h).2; have g1:=(cond_none h).1; replace h:=(cond_none h).2; have g2:=(cond_none h).1; replace h:=(cond_none h).2
  have e1:=ieq_of h1
  have e2:=ieq_of h2
  subst e1 e2
  have h3:r23.length≤20:=ble_of h3
  have g1:=ble_of g1
  have main:=range_ind (E:=eRPrint) (f:=34) (id:=3) (A:=Bytes) (r23) (fun a i=>{ fr:=[(1,.ptr 10000 0 0 0),(3,.str a),(23,.slc [.str,.int .u8,.int .u32,.int .i64,.int .u64] r23),(24,.int .i64 r23.length),(25,.int .i64 i)],tab:=[(10000,.var (etaRow xsPolicy 0 cx0))] }) (fun a i=>a.length≤1000+1000*i)
   (fun a rows K=>K (.exit 0) { fr:=[(1,.ptr 10000 0 0 0),(3,.str (a++N.labsT (rows.map cPlace.dec)))],tab:=[(10000,.var (etaRow xsPolicy 0 cx0))] }) (fun a i ha hi=>?_) (fun a ha=>?_) (s3) 0 (Int.le_refl _) (by omega) (by simp only [Int.toNat_zero]; omega) K q (by assumption)
  ·exact main
  ·have hq:=fun K=>q_rPrintR3 (a) (r23) (r23.length) ((i:Int)) (cx0) K
   have t1:ilt (i:Int) r23.length=true:=ilt_t (by omega)
   have t2:decide ((0:Int)≤i∧(i:Int)<r23.length)=true:=decide_eq_true (by omega)
   have t3:IntKind.wrap .i64 ((i:Int)+1)=(i:Int)+1:=wr_i64 (by omega) (by omega)
   simp only [Int.toNat_natCast] at hq
   simp only [t1,t2,t3,cond_true] at hq
   have hx:=all_rowP cPlace g2 hi
   have a0:V.toStr (List.getD (List.getD r23 i []) 0 V.undef)=(cPlace.dec (List.getD r23 i [])).name:=rfl
   have a1:V.toInt (List.getD (List.getD r23 i []) 1 V.undef)=(cPlace.dec (List.getD r23 i [])).label.level:=rfl
   have a2:V.toInt (List.getD (List.getD r23 i []) 2 V.undef)=(cPlace.dec (List.getD r23 i [])).label.set:=rfl
   have a3:V.toInt (List.getD (List.getD r23 i []) 3 V.undef)=(cPlace.dec (List.getD r23 i [])).bytes:=rfl
   have a4:V.toInt (List.getD (List.getD r23 i []) 4 V.undef)=(cPlace.dec (List.getD r23 i [])).base:=rfl
   simp only [a0,a1,a2,a3,a4] at hq
   simp only [List.map_cons]
   generalize cPlace.dec (List.getD r23 i [])=x at *
   obtain ⟨n1,l1,⟨b1,b2⟩,c1,c2⟩:=goodPlc_of hx
   have l1' : (bif bif ile (0:Int) x.label.level then ile x.label.level (255:Int) else false then bif ile (0:Int) x.label.set then ilt x.label.set (4294967296:Int) else false else false)=true:=l1
   have e1:(⟨x.label.level,x.label.set⟩:Label)=x.label:=rfl
   have w1:IntKind.wrap .u64 x.bytes=x.bytes:=wrU (by omega) (by omega)
   obtain ⟨d1,d2,d3⟩:=dig_pre b1 (by omega)
   obtain ⟨d4,d5,d6⟩:=dig_pre c1 c2
   have m1:=text_lenP x.label
   have m2:=decU_len (n:=x.bytes) (by omega)
   have m3:=decU_len (n:=x.base) c2
   have er:∀ l:List HPlace,N.labsT (x::l)=N.labLn x++N.labsT l:=fun _=>rfl
   refine .inl ⟨a++N.labLn x,?_,fun K=>?_,fun K=>?_⟩
   ·simp only [N.labLn,List.length_append,List.length_cons,List.length_nil]; omega
   ·rw [hq]
    simp (disch:=omega) only [e1,w1,l1',d1,d2,d3,d4,d5,d6,List.length_append,List.length_cons,List.length_nil,ble_t,cond_true,N.labLn,List.append_assoc]
    try rfl
   ·simp only [er,List.append_assoc]
  ·refine ⟨.exit 0,{ fr:=[(1,.ptr 10000 0 0 0),(3,.str a)],tab:=[(10000,.var (etaRow xsPolicy 0 cx0))] },by simp,fun K=>?_,fun K=>?_⟩
   ·rw [q_rPrintR3]
    simp (disch:=omega) only [evs]
    try rfl
   ·simp only [List.map_nil,N.labsT,List.append_nil]
 ·cases h
theorem ok_rPrint_8:RoundsOk eRPrint 34 8:=by
 refine rounds_of rfl fun l K q h=>?_
 unfold gRPrint8 at h
 split at h
 ·rename_i s3 r53 i54 i55 cx0
  have h1:=(cond_none h).1; replace h:=(cond_none h).2; have h2:=(cond_none h).1; replace h:=(cond_none h).2; have h3:=(cond_none h).1; replace h:=(cond_none h).2; have g1:=(cond_none h).1; replace h:=(cond_none h).2; have g2:=(cond_none h).1; replace h:=(cond_none h).2; have g3:=(cond_none h).1; replace h:=(cond_none h).2
  have e1:=ieq_of h1
  have e2:=ieq_of h2
  subst e1 e2
  have h3:r53.length≤40:=ble_of h3
  have g1:=ble_of g1
  have main:=range_ind (E:=eRPrint) (f:=34) (id:=8) (A:=Bytes) (r53) (fun a i=>{ fr:=[(1,.ptr 10000 0 0 0),(3,.str a),(53,.slc [.int .i64] r53),(54,.int .i64 r53.length),(55,.int .i64 i)],tab:=[(10000,.var (etaRow xsPolicy 0 cx0))] }) (fun a i=>a.length≤100000+1000*i)
   (fun a rows K=>K (.exit 2) { fr:=[(1,.ptr 10000 0 0 0),(3,.str (a++N.slotsT (cPolicy.dec cx0) (rows.map (rInt .i64).dec)))],tab:=[(10000,.var (etaRow xsPolicy 0 cx0))] }) (fun a i ha hi=>?_) (fun a ha=>?_) (s3) 0 (Int.le_refl _) (by omega) (by simp only [Int.toNat_zero]; omega) K q (by assumption)
  ·exact main
  ·have hq:=fun K=>q_rPrintR8 (a) (r53) (r53.length) ((i:Int)) (cx0) K
   have t1:ilt (i:Int) r53.length=true:=ilt_t (by omega)
   have t2:decide ((0:Int)≤i∧(i:Int)<r53.length)=true:=decide_eq_true (by omega)
   have t3:IntKind.wrap .i64 ((i:Int)+1)=(i:Int)+1:=wr_i64 (by omega) (by omega)
   simp only [Int.toNat_natCast] at hq
   simp only [t1,t2,t3,cond_true] at hq
   have hx:=all_rowP (rInt .i64) g2 hi
   have a0:V.toInt (List.getD (List.getD r53 i []) 0 V.undef)=(rInt .i64).dec (List.getD r53 i []):=rfl
   simp only [a0] at hq
   simp only [List.map_cons]
   generalize (rInt .i64).dec (List.getD r53 i [])=x at *
   obtain ⟨x0,x1⟩:=there_of hx
   have hk:x.toNat<(cPolicy.dec cx0).places.length:=by omega
   have n1:=nm_at g3 hk
   have u1:decide ((0:Int)≤x∧x<((cPolicy.dec cx0).places.length:Int))=true:=decide_eq_true ⟨x0,x1⟩
   have er:∀ l:List Int,N.slotsT (cPolicy.dec cx0) (x::l)=N.slotLn (cPolicy.dec cx0) x++N.slotsT (cPolicy.dec cx0) l:=fun _=>rfl
   have es:N.slotLn (cPolicy.dec cx0) x=[115,108,111,116,32]++(((cPolicy.dec cx0).places.getD x.toNat place0).name++[10]):=rfl
   refine .inl ⟨a++N.slotLn (cPolicy.dec cx0) x,?_,fun K=>?_,fun K=>?_⟩
   ·simp only [es,List.length_append,List.length_cons,List.length_nil]; omega
   ·rw [hq]
    simp only [rows_len2,name_at hk,u1,cond_true]
    simp (disch:=omega) only [List.length_append,List.length_cons,List.length_nil,ble_t,cond_true,es,List.append_assoc]
    try rfl
   ·simp only [er,List.append_assoc]
  ·refine ⟨.exit 2,{ fr:=[(1,.ptr 10000 0 0 0),(3,.str a)],tab:=[(10000,.var (etaRow xsPolicy 0 cx0))] },by simp,fun K=>?_,fun K=>?_⟩
   ·rw [q_rPrintR8]
    simp (disch:=omega) only [evs]
    try rfl
   ·simp only [List.map_nil,N.slotsT,List.append_nil]
 ·cases h
theorem ok_rPrint_13:RoundsOk eRPrint 34 13:=by
 refine rounds_of rfl fun l K q h=>?_
 unfold gRPrint13 at h
 split at h
 ·rename_i s3 r71 i72 i73 cx0
  have h1:=(cond_none h).1; replace h:=(cond_none h).2; have h2:=(cond_none h).1; replace h:=(cond_none h).2; have h3:=(cond_none h).1; replace h:=(cond_none h).2; have g1:=(cond_none h).1; replace h:=(cond_none h).2; have g2:=(cond_none h).1; replace h:=(cond_none h).2; have g3:=(cond_none h).1; replace h:=(cond_none h).2
  have e1:=ieq_of h1
  have e2:=ieq_of h2
  subst e1 e2
  have h3:r71.length≤10:=ble_of h3
  have g1:=ble_of g1
  have main:=range_ind (E:=eRPrint) (f:=34) (id:=13) (A:=Bytes) (r71) (fun a i=>{ fr:=[(1,.ptr 10000 0 0 0),(3,.str a),(71,.slc [.int .i64,.int .i64,.int .i64] r71),(72,.int .i64 r71.length),(73,.int .i64 i)],tab:=[(10000,.var (etaRow xsPolicy 0 cx0))] }) (fun a i=>a.length≤200000+1000*i)
   (fun a rows K=>K (.exit 4) { fr:=[(3,.str (a++N.grasT (cPolicy.dec cx0) (rows.map cGrant.dec)))],tab:=[] }) (fun a i ha hi=>?_) (fun a ha=>?_) (s3) 0 (Int.le_refl _) (by omega) (by simp only [Int.toNat_zero]; omega) K q (by assumption)
  ·exact main
  ·have hq:=fun K=>q_rPrintR13 (a) (r71) (r71.length) ((i:Int)) (cx0) K
   have t1:ilt (i:Int) r71.length=true:=ilt_t (by omega)
   have t2:decide ((0:Int)≤i∧(i:Int)<r71.length)=true:=decide_eq_true (by omega)
   have t3:IntKind.wrap .i64 ((i:Int)+1)=(i:Int)+1:=wr_i64 (by omega) (by omega)
   simp only [Int.toNat_natCast] at hq
   simp only [t1,t2,t3,cond_true] at hq
   have hx:=all_rowP cGrant g2 hi
   have a0:V.toInt (List.getD (List.getD r71 i []) 0 V.undef)=(cGrant.dec (List.getD r71 i [])).src:=rfl
   have a1:V.toInt (List.getD (List.getD r71 i []) 1 V.undef)=(cGrant.dec (List.getD r71 i [])).dst:=rfl
   have a2:V.toInt (List.getD (List.getD r71 i []) 2 V.undef)=(cGrant.dec (List.getD r71 i [])).budget:=rfl
   simp only [a0,a1,a2] at hq
   simp only [List.map_cons]
   generalize cGrant.dec (List.getD r71 i [])=x at *
   obtain ⟨⟨h4,h5⟩,b1,b2⟩:=goodGra_of hx
   obtain ⟨x0,x1⟩:=there_of h4
   obtain ⟨y0,y1⟩:=there_of h5
   have hk:x.src.toNat<(cPolicy.dec cx0).places.length:=by omega
   have hk2:x.dst.toNat<(cPolicy.dec cx0).places.length:=by omega
   have n1:=nm_at g3 hk
   have n2:=nm_at g3 hk2
   have u1:decide ((0:Int)≤x.src∧x.src<((cPolicy.dec cx0).places.length:Int))=true:=decide_eq_true ⟨x0,x1⟩
   have u2:decide ((0:Int)≤x.dst∧x.dst<((cPolicy.dec cx0).places.length:Int))=true:=decide_eq_true ⟨y0,y1⟩
   have w1:IntKind.wrap .u64 x.budget=x.budget:=wrU (by omega) (by omega)
   obtain ⟨d1,d2,d3⟩:=dig_pre b1 (by omega)
   have m2:=decU_len (n:=x.budget) (by omega)
   have er:∀ l:List HGrant,N.grasT (cPolicy.dec cx0) (x::l)=N.graLn (cPolicy.dec cx0) x++N.grasT (cPolicy.dec cx0) l:=fun _=>rfl
   have es:N.graLn (cPolicy.dec cx0) x=[103,114,97,110,116,32]++(((cPolicy.dec cx0).places.getD x.src.toNat place0).name++([32]++(((cPolicy.dec cx0).places.getD x.dst.toNat place0).name++([32]++(N.decU x.budget++[10]))))):=rfl
   refine .inl ⟨a++N.graLn (cPolicy.dec cx0) x,?_,fun K=>?_,fun K=>?_⟩
   ·simp only [es,List.length_append,List.length_cons,List.length_nil]; omega
   ·rw [hq]
    simp only [rows_len2,name_at hk,name_at hk2,u1,u2,w1,d1,d2,d3,cond_true]
    simp (disch:=omega) only [List.length_append,List.length_cons,List.length_nil,ble_t,cond_true,es,List.append_assoc]
    try rfl
   ·simp only [er,List.append_assoc]
  ·refine ⟨.exit 4,{ fr:=[(3,.str a)],tab:=[] },by simp,fun K=>?_,fun K=>?_⟩
   ·rw [q_rPrintR13]
    simp (disch:=omega) only [evs]
    try rfl
   ·simp only [List.map_nil,N.grasT,List.append_nil]
 ·cases h
theorem ok_rPrint:FnOk Tryz.prog 34 dPrintR:=by
 refine den_okF (env_ok (((TOk.nil _).cons ok_rText3).cons ok_digP)) (E:=eRPrint) Tryz.func34 [3,8,13] (by kernel_rfl) (three3 ok_rPrint_3 ok_rPrint_8 ok_rPrint_13) fun a b hp=>?_
 obtain ⟨hw,h⟩:=bcond (show goodPr a=true from hp)
 obtain ⟨hg,h⟩:=bcond h
 obtain ⟨hpl,h⟩:=bcond h
 obtain ⟨hsl,hgr⟩:=bcond h
 obtain ⟨w1,w2⟩:=bcond hw
 obtain ⟨v1,v2⟩:=bcond hg
 have w1:=ile_of w1
 have w2:=ile_of w2
 have v1:=ile_of v1
 have v2:=ile_of v2
 obtain ⟨p1,p2⟩:=bcond hpl
 obtain ⟨s1,s2⟩:=bcond hsl
 obtain ⟨r1,r2⟩:=bcond hgr
 have ww:IntKind.wrap .u64 a.work=a.work:=wrU (by omega) (by omega)
 have wg:IntKind.wrap .u64 a.give=a.give:=wrU (by omega) (by omega)
 obtain ⟨d1,d2,d3⟩:=dig_pre w1 (by omega)
 obtain ⟨d4,d5,d6⟩:=dig_pre v1 (by omega)
 have m1:=decU_len (n:=a.work) (by omega)
 have m2:=decU_len (n:=a.give) (by omega)
 have m3:=labs_len p2
 have m4:=slots_len (p:=a) p2 s2
 have m5:=ble_of p1
 have m6:=ble_of s1
 refine (q_rPrint a).trans ?_
 simp only [dec_encsY,fold_pol,List.length_map,ww,wg,d1,d2,d3,d4,d5,d6,p1,p2,s1,s2,r1,r2,beq_self_eq_true,cond_true]
 simp (disch:=omega) only [List.length_append,List.length_cons,List.length_nil,ble_t,cond_true]
 show _=some (⟨.str (N.textP a),[],[]⟩:DRes)
 simp only [N.textP,N.headT,List.append_assoc]
 try rfl
end Go.Ev

/- What Print keeps while it writes; the calls that it makes: lemmas,no condition. -/
namespace Go.Ev
open Go Go.Proofs Go.RowKit Go.Shelf
set_option maxRecDepth 100000
structure PrAt (w:World) (vs:Array Value) (bp b:Nat) (bs:List UInt8) (W:World):Prop where
 bel:Below w.heap.size w W
 hp:w.heap.size≤bp
 lt:bp<b
 box:W.heap[bp]? = some (.cells vs 27 (0,0))
 bld:Lib.IsBuilder 91 5 b b (Lib.byteCells bs) W
theorem isB_lt {T e:TypeId} {B b:Nat} {bs:List Value} {W:World} (h:Lib.IsBuilder T e B b bs W):b<W.heap.size:=by
 rcases h with h | h<;>exact h.lt
theorem PrAt.grown {w:World} {vs:Array Value} {bp b:Nat} {bs:List UInt8} {W W' : World} (h:PrAt w vs bp b bs W) (hg:W.grownBy W' none):PrAt w vs bp b bs W' :=
 ⟨h.bel.grown hg h.bel.size (fun k e=>by cases e),h.hp,h.lt,by rw [hg.block bp (Nat.lt_trans h.lt (isB_lt h.bld)) (by simp)]; exact h.box,isB_grown h.bld hg⟩
theorem PrAt.cell {w:World} {vs:Array Value} {bp b:Nat} {bs:List UInt8} {W:World} (h:PrAt w vs bp b bs W) (i:Nat):W.cell? ⟨bp,i,none⟩=vs[i]?:=by
 simp [World.cell?,h.box]
theorem PrAt.old {w:World} {vs:Array Value} {bp b:Nat} {bs:List UInt8} {W:World} (h:PrAt w vs bp b bs W) {k i:Nat} {v:Value} (hk:k<w.heap.size) (hc:w.cell? ⟨k,i,none⟩=some v):W.cell? ⟨k,i,none⟩=some v :=
 (h.bel.cell (p:=⟨k,i,none⟩) hk).trans hc
theorem put_at {w:World} {vs:Array Value} {bp b:Nat} {bs:List UInt8} {W:World} (h:PrAt w vs bp b bs W) (bk c:Nat) (xs:List ByteArray) (l:List UInt8) (hcells:∀ (j:Nat) x,xs[j]? = some x→W.cell? ⟨bk,0+j,none⟩=some (.string x)) (hbk:bk<W.heap.size) (hN:xs.length≤100) (hcap:xs.length≤c)
  (hl:Lib.join (xs.map fun x:ByteArray=>x.data.toList) [32]=l) (hlen:bs.length+(l.length+1)≤140737488355328) :
  Calls Tryz.prog 51 #[.slice (some ⟨bk,0,none⟩) xs.length c,.pointer (some ⟨b,0,none⟩)] W fun e W'=>e = .returned (.tuple #[])∧PrAt w vs bp b (bs++(l++[10])) W'∧KeepK b W W':=by
 refine (put_in bk c b b xs l (Lib.byteCells bs) W hcells hbk (by omega) hcap hl (by rw [Lib.byteCells_length]; exact hlen) h.bld (Nat.le_of_lt (isB_lt h.bld))).mono ?_
 rintro e W' ⟨he,h1,h2,h3⟩
 have e1:Lib.byteCells (bs++(l++[10]))=Lib.byteCells bs++Lib.byteCells (l++[10]):=by simp only [Lib.byteCells,List.map_append]
 exact ⟨he,⟨h.bel.trans (h2.mono (by have:=h.hp; have:=h.lt; omega)),h.hp,h.lt,(h2.block bp h.lt).trans h.box,by rw [e1]; exact h1⟩,h3⟩
theorem plain_at {P : Program} {f : FuncId} {fn : Func} {D : Den} (hf : P.funcs[f]? = some fn) (hbd : fn.body.isSome = true) (hnm : (fn.name == "runtime.NumGoroutine") = false) (ok : FnOk P f D) {args : List V} {r : V} (hpre : D.pre args [] = true) (hres : D.res args [] = { v := r, bx := [], nb := [] })
  {xs:List Value} {w W:World} {J:Nat→Nat→Prop} (hJ:∀ b o,J b o→b<w.heap.size) (hl:args.length=xs.length) (hx:∀ i,i<args.length→Rv w J noRho (args.getD i .undef) (xs.getD i Go.undef)) (hH:Held P J w) (hb:Below w.heap.size w W) :
  Calls P f xs.toArray W fun e W'=>∃ v,(∃ J',Rv W' J' noRho r v)∧e = .returned v∧W.grownBy W' none:=by
 refine (callsIn_wide.1 (plain_calls hf hbd hnm ok hpre hres hJ hl hx hH hb 1)).mono ?_
 rintro e W' ⟨v,J',he,hg,hv,_⟩
 exact ⟨v,⟨J',hv⟩,he,hg⟩
theorem itoa_at {w W:World} {J:Nat→Nat→Prop} (hJ:∀ b o,J b o→b<w.heap.size) (hH:Held Tryz.prog J w) (hb:Below w.heap.size w W) {n:Int} (h0:0≤n) (h1:n≤1000000) :
  Calls Tryz.prog 54 #[.int .i64 n] W fun e W'=>e = .returned (.string ⟨(N.decU n).toArray⟩)∧W.grownBy W' none:=by
 refine (plain_at Tryz.func54 (by kernel_rfl) (by kernel_rfl) ok_itoaP (denN_pre n (by show cond (ile 0 n) (ile n 1000000) false=true; rw [ile_t h0,ile_t h1]; rfl)) (denN_res n) (xs:=[.int .i64 n]) hJ rfl (fun i hi=>?_) hH hb).mono ?_
 ·match i,hi with
  | 0,_=>exact .dat (.int _ _)
 ·rintro e W' ⟨v,⟨J',hv⟩,rfl,hg⟩
  exact ⟨by rw [Rv.str_inv hv],hg⟩
theorem fmtu_at {w W:World} {J:Nat→Nat→Prop} (hJ:∀ b o,J b o→b<w.heap.size) (hH:Held Tryz.prog J w) (hb:Below w.heap.size w W) {n:Int} (h0:0≤n) (h1:n<18446744073709551616) :
  Calls Tryz.prog 56 #[.int .u64 n,.int .i64 10] W fun e W'=>e = .returned (.string ⟨(N.decU n).toArray⟩)∧W.grownBy W' none:=by
 refine (plain_at Tryz.func56 (by kernel_rfl) (by kernel_rfl) ok_fmtU (denN_pre (n,(10:Int)) (by show cond (cond (ile 0 n) (ilt n 18446744073709551616) false) ((10:Int)==10) false=true; rw [ile_t h0,ilt_t h1]; rfl)) (denN_res (n,(10:Int))) (xs:=[.int .u64 n,.int .i64 10]) hJ rfl (fun i hi=>?_) hH hb).mono ?_
 ·match i,hi with
  | 0,_=>exact .dat (.int _ _)
  | 1,_=>exact .dat (.int _ _)
 ·rintro e W' ⟨v,⟨J',hv⟩,rfl,hg⟩
  exact ⟨by rw [Rv.str_inv hv],hg⟩
theorem text_at {w W:World} {J:Nat→Nat→Prop} (hJ:∀ b o,J b o→b<w.heap.size) (hH:Held Tryz.prog J w) (hb:Below w.heap.size w W) {a:Label} (h0:okL a=true) :
  Calls Tryz.prog 55 #[.agg #[.int .u8 a.level,.int .u32 a.set]] W fun e W'=>e = .returned (.string ⟨(N.text a).toArray⟩)∧W.grownBy W' none:=by
 refine (plain_at Tryz.func55 (by kernel_rfl) (by kernel_rfl) ok_lText (denN_pre a h0) (denN_res a) (xs:=[.agg #[.int .u8 a.level,.int .u32 a.set]]) hJ rfl (fun i hi=>?_) hH hb).mono ?_
 ·match i,hi with
  | 0,_ =>
   refine .agg [.int .u8 a.level,.int .u32 a.set] [.int .u8 a.level,.int .u32 a.set] rfl fun i hi=>?_
   match i,hi with
   | 0,_=>exact .dat (.int _ _)
   | 1,_=>exact .dat (.int _ _)
 ·rintro e W' ⟨v,⟨J',hv⟩,rfl,hg⟩
  exact ⟨by rw [Rv.str_inv hv],hg⟩
theorem check_at {w W:World} {J:Nat→Nat→Prop} (hJ:∀ b o,J b o→b<w.heap.size) (hH:Held Tryz.prog J w) (hb:Below w.heap.size w W) {p:HPolicy} (h0:fewC p=true) {x0:Value} (hx:Rv w J noRho (.agg (cPolicy.enc p)) x0) :
  Calls Tryz.prog 31 #[x0] W fun e W'=>e = .returned (.int .i64 (N.checkP p))∧W.grownBy W' none:=by
 refine (plain_at Tryz.func31 (by kernel_rfl) (by kernel_rfl) ok_pCheck (denN_pre p h0) (denN_res p) (xs:=[x0]) hJ rfl (fun i hi=>?_) hH hb).mono ?_
 ·match i,hi with
  | 0,_=>exact hx
 ·rintro e W' ⟨v,⟨J',hv⟩,rfl,hg⟩
  exact ⟨by rw [Rv.int_inv hv],hg⟩
theorem slc_cells {w:World} {J:Nat→Nat→Prop} {sh:List Sh} {rows:List (List V)} {v:Value} (h:Rv w J noRho (.slc sh rows) v):∃ a cap,v = .slice a rows.length cap∧rows.length≤cap ∧
  (0<rows.length→∃ b o,a=some ⟨b,o,none⟩∧∀ i j,i<rows.length→j<sh.length→∃ y,w.cell? ⟨b,o+(i*sh.length+j),none⟩=some y∧J b (o+(i*sh.length+j))∧Dat w J (rowAt rows i j) y):=by
 cases h with
 | dat h=>cases h with
  | slc sh rows a cap val hcap hnil hfit ha hd =>
   refine ⟨a,cap,rfl,hcap,fun hn=>?_⟩
   obtain ⟨b,o,h1,h2⟩:=ha (by intro e; rw [e] at hn; exact absurd hn (by simp))
   exact ⟨b,o,h1,fun i j hi hj=>⟨val i j,(h2 i j hi hj).1,(h2 i j hi hj).2,hd i j hi hj⟩⟩
theorem dat_int {w:World} {J:Nat→Nat→Prop} {k:IntKind} {n:Int} {x:Value} (h:Dat w J (.int k n) x):x = .int k n:=by cases h; rfl
theorem rowAt_map {α:Type} (c:RCod α) (l:List α) {i:Nat} {x:α} (h:l[i]? = some x) (j:Nat):rowAt (l.map c.enc) i j=(c.enc x).getD j .undef:=by
 unfold rowAt
 rw [show (l.map c.enc).getD i []=c.enc x by simp [List.getD_eq_getElem?_getD,h]]
structure PlcAt (w:World) (J:Nat→Nat→Prop) (b o:Nat) (x:HPlace):Prop where
 lt:b<w.heap.size
 c0:w.cell? ⟨b,o,none⟩=some (.string ⟨x.name.toArray⟩)
 c1:w.cell? ⟨b,o+1,none⟩=some (.int .u8 x.label.level)
 c2:w.cell? ⟨b,o+2,none⟩=some (.int .u32 x.label.set)
 c3:w.cell? ⟨b,o+3,none⟩=some (.int .i64 x.bytes)
 c4:w.cell? ⟨b,o+4,none⟩=some (.int .u64 x.base)
theorem places_at {w:World} {J:Nat→Nat→Prop} (hJ:∀ b o,J b o→b<w.heap.size) {l:List HPlace} {v:Value} (h:Rv w J noRho (.slc [.str,.int .u8,.int .u32,.int .i64,.int .u64] (l.map cPlace.enc)) v) :
  ∃ a cap,v = .slice a l.length cap∧l.length≤cap∧(0<l.length→∃ b o,a=some ⟨b,o,none⟩∧∀ (i:Nat) x,l[i]? = some x→PlcAt w J b (o+i*5) x):=by
 obtain ⟨a,cap,rfl,hc,hr⟩:=slc_cells h
 rw [List.length_map] at hc hr ⊢
 refine ⟨a,cap,rfl,hc,fun hn=>?_⟩
 obtain ⟨b,o,ha,hr⟩:=hr hn
 refine ⟨b,o,ha,fun i x hx=>?_⟩
 have hi:i<l.length:=(List.getElem?_eq_some_iff.1 hx).1
 obtain ⟨y0,h0,j0,d0⟩:=hr i 0 hi (by show 0<5; omega)
 obtain ⟨y1,h1,j1,d1⟩:=hr i 1 hi (by show 1<5; omega)
 obtain ⟨y2,h2,j2,d2⟩:=hr i 2 hi (by show 2<5; omega)
 obtain ⟨y3,h3,j3,d3⟩:=hr i 3 hi (by show 3<5; omega)
 obtain ⟨y4,h4,j4,d4⟩:=hr i 4 hi (by show 4<5; omega)
 rw [rowAt_map cPlace l hx] at d0 d1 d2 d3 d4
 have d0:Dat w J (.str x.name) y0:=d0
 have d1:=dat_int (show Dat w J (.int .u8 x.label.level) y1 from d1)
 have d2:=dat_int (show Dat w J (.int .u32 x.label.set) y2 from d2)
 have d3:=dat_int (show Dat w J (.int .i64 x.bytes) y3 from d3)
 have d4:=dat_int (show Dat w J (.int .u64 x.base) y4 from d4)
 subst d1 d2 d3 d4
 have d0:y0 = .string ⟨x.name.toArray⟩:=by cases d0; rfl
 subst d0
 exact ⟨hJ _ _ j0,h0,h1,h2,h3,h4⟩
theorem slots_at {w:World} {J:Nat→Nat→Prop} (hJ:∀ b o,J b o→b<w.heap.size) {l:List Int} {v:Value} (h:Rv w J noRho (.slc [.int .i64] (l.map (rInt .i64).enc)) v) :
  ∃ a cap,v = .slice a l.length cap∧l.length≤cap∧(0<l.length→∃ b o,a=some ⟨b,o,none⟩∧∀ (i:Nat) x,l[i]? = some x→b<w.heap.size∧w.cell? ⟨b,o+i,none⟩=some (.int .i64 x)):=by
 obtain ⟨a,cap,rfl,hc,hr⟩:=slc_cells h
 rw [List.length_map] at hc hr ⊢
 refine ⟨a,cap,rfl,hc,fun hn=>?_⟩
 obtain ⟨b,o,ha,hr⟩:=hr hn
 refine ⟨b,o,ha,fun i x hx=>?_⟩
 have hi:i<l.length:=(List.getElem?_eq_some_iff.1 hx).1
 obtain ⟨y0,h0,j0,d0⟩:=hr i 0 hi (by show 0<1; omega)
 rw [rowAt_map (rInt .i64) l hx] at d0
 have d0:=dat_int (show Dat w J (.int .i64 x) y0 from d0)
 subst d0
 exact ⟨hJ _ _ j0,by simpa using h0⟩
structure GraAt (w:World) (b o:Nat) (x:HGrant):Prop where
 lt:b<w.heap.size
 c0:w.cell? ⟨b,o,none⟩=some (.int .i64 x.src)
 c1:w.cell? ⟨b,o+1,none⟩=some (.int .i64 x.dst)
 c2:w.cell? ⟨b,o+2,none⟩=some (.int .i64 x.budget)
theorem grants_at {w:World} {J:Nat→Nat→Prop} (hJ:∀ b o,J b o→b<w.heap.size) {l:List HGrant} {v:Value} (h:Rv w J noRho (.slc [.int .i64,.int .i64,.int .i64] (l.map cGrant.enc)) v) :
  ∃ a cap,v = .slice a l.length cap∧l.length≤cap∧(0<l.length→∃ b o,a=some ⟨b,o,none⟩∧∀ (i:Nat) x,l[i]? = some x→GraAt w b (o+i*3) x):=by
 obtain ⟨a,cap,rfl,hc,hr⟩:=slc_cells h
 rw [List.length_map] at hc hr ⊢
 refine ⟨a,cap,rfl,hc,fun hn=>?_⟩
 obtain ⟨b,o,ha,hr⟩:=hr hn
 refine ⟨b,o,ha,fun i x hx=>?_⟩
 have hi:i<l.length:=(List.getElem?_eq_some_iff.1 hx).1
 obtain ⟨y0,h0,j0,d0⟩:=hr i 0 hi (by show 0<3; omega)
 obtain ⟨y1,h1,j1,d1⟩:=hr i 1 hi (by show 1<3; omega)
 obtain ⟨y2,h2,j2,d2⟩:=hr i 2 hi (by show 2<3; omega)
 rw [rowAt_map cGrant l hx] at d0 d1 d2
 have d0:=dat_int (show Dat w J (.int .i64 x.src) y0 from d0)
 have d1:=dat_int (show Dat w J (.int .i64 x.dst) y1 from d1)
 have d2:=dat_int (show Dat w J (.int .i64 x.budget) y2 from d2)
 subst d0 d1 d2
 exact ⟨hJ _ _ j0,h0,h1,h2⟩
end Go.Ev

/- Print is gone through: lemmas,no condition. -/
namespace Go.Ev
open Go Go.Proofs Go.RowKit Go.Shelf
set_option maxRecDepth 100000
abbrev prVs (p:HPolicy) (a2 a3 a4:Option Addr) (n2 n3 n4 c2 c3 c4:Nat):Array Value:=#[.int .i64 p.work,.int .i64 p.give,.slice a2 n2 c2,.slice a3 n3 c3,.slice a4 n4 c4]
theorem pr_box {w w1:World} {vs:Array Value} (hg:(w.alloc (.cells vs 27)).grownBy w1 none):w1.heap[w.heap.size]? = some (.cells vs 27 (0,0)):=by
 have hn:(w.alloc (.cells vs 27)).heap[w.heap.size]? = some (.cells vs 27 (0,0)):=heap_alloc_new w _
 rw [hg.block w.heap.size (Array.getElem?_eq_some_iff.1 hn).1 (fun e=>by cases e)]; exact hn
theorem pr_below {w w1:World} {o:Obj} (hg:(w.alloc o).grownBy w1 none):Below w.heap.size w w1 :=
 ((Below.refl w.heap.size w).alloc (Nat.le_refl _) o).grown hg (by simp) (fun k e=>by cases e)
theorem pr_start {w w1:World} {vs:Array Value} (hg:(w.alloc (.cells vs 27)).grownBy w1 none) :
  PrAt w vs w.heap.size w1.heap.size [] (w1.alloc (.cells #[.pointer none,.slice none 0 0] 91)):=by
 have hb:=pr_below hg
 have hx:=pr_box hg
 have hs:w.heap.size<w1.heap.size:=(Array.getElem?_eq_some_iff.1 hx).1
 exact ⟨hb.alloc hb.size _,Nat.le_refl _,hs,by rw [Lib.alloc_old _ _ _ hs]; exact hx,Lib.fresh_isBuilder 91 5 w1⟩
theorem put_new {w:World} {vs:Array Value} {bp b:Nat} {bs:List UInt8} {W:World} (h:PrAt w vs bp b bs W) (xs:List ByteArray) (n:Nat) (cs:Array Value) (l:List UInt8) (hn:xs.length=n) (hcs:cs=(xs.map Value.string).toArray) (h1:1≤n) (hN:n≤100)
  (hl:Lib.join (xs.map fun x:ByteArray=>x.data.toList) [32]=l) (hlen:bs.length+(l.length+1)≤140737488355328) :
  Calls Tryz.prog 51 #[.slice (some ⟨W.heap.size,0,none⟩) n n,.pointer (some ⟨b,0,none⟩)] (W.alloc (.cells cs 9)) fun e W'=>e = .returned (.tuple #[])∧PrAt w vs bp b (bs++(l++[10])) W'∧KeepK b W W':=by
 subst hn hcs
 have hnew:(W.alloc (.cells (xs.map Value.string).toArray 9)).heap[W.heap.size]? = some (.cells (xs.map Value.string).toArray 9 (0,0)):=heap_alloc_new W _
 refine (put_at (h.grown (World.grownBy_alloc W _ none)) W.heap.size xs.length xs l (fun j x hj=>?_) (Array.getElem?_eq_some_iff.1 hnew).1 hN (Nat.le_refl _) hl hlen).mono ?_
 case refine_2 =>
  rintro e W' ⟨he,h1,h2⟩
  exact ⟨he,h1,(KeepK.grown (World.grownBy_alloc W _ none) fun _ _ _ _ _ _ e=>by cases e).trans h2⟩
 rw [Lib.cell_of_heap hnew,Nat.zero_add,List.getElem?_toArray,List.getElem?_map,hj]; rfl
theorem pr_join2 (a c:List UInt8):Lib.join ([⟨a.toArray⟩,⟨c.toArray⟩].map fun x:ByteArray=>x.data.toList) [32]=a++[32]++c:=by
 rw [List.map_cons,Lib.join_cons]; simp [Lib.joinTail]
theorem pr_short {bs a:List UInt8} {n:Int} (hn:n≤1000000) (h:bs.length+a.length≤1000000):bs.length+((a++N.decU n).length+1)≤140737488355328:=by
 have:=decU_len (n:=n) (by omega)
 rw [List.length_append]; omega
theorem hd_len {n:Int} (hn:n≤16):([]++([119,111,114,107,32]++N.decU n++[10]):List UInt8).length≤1000:=by
 have:=decU_len (n:=n) (by omega)
 simp only [List.length_append,List.length_cons,List.length_nil]; omega
theorem pr_short2 {bs a:List UInt8} {n:Int} (hn:n≤16) (h:bs.length≤1000) (h2:a.length≤1000:=by decide):bs.length+((a++N.decU n).length+1)≤140737488355328:=by
 have:=decU_len (n:=n) (by omega)
 rw [List.length_append]; omega
theorem pr_pre0 (p:HPolicy):[]++([119,111,114,107,32]++N.decU p.work++[10])++([103,105,118,101,32]++N.decU p.give++[10])=N.headT p++N.labsT (p.places.take 0):=by
 simp [N.headT,N.labsT]
def XS (w:World) (vs:Array Value) (bp b bx:Nat) (cs:Array Value) (T:TypeId) (W:World):Prop:=(∃ bs,PrAt w vs bp b bs W)∧W.heap[bx]? = some (.cells cs T (0,0))
theorem XS.grown {w:World} {vs:Array Value} {bp b bx:Nat} {cs:Array Value} {T:TypeId} {W W' : World} (h:XS w vs bp b bx cs T W) (hg:W.grownBy W' none):XS w vs bp b bx cs T W':=by
 obtain ⟨⟨bs,hP⟩,hx⟩:=h
 exact ⟨⟨bs,hP.grown hg⟩,by rw [hg.block bx (Array.getElem?_eq_some_iff.1 hx).1 (fun e=>by cases e)]; exact hx⟩
theorem XS.bel {w:World} {vs:Array Value} {bp b bx:Nat} {cs:Array Value} {T:TypeId} {W:World} (h:XS w vs bp b bx cs T W):Below w.heap.size w W:=by
 obtain ⟨⟨bs,hP⟩,hx⟩:=h
 exact hP.bel
theorem XS.put {w:World} {vs:Array Value} {bp b bx:Nat} {cs:Array Value} {T:TypeId} {bs:List UInt8} {W W' : World} (h:XS w vs bp b bx cs T W) (hP:PrAt w vs bp b bs W') (hk:KeepK b W W') (hb:bx ≠ b) (hT:T ≠ 5):XS w vs bp b bx cs T W' :=
 ⟨⟨bs,hP⟩,hk bx cs T _ hb hT h.2⟩
theorem XS.new {w:World} {vs:Array Value} {bp b:Nat} {bs:List UInt8} {W:World} (h:PrAt w vs bp b bs W) (cs:Array Value) (T:TypeId):XS w vs bp b W.heap.size cs T (W.alloc (.cells cs T)) :=
 ⟨⟨bs,h.grown (World.grownBy_alloc W _ none)⟩,heap_alloc_new W _⟩
theorem XS.cell {w:World} {vs:Array Value} {bp b bx:Nat} {cs:Array Value} {T:TypeId} {W:World} (h:XS w vs bp b bx cs T W) (i:Nat):W.cell? ⟨bx,i,none⟩=cs[i]?:=by
 simp [World.cell?,h.2]
theorem grown_drewX (w:World):w.grownBy w.drew none:=⟨rfl,rfl,rfl,Nat.le_refl _,fun _ _ _=>rfl⟩
theorem lab_short (x:HPlace) {bs:List UInt8} (h:bs.length≤1000000) (hx:goodPlc x=true):bs.length+(([108,97,98,101,108]++[32]++x.name++[32]++N.text x.label++[32]++N.decU x.bytes++[32]++N.decU x.base).length+1)≤140737488355328:=by
 obtain ⟨n1,l1,⟨b1,b2⟩,c1,c2⟩:=goodPlc_of hx
 have m1:=text_lenP x.label
 have m2:=decU_len (n:=x.bytes) (by omega)
 have m3:=decU_len (n:=x.base) c2
 simp only [List.length_append,List.length_cons,List.length_nil]; omega
theorem head_len {p:HPolicy} (h1:p.work≤16) (h2:p.give≤16):(N.headT p).length≤1000:=by
 have:=decU_len (n:=p.work) (by omega)
 have:=decU_len (n:=p.give) (by omega)
 simp only [N.headT,List.length_append,List.length_cons,List.length_nil]; omega
theorem all_take {α:Type} {q:α→Bool} {l:List α} (h:l.all q=true) (k:Nat):(l.take k).all q=true :=
 List.all_eq_true.2 fun x hx=>List.all_eq_true.1 h x (List.mem_of_mem_take hx)
theorem pr_len1 {p:HPolicy} (h1:p.work≤16) (h2:p.give≤16) (h3:p.places.length≤20) (h4:p.places.all goodPlc=true) {k:Nat}:(N.headT p++N.labsT (p.places.take k)).length≤1000000:=by
 have a:=head_len h1 h2
 have b:=labs_len (all_take h4 k)
 have c:(p.places.take k).length≤20:=Nat.le_trans (by rw [List.length_take]; exact Nat.min_le_right _ _) h3
 rw [List.length_append]; omega
theorem labs_app:∀ (a b:List HPlace),N.labsT (a++b)=N.labsT a++N.labsT b
 | [],_=>rfl
 | x::r,b=>by
  show N.labLn x++N.labsT (r++b)=(N.labLn x++N.labsT r)++N.labsT b
  rw [labs_app r b,List.append_assoc]
theorem take_step {α:Type} {l:List α} {k:Nat} {x:α} (h:l[k]? = some x):l.take (k+1)=l.take k++[x]:=by
 rw [List.take_add_one,h]; rfl
theorem pr_lab_step (p:HPolicy) {k:Nat} {x:HPlace} (h:p.places[k]? = some x):(N.headT p++N.labsT (p.places.take k))++(([108,97,98,101,108]++[32]++x.name++[32]++N.text x.label++[32]++N.decU x.bytes++[32]++N.decU x.base)++[10])=N.headT p++N.labsT (p.places.take (k+1)):=by
 rw [take_step h,labs_app]
 simp [N.labsT,N.labLn]
theorem pr_pre1 (p:HPolicy):N.headT p++N.labsT p.places=N.headT p++N.labsT p.places++N.slotsT p (p.slots.take 0):=by
 simp [N.slotsT]
theorem pr_len2 {p:HPolicy} (h1:p.work≤16) (h2:p.give≤16) (h3:p.places.length≤20) (h4:p.places.all goodPlc=true) (h5:p.slots.length≤40) (h6:p.slots.all (N.there p)=true) {k:Nat}:(N.headT p++N.labsT p.places++N.slotsT p (p.slots.take k)).length≤1000000:=by
 have a:=head_len h1 h2
 have b:=labs_len h4
 have c:=slots_len h4 (all_take h6 k)
 have d:(p.slots.take k).length≤40:=Nat.le_trans (by rw [List.length_take]; exact Nat.min_le_right _ _) h5
 rw [List.length_append,List.length_append]; omega
theorem nmY {l:List HPlace} (h:l.all goodPlc=true) {k:Nat} {y:HPlace} (hk:l[k]? = some y):y.name.length≤40 :=
 (goodPlc_of (List.all_eq_true.1 h _ (List.mem_of_getElem? hk))).1
theorem slot_short (a:List UInt8) {bs:List UInt8} (h:bs.length≤1000000) (hx:a.length≤40):bs.length+(([115,108,111,116]++[32]++a).length+1)≤140737488355328:=by
 simp only [List.length_append,List.length_cons,List.length_nil]; omega
theorem pr_pre2 (p:HPolicy):N.headT p++N.labsT p.places++N.slotsT p p.slots=N.headT p++N.labsT p.places++N.slotsT p p.slots++N.grasT p (p.grants.take 0):=by
 simp [N.grasT]
theorem pr_pre3 (p:HPolicy):N.headT p++N.labsT p.places++N.slotsT p p.slots++N.grasT p p.grants=N.textP p:=by
 simp [N.textP]
theorem plAt_of {p:HPolicy} {m:Nat} {y:HPlace} (h:p.places[m]? = some y):N.plAt p (m:Int)=y:=by
 show p.places.getD (m:Int).toNat place0=y
 rw [Int.toNat_natCast,List.getD_eq_getElem?_getD,h]; rfl
theorem slots_app (p:HPolicy):∀ (a b:List Int),N.slotsT p (a++b)=N.slotsT p a++N.slotsT p b
 | [],_=>rfl
 | x::r,b=>by
  show N.slotLn p x++N.slotsT p (r++b)=(N.slotLn p x++N.slotsT p r)++N.slotsT p b
  rw [slots_app p r b,List.append_assoc]
theorem gras_app (p:HPolicy):∀ (a b:List HGrant),N.grasT p (a++b)=N.grasT p a++N.grasT p b
 | [],_=>rfl
 | x::r,b=>by
  show N.graLn p x++N.grasT p (r++b)=(N.graLn p x++N.grasT p r)++N.grasT p b
  rw [gras_app p r b,List.append_assoc]
theorem pr_slot_step {p:HPolicy} {k m:Nat} {y:HPlace} (h:p.slots[k]? = some (m:Int)) (hy:p.places[m]? = some y):N.headT p++N.labsT p.places++N.slotsT p (p.slots.take k)++(([115,108,111,116]++[32]++y.name)++[10])=N.headT p++N.labsT p.places++N.slotsT p (p.slots.take (k+1)):=by
 rw [take_step h,slots_app]
 simp [N.slotsT,N.slotLn,plAt_of hy]
theorem pr_gra_step {p:HPolicy} {k m n:Nat} {b:Int} {y z:HPlace} (h:p.grants[k]? = some ⟨(m:Int),(n:Int),b⟩) (hy:p.places[m]? = some y) (hz:p.places[n]? = some z):N.headT p++N.labsT p.places++N.slotsT p p.slots++N.grasT p (p.grants.take k)++(([103,114,97,110,116]++[32]++y.name++[32]++z.name++[32]++N.decU b)++[10])=N.headT p++N.labsT p.places++N.slotsT p p.slots++N.grasT p (p.grants.take (k+1)):=by
 rw [take_step h,gras_app]
 simp [N.grasT,N.graLn,plAt_of hy,plAt_of hz]
theorem gras_len {p:HPolicy} (hp:p.places.all goodPlc=true):∀ {l:List HGrant},l.all (goodGra p)=true→(N.grasT p l).length≤1000*l.length
 | [],_=>Nat.le_refl _
 | x::r,h=>by
  rw [List.all_cons,Bool.and_eq_true] at h
  obtain ⟨⟨h1,h2⟩,h3,h4⟩:=goodGra_of h.1
  obtain ⟨x0,x1⟩:=there_of h1
  obtain ⟨y0,y1⟩:=there_of h2
  have ih:=gras_len hp h.2
  have n1:=nm_at hp (k:=x.src.toNat) (by omega)
  have n2:=nm_at hp (k:=x.dst.toNat) (by omega)
  have m3:=decU_len (n:=x.budget) (by omega)
  have es:N.graLn p x=[103,114,97,110,116,32]++((p.places.getD x.src.toNat place0).name++([32]++((p.places.getD x.dst.toNat place0).name++([32]++(N.decU x.budget++[10]))))):=rfl
  show (N.graLn p x++N.grasT p r).length≤_
  simp only [es,List.length_append,List.length_cons,List.length_nil]; omega
theorem pr_len3 {p:HPolicy} (h1:p.work≤16) (h2:p.give≤16) (h3:p.places.length≤20) (h4:p.places.all goodPlc=true) (h5:p.slots.length≤40) (h6:p.slots.all (N.there p)=true) (h7:p.grants.length≤10) (h8:p.grants.all (goodGra p)=true) {k:Nat}:(N.headT p++N.labsT p.places++N.slotsT p p.slots++N.grasT p (p.grants.take k)).length≤1000000:=by
 have a:=head_len h1 h2
 have b:=labs_len h4
 have c:=slots_len h4 h6
 have d:=gras_len h4 (all_take h8 k)
 have e:(p.grants.take k).length≤10:=Nat.le_trans (by rw [List.length_take]; exact Nat.min_le_right _ _) h7
 rw [List.length_append,List.length_append,List.length_append]; omega
theorem gra_short (a c:List UInt8) {n:Int} (hn:n≤16) {bs:List UInt8} (h:bs.length≤1000000) (hx:a.length≤40) (hy:c.length≤40):bs.length+(([103,114,97,110,116]++[32]++a++[32]++c++[32]++N.decU n).length+1)≤140737488355328:=by
 have:=decU_len (n:=n) (by omega)
 simp only [List.length_append,List.length_cons,List.length_nil]; omega
theorem pr_join4 (a b c d:List UInt8):Lib.join ([⟨a.toArray⟩,⟨b.toArray⟩,⟨c.toArray⟩,⟨d.toArray⟩].map fun x:ByteArray=>x.data.toList) [32]=a++[32]++b++[32]++c++[32]++d:=by
 rw [List.map_cons,Lib.join_cons]; simp [Lib.joinTail]
abbrev graVs (m n:Nat) (x:Int):Array Value:=#[.int .i64 (m:Int),.int .i64 (n:Int),.int .i64 x]
theorem graS {w:World} {p:HPolicy} {a3 a4:Option Addr} {n2 n3 n4 c2 c3 c4 b2 o2 bp b bx m n:Nat} {x:Int} {u v:Value} {W:World} (hlt:b2<w.heap.size) (hu:w.cell? ⟨b2,o2+m*5,none⟩=some u) (hv:w.cell? ⟨b2,o2+n*5,none⟩=some v)
  (h:XS w (prVs p (some ⟨b2,o2,none⟩) a3 a4 n2 n3 n4 c2 c3 c4) bp b bx (graVs m n x) 82 W) :
  XS w (prVs p (some ⟨b2,o2,none⟩) a3 a4 n2 n3 n4 c2 c3 c4) bp b bx (graVs m n x) 82 W∧W.cell? ⟨bx,0,none⟩=some (.int .i64 (m:Int))∧W.cell? ⟨bx,1,none⟩=some (.int .i64 (n:Int))∧W.cell? ⟨bx,2,none⟩=some (.int .i64 x) ∧
   W.cell? ⟨bp,2,none⟩=some (.slice (some ⟨b2,o2,none⟩) n2 c2)∧W.cell? ⟨b2,o2+m*5,none⟩=some u∧W.cell? ⟨b2,o2+n*5,none⟩=some v:=by
 obtain ⟨bs,hP⟩:=h.1
 exact ⟨h,h.cell 0,h.cell 1,h.cell 2,hP.cell 2,hP.old hlt hu,hP.old hlt hv⟩
abbrev plcVs (x:HPlace):Array Value:=#[.string ⟨x.name.toArray⟩,.int .u8 x.label.level,.int .u32 x.label.set,.int .i64 x.bytes,.int .u64 x.base]
theorem labS {w:World} {vs:Array Value} {bp b bx:Nat} {x:HPlace} {W:World} (h:XS w vs bp b bx (plcVs x) 72 W) :
  XS w vs bp b bx (plcVs x) 72 W∧W.cell? ⟨bx,0,none⟩=some (.string ⟨x.name.toArray⟩)∧W.cell? ⟨bx,1,none⟩=some (.int .u8 x.label.level)∧W.cell? ⟨bx,2,none⟩=some (.int .u32 x.label.set)∧W.cell? ⟨bx,3,none⟩=some (.int .i64 x.bytes)∧W.cell? ⟨bx,4,none⟩=some (.int .u64 x.base) :=
 ⟨h,h.cell 0,h.cell 1,h.cell 2,h.cell 3,h.cell 4⟩
theorem pr_join5 (a b c d e:List UInt8):Lib.join ([⟨a.toArray⟩,⟨b.toArray⟩,⟨c.toArray⟩,⟨d.toArray⟩,⟨e.toArray⟩].map fun x:ByteArray=>x.data.toList) [32]=a++[32]++b++[32]++c++[32]++d++[32]++e:=by
 rw [List.map_cons,Lib.join_cons]; simp [Lib.joinTail]
set_option maxHeartbeats 4000000 in
theorem print_err {w : World} {J : Nat → Nat → Prop} (hJ : ∀ b o, J b o → b < w.heap.size) (hH : Held Tryz.prog J w) {p : HPolicy} (hf : fewC p = true) (hz : N.checkP p ≠ 0)
    {a2 a3 a4 : Option Addr} {n2 n3 n4 c2 c3 c4 : Nat} (hx : Rv w J noRho (.agg (cPolicy.enc p)) (.agg (prVs p a2 a3 a4 n2 n3 n4 c2 c3 c4))) :
    Calls Tryz.prog 30 #[.agg (prVs p a2 a3 a4 n2 n3 n4 c2 c3 c4)] w fun e W => e = .returned (.tuple #[.string ⟨#[]⟩, .int .i64 (N.checkP p)]) ∧ Below w.heap.size w W := by
  have hC : ∀ W, Below w.heap.size w W → Calls Tryz.prog 31 #[.agg (prVs p a2 a3 a4 n2 n3 n4 c2 c3 c4)] W fun e W' => e = .returned (.int .i64 (N.checkP p)) ∧ W.grownBy W' none := fun W hb => check_at hJ hH hb hf hx
  have hz : (N.checkP p != 0) = true := by simpa using hz
  go_enter Tryz.func30, Tryz.ntmps30
  go_wp2_with (go_at_call 31; refine (hC _ ((Below.refl w.heap.size w).alloc (Nat.le_refl _) _)).mono ?_; rintro e w1 ⟨rfl, hg1⟩)
  · go_ret2
    exact ⟨rfl, pr_below hg1⟩
  all_goals (rename_i h _ _ _; rw [hz] at h; cases h)
theorem pr_parts {w:World} {J:Nat→Nat→Prop} {p:HPolicy} {a2 a3 a4:Option Addr} {n2 n3 n4 c2 c3 c4:Nat} (hx:Rv w J noRho (.agg (cPolicy.enc p)) (.agg (prVs p a2 a3 a4 n2 n3 n4 c2 c3 c4))) :
  Rv w J noRho (.slc [.str,.int .u8,.int .u32,.int .i64,.int .u64] (p.places.map cPlace.enc)) (.slice a2 n2 c2)∧Rv w J noRho (.slc [.int .i64] (p.slots.map (rInt .i64).enc)) (.slice a3 n3 c3)∧Rv w J noRho (.slc [.int .i64,.int .i64,.int .i64] (p.grants.map cGrant.enc)) (.slice a4 n4 c4):=by
 obtain ⟨vs,he,hl,hv⟩:=Rv.agg_inv hx
 have he:prVs p a2 a3 a4 n2 n3 n4 c2 c3 c4=vs.toArray:=by injection he
 have he:vs=[.int .i64 p.work,.int .i64 p.give,.slice a2 n2 c2,.slice a3 n3 c3,.slice a4 n4 c4]:=(congrArg Array.toList he).symm
 subst he
 exact ⟨hv 2 (by show (2:Nat)<5; omega),hv 3 (by show (3:Nat)<5; omega),hv 4 (by show (4:Nat)<5; omega)⟩
theorem pr_places {w:World} {J:Nat→Nat→Prop} (hJ:∀ b o,J b o→b<w.heap.size) {p:HPolicy} {a2 a3 a4:Option Addr} {n2 n3 n4 c2 c3 c4:Nat} (hx:Rv w J noRho (.agg (cPolicy.enc p)) (.agg (prVs p a2 a3 a4 n2 n3 n4 c2 c3 c4))) :
  n2=p.places.length∧p.places.length≤c2∧(0<p.places.length→∃ b o,a2=some ⟨b,o,none⟩∧∀ (i:Nat) x,p.places[i]? = some x→PlcAt w J b (o+i*5) x):=by
 obtain ⟨a,c,e,h⟩:=places_at hJ (pr_parts hx).1
 injection e with e1 e2 e3
 subst e1 e3
 exact ⟨e2,h⟩
theorem pr_slots {w:World} {J:Nat→Nat→Prop} (hJ:∀ b o,J b o→b<w.heap.size) {p:HPolicy} {a2 a3 a4:Option Addr} {n2 n3 n4 c2 c3 c4:Nat} (hx:Rv w J noRho (.agg (cPolicy.enc p)) (.agg (prVs p a2 a3 a4 n2 n3 n4 c2 c3 c4))) :
  n3=p.slots.length∧p.slots.length≤c3∧(0<p.slots.length→∃ b o,a3=some ⟨b,o,none⟩∧∀ (i:Nat) x,p.slots[i]? = some x→b<w.heap.size∧w.cell? ⟨b,o+i,none⟩=some (.int .i64 x)):=by
 obtain ⟨a,c,e,h⟩:=slots_at hJ (pr_parts hx).2.1
 injection e with e1 e2 e3
 subst e1 e3
 exact ⟨e2,h⟩
theorem pr_grants {w:World} {J:Nat→Nat→Prop} (hJ:∀ b o,J b o→b<w.heap.size) {p:HPolicy} {a2 a3 a4:Option Addr} {n2 n3 n4 c2 c3 c4:Nat} (hx:Rv w J noRho (.agg (cPolicy.enc p)) (.agg (prVs p a2 a3 a4 n2 n3 n4 c2 c3 c4))) :
  n4=p.grants.length∧p.grants.length≤c4∧(0<p.grants.length→∃ b o,a4=some ⟨b,o,none⟩∧∀ (i:Nat) x,p.grants[i]? = some x→GraAt w b (o+i*3) x):=by
 obtain ⟨a,c,e,h⟩:=grants_at hJ (pr_parts hx).2.2
 injection e with e1 e2 e3
 subst e1 e3
 exact ⟨e2,h⟩
set_option maxHeartbeats 8000000 in
theorem print_ok {w : World} {J : Nat → Nat → Prop} (hJ : ∀ b o, J b o → b < w.heap.size) (hH : Held Tryz.prog J w) {p : HPolicy} (hf : fewC p = true) (hz : N.checkP p = 0) (hg : goodPr p = true)
    {a2 a3 a4 : Option Addr} {n2 n3 n4 c2 c3 c4 : Nat} (hx : Rv w J noRho (.agg (cPolicy.enc p)) (.agg (prVs p a2 a3 a4 n2 n3 n4 c2 c3 c4))) :
    Calls Tryz.prog 30 #[.agg (prVs p a2 a3 a4 n2 n3 n4 c2 c3 c4)] w fun e W => e = .returned (.tuple #[.string ⟨(N.textP p).toArray⟩, .int .i64 0]) ∧ Below w.heap.size w W := by
  obtain ⟨gw, h⟩ := bcond hg
  obtain ⟨gg, h⟩ := bcond h
  obtain ⟨gpl, h⟩ := bcond h
  obtain ⟨gsl, ggr⟩ := bcond h
  obtain ⟨w1, w2⟩ := bcond gw
  obtain ⟨g1, g2⟩ := bcond gg
  have w1 := ile_of w1
  have w2 := ile_of w2
  have g1 := ile_of g1
  have g2 := ile_of g2
  have hC : ∀ W, Below w.heap.size w W → Calls Tryz.prog 31 #[.agg (prVs p a2 a3 a4 n2 n3 n4 c2 c3 c4)] W fun e W' => e = .returned (.int .i64 0) ∧ W.grownBy W' none := fun W hb => by
    have := check_at hJ hH hb hf hx
    rwa [hz] at this
  obtain ⟨gpl1, gpl2⟩ := bcond gpl
  have gpl1 := ble_of gpl1
  obtain ⟨gsl1, gsl2⟩ := bcond gsl
  have gsl1 := ble_of gsl1
  obtain ⟨ggr1, ggr2⟩ := bcond ggr
  have ggr1 := ble_of ggr1
  clear hg gw gg gpl gsl ggr
  obtain ⟨e2, k2, hpl⟩ := pr_places hJ hx
  obtain ⟨e3, k3, hsl⟩ := pr_slots hJ hx
  obtain ⟨e4, k4, hgr⟩ := pr_grants hJ hx
  subst e2 e3 e4
  clear hx
  go_enter Tryz.func30, Tryz.ntmps30
  go_wp2_with (first
    | (go_at_call 31; refine (hC _ ((Below.refl w.heap.size w).alloc (Nat.le_refl _) _)).mono ?_; rintro e W1 ⟨rfl, hg1⟩; have hP1 := pr_start hg1; have k0 := hP1.cell 0)
    | (go_at_call_of 54 (Value.int .i64 p.work); refine (itoa_at hJ hH hP1.bel w1 (Int.le_trans w2 (by decide))).mono ?_; rintro e W2 ⟨rfl, hg2⟩))
  go_wp2_with (first
    | (go_at_call_of 51 W2.heap.size; refine (put_new (hP1.grown hg2) [⟨#[119, 111, 114, 107]⟩, ⟨(N.decU p.work).toArray⟩] 2 _ ([119, 111, 114, 107, 32] ++ N.decU p.work) rfl rfl (by omega) (by omega) (pr_join2 _ _) (pr_short (by omega) (by decide))).mono ?_; rintro e W3 ⟨rfl, hP3, _⟩; have k1 := hP3.cell 1)
    | (go_at_call_of 54 (Value.int .i64 p.give); refine (itoa_at hJ hH hP3.bel g1 (Int.le_trans g2 (by decide))).mono ?_; rintro e W4 ⟨rfl, hg4⟩))
  go_wp2_with (go_at_call_of 51 W4.heap.size; refine (put_new (hP3.grown hg4) [⟨#[103, 105, 118, 101]⟩, ⟨(N.decU p.give).toArray⟩] 2 _ ([103, 105, 118, 101, 32] ++ N.decU p.give) rfl rfl (by omega) (by omega) (pr_join2 _ _) (pr_short2 g2 (hd_len w2))).mono ?_; rintro e W5 ⟨rfl, hP5, _⟩; have k2 := hP5.cell 2)
  have e0 := pr_pre0 p
  rw [e0] at hP5
  clear hP1 hP3 hg1 hg2 hg4 k0 k1 k2 hC e0
  go_loopw [34] (fun i W => ∃ k : Nat, i = .int .i64 (k : Int) ∧ k ≤ p.places.length ∧ PrAt w (prVs p a2 a3 a4 p.places.length p.slots.length p.grants.length c2 c3 c4) w.heap.size W1.heap.size (N.headT p ++ N.labsT (p.places.take k)) W) (fun i _ => p.places.length - (RowKit.intOf i).toNat)
  case atStart => exact ⟨0, rfl, Nat.zero_le _, hP5⟩
  case round =>
    obtain ⟨k, rfl, hk, hP⟩ := hrel
    rcases Nat.lt_or_ge k p.places.length with hlt | hge
    · obtain ⟨b2, o2, rfl, hr⟩ := hpl (by omega)
      obtain ⟨x, hxk⟩ : ∃ x, p.places[k]? = some x := ⟨_, List.getElem?_eq_getElem hlt⟩
      have hr := hr k x hxk
      have hgx := List.all_eq_true.1 gpl2 x (List.mem_of_getElem? hxk)
      have gx := goodPlc_of hgx
      have d0 := hP.old hr.lt hr.c0
      have d1 := hP.old hr.lt hr.c1
      have d2 := hP.old hr.lt hr.c2
      have d3 := hP.old hr.lt hr.c3
      have d4 := hP.old hr.lt hr.c4
      have hl6 := pr_len1 w2 g2 gpl1 gpl2 (k := k)
      have hbb : wr.heap.size ≠ W1.heap.size := Nat.ne_of_gt (isB_lt hP.bld)
      have hP6 := hP.grown (World.grownBy_alloc wr (.cells (plcVs x) 72) none)
      have hX6 := XS.new hP (plcVs x) 72
      go_wp2
      clear d0 d1 d2 d3 d4
      generalize wr.alloc (.cells (plcVs x) 72) = W6 at hP6 hX6 ⊢
      have hPd := hP6.grown (grown_drewX W6)
      have hXd := hX6.grown (grown_drewX W6)
      clear hP6
      go_region_held3 (fun W' => XS w (prVs p (some ⟨b2, o2, none⟩) a3 a4 p.places.length p.slots.length p.grants.length c2 c3 c4) w.heap.size W1.heap.size wr.heap.size (plcVs x) 72 W' ∧ W'.cell? ⟨wr.heap.size, 0, none⟩ = some (.string ⟨x.name.toArray⟩) ∧ W'.cell? ⟨wr.heap.size, 1, none⟩ = some (.int .u8 x.label.level) ∧ W'.cell? ⟨wr.heap.size, 2, none⟩ = some (.int .u32 x.label.set) ∧ W'.cell? ⟨wr.heap.size, 3, none⟩ = some (.int .i64 x.bytes) ∧ W'.cell? ⟨wr.heap.size, 4, none⟩ = some (.int .u64 x.base))
        (first | (exact labS (by assumption)) | (exact labS (XS.grown (by assumption) (World.grownBy_alloc _ _ none))))
        (first
          | (go_at_call 55; refine (text_at hJ hH (XS.bel hXd) gx.2.1).mono ?_; rintro e W7 ⟨rfl, hg7⟩; have hP7 := hPd.grown hg7; have hX7 := hXd.grown hg7)
          | (go_at_call 54; refine (itoa_at hJ hH (XS.bel hX7) gx.2.2.1.1 (Int.le_trans gx.2.2.1.2 (by decide))).mono ?_; rintro e W8 ⟨rfl, hg8⟩; have hP8 := hP7.grown hg8; have hX8 := hX7.grown hg8)
          | (go_at_call 56; refine (fmtu_at hJ hH (XS.bel hX8) gx.2.2.2.1 gx.2.2.2.2).mono ?_; rintro e W9 ⟨rfl, hg9⟩; have hP9 := hP8.grown hg9; have hX9 := hX8.grown hg9)
          | (go_at_call 51; refine (put_new hP9 [⟨#[108, 97, 98, 101, 108]⟩, ⟨x.name.toArray⟩, ⟨(N.text x.label).toArray⟩, ⟨(N.decU x.bytes).toArray⟩, ⟨(N.decU x.base).toArray⟩] 5 _ _ rfl rfl (by omega) (by omega) (pr_join5 _ _ _ _ _) (lab_short x hl6 hgx)).mono ?_; rintro e W10 ⟨rfl, hP10, hk10⟩; have hX10 := XS.put hX9 hP10 hk10 hbb (by decide)))
      clear hPd hXd hP7 hX7 hP8 hX8 hP9 hX9 hX10 hk10 hg7 hg8 hg9
      rw [pr_lab_step p hxk] at hP10
      go_wp2
      exact ⟨⟨k + 1, rfl, by omega, hP10⟩, by simp only [RowKit.intOf]; omega⟩
    · obtain rfl : k = p.places.length := by omega
      rw [List.take_length] at hP
      have kk3 := hP.cell 3
      go_wp2
      rw [pr_pre1 p] at hP
      clear hP5 hge kk3
      go_loopw [56] (fun i W => ∃ k : Nat, i = .int .i64 (k : Int) ∧ k ≤ p.slots.length ∧ PrAt w (prVs p a2 a3 a4 p.places.length p.slots.length p.grants.length c2 c3 c4) w.heap.size W1.heap.size (N.headT p ++ N.labsT p.places ++ N.slotsT p (p.slots.take k)) W) (fun i _ => p.slots.length - (RowKit.intOf i).toNat)
      case atStart => exact ⟨0, rfl, Nat.zero_le _, hP⟩
      clear hP
      case round =>
        obtain ⟨k, rfl, hk, hP⟩ := hrel
        rcases Nat.lt_or_ge k p.slots.length with hlt | hge
        · obtain ⟨b3, o3, rfl, hr⟩ := hsl (by omega)
          obtain ⟨x, hxk⟩ : ∃ x, p.slots[k]? = some x := ⟨_, List.getElem?_eq_getElem hlt⟩
          obtain ⟨hr0, hr⟩ := hr k x hxk
          have hgx := List.all_eq_true.1 gsl2 x (List.mem_of_getElem? hxk)
          obtain ⟨x0, x1⟩ := there_of hgx
          obtain ⟨m, rfl⟩ := Int.eq_ofNat_of_zero_le x0
          have hm : m < p.places.length := by omega
          obtain ⟨b2, o2, rfl, hrp⟩ := hpl (by omega)
          obtain ⟨y, hym⟩ : ∃ y, p.places[m]? = some y := ⟨_, List.getElem?_eq_getElem hm⟩
          have hrp := hrp m y hym
          have d0 := hP.old hr0 hr
          have d1 := hP.old hrp.lt hrp.c0
          have d2 := hP.cell 2
          have hl6 := pr_len2 w2 g2 gpl1 gpl2 gsl1 gsl2 (k := k)
          have hy := nmY gpl2 hym
          go_wp2_with (go_at_call 51; refine (put_new hP [⟨#[115, 108, 111, 116]⟩, ⟨y.name.toArray⟩] 2 _ _ rfl rfl (by omega) (by omega) (pr_join2 _ _) (slot_short y.name hl6 hy)).mono ?_; rintro e W10 ⟨rfl, hP10, hk10⟩)
          rw [pr_slot_step hxk hym] at hP10
          exact ⟨⟨k + 1, rfl, by omega, hP10⟩, by simp only [RowKit.intOf]; omega⟩
        · obtain rfl : k = p.slots.length := by omega
          rw [List.take_length] at hP
          have kk4 := hP.cell 4
          go_wp2
          rw [pr_pre2 p] at hP
          clear hge kk4
          go_loopw [73] (fun i W => ∃ k : Nat, i = .int .i64 (k : Int) ∧ k ≤ p.grants.length ∧ PrAt w (prVs p a2 a3 a4 p.places.length p.slots.length p.grants.length c2 c3 c4) w.heap.size W1.heap.size (N.headT p ++ N.labsT p.places ++ N.slotsT p p.slots ++ N.grasT p (p.grants.take k)) W) (fun i _ => p.grants.length - (RowKit.intOf i).toNat)
          case atStart => exact ⟨0, rfl, Nat.zero_le _, hP⟩
          clear hP
          case round =>
            obtain ⟨k, rfl, hk, hP⟩ := hrel
            rcases Nat.lt_or_ge k p.grants.length with hlt | hge
            · obtain ⟨b4, o4, rfl, hr⟩ := hgr (by omega)
              obtain ⟨x, hxk⟩ : ∃ x, p.grants[k]? = some x := ⟨_, List.getElem?_eq_getElem hlt⟩
              have hr := hr k x hxk
              obtain ⟨⟨hg1, hg2⟩, gb1, gb2⟩ := goodGra_of (List.all_eq_true.1 ggr2 x (List.mem_of_getElem? hxk))
              obtain ⟨xs, xd, xb⟩ := x
              obtain ⟨x0, x1⟩ := there_of hg1
              obtain ⟨y0, y1⟩ := there_of hg2
              obtain ⟨m, rfl⟩ := Int.eq_ofNat_of_zero_le x0
              obtain ⟨n, rfl⟩ := Int.eq_ofNat_of_zero_le y0
              have hm1 : ((m : Nat) : Int) < (p.places.length : Int) := x1
              have hn1 : ((n : Nat) : Int) < (p.places.length : Int) := y1
              have hm : m < p.places.length := by omega
              have hn : n < p.places.length := by omega
              obtain ⟨b2, o2, rfl, hrp⟩ := hpl (by omega)
              obtain ⟨y, hym⟩ : ∃ y, p.places[m]? = some y := ⟨_, List.getElem?_eq_getElem hm⟩
              obtain ⟨z, hzn⟩ : ∃ z, p.places[n]? = some z := ⟨_, List.getElem?_eq_getElem hn⟩
              have hry := hrp m y hym
              have hrz := hrp n z hzn
              have d0 := hP.old hr.lt hr.c0
              have d1 := hP.old hr.lt hr.c1
              have d2 := hP.old hr.lt hr.c2
              have hl6 := pr_len3 w2 g2 gpl1 gpl2 gsl1 gsl2 ggr1 ggr2 (k := k)
              have hy := nmY gpl2 hym
              have hz' := nmY gpl2 hzn
              have hbb : wr.heap.size ≠ W1.heap.size := Nat.ne_of_gt (isB_lt hP.bld)
              have hP6 := hP.grown (World.grownBy_alloc wr (.cells (graVs m n xb) 82) none)
              have hX6 := XS.new hP (graVs m n xb) 82
              go_wp2
              clear d0 d1 d2
              generalize wr.alloc (.cells (graVs m n xb) 82) = W6 at hP6 hX6 ⊢
              have hPd := hP6.grown (grown_drewX W6)
              have hXd := hX6.grown (grown_drewX W6)
              clear hP6
              go_region_held3 (fun W' => XS w (prVs p (some ⟨b2, o2, none⟩) a3 (some ⟨b4, o4, none⟩) p.places.length p.slots.length p.grants.length c2 c3 c4) w.heap.size W1.heap.size wr.heap.size (graVs m n xb) 82 W' ∧ W'.cell? ⟨wr.heap.size, 0, none⟩ = some (.int .i64 (m : Int)) ∧ W'.cell? ⟨wr.heap.size, 1, none⟩ = some (.int .i64 (n : Int)) ∧ W'.cell? ⟨wr.heap.size, 2, none⟩ = some (.int .i64 xb) ∧
                  W'.cell? ⟨w.heap.size, 2, none⟩ = some (.slice (some ⟨b2, o2, none⟩) p.places.length c2) ∧ W'.cell? ⟨b2, o2 + m * 5, none⟩ = some (.string ⟨y.name.toArray⟩) ∧ W'.cell? ⟨b2, o2 + n * 5, none⟩ = some (.string ⟨z.name.toArray⟩))
                (first | (exact graS hry.lt hry.c0 hrz.c0 (by assumption)) | (exact graS hry.lt hry.c0 hrz.c0 (XS.grown (by assumption) (World.grownBy_alloc _ _ none))))
                (first
                  | (go_at_call 54; refine (itoa_at hJ hH (XS.bel hXd) gb1 (Int.le_trans gb2 (by decide))).mono ?_; rintro e W8 ⟨rfl, hg8⟩; have hP8 := hPd.grown hg8; have hX8 := hXd.grown hg8)
                  | (go_at_call 51; refine (put_new hP8 [⟨#[103, 114, 97, 110, 116]⟩, ⟨y.name.toArray⟩, ⟨z.name.toArray⟩, ⟨(N.decU xb).toArray⟩] 4 _ _ rfl rfl (by omega) (by omega) (pr_join4 _ _ _ _) (gra_short y.name z.name gb2 hl6 hy hz')).mono ?_; rintro e W10 ⟨rfl, hP10, hk10⟩; have hX10 := XS.put hX8 hP10 hk10 hbb (by decide)))
              clear hPd hXd hP8 hX8 hX10 hk10 hg8
              rw [pr_gra_step hxk hym hzn] at hP10
              go_wp2
              exact ⟨⟨k + 1, rfl, by omega, hP10⟩, by simp only [RowKit.intOf]; omega⟩
            · obtain rfl : k = p.grants.length := by omega
              rw [List.take_length, pr_pre3 p] at hP
              go_wp2_with (go_at_call 57; refine (bString W1.heap.size W1.heap.size (N.textP p) _ hP.bld (Nat.le_of_lt (isB_lt hP.bld))).mono ?_; rintro e W11 ⟨rfl, hb11⟩)
              go_ret2
              exact ⟨rfl, hP.bel.trans (hb11.mono (Nat.le_of_lt hP.lt))⟩
end Go.Ev

/- Print as a plain function: lemmas,no condition. -/
namespace Go.Ev
open Go Go.Proofs Go.RowKit Go.Shelf
set_option maxRecDepth 100000
def oPrintP (r:Bytes × Int):Out:={ v:=.tup [.str r.1,.int .i64 r.2] }
def goodPrC (p:HPolicy):Bool:=cond (fewC p) (cond (N.checkP p==0) (goodPr p) true) false
def dPrintP:Den:=den (aOne (vAgg cPolicy)) bNil oPrintP (fun p _=>goodPrC p) fun p _=>((cond (N.checkP p==0) (N.textP p) [],N.checkP p),())
theorem ok_pPrint:FnOk Tryz.prog 30 dPrintP:=by
 refine den_of fun p u h=>?_
 obtain ⟨hf,hg⟩:=bcond (show cond (fewC p) (cond (N.checkP p==0) (goodPr p) true) false=true from h)
 intro x y hxy w J locs xs hlen hJ hx _ _ hH
 have hxy:x=(aOne (vAgg cPolicy)).enc p∧y=bNil.enc u:=by simpa using hxy
 obtain ⟨rfl,rfl⟩:=hxy
 have hlen:locs=[]:=List.eq_nil_of_length_eq_zero hlen
 subst hlen
 obtain ⟨x0,rfl,hx0⟩:=hx.one
 have hx0:Rv w J noRho (.agg (cPolicy.enc p)) x0:=hx0
 obtain ⟨a2,a3,a4,n2,m2,m3,n4,m4,rfl⟩:=pol_inv hx0
 refine .inl ⟨enter_ok' Tryz.func30 (by kernel_rfl) (by kernel_rfl) _ _,?_⟩
 have two:∀ (s:Bytes) (n:Int) (w' : World) (J' : Nat→Nat→Prop),Rv w' J' noRho (.tup [.str s,.int .i64 n]) (.tuple #[.string ⟨s.toArray⟩,.int .i64 n]):=fun s n w' J' =>
  .tup [.str s,.int .i64 n] [.string ⟨s.toArray⟩,.int .i64 n] rfl fun i hi=>match i,hi with
   | 0,_=>.dat (.str s)
   | 1,_=>.dat (.int _ _)
 cases hc:(N.checkP p==0) with
 | true =>
  rw [hc] at hg
  have hz:N.checkP p=0:=by simpa using hc
  refine (print_ok hJ hH hf hz hg hx0).mono ?_
  rintro e w' ⟨rfl,hb⟩
  refine ⟨_,rfl,J,?_⟩
  show RetOk w w' J [] [] ⟨.tup [.str (N.textP p),.int .i64 (N.checkP p)],[],[]⟩ _ J
  rw [hz]
  exact ret_plain hJ hb (two _ _ _ _)
 | false =>
  have hz:N.checkP p ≠ 0:=by simpa using hc
  refine (print_err hJ hH hf hz hx0).mono ?_
  rintro e w' ⟨rfl,hb⟩
  refine ⟨_,rfl,J,?_⟩
  show RetOk w w' J [] [] ⟨.tup [.str [],.int .i64 (N.checkP p)],[],[]⟩ _ J
  exact ret_plain hJ hb (two [] _ _ _)
end Go.Ev

/- Policies that come in: lemmas,no condition. -/
namespace Go.Ev
open Go Go.Proofs
set_option maxRecDepth 100000
theorem int_wfY {k:IntKind} {n:Int} (h:wfV (.int k n)=true):k.min≤n∧n≤k.max:=by
 unfold wfV Lit.wf at h
 simp at h
 exact h
theorem place_wf {x:HPlace} (h:wfL (cPlace.enc x)=true):okPl x=true:=by
 have h:cond (wfV (.str x.name)) (cond (wfV (.int .u8 x.label.level)) (cond (wfV (.int .u32 x.label.set)) (wfL [V.int .i64 x.bytes,V.int .u64 x.base]) false) false) false=true:=h
 obtain ⟨_,h⟩:=bcond h
 obtain ⟨h1,h⟩:=bcond h
 obtain ⟨h2,_⟩:=bcond h
 obtain ⟨a1,a2⟩:=int_wfY h1
 obtain ⟨b1,b2⟩:=int_wfY h2
 have e1:IntKind.u8.min=0:=rfl
 have e2:IntKind.u8.max=255:=rfl
 have e3:IntKind.u32.min=0:=rfl
 have e4:IntKind.u32.max=4294967295:=rfl
 unfold okPl
 rw [ile_t (by omega),ile_t (by omega),ile_t (by omega),ilt_t (by omega)]; rfl
theorem places_wfR:∀ l:List HPlace,wfRs (l.map cPlace.enc)=true→l.all okPl=true
 | [],_=>rfl
 | p::r,h=>by
  have h:cond (wfL (cPlace.enc p)) (wfRs (r.map cPlace.enc)) false=true:=h
  obtain ⟨h1,h2⟩:=bcond h
  rw [List.all_cons,place_wf h1,places_wfR r h2]; rfl
theorem policy_wf {p:HPolicy} (h:wfL (cPolicy.enc p)=true):p.places.all okPl=true:=by
 have h:cond (wfV (.int .i64 p.work)) (cond (wfV (.int .i64 p.give)) (cond (cond (Nat.ble (p.places.map cPlace.enc).length 9223372036854775807) (cond (fitsRows cPlace.sh (p.places.map cPlace.enc)) (wfRs (p.places.map cPlace.enc)) false) false) (wfL [V.slc [.int .i64] (p.slots.map (rInt .i64).enc),V.slc [.int .i64,.int .i64,.int .i64] (p.grants.map cGrant.enc)]) false) false) false=true:=h
 obtain ⟨_,h⟩:=bcond h
 obtain ⟨_,h⟩:=bcond h
 obtain ⟨h,_⟩:=bcond h
 obtain ⟨_,h⟩:=bcond h
 obtain ⟨_,h⟩:=bcond h
 exact places_wfR p.places h
end Go.Ev

/- A line of a policy by the document,gone through in place: lemmas,no condition. -/
namespace Go.Ev
open Go Go.Proofs
set_option maxRecDepth 100000
end Go.Ev

/- Whether two policies are the same,by the document: lemmas,no condition. -/
namespace Go.Ev
open Go Go.Proofs
set_option maxRecDepth 100000
-- FOLD
namespace N
def allFrom (f:Nat→Bool):Nat→Nat→Bool
 | 0,_=>true
 | k+1,i=>cond (f i) (allFrom f k (i+1)) false
def eqPl (x y:HPlace):Bool:=x.name==y.name && ((x.label.level==y.label.level && (x.label.set==y.label.set && true)) && (x.bytes==y.bytes && (x.base==y.base && true)))
def eqGr (x y:HGrant):Bool:=x.src==y.src && (x.dst==y.dst && (x.budget==y.budget && true))
def samePl (p q:HPolicy):Bool:=allFrom (fun i=>eqPl (p.places.getD i place0) (q.places.getD i place0)) p.places.length 0
def sameSl (p q:HPolicy):Bool:=allFrom (fun i=>p.slots.getD i 0==q.slots.getD i 0) p.slots.length 0
def sameGr (p q:HPolicy):Bool:=allFrom (fun i=>eqGr (p.grants.getD i grant0) (q.grants.getD i grant0)) p.grants.length 0
def sameP (p q:HPolicy):Bool:=cond (cond (p.work==q.work) (cond (p.give==q.give) (cond (p.places.length==q.places.length) (cond (p.slots.length==q.slots.length) (p.grants.length==q.grants.length) false) false) false) false)
 (cond (samePl p q) (cond (sameSl p q) (sameGr p q) false) false) false
end N
theorem allFrom_t {f:Nat→Bool} (h:∀ i,f i=true):∀ (k i:Nat),N.allFrom f k i=true
 | 0,_=>rfl
 | k+1,i=>by
  show cond (f i) (N.allFrom f k (i+1)) false=true
  rw [h i]
  exact allFrom_t h k (i+1)
theorem sameP_refl (p:HPolicy):N.sameP p p=true:=by
 unfold N.sameP N.samePl N.sameSl N.sameGr
 rw [allFrom_t (fun i=>by unfold N.eqPl; simp),allFrom_t (fun i=>by simp),allFrom_t (fun i=>by unfold N.eqGr; simp)]
 simp
def dSamePol:Den:=den (aCons (vAgg cPolicy) (aOne (vAgg cPolicy))) bNil (oV vBool) (fun a _=>cond (fewP a.1) (fewP a.2) false) fun a _=>(N.sameP a.1 a.2,())
def schRSameP4:SSch:={ fr:=[(2,.ptr 10000 0 0),(3,.ptr 10001 0 0),(49,.int .i64),(50,.int .i64)],tab:=[(10000,.row [] xsPolicy),(10001,.row [] xsPolicy)] }
def gRSameP4:List Leaf→(Ex→St→Option R)→Option R
 | [.i i49,.i i50,.c cx0,.c cx1],K=>cond (i49==(cPolicy.dec cx0).places.length) (cond (i50==0) (cond ((cPolicy.dec cx0).places.length==(cPolicy.dec cx1).places.length) (cond (Nat.ble (cPolicy.dec cx0).places.length 3000) (cond (N.samePl (cPolicy.dec cx0) (cPolicy.dec cx1)) (K (.exit 0) { fr:=[(2,.ptr 10000 0 0 0),(3,.ptr 10001 0 0 0)],tab:=[(10000,.var (etaRow xsPolicy 0 cx0)),(10001,.var (etaRow xsPolicy 0 cx1))] }) (K .ret { fr:=[(4,.bool false)],tab:=[] })) none) none) none) none
 | _,_=>none
def schRSameP10:SSch:={ fr:=[(2,.ptr 10000 0 0),(3,.ptr 10001 0 0),(67,.int .i64),(68,.int .i64)],tab:=[(10000,.row [] xsPolicy),(10001,.row [] xsPolicy)] }
def gRSameP10:List Leaf→(Ex→St→Option R)→Option R
 | [.i i67,.i i68,.c cx0,.c cx1],K=>cond (i67==(cPolicy.dec cx0).slots.length) (cond (i68==0) (cond ((cPolicy.dec cx0).slots.length==(cPolicy.dec cx1).slots.length) (cond (Nat.ble (cPolicy.dec cx0).slots.length 3000) (cond (N.sameSl (cPolicy.dec cx0) (cPolicy.dec cx1)) (K (.exit 2) { fr:=[(2,.ptr 10000 0 0 0),(3,.ptr 10001 0 0 0)],tab:=[(10000,.var (etaRow xsPolicy 0 cx0)),(10001,.var (etaRow xsPolicy 0 cx1))] }) (K .ret { fr:=[(4,.bool false)],tab:=[] })) none) none) none) none
 | _,_=>none
def schRSameP16:SSch:={ fr:=[(2,.ptr 10000 0 0),(3,.ptr 10001 0 0),(85,.int .i64),(86,.int .i64)],tab:=[(10000,.row [] xsPolicy),(10001,.row [] xsPolicy)] }
def gRSameP16:List Leaf→(Ex→St→Option R)→Option R
 | [.i i85,.i i86,.c cx0,.c cx1],K=>cond (i85==(cPolicy.dec cx0).grants.length) (cond (i86==0) (cond ((cPolicy.dec cx0).grants.length==(cPolicy.dec cx1).grants.length) (cond (Nat.ble (cPolicy.dec cx0).grants.length 3000) (cond (N.sameGr (cPolicy.dec cx0) (cPolicy.dec cx1)) (K (.exit 4) { fr:=[],tab:=[] }) (K .ret { fr:=[(4,.bool false)],tab:=[] })) none) none) none) none
 | _,_=>none
noncomputable def eRSameP:Env:=env Tryz.prog [] [(16,loopF schRSameP16 gRSameP16),(10,loopF schRSameP10 gRSameP10),(4,loopF schRSameP4 gRSameP4)] [(4,[(0,[2,3,49,50]),(1,[2,3]),(1000,[4])]),(10,[(0,[2,3,67,68]),(3,[2,3]),(1000,[4])]),(16,[(0,[2,3,85,86]),(5,[]),(1000,[4])])]
theorem q_rSameP_ (p q:HPolicy):evFn eRSameP 12 ((aCons (vAgg cPolicy) (aOne (vAgg cPolicy))).enc (p,q)) ([]) some =(
 let z0:=(List.map (RCod.enc (rInt .i64)) (HPolicy.slots p));let z1:=(List.map (RCod.enc cPlace) (HPolicy.places p));let z2:=(List.map (RCod.enc cGrant) (HPolicy.grants p));let z3:=(some {v:=V.bool false,bx:=[]:DRes});let z4:=(List.map (RCod.enc (rInt .i64)) (HPolicy.slots q));let z5:=(List.map (RCod.enc cPlace) (HPolicy.places q));let z6:=(List.map (RCod.enc cGrant) (HPolicy.grants q));let z7:=(List.map (RCod.dec (rInt .i64)) z0);let z8:=(List.map (RCod.dec cPlace) z1);let z9:=(List.map (RCod.dec cGrant) z2);cond (HPolicy.work p != HPolicy.work q) z3 (cond (HPolicy.give p != HPolicy.give q) z3 (cond ((↑(List.length z1):Int) != (↑(List.length z5):Int)) z3 (cond ((↑(List.length z0):Int) != (↑(List.length z4):Int)) z3 (cond ((↑(List.length z2):Int) != (↑(List.length z6):Int)) z3 (cond ((↑(List.length z1):Int)==(↑(List.length z8):Int)) (cond (List.length z8==List.length (List.map (RCod.dec cPlace) z5)) (cond (Nat.ble (List.length z8) 3000) (cond (N.samePl {work:=HPolicy.work p,give:=HPolicy.give p,places:=List.map (RCod.dec cPlace) z1,slots:=List.map (RCod.dec (rInt .i64)) z0,grants:=List.map (RCod.dec cGrant) z2:HPolicy} {work:=HPolicy.work q,give:=HPolicy.give q,places:=List.map (RCod.dec cPlace) z5,slots:=List.map (RCod.dec (rInt .i64)) z4,grants:=List.map (RCod.dec cGrant) z6:HPolicy}) (cond ((↑(List.length z0):Int)==(↑(List.length z7):Int)) (cond (List.length z7==List.length (List.map (RCod.dec (rInt .i64)) z4)) (cond (Nat.ble (List.length z7) 3000) (cond (N.sameSl {work:=HPolicy.work p,give:=HPolicy.give p,places:=List.map (RCod.dec cPlace) z1,slots:=List.map (RCod.dec (rInt .i64)) z0,grants:=List.map (RCod.dec cGrant) z2:HPolicy} {work:=HPolicy.work q,give:=HPolicy.give q,places:=List.map (RCod.dec cPlace) z5,slots:=List.map (RCod.dec (rInt .i64)) z4,grants:=List.map (RCod.dec cGrant) z6:HPolicy}) (cond ((↑(List.length z2):Int)==(↑(List.length z9):Int)) (cond (List.length z9==List.length (List.map (RCod.dec cGrant) z6)) (cond (Nat.ble (List.length z9) 3000) (cond (N.sameGr {work:=HPolicy.work p,give:=HPolicy.give p,places:=List.map (RCod.dec cPlace) z1,slots:=List.map (RCod.dec (rInt .i64)) z0,grants:=List.map (RCod.dec cGrant) z2:HPolicy} {work:=HPolicy.work q,give:=HPolicy.give q,places:=List.map (RCod.dec cPlace) z5,slots:=List.map (RCod.dec (rInt .i64)) z4,grants:=List.map (RCod.dec cGrant) z6:HPolicy}) (some {v:=V.bool true,bx:=[]:DRes}) z3) (none)) (none)) (none)) z3) (none)) (none)) (none)) z3) (none)) (none)) (none))))))):=by kernel_rfl
theorem q_rSameP (p q:HPolicy):type_of% (by have h:=q_rSameP_ p q; dsimp only at h; exact h):=by
 have h:=q_rSameP_ p q
 dsimp only at h
 exact h
theorem q_rSamePR4_ (i49:Int) (i50:Int) (cx0:List V) (cx1:List V) (K:Ex→St→Option R):evRound eRSameP 12 4 { fr:=[(2,.ptr 10000 0 0 0),(3,.ptr 10001 0 0 0),(49,.int .i64 i49),(50,.int .i64 i50)],tab:=[(10000,.var (etaRow xsPolicy 0 cx0)),(10001,.var (etaRow xsPolicy 0 cx1))] } K =(
 let z2:=(V.toRows (List.getD cx0 2 .undef));let z0:=(List.getD z2 (Int.toNat i50) []);let z3:=(V.toRows (List.getD cx1 2 .undef));let z1:=(List.getD z3 (Int.toNat i50) []);cond (ilt i50 i49) (cond (decide ((0:Int)≤i50∧i50<(↑(List.length z2):Int))) (cond (decide ((0:Int)≤i50∧i50<(↑(List.length z3):Int))) (cond (!(V.toStr (List.getD z0 0 V.undef)==V.toStr (List.getD z1 0 V.undef) && (V.toInt (List.getD z0 1 V.undef)==V.toInt (List.getD z1 1 V.undef) && (V.toInt (List.getD z0 2 V.undef)==V.toInt (List.getD z1 2 V.undef) && true) && (V.toInt (List.getD z0 3 V.undef)==V.toInt (List.getD z1 3 V.undef) && (V.toInt (List.getD z0 4 V.undef)==V.toInt (List.getD z1 4 V.undef) && true))))) (K Ex.ret {fr:=[(4,V.bool false)],tab:=[]:St}) (K Ex.normal {fr:=[(2,V.ptr 10000 0 0 0),(3,V.ptr 10001 0 0 0),(49,V.int .i64 i49),(50,V.int .i64 (IntKind.wrap .i64 (i50+(1:Int))))],tab:=[(10000,Box.var [V.int .i64 (V.toInt (List.getD cx0 0 .undef)),V.int .i64 (V.toInt (List.getD cx0 1 .undef)),V.slc [.str,.int .u8,.int .u32,.int .i64,.int .u64] z2,V.slc [.int .i64] (V.toRows (List.getD cx0 3 .undef)),V.slc [.int .i64,.int .i64,.int .i64] (V.toRows (List.getD cx0 4 .undef))]),(10001,Box.var [V.int .i64 (V.toInt (List.getD cx1 0 .undef)),V.int .i64 (V.toInt (List.getD cx1 1 .undef)),V.slc [.str,.int .u8,.int .u32,.int .i64,.int .u64] z3,V.slc [.int .i64] (V.toRows (List.getD cx1 3 .undef)),V.slc [.int .i64,.int .i64,.int .i64] (V.toRows (List.getD cx1 4 .undef))])]:St})) (none)) (none)) (K (Ex.exit 0) {fr:=[(2,V.ptr 10000 0 0 0),(3,V.ptr 10001 0 0 0)],tab:=[(10000,Box.var [V.int .i64 (V.toInt (List.getD cx0 0 .undef)),V.int .i64 (V.toInt (List.getD cx0 1 .undef)),V.slc [.str,.int .u8,.int .u32,.int .i64,.int .u64] z2,V.slc [.int .i64] (V.toRows (List.getD cx0 3 .undef)),V.slc [.int .i64,.int .i64,.int .i64] (V.toRows (List.getD cx0 4 .undef))]),(10001,Box.var [V.int .i64 (V.toInt (List.getD cx1 0 .undef)),V.int .i64 (V.toInt (List.getD cx1 1 .undef)),V.slc [.str,.int .u8,.int .u32,.int .i64,.int .u64] z3,V.slc [.int .i64] (V.toRows (List.getD cx1 3 .undef)),V.slc [.int .i64,.int .i64,.int .i64] (V.toRows (List.getD cx1 4 .undef))])]:St})):=by kernel_rfl
theorem q_rSamePR4 (i49:Int) (i50:Int) (cx0:List V) (cx1:List V) (K:Ex→St→Option R):type_of% (by have h:=q_rSamePR4_ i49 i50 cx0 cx1 K; dsimp only at h; exact h):=by
 have h:=q_rSamePR4_ i49 i50 cx0 cx1 K
 dsimp only at h
 exact h
theorem q_rSamePR10 (i67:Int) (i68:Int) (cx0:List V) (cx1:List V) (K:Ex→St→Option R):evRound eRSameP 12 10 { fr:=[(2,.ptr 10000 0 0 0),(3,.ptr 10001 0 0 0),(67,.int .i64 i67),(68,.int .i64 i68)],tab:=[(10000,.var (etaRow xsPolicy 0 cx0)),(10001,.var (etaRow xsPolicy 0 cx1))] } K =
 cond (ilt i68 i67) (cond (decide ((0:Int)≤i68∧i68<(↑(List.length (V.toRows (List.getD cx0 3 .undef))):Int))) (cond (decide ((0:Int)≤i68∧i68<(↑(List.length (V.toRows (List.getD cx1 3 .undef))):Int))) (cond (V.toInt (List.getD (List.getD (V.toRows (List.getD cx0 3 .undef)) (Int.toNat i68) []) 0 V.undef) != V.toInt (List.getD (List.getD (V.toRows (List.getD cx1 3 .undef)) (Int.toNat i68) []) 0 V.undef)) (K Ex.ret {fr:=[(4,V.bool false)],tab:=[]:St}) (K Ex.normal {fr:=[(2,V.ptr 10000 0 0 0),(3,V.ptr 10001 0 0 0),(67,V.int .i64 i67),(68,V.int .i64 (IntKind.wrap .i64 (i68+(1:Int))))],tab:=[(10000,Box.var [V.int .i64 (V.toInt (List.getD cx0 0 .undef)),V.int .i64 (V.toInt (List.getD cx0 1 .undef)),V.slc [.str,.int .u8,.int .u32,.int .i64,.int .u64] (V.toRows (List.getD cx0 2 .undef)),V.slc [.int .i64] (V.toRows (List.getD cx0 3 .undef)),V.slc [.int .i64,.int .i64,.int .i64] (V.toRows (List.getD cx0 4 .undef))]),(10001,Box.var [V.int .i64 (V.toInt (List.getD cx1 0 .undef)),V.int .i64 (V.toInt (List.getD cx1 1 .undef)),V.slc [.str,.int .u8,.int .u32,.int .i64,.int .u64] (V.toRows (List.getD cx1 2 .undef)),V.slc [.int .i64] (V.toRows (List.getD cx1 3 .undef)),V.slc [.int .i64,.int .i64,.int .i64] (V.toRows (List.getD cx1 4 .undef))])]:St})) (none)) (none)) (K (Ex.exit 2) {fr:=[(2,V.ptr 10000 0 0 0),(3,V.ptr 10001 0 0 0)],tab:=[(10000,Box.var [V.int .i64 (V.toInt (List.getD cx0 0 .undef)),V.int .i64 (V.toInt (List.getD cx0 1 .undef)),V.slc [.str,.int .u8,.int .u32,.int .i64,.int .u64] (V.toRows (List.getD cx0 2 .undef)),V.slc [.int .i64] (V.toRows (List.getD cx0 3 .undef)),V.slc [.int .i64,.int .i64,.int .i64] (V.toRows (List.getD cx0 4 .undef))]),(10001,Box.var [V.int .i64 (V.toInt (List.getD cx1 0 .undef)),V.int .i64 (V.toInt (List.getD cx1 1 .undef)),V.slc [.str,.int .u8,.int .u32,.int .i64,.int .u64] (V.toRows (List.getD cx1 2 .undef)),V.slc [.int .i64] (V.toRows (List.getD cx1 3 .undef)),V.slc [.int .i64,.int .i64,.int .i64] (V.toRows (List.getD cx1 4 .undef))])]:St}):=by kernel_rfl
theorem q_rSamePR16_ (i85:Int) (i86:Int) (cx0:List V) (cx1:List V) (K:Ex→St→Option R):evRound eRSameP 12 16 { fr:=[(2,.ptr 10000 0 0 0),(3,.ptr 10001 0 0 0),(85,.int .i64 i85),(86,.int .i64 i86)],tab:=[(10000,.var (etaRow xsPolicy 0 cx0)),(10001,.var (etaRow xsPolicy 0 cx1))] } K =(
 let z0:=(V.toRows (List.getD cx0 4 .undef));let z1:=(V.toRows (List.getD cx1 4 .undef));let z2:=(List.getD z0 (Int.toNat i86) []);let z3:=(List.getD z1 (Int.toNat i86) []);cond (ilt i86 i85) (cond (decide ((0:Int)≤i86∧i86<(↑(List.length z0):Int))) (cond (decide ((0:Int)≤i86∧i86<(↑(List.length z1):Int))) (cond (!(V.toInt (List.getD z2 0 V.undef)==V.toInt (List.getD z3 0 V.undef) && (V.toInt (List.getD z2 1 V.undef)==V.toInt (List.getD z3 1 V.undef) && (V.toInt (List.getD z2 2 V.undef)==V.toInt (List.getD z3 2 V.undef) && true)))) (K Ex.ret {fr:=[(4,V.bool false)],tab:=[]:St}) (K Ex.normal {fr:=[(2,V.ptr 10000 0 0 0),(3,V.ptr 10001 0 0 0),(85,V.int .i64 i85),(86,V.int .i64 (IntKind.wrap .i64 (i86+(1:Int))))],tab:=[(10000,Box.var [V.int .i64 (V.toInt (List.getD cx0 0 .undef)),V.int .i64 (V.toInt (List.getD cx0 1 .undef)),V.slc [.str,.int .u8,.int .u32,.int .i64,.int .u64] (V.toRows (List.getD cx0 2 .undef)),V.slc [.int .i64] (V.toRows (List.getD cx0 3 .undef)),V.slc [.int .i64,.int .i64,.int .i64] z0]),(10001,Box.var [V.int .i64 (V.toInt (List.getD cx1 0 .undef)),V.int .i64 (V.toInt (List.getD cx1 1 .undef)),V.slc [.str,.int .u8,.int .u32,.int .i64,.int .u64] (V.toRows (List.getD cx1 2 .undef)),V.slc [.int .i64] (V.toRows (List.getD cx1 3 .undef)),V.slc [.int .i64,.int .i64,.int .i64] z1])]:St})) (none)) (none)) (K (Ex.exit 4) {fr:=[],tab:=[]:St})):=by kernel_rfl
theorem q_rSamePR16 (i85:Int) (i86:Int) (cx0:List V) (cx1:List V) (K:Ex→St→Option R):type_of% (by have h:=q_rSamePR16_ i85 i86 cx0 cx1 K; dsimp only at h; exact h):=by
 have h:=q_rSamePR16_ i85 i86 cx0 cx1 K
 dsimp only at h
 exact h
theorem ok_rSameP_4:RoundsOk eRSameP 12 4:=by
 refine rounds_of rfl fun l K q h=>?_
 unfold gRSameP4 at h
 split at h
 ·rename_i i49 i50 cx0 cx1
  have h1:=(cond_none h).1; replace h:=(cond_none h).2; have h2:=(cond_none h).1; replace h:=(cond_none h).2; have h3:=(cond_none h).1; replace h:=(cond_none h).2; have h4:=(cond_none h).1; replace h:=(cond_none h).2
  have e1:=ieq_of h1
  have e2:=ieq_of h2
  subst e1 e2
  have h3' : (cPolicy.dec cx0).places.length=(cPolicy.dec cx1).places.length:=by simpa using h3
  have h4:=ble_of h4
  have main:=loop_ind (E:=eRSameP) (f:=12) (id:=4) (σ:=Nat) (fun k=>{ fr:=[(2,.ptr 10000 0 0 0),(3,.ptr 10001 0 0 0),(49,.int .i64 (cPolicy.dec cx0).places.length),(50,.int .i64 (k:Int))],tab:=[(10000,.var (etaRow xsPolicy 0 cx0)),(10001,.var (etaRow xsPolicy 0 cx1))] }) (fun k=>k≤(cPolicy.dec cx0).places.length) (fun k=>(cPolicy.dec cx0).places.length-k)
   (fun k K=>cond (N.allFrom (fun i=>N.eqPl ((cPolicy.dec cx0).places.getD i place0) ((cPolicy.dec cx1).places.getD i place0)) ((cPolicy.dec cx0).places.length-k) k) (K (.exit 0) { fr:=[(2,.ptr 10000 0 0 0),(3,.ptr 10001 0 0 0)],tab:=[(10000,.var (etaRow xsPolicy 0 cx0)),(10001,.var (etaRow xsPolicy 0 cx1))] }) (K .ret { fr:=[(4,.bool false)],tab:=[] })) (fun k hk=>?_) 0 (Nat.zero_le _) K q (by assumption)
  ·exact main
  ·have hn:=fun K=>q_rSamePR4 (cPolicy.dec cx0).places.length (k:Int) cx0 cx1 K
   simp only [rows_len2,Int.toNat_natCast] at hn
   by_cases hl:k<(cPolicy.dec cx0).places.length
   ·obtain ⟨j,hj⟩:∃ j,(cPolicy.dec cx0).places.length-k=j+1:=⟨(cPolicy.dec cx0).places.length-k-1,by omega⟩
    have hj' : (cPolicy.dec cx0).places.length-(k+1)=j:=by omega
    have er:N.allFrom (fun i=>N.eqPl ((cPolicy.dec cx0).places.getD i place0) ((cPolicy.dec cx1).places.getD i place0)) (j+1) k=cond ((fun i=>N.eqPl ((cPolicy.dec cx0).places.getD i place0) ((cPolicy.dec cx1).places.getD i place0)) k) (N.allFrom (fun i=>N.eqPl ((cPolicy.dec cx0).places.getD i place0) ((cPolicy.dec cx1).places.getD i place0)) j (k+1)) false:=rfl
    have t1:ilt (k:Int) ((cPolicy.dec cx0).places.length:Int)=true:=ilt_t (by omega)
    have t2:decide ((0:Int)≤(k:Int)∧(k:Int)<((cPolicy.dec cx0).places.length:Int))=true:=decide_eq_true (by omega)
    have t3:decide ((0:Int)≤(k:Int)∧(k:Int)<((cPolicy.dec cx1).places.length:Int))=true:=decide_eq_true (by omega)
    have t4:IntKind.wrap .i64 ((k:Int)+1)=(k:Int)+1:=wr_i64 (by omega) (by omega)
    simp only [t1,t2,t3,t4,cond_true] at hn
    have hX:cPlace.dec ((V.toRows (List.getD cx0 2 V.undef)).getD k [])=(cPolicy.dec cx0).places.getD k place0:=by
     rw [← pol_rows]; exact dec_at cPlace place0 (by rw [rows_len2]; exact hl)
    have hY:cPlace.dec ((V.toRows (List.getD cx1 2 V.undef)).getD k [])=(cPolicy.dec cx1).places.getD k place0:=by
     rw [← pol_rows]; exact dec_at cPlace place0 (by rw [rows_len2]; omega)
    have hq:∀ K,evRound eRSameP 12 4 { fr:=[(2,.ptr 10000 0 0 0),(3,.ptr 10001 0 0 0),(49,.int .i64 (cPolicy.dec cx0).places.length),(50,.int .i64 (k:Int))],tab:=[(10000,.var (etaRow xsPolicy 0 cx0)),(10001,.var (etaRow xsPolicy 0 cx1))] } K=cond (!((fun i=>N.eqPl ((cPolicy.dec cx0).places.getD i place0) ((cPolicy.dec cx1).places.getD i place0)) k)) (K .ret { fr:=[(4,.bool false)],tab:=[] }) (K .normal { fr:=[(2,.ptr 10000 0 0 0),(3,.ptr 10001 0 0 0),(49,.int .i64 (cPolicy.dec cx0).places.length),(50,.int .i64 ((k:Int)+1))],tab:=[(10000,.var (etaRow xsPolicy 0 cx0)),(10001,.var (etaRow xsPolicy 0 cx1))] }):=fun K=>by
     refine (hn K).trans ?_
     show _=cond (!(N.eqPl ((cPolicy.dec cx0).places.getD k place0) ((cPolicy.dec cx1).places.getD k place0))) _ _
     rw [← hX,← hY]; rfl
    cases hc:(fun i=>N.eqPl ((cPolicy.dec cx0).places.getD i place0) ((cPolicy.dec cx1).places.getD i place0)) k with
    | true =>
     refine .inl ⟨k+1,hl,by omega,fun K=>?_,fun K=>?_⟩
     ·rw [hq,hc]; rfl
     ·simp only [hj,hj',er,hc,cond_true]
    | false =>
     refine .inr ⟨.ret,{ fr:=[(4,.bool false)],tab:=[] },by simp,fun K=>?_,fun K=>?_⟩
     ·rw [hq,hc]; rfl
     ·simp only [hj,er,hc,cond_false]
   ·obtain rfl:k=(cPolicy.dec cx0).places.length:=by omega
    refine .inr ⟨.exit 0,{ fr:=[(2,.ptr 10000 0 0 0),(3,.ptr 10001 0 0 0)],tab:=[(10000,.var (etaRow xsPolicy 0 cx0)),(10001,.var (etaRow xsPolicy 0 cx1))] },by simp,fun K=>?_,fun K=>?_⟩
    ·rw [hn,ilt_f (Int.le_refl _)]; rfl
    ·rw [Nat.sub_self]; rfl
 ·cases h
theorem ok_rSameP_10:RoundsOk eRSameP 12 10:=by
 refine rounds_of rfl fun l K q h=>?_
 unfold gRSameP10 at h
 split at h
 ·rename_i i67 i68 cx0 cx1
  have h1:=(cond_none h).1; replace h:=(cond_none h).2; have h2:=(cond_none h).1; replace h:=(cond_none h).2; have h3:=(cond_none h).1; replace h:=(cond_none h).2; have h4:=(cond_none h).1; replace h:=(cond_none h).2
  have e1:=ieq_of h1
  have e2:=ieq_of h2
  subst e1 e2
  have h3' : (cPolicy.dec cx0).slots.length=(cPolicy.dec cx1).slots.length:=by simpa using h3
  have h4:=ble_of h4
  have main:=loop_ind (E:=eRSameP) (f:=12) (id:=10) (σ:=Nat) (fun k=>{ fr:=[(2,.ptr 10000 0 0 0),(3,.ptr 10001 0 0 0),(67,.int .i64 (cPolicy.dec cx0).slots.length),(68,.int .i64 (k:Int))],tab:=[(10000,.var (etaRow xsPolicy 0 cx0)),(10001,.var (etaRow xsPolicy 0 cx1))] }) (fun k=>k≤(cPolicy.dec cx0).slots.length) (fun k=>(cPolicy.dec cx0).slots.length-k)
   (fun k K=>cond (N.allFrom (fun i=>((cPolicy.dec cx0).slots.getD i 0)==((cPolicy.dec cx1).slots.getD i 0)) ((cPolicy.dec cx0).slots.length-k) k) (K (.exit 2) { fr:=[(2,.ptr 10000 0 0 0),(3,.ptr 10001 0 0 0)],tab:=[(10000,.var (etaRow xsPolicy 0 cx0)),(10001,.var (etaRow xsPolicy 0 cx1))] }) (K .ret { fr:=[(4,.bool false)],tab:=[] })) (fun k hk=>?_) 0 (Nat.zero_le _) K q (by assumption)
  ·exact main
  ·have hn:=fun K=>q_rSamePR10 (cPolicy.dec cx0).slots.length (k:Int) cx0 cx1 K
   simp only [rows_len3,Int.toNat_natCast] at hn
   by_cases hl:k<(cPolicy.dec cx0).slots.length
   ·obtain ⟨j,hj⟩:∃ j,(cPolicy.dec cx0).slots.length-k=j+1:=⟨(cPolicy.dec cx0).slots.length-k-1,by omega⟩
    have hj' : (cPolicy.dec cx0).slots.length-(k+1)=j:=by omega
    have er:N.allFrom (fun i=>((cPolicy.dec cx0).slots.getD i 0)==((cPolicy.dec cx1).slots.getD i 0)) (j+1) k=cond ((fun i=>((cPolicy.dec cx0).slots.getD i 0)==((cPolicy.dec cx1).slots.getD i 0)) k) (N.allFrom (fun i=>((cPolicy.dec cx0).slots.getD i 0)==((cPolicy.dec cx1).slots.getD i 0)) j (k+1)) false:=rfl
    have t1:ilt (k:Int) ((cPolicy.dec cx0).slots.length:Int)=true:=ilt_t (by omega)
    have t2:decide ((0:Int)≤(k:Int)∧(k:Int)<((cPolicy.dec cx0).slots.length:Int))=true:=decide_eq_true (by omega)
    have t3:decide ((0:Int)≤(k:Int)∧(k:Int)<((cPolicy.dec cx1).slots.length:Int))=true:=decide_eq_true (by omega)
    have t4:IntKind.wrap .i64 ((k:Int)+1)=(k:Int)+1:=wr_i64 (by omega) (by omega)
    simp only [t1,t2,t3,t4,cond_true] at hn
    have hX:(rInt .i64).dec ((V.toRows (List.getD cx0 3 V.undef)).getD k [])=(cPolicy.dec cx0).slots.getD k 0:=by
     rw [← pol_slots]; exact dec_at (rInt .i64) 0 (by rw [rows_len3]; exact hl)
    have hY:(rInt .i64).dec ((V.toRows (List.getD cx1 3 V.undef)).getD k [])=(cPolicy.dec cx1).slots.getD k 0:=by
     rw [← pol_slots]; exact dec_at (rInt .i64) 0 (by rw [rows_len3]; omega)
    have hq:∀ K,evRound eRSameP 12 10 { fr:=[(2,.ptr 10000 0 0 0),(3,.ptr 10001 0 0 0),(67,.int .i64 (cPolicy.dec cx0).slots.length),(68,.int .i64 (k:Int))],tab:=[(10000,.var (etaRow xsPolicy 0 cx0)),(10001,.var (etaRow xsPolicy 0 cx1))] } K=cond (!((fun i=>((cPolicy.dec cx0).slots.getD i 0)==((cPolicy.dec cx1).slots.getD i 0)) k)) (K .ret { fr:=[(4,.bool false)],tab:=[] }) (K .normal { fr:=[(2,.ptr 10000 0 0 0),(3,.ptr 10001 0 0 0),(67,.int .i64 (cPolicy.dec cx0).slots.length),(68,.int .i64 ((k:Int)+1))],tab:=[(10000,.var (etaRow xsPolicy 0 cx0)),(10001,.var (etaRow xsPolicy 0 cx1))] }):=fun K=>by
     refine (hn K).trans ?_
     show _=cond (!(((cPolicy.dec cx0).slots.getD k 0)==((cPolicy.dec cx1).slots.getD k 0))) _ _
     rw [← hX,← hY]; rfl
    cases hc:(fun i=>((cPolicy.dec cx0).slots.getD i 0)==((cPolicy.dec cx1).slots.getD i 0)) k with
    | true =>
     refine .inl ⟨k+1,hl,by omega,fun K=>?_,fun K=>?_⟩
     ·rw [hq,hc]; rfl
     ·simp only [hj,hj',er,hc,cond_true]
    | false =>
     refine .inr ⟨.ret,{ fr:=[(4,.bool false)],tab:=[] },by simp,fun K=>?_,fun K=>?_⟩
     ·rw [hq,hc]; rfl
     ·simp only [hj,er,hc,cond_false]
   ·obtain rfl:k=(cPolicy.dec cx0).slots.length:=by omega
    refine .inr ⟨.exit 2,{ fr:=[(2,.ptr 10000 0 0 0),(3,.ptr 10001 0 0 0)],tab:=[(10000,.var (etaRow xsPolicy 0 cx0)),(10001,.var (etaRow xsPolicy 0 cx1))] },by simp,fun K=>?_,fun K=>?_⟩
    ·rw [hn,ilt_f (Int.le_refl _)]; rfl
    ·rw [Nat.sub_self]; rfl
 ·cases h
theorem ok_rSameP_16:RoundsOk eRSameP 12 16:=by
 refine rounds_of rfl fun l K q h=>?_
 unfold gRSameP16 at h
 split at h
 ·rename_i i85 i86 cx0 cx1
  have h1:=(cond_none h).1; replace h:=(cond_none h).2; have h2:=(cond_none h).1; replace h:=(cond_none h).2; have h3:=(cond_none h).1; replace h:=(cond_none h).2; have h4:=(cond_none h).1; replace h:=(cond_none h).2
  have e1:=ieq_of h1
  have e2:=ieq_of h2
  subst e1 e2
  have h3' : (cPolicy.dec cx0).grants.length=(cPolicy.dec cx1).grants.length:=by simpa using h3
  have h4:=ble_of h4
  have main:=loop_ind (E:=eRSameP) (f:=12) (id:=16) (σ:=Nat) (fun k=>{ fr:=[(2,.ptr 10000 0 0 0),(3,.ptr 10001 0 0 0),(85,.int .i64 (cPolicy.dec cx0).grants.length),(86,.int .i64 (k:Int))],tab:=[(10000,.var (etaRow xsPolicy 0 cx0)),(10001,.var (etaRow xsPolicy 0 cx1))] }) (fun k=>k≤(cPolicy.dec cx0).grants.length) (fun k=>(cPolicy.dec cx0).grants.length-k)
   (fun k K=>cond (N.allFrom (fun i=>N.eqGr ((cPolicy.dec cx0).grants.getD i grant0) ((cPolicy.dec cx1).grants.getD i grant0)) ((cPolicy.dec cx0).grants.length-k) k) (K (.exit 4) { fr:=[],tab:=[] }) (K .ret { fr:=[(4,.bool false)],tab:=[] })) (fun k hk=>?_) 0 (Nat.zero_le _) K q (by assumption)
  ·exact main
  ·have hn:=fun K=>q_rSamePR16 (cPolicy.dec cx0).grants.length (k:Int) cx0 cx1 K
   simp only [rows_len4,Int.toNat_natCast] at hn
   by_cases hl:k<(cPolicy.dec cx0).grants.length
   ·obtain ⟨j,hj⟩:∃ j,(cPolicy.dec cx0).grants.length-k=j+1:=⟨(cPolicy.dec cx0).grants.length-k-1,by omega⟩
    have hj' : (cPolicy.dec cx0).grants.length-(k+1)=j:=by omega
    have er:N.allFrom (fun i=>N.eqGr ((cPolicy.dec cx0).grants.getD i grant0) ((cPolicy.dec cx1).grants.getD i grant0)) (j+1) k=cond ((fun i=>N.eqGr ((cPolicy.dec cx0).grants.getD i grant0) ((cPolicy.dec cx1).grants.getD i grant0)) k) (N.allFrom (fun i=>N.eqGr ((cPolicy.dec cx0).grants.getD i grant0) ((cPolicy.dec cx1).grants.getD i grant0)) j (k+1)) false:=rfl
    have t1:ilt (k:Int) ((cPolicy.dec cx0).grants.length:Int)=true:=ilt_t (by omega)
    have t2:decide ((0:Int)≤(k:Int)∧(k:Int)<((cPolicy.dec cx0).grants.length:Int))=true:=decide_eq_true (by omega)
    have t3:decide ((0:Int)≤(k:Int)∧(k:Int)<((cPolicy.dec cx1).grants.length:Int))=true:=decide_eq_true (by omega)
    have t4:IntKind.wrap .i64 ((k:Int)+1)=(k:Int)+1:=wr_i64 (by omega) (by omega)
    simp only [t1,t2,t3,t4,cond_true] at hn
    have hX:cGrant.dec ((V.toRows (List.getD cx0 4 V.undef)).getD k [])=(cPolicy.dec cx0).grants.getD k grant0:=by
     rw [← pol_grants]; exact dec_at cGrant grant0 (by rw [rows_len4]; exact hl)
    have hY:cGrant.dec ((V.toRows (List.getD cx1 4 V.undef)).getD k [])=(cPolicy.dec cx1).grants.getD k grant0:=by
     rw [← pol_grants]; exact dec_at cGrant grant0 (by rw [rows_len4]; omega)
    have hq:∀ K,evRound eRSameP 12 16 { fr:=[(2,.ptr 10000 0 0 0),(3,.ptr 10001 0 0 0),(85,.int .i64 (cPolicy.dec cx0).grants.length),(86,.int .i64 (k:Int))],tab:=[(10000,.var (etaRow xsPolicy 0 cx0)),(10001,.var (etaRow xsPolicy 0 cx1))] } K=cond (!((fun i=>N.eqGr ((cPolicy.dec cx0).grants.getD i grant0) ((cPolicy.dec cx1).grants.getD i grant0)) k)) (K .ret { fr:=[(4,.bool false)],tab:=[] }) (K .normal { fr:=[(2,.ptr 10000 0 0 0),(3,.ptr 10001 0 0 0),(85,.int .i64 (cPolicy.dec cx0).grants.length),(86,.int .i64 ((k:Int)+1))],tab:=[(10000,.var (etaRow xsPolicy 0 cx0)),(10001,.var (etaRow xsPolicy 0 cx1))] }):=fun K=>by
     refine (hn K).trans ?_
     show _=cond (!(N.eqGr ((cPolicy.dec cx0).grants.getD k grant0) ((cPolicy.dec cx1).grants.getD k grant0))) _ _
     rw [← hX,← hY]; rfl
    cases hc:(fun i=>N.eqGr ((cPolicy.dec cx0).grants.getD i grant0) ((cPolicy.dec cx1).grants.getD i grant0)) k with
    | true =>
     refine .inl ⟨k+1,hl,by omega,fun K=>?_,fun K=>?_⟩
     ·rw [hq,hc]; rfl
     ·simp only [hj,hj',er,hc,cond_true]
    | false =>
     refine .inr ⟨.ret,{ fr:=[(4,.bool false)],tab:=[] },by simp,fun K=>?_,fun K=>?_⟩
     ·rw [hq,hc]; rfl
     ·simp only [hj,er,hc,cond_false]
   ·obtain rfl:k=(cPolicy.dec cx0).grants.length:=by omega
    refine .inr ⟨.exit 4,{ fr:=[],tab:=[] },by simp,fun K=>?_,fun K=>?_⟩
    ·rw [hn,ilt_f (Int.le_refl _)]; rfl
    ·rw [Nat.sub_self]; rfl
 ·cases h
theorem ok_rSameP:FnOk Tryz.prog 12 dSamePol:=by
 refine den_okF (env_ok (TOk.nil _)) (E:=eRSameP) Tryz.func12 [4,10,16] (by kernel_rfl) (three3 ok_rSameP_4 ok_rSameP_10 ok_rSameP_16) fun a b hp=>?_
 obtain ⟨p,q⟩:=a
 obtain ⟨hp,hq⟩:=bcond (show cond (fewP p) (fewP q) false=true from hp)
 obtain ⟨f1,f2⟩:=bcond hp
 obtain ⟨f2,f3⟩:=bcond f2
 refine (q_rSameP p q).trans ?_
 have ei:∀ a b:Nat,((a:Int) != (b:Int)) = !(a==b):=fun a b=>by
  by_cases h:a=b
  ·subst h; simp
  ·rw [show (a==b)=false by simpa using h]; simp; omega
 have en:∀ x y:Int,(x != y) = !(x==y):=fun _ _=>rfl
 simp only [List.length_map,dec_encsY,fold_pol,f1,f2,f3,beq_self_eq_true,cond_true,ei]
 show _=some (⟨.bool (N.sameP p q),[],[]⟩:DRes)
 unfold N.sameP
 rw [en,en]
 cases p.work==q.work with
 | false=>rfl
 | true =>
 cases p.give==q.give with
 | false=>rfl
 | true =>
 cases p.places.length==q.places.length with
 | false=>rfl
 | true =>
 cases p.slots.length==q.slots.length with
 | false=>rfl
 | true =>
 cases p.grants.length==q.grants.length with
 | false=>rfl
 | true=>cases N.samePl p q<;>cases N.sameSl p q<;>cases N.sameGr p q<;>rfl
end Go.Ev

/- Policies: what the document's reader needs: no lemma of its own. -/
namespace Go.Ev
end Go.Ev

/- Policies of texts,by the document: what the evaluator makes of Parse: lemmas,no condition. -/
namespace Go.Ev
open Go Go.Proofs
set_option maxRecDepth 100000
-- FOLD
end Go.Ev

/- Policies of texts,by the document: the round of Parse,the loop,Parse: lemmas,no condition. -/
namespace Go.Ev
open Go Go.Proofs
set_option maxRecDepth 100000
def PInvO (p:HPolicy) (i:Nat):Prop:=PInv p i∧p.places.all okPl=true
theorem PInvO.up {p:HPolicy} {i:Nat} (h:PInvO p i):PInvO p (i+1):=⟨h.1.up,h.2⟩
theorem PInvO.zero (i:Nat):PInvO pol0 i:=⟨PInv.zero i,rfl⟩
def OkP1 (q:HPolicy × Int):Prop:=q.1.places.all okPl=true
theorem OkP1.cond {c:Bool} {a b:HPolicy × Int} (ha:c=true→OkP1 a) (hb:c=false→OkP1 b):OkP1 (cond c a b):=by
 cases c with
 | true=>exact ha rfl
 | false=>exact hb rfl
end Go.Ev

/- Policies: the statement on texts: lemmas; the function that writes numbers is a premise. -/
namespace Go.Ev
open Go Go.Proofs
set_option maxRecDepth 100000
-- FOLD
end Go.Ev

/- A policy's text,read again,is that policy: lemmas,no condition. -/
namespace Go.Ev
open Go Go.Proofs
set_option maxRecDepth 100000
def NS (w:Bytes):Prop:=∀ c∈w,c.toNat ≠ 32∧c.toNat ≠ 10
theorem NS.append {a b:Bytes} (ha:NS a) (hb:NS b):NS (a++b):=fun c hc=>(List.mem_append.1 hc).elim (ha c) (hb c)
theorem digs_NS {w:Bytes} (h:w.all N.isDigit=true):NS w:=fun c hc=>by
 have:=(N.isDigit_iff c).1 (List.all_eq_true.1 h c hc)
 omega
theorem dig_byte {k:Nat} (h:k<10):N.isDigit (UInt8.ofNat (48+k))=true∧(UInt8.ofNat (48+k)).toNat=48+k:=by
 have:∀ m:Fin 10,N.isDigit (UInt8.ofNat (48+m.val))=true∧(UInt8.ofNat (48+m.val)).toNat=48+m.val:=by decide +kernel
 exact this ⟨k,h⟩
theorem dec_snoc {n:Nat} (h:¬ n<10):Lib.decDigits n=Lib.decDigits (n / 10)++[UInt8.ofNat (48+n % 10)]:=by rw [Lib.decDigits,dif_neg h]
theorem valN_app:∀ (a b:Bytes) (k:Nat),N.valN k (a++b)=N.valN (N.valN k a) b
 | [],_,_=>rfl
 | c::a,b,k=>valN_app a b (k*10+(c.toNat-48))
theorem dec_says (n:Nat):(Lib.decDigits n).all N.isDigit=true∧Lib.decDigits n ≠ []∧N.valN 0 (Lib.decDigits n)=n∧(1≤n→(Lib.decDigits n).getD 0 0 ≠ 48):=by
 induction n using Nat.strongRecOn with
 | _ n ih =>
  by_cases h:n<10
  ·obtain ⟨d1,d2⟩:=dig_byte h
   rw [dec_small h]
   refine ⟨by rw [List.all_cons,d1]; rfl,by simp,?_,fun h1=>?_⟩
   ·show 0*10+((UInt8.ofNat (48+n)).toNat-48)=n
    rw [d2]; omega
   ·show UInt8.ofNat (48+n) ≠ 48
    intro e
    rw [e] at d2
    have:(48:UInt8).toNat=48:=rfl
    omega
  ·obtain ⟨i1,i2,i3,i4⟩:=ih (n / 10) (by omega)
   obtain ⟨d1,d2⟩:=dig_byte (k:=n % 10) (Nat.mod_lt _ (by omega))
   rw [dec_snoc h]
   refine ⟨by rw [List.all_append,i1,List.all_cons,d1]; rfl,by simp,?_,fun _=>?_⟩
   ·rw [valN_app,i3]
    show n / 10*10+((UInt8.ofNat (48+n % 10)).toNat-48)=n
    rw [d2]; omega
   ·cases hd:Lib.decDigits (n / 10) with
    | nil=>exact absurd hd i2
    | cons c r =>
     have:=i4 (by omega)
     rw [hd] at this
     exact this
theorem dec_form (n:Nat):N.pForm (Lib.decDigits n)=true:=by
 obtain ⟨h1,h2,_,h4⟩:=dec_says n
 have h0:Nat.beq (Lib.decDigits n).length 0=false:=by
  cases hd:Lib.decDigits n with
  | nil=>exact absurd hd h2
  | cons c r=>rfl
 unfold N.pForm
 rw [h0,h1]
 by_cases h:n<10
 ·rw [dec_small h]; rfl
 ·have:((((Lib.decDigits n).getD 0 0).toNat:Int)==48)=false:=by
   rw [beq_eq_false_iff_ne]
   intro e
   have e' : ((Lib.decDigits n).getD 0 0).toNat=48:=by omega
   exact h4 (by omega) (UInt8.toNat_inj.1 e')
  rw [this]
  cases ilt 1 ((Lib.decDigits n).length:Int)<;>rfl
theorem num_dec {n:Nat} {most:Int} (h:(n:Int)≤most):N.pNumber (Lib.decDigits n) most=((n:Int),0):=by
 obtain ⟨_,_,h3,_⟩:=dec_says n
 unfold N.pNumber
 rw [dec_form,h3,ilt_f h]; rfl
theorem num_decU {n most:Int} (h0:0≤n) (h:n≤most):N.pNumber (N.decU n) most=(n,0):=by
 have:=num_dec (n:=n.toNat) (most:=most) (by omega)
 rw [show ((n.toNat:Nat):Int)=n by omega] at this
 exact this
theorem small_decU {n:Int} (h0:0≤n) (h:n≤1048576):N.pSmall (N.decU n)=(n,0):=by
 unfold N.pSmall
 rw [num_decU h0 h]
 show (IntKind.wrap .i64 n,(0:Int))=(n,0)
 rw [wr_i64 (by omega) (by omega)]
theorem decU_NS (n:Int):NS (N.decU n)∧N.decU n ≠ []:=⟨digs_NS (dec_says n.toNat).1,(dec_says n.toNat).2.1⟩
theorem nl_word:∀ (w t:Bytes),(∀ c∈w,c.toNat ≠ 10)→N.splitDotNL (w++10::t)=w::N.splitDotNL t
 | [],t,_=>rfl
 | c::w,t,h=>by
  have ih:=nl_word w t fun x hx=>h x (List.mem_cons_of_mem _ hx)
  have hc:(c==10)=false:=by
   rw [beq_eq_false_iff_ne]
   intro e
   exact h c (List.mem_cons_self ..) (by rw [e]; rfl)
  show cond (c==10) ([]::N.splitDotNL (w++10::t)) (match N.splitDotNL (w++10::t) with | []=>[[c]] | v::vs=>(c::v)::vs)=_
  rw [ih,hc]; rfl
theorem wd_word {w:Bytes} (h:∀ c∈w,c.toNat ≠ 32) (h0:w ≠ []) (t:Bytes):N.wordsGo (w++32::t) []=w::N.wordsGo t []:=by
 rw [wordsGo_app w _ [] h,List.nil_append]
 have hb:Nat.beq w.length 0=false:=by
  cases w with
  | nil=>exact absurd rfl h0
  | cons c w=>rfl
 show cond ((32:UInt8).toNat==32) (cond (Nat.beq w.length 0) (N.wordsGo t []) (w::N.wordsGo t [])) (N.wordsGo t (w++[32]))=_
 rw [hb]; rfl
theorem wd_last {w:Bytes} (h:∀ c∈w,c.toNat ≠ 32) (h0:w ≠ []):N.wordsGo w []=[w]:=by
 have:=wordsGo_app w [] [] h
 rw [List.append_nil,List.nil_append] at this
 rw [this]
 cases w with
 | nil=>exact absurd rfl h0
 | cons c w=>rfl
theorem text_NS (a:Label) (h:okL a=true):NS (N.text a)∧N.text a ≠ []:=by
 obtain ⟨h1,h2⟩:=bcond h
 obtain ⟨h3,h4⟩:=bcond h1
 have h3:=ile_of h3
 have h4:=ile_of h4
 obtain ⟨d1,d2,-⟩:=dig_all a.level.toNat (by omega)
 have tl:∀ (f i:Nat),i+f≤32→NS (N.textLoop a.set f i):=fun f=>by
  induction f with
  | zero=>intro i _ c hc; cases hc
  | succ f ih =>
   intro i hi
   have e:N.textLoop a.set (f+1) i=cond (N.refHas ⟨0,a.set⟩ i) (58::(N.digN (i:Int).toNat++N.textLoop a.set f ((i:Int)+1))) (N.textLoop a.set f ((i:Int)+1)):=rfl
   have ih:=ih (i+1) (by omega)
   have ei:((i+1:Nat):Int)=(i:Int)+1:=by omega
   rw [ei] at ih
   rw [e]
   cases N.refHas ⟨0,a.set⟩ i with
   | false=>exact ih
   | true =>
    intro c hc
    rcases List.mem_cons.1 hc with rfl | hc
    ·exact ⟨by decide,by decide⟩
    ·exact (digs_NS (dig_all i (by omega)).1).append ih c hc
 refine ⟨(digs_NS d1).append (tl 32 0 (by omega)),fun e=>?_⟩
 unfold N.text at e
 have:=(List.append_eq_nil_iff.1 e).1
 rw [this] at d2
 simp at d2
end Go.Ev

/- A policy's text,read again,is that policy: lemmas,no condition. -/
namespace Go.Ev
open Go Go.Proofs
set_option maxRecDepth 100000
theorem name_NS {s:Bytes} (h:N.name s=0):NS s∧s ≠ []:=by
 have h:cond (s==[]) 15 (cond (ilt 16 s.length) 5 (cond (!N.plain s) 4 0))=(0:Int):=h
 cases h1:s==[] with
 | true=>rw [h1] at h; cases h
 | false =>
  cases h2:ilt 16 (s.length:Int) with
  | true=>rw [h1,h2] at h; cases h
  | false =>
   cases h3:N.plain s with
   | false=>rw [h1,h2,h3] at h; cases h
   | true =>
    refine ⟨fun c hc=>?_,fun e=>by rw [e] at h1; cases h1⟩
    have hl:N.letterI c.toNat=true:=List.all_eq_true.1 h3 c hc
    refine ⟨fun e=>?_,fun e=>?_⟩
    ·rw [e] at hl; revert hl; decide
    ·rw [e] at hl; revert hl; decide
theorem skip_cons (w:Bytes) (ws:List Bytes):N.skipL (w::ws)=(((w.getD 0 0).toNat:Int)==35):=by
 have u0:(((w::ws).length:Int)==0)=false:=by rw [beq_eq_false_iff_ne]; simp only [List.length_cons]; omega
 unfold N.skipL; rw [u0]; rfl
theorem lines_step {p p' : HPolicy} {t:Bytes} {ws:List Bytes} (hw:N.wordsOf t=ws) (hs:N.skipL ws=false) (hl:N.pLine p ws=(p',0)) (i:Int) (r:List Bytes):N.pLines p i (t::r)=N.pLines p' (i+1) r:=by
 have e:N.pLines p i (t::r)=cond (N.skipL (N.wordsOf t)) (N.pLines p (i+1) r) (cond ((N.pLine p (N.wordsOf t)).2 != 0) (pol0,i+1,(N.pLine p (N.wordsOf t)).2) (N.pLines (N.pLine p (N.wordsOf t)).1 (i+1) r)):=rfl
 rw [e,hw,hs,hl]; rfl
def NL (w:Bytes):Prop:=∀ c∈w,c.toNat ≠ 10
theorem NS.nl {w:Bytes} (h:NS w):NL w:=fun c hc=>(h c hc).2
theorem NL.sp {a b:Bytes} (ha:NL a) (hb:NL b):NL (a++32::b):=fun c hc=>by
 rcases List.mem_append.1 hc with hc | hc
 ·exact ha c hc
 ·rcases List.mem_cons.1 hc with rfl | hc
  ·decide
  ·exact hb c hc
theorem key_NS:NS N.kLabel∧NS N.kGrant∧NS N.kWork∧NS N.kGive∧NS N.kSlot:=by
 have:∀ w:Bytes,(w.all fun c=>!(c.toNat==32) && !(c.toNat==10))=true→NS w:=fun w h c hc=>by
  have:=List.all_eq_true.1 h c hc
  simpa using this
 exact ⟨this _ rfl,this _ rfl,this _ rfl,this _ rfl,this _ rfl⟩
theorem NS.sp {w:Bytes} (h:NS w):∀ c∈w,c.toNat ≠ 32:=fun c hc=>(h c hc).1
theorem line2 {a b t:Bytes} (ha:NS a) (hb:NS b) (a0:a ≠ []) (b0:b ≠ []):N.splitDotNL (a++32::(b++10::t))=(a++32::b)::N.splitDotNL t∧N.wordsOf (a++32::b)=[a,b]:=by
 refine ⟨?_,?_⟩
 ·have:=nl_word (a++32::b) t (NL.sp ha.nl hb.nl)
  rwa [List.append_assoc,List.cons_append] at this
 ·show N.wordsGo (a++32::b) []=_
  rw [wd_word ha.sp a0,wd_last hb.sp b0]
theorem line4 {a b c d t:Bytes} (ha:NS a) (hb:NS b) (hc:NS c) (hd:NS d) (a0:a ≠ []) (b0:b ≠ []) (c0:c ≠ []) (d0:d ≠ []) :
  N.splitDotNL (a++32::(b++32::(c++32::(d++10::t))))=(a++32::(b++32::(c++32::d)))::N.splitDotNL t∧N.wordsOf (a++32::(b++32::(c++32::d)))=[a,b,c,d]:=by
 refine ⟨?_,?_⟩
 ·have:=nl_word (a++32::(b++32::(c++32::d))) t (NL.sp ha.nl (NL.sp hb.nl (NL.sp hc.nl hd.nl)))
  simpa only [List.append_assoc,List.cons_append] using this
 ·show N.wordsGo (a++32::(b++32::(c++32::d))) []=_
  rw [wd_word ha.sp a0,wd_word hb.sp b0,wd_word hc.sp c0,wd_last hd.sp d0]
theorem line5 {a b c d e t:Bytes} (ha:NS a) (hb:NS b) (hc:NS c) (hd:NS d) (he:NS e) (a0:a ≠ []) (b0:b ≠ []) (c0:c ≠ []) (d0:d ≠ []) (e0:e ≠ []) :
  N.splitDotNL (a++32::(b++32::(c++32::(d++32::(e++10::t)))))=(a++32::(b++32::(c++32::(d++32::e))))::N.splitDotNL t∧N.wordsOf (a++32::(b++32::(c++32::(d++32::e))))=[a,b,c,d,e]:=by
 refine ⟨?_,?_⟩
 ·have:=nl_word (a++32::(b++32::(c++32::(d++32::e)))) t (NL.sp ha.nl (NL.sp hb.nl (NL.sp hc.nl (NL.sp hd.nl he.nl))))
  simpa only [List.append_assoc,List.cons_append] using this
 ·show N.wordsGo (a++32::(b++32::(c++32::(d++32::e)))) []=_
  rw [wd_word ha.sp a0,wd_word hb.sp b0,wd_word hc.sp c0,wd_word hd.sp d0,wd_last he.sp e0]
theorem parse_text {a:Label} (h:okL a=true) (hr:N.right a=true):N.parse (N.text a)=(a,0):=by
 obtain ⟨h1,h2⟩:=bcond h
 obtain ⟨h3,h4⟩:=bcond h1
 obtain ⟨h5,h6⟩:=bcond h2
 have h3:=ile_of h3
 have h4:=ile_of h4
 have h5:=ile_of h5
 have h6:=ilt_of h6
 have hr:=ile_of (show ile a.level 15=true from hr)
 have:=text_back (l:=a.level.toNat) (S:=a.set.toNat) (by omega) (by rw [show (2:Nat) ^ 32=4294967296 from rfl]; omega)
 have ea:(⟨((a.level.toNat:Nat):Int),((a.set.toNat:Nat):Int)⟩:Label)=a:=by
  obtain ⟨l,s⟩:=a
  simp only at h3 h5
  rw [Int.toNat_of_nonneg h3,Int.toNat_of_nonneg h5]
 rw [ea,ilt_f (by omega)] at this
 exact this
theorem labs_read (w g:Int) (t:Bytes):∀ (l acc:List HPlace) (i:Int),(∀ x∈l,goodPlc x=true∧N.name x.name=0∧N.right x.label=true)→∃ j,N.pLines ⟨w,g,acc,[],[]⟩ i (N.splitDotNL (N.labsT l++t))=N.pLines ⟨w,g,acc++l,[],[]⟩ j (N.splitDotNL t)
 | [],acc,i,_=>⟨i,by rw [List.append_nil]; rfl⟩
 | x::l,acc,i,h=>by
  obtain ⟨h1,h2,h3⟩:=h x (List.mem_cons_self ..)
  obtain ⟨j,hj⟩:=labs_read w g t l (acc++[x]) (i+1) fun y hy=>h y (List.mem_cons_of_mem _ hy)
  obtain ⟨n1,l1,⟨b1,b2⟩,c1,c2⟩:=goodPlc_of h1
  obtain ⟨s1,s2⟩:=name_NS h2
  obtain ⟨t1,t2⟩:=text_NS x.label l1
  obtain ⟨u1,u2⟩:=decU_NS x.bytes
  obtain ⟨v1,v2⟩:=decU_NS x.base
  obtain ⟨q1,q2⟩:=line5 (t:=N.labsT l++t) key_NS.1 s1 t1 u1 v1 (by decide) s2 t2 u2 v2
  have e:N.labsT (x::l)++t=N.kLabel++32::(x.name++32::(N.text x.label++32::(N.decU x.bytes++32::(N.decU x.base++10::(N.labsT l++t))))):=by
   show (N.labLn x++N.labsT l)++t=_
   simp only [N.labLn,N.kLabel,List.append_assoc,List.cons_append,List.nil_append]
  have hp:N.pLine ⟨w,g,acc,[],[]⟩ [N.kLabel,x.name,N.text x.label,N.decU x.bytes,N.decU x.base]=(⟨w,g,acc++[x],[],[]⟩,0):=by
   refine (pl_lab _ _).trans ?_
   show N.pLabel ⟨w,g,acc,[],[]⟩ [N.kLabel,x.name,N.text x.label,N.decU x.bytes,N.decU x.base]=_
   show cond ((N.parse (N.text x.label)).2 != 0) _ (cond ((N.pSmall (N.decU x.bytes)).2 != 0) _ ((⟨w,g,acc++[(⟨x.name,(N.parse (N.text x.label)).1,(N.pSmall (N.decU x.bytes)).1,(N.pNumber (N.decU x.base) 18446744073709551615).1⟩:HPlace)],[],[]⟩:HPolicy),(N.pNumber (N.decU x.base) 18446744073709551615).2))=_
   rw [parse_text l1 h3,small_decU b1 (by omega),num_decU c1 (by omega)]; rfl
  rw [e,q1,lines_step q2 (by rw [skip_cons]; rfl) hp,hj,List.append_assoc]
  exact ⟨j,rfl⟩
theorem find_at (n:Bytes):∀ (l:List HPlace) (i:Int) (k:Nat),k<l.length→(∀ j,j<k→(l.getD j place0).name ≠ n)→(l.getD k place0).name=n→N.pFindL n l i=i+k
 | [],_,_,h,_,_=>by cases h
 | x::l,i,0,_,_,h=>by
  have h:x.name=n:=h
  show cond (x.name==n) i (N.pFindL n l (i+1))=_
  rw [beq_iff_eq.2 h]
  show i=i+((0:Nat):Int)
  omega
 | x::l,i,k+1,hk,hj,h=>by
  have h0:x.name ≠ n:=hj 0 (by omega)
  show cond (x.name==n) i (N.pFindL n l (i+1))=_
  rw [beq_eq_false_iff_ne.2 h0]
  have:=find_at n l (i+1) k (Nat.lt_of_succ_lt_succ hk) (fun j h=>hj (j+1) (by omega)) h
  show N.pFindL n l (i+1)=_
  rw [this]; omega
theorem nam_ne {p:HPolicy} (h:N.placesE p=0) {i j:Nat} (hij:i<j) (hj:j<p.places.length):(p.places.getD i place0).name ≠ (p.places.getD j place0).name:=by
 intro he
 have hz:=(placeE_zero (plF_zero h hj)).2.2.2.2
 have hm:p.places.getD i place0∈p.places.take j:=by
  rw [List.getD_eq_getElem?_getD,List.getElem?_eq_getElem (by omega)]
  exact List.mem_take_iff_getElem.2 ⟨i,by omega,rfl⟩
 have:=List.any_eq_false.1 hz _ hm
 generalize p.places.getD i place0=x at *
 generalize p.places.getD j place0=y at *
 apply this
 show cond (x.name==y.name) true (cond (x.label.level==y.label.level) (x.label.set==y.label.set) false)=true
 rw [beq_iff_eq.2 he]; rfl
theorem named_at {p q:HPolicy} (hq:q.places=p.places) (h:N.placesE p=0) {k:Int} (hk:N.there p k=true):N.pNamed q (N.plAt p k).name=(k,0):=by
 obtain ⟨k0,k1⟩:=there_of hk
 have hf:=find_at (N.plAt p k).name p.places 0 k.toNat (by omega) (fun j hj=>nam_ne h hj (by omega)) rfl
 have hf:N.pFind q (N.plAt p k).name=k:=by
  show N.pFindL _ q.places 0=k
  rw [hq,hf]; omega
 unfold N.pNamed
 rw [hf,ile_t k0]; rfl
theorem plAt_NS {p:HPolicy} (h:N.placesE p=0) {k:Int} (hk:N.there p k=true):NS (N.plAt p k).name∧(N.plAt p k).name ≠ []:=by
 obtain ⟨k0,k1⟩:=there_of hk
 exact name_NS (placeE_zero (plF_zero h (i:=k.toNat) (by omega))).1
theorem slots_read (p:HPolicy) (hp:N.placesE p=0) (t:Bytes):∀ (l acc:List Int) (i:Int),(∀ k∈l,N.there p k=true)→∃ j,N.pLines ⟨p.work,p.give,p.places,acc,[]⟩ i (N.splitDotNL (N.slotsT p l++t))=N.pLines ⟨p.work,p.give,p.places,acc++l,[]⟩ j (N.splitDotNL t)
 | [],acc,i,_=>⟨i,by rw [List.append_nil]; rfl⟩
 | k::l,acc,i,h=>by
  have hk:=h k (List.mem_cons_self ..)
  obtain ⟨j,hj⟩:=slots_read p hp t l (acc++[k]) (i+1) fun y hy=>h y (List.mem_cons_of_mem _ hy)
  obtain ⟨s1,s2⟩:=plAt_NS hp hk
  obtain ⟨q1,q2⟩:=line2 (t:=N.slotsT p l++t) key_NS.2.2.2.2 s1 (by decide) s2
  have e:N.slotsT p (k::l)++t=N.kSlot++32::((N.plAt p k).name++10::(N.slotsT p l++t)):=by
   show (N.slotLn p k++N.slotsT p l)++t=_
   simp only [N.slotLn,N.kSlot,List.append_assoc,List.cons_append,List.nil_append]
  have hl:N.pLine ⟨p.work,p.give,p.places,acc,[]⟩ [N.kSlot,(N.plAt p k).name]=(⟨p.work,p.give,p.places,acc++[k],[]⟩,0):=by
   refine (pl_slo _ _).trans ?_
   show ((⟨p.work,p.give,p.places,acc++[(N.pNamed ⟨p.work,p.give,p.places,acc,[]⟩ (N.plAt p k).name).1],[]⟩,(N.pNamed ⟨p.work,p.give,p.places,acc,[]⟩ (N.plAt p k).name).2):HPolicy × Int)=_
   rw [named_at (p:=p) (q:=⟨p.work,p.give,p.places,acc,[]⟩) rfl hp hk]
  rw [e,q1,lines_step q2 (by rw [skip_cons]; rfl) hl,hj,List.append_assoc]
  exact ⟨j,rfl⟩
theorem gras_read (p:HPolicy) (hp:N.placesE p=0) (t:Bytes):∀ (l acc:List HGrant) (i:Int),(∀ x∈l,goodGra p x=true)→∃ j,N.pLines ⟨p.work,p.give,p.places,p.slots,acc⟩ i (N.splitDotNL (N.grasT p l++t))=N.pLines ⟨p.work,p.give,p.places,p.slots,acc++l⟩ j (N.splitDotNL t)
 | [],acc,i,_=>⟨i,by rw [List.append_nil]; rfl⟩
 | x::l,acc,i,h=>by
  obtain ⟨⟨g1,g2⟩,b1,b2⟩:=goodGra_of (h x (List.mem_cons_self ..))
  obtain ⟨j,hj⟩:=gras_read p hp t l (acc++[x]) (i+1) fun y hy=>h y (List.mem_cons_of_mem _ hy)
  obtain ⟨s1,s2⟩:=plAt_NS hp g1
  obtain ⟨t1,t2⟩:=plAt_NS hp g2
  obtain ⟨u1,u2⟩:=decU_NS x.budget
  obtain ⟨q1,q2⟩:=line4 (t:=N.grasT p l++t) key_NS.2.1 s1 t1 u1 (by decide) s2 t2 u2
  have e:N.grasT p (x::l)++t=N.kGrant++32::((N.plAt p x.src).name++32::((N.plAt p x.dst).name++32::(N.decU x.budget++10::(N.grasT p l++t)))):=by
   show (N.graLn p x++N.grasT p l)++t=_
   simp only [N.graLn,N.kGrant,List.append_assoc,List.cons_append,List.nil_append]
  have hl:N.pLine ⟨p.work,p.give,p.places,p.slots,acc⟩ [N.kGrant,(N.plAt p x.src).name,(N.plAt p x.dst).name,N.decU x.budget]=(⟨p.work,p.give,p.places,p.slots,acc++[x]⟩,0):=by
   refine (pl_gra _ _).trans ?_
   show N.pGranted ⟨p.work,p.give,p.places,p.slots,acc⟩ [N.kGrant,(N.plAt p x.src).name,(N.plAt p x.dst).name,N.decU x.budget]=_
   show cond ((N.pNamed ⟨p.work,p.give,p.places,p.slots,acc⟩ (N.plAt p x.src).name).2 != 0) _ (cond ((N.pNamed ⟨p.work,p.give,p.places,p.slots,acc⟩ (N.plAt p x.dst).name).2 != 0) _ ((⟨p.work,p.give,p.places,p.slots,acc++[(⟨(N.pNamed ⟨p.work,p.give,p.places,p.slots,acc⟩ (N.plAt p x.src).name).1,(N.pNamed ⟨p.work,p.give,p.places,p.slots,acc⟩ (N.plAt p x.dst).name).1,(N.pSmall (N.decU x.budget)).1⟩:HGrant)]⟩:HPolicy),(N.pSmall (N.decU x.budget)).2))=_
   rw [named_at (p:=p) (q:=⟨p.work,p.give,p.places,p.slots,acc⟩) rfl hp g1,named_at (p:=p) (q:=⟨p.work,p.give,p.places,p.slots,acc⟩) rfl hp g2,small_decU b1 (by omega)]; rfl
  rw [e,q1,lines_step q2 (by rw [skip_cons]; rfl) hl,hj,List.append_assoc]
  exact ⟨j,rfl⟩
theorem pParse_text {p:HPolicy} (hc:N.checkP p=0) (hg:goodPr p=true):N.pParse (N.textP p)=(p,0,0):=by
 obtain ⟨⟨hw,hv⟩,hpl,-,-,-⟩:=checkP_zero hc
 obtain ⟨gw,h⟩:=bcond hg
 obtain ⟨gg,h⟩:=bcond h
 obtain ⟨gpl,h⟩:=bcond h
 obtain ⟨gsl,ggr⟩:=bcond h
 obtain ⟨w1,w2⟩:=bcond gw
 obtain ⟨v1,v2⟩:=bcond gg
 have w1:=ile_of w1
 have w2:=ile_of w2
 have v1:=ile_of v1
 have v2:=ile_of v2
 obtain ⟨_,p2⟩:=bcond gpl
 obtain ⟨_,s2⟩:=bcond gsl
 obtain ⟨_,r2⟩:=bcond ggr
 have hx:∀ x∈p.places,goodPlc x=true∧N.name x.name=0∧N.right x.label=true:=fun x hx=>by
  obtain ⟨k,hk,e⟩:=List.mem_iff_getElem.1 hx
  have hz:=placeE_zero (plF_zero hpl hk)
  have eg:p.places.getD k place0=x:=by rw [List.getD_eq_getElem?_getD,List.getElem?_eq_getElem hk]; exact e
  rw [eg] at hz
  exact ⟨List.all_eq_true.1 p2 x hx,hz.1,hz.2.1⟩
 obtain ⟨a1,a2⟩:=decU_NS p.work
 obtain ⟨b1,b2⟩:=decU_NS p.give
 obtain ⟨q1,q2⟩:=line2 (t:=N.kGive++32::(N.decU p.give++10::(N.labsT p.places++(N.slotsT p p.slots++N.grasT p p.grants)))) key_NS.2.2.1 a1 (by decide) a2
 obtain ⟨q3,q4⟩:=line2 (t:=N.labsT p.places++(N.slotsT p p.slots++N.grasT p p.grants)) key_NS.2.2.2.1 b1 (by decide) b2
 have e:N.textP p=N.kWork++32::(N.decU p.work++10::(N.kGive++32::(N.decU p.give++10::(N.labsT p.places++(N.slotsT p p.slots++N.grasT p p.grants))))):=by
  simp only [N.textP,N.headT,N.kWork,N.kGive,List.append_assoc,List.cons_append,List.nil_append]
 have l1:N.pLine pol0 [N.kWork,N.decU p.work]=(⟨p.work,0,[],[],[]⟩,0):=by
  refine (pl_wor _ _).trans ?_
  show ((⟨(N.pSmall (N.decU p.work)).1,0,[],[],[]⟩,(N.pSmall (N.decU p.work)).2):HPolicy × Int)=_
  rw [small_decU w1 (by omega)]
 have l2:N.pLine ⟨p.work,0,[],[],[]⟩ [N.kGive,N.decU p.give]=(⟨p.work,p.give,[],[],[]⟩,0):=by
  refine (pl_giv _ _).trans ?_
  show ((⟨p.work,(N.pSmall (N.decU p.give)).1,[],[],[]⟩,(N.pSmall (N.decU p.give)).2):HPolicy × Int)=_
  rw [small_decU v1 (by omega)]
 obtain ⟨j1,h1⟩:=labs_read p.work p.give (N.slotsT p p.slots++N.grasT p p.grants) p.places [] (0+1+1) hx
 obtain ⟨j2,h2⟩:=slots_read p hpl (N.grasT p p.grants) p.slots [] j1 fun k hk=>List.all_eq_true.1 s2 k hk
 obtain ⟨j3,h3⟩:=gras_read p hpl [] p.grants [] j2 fun k hk=>List.all_eq_true.1 r2 k hk
 simp only [List.nil_append,List.append_nil] at h1 h2 h3
 have main:N.pLines pol0 0 (N.splitDotNL (N.textP p))=(p,0,0):=by
  rw [e,q1,lines_step q2 (by rw [skip_cons]; rfl) l1,q3,lines_step q4 (by rw [skip_cons]; rfl) l2,h1,h2,h3]
  try rfl
 unfold N.pParse
 rw [main]
 show cond (N.checkP p != 0) (pol0,0,N.checkP p) (p,0,0)=_
 rw [hc]; rfl
end Go.Ev

/- Policies: the statement on what may be,and on texts: lemmas; the function that writes numbers is a premise. -/
namespace Go.Ev
open Go Go.Proofs
set_option maxRecDepth 100000
-- FOLD
def cNL (s:Bytes):Nat:=(s.filter (·==10)).length
theorem cNL_app (a b:Bytes):cNL (a++b)=cNL a+cNL b:=by simp [cNL,List.filter_append]
theorem cNL_no {w:Bytes} (h:NL w):cNL w=0:=by
 unfold cNL
 rw [List.filter_eq_nil_iff.2 fun c hc=>?_]; rfl
 have:=h c hc
 intro e
 have e:c=10:=by simpa using e
 subst e; exact this rfl
theorem split_len:∀ s:Bytes,(N.splitDotNL s).length=cNL s+1
 | []=>rfl
 | c::r=>by
  have ih:=split_len r
  show (cond (c==10) ([]::N.splitDotNL r) (match N.splitDotNL r with | []=>[[c]] | w::ws=>(c::w)::ws)).length=_
  unfold cNL at ih ⊢
  cases h:c==10 with
  | true=>rw [List.filter_cons,h,if_pos rfl,cond_true,List.length_cons,ih,List.length_cons]
  | false =>
   rw [List.filter_cons,h,if_neg (by simp),cond_false]
   cases hs:N.splitDotNL r with
   | nil=>exact absurd hs (splitDot_neNL r)
   | cons w ws=>rw [hs] at ih; exact ih
def okBase (x:HPlace):Bool:=cond (ile 0 x.base) (ilt x.base 18446744073709551616) false
theorem all_atP {α:Type} {q:α→Bool} {l:List α} (h:l.all q=true) (i:Nat) (d:α) (hi:i<l.length):q (l.getD i d)=true:=by
 rw [List.getD_eq_getElem?_getD,List.getElem?_eq_getElem hi]
 exact List.all_eq_true.1 h _ (List.getElem_mem hi)
theorem all_idx {α:Type} {q:α→Bool} {l:List α} {d:α} (h:∀ i,i<l.length→q (l.getD i d)=true):l.all q=true :=
 List.all_eq_true.2 fun x hx=>by
  obtain ⟨k,hk,e⟩:=List.mem_iff_getElem.1 hx
  have:=h k hk
  rw [List.getD_eq_getElem?_getD,List.getElem?_eq_getElem hk] at this
  rw [← e]; exact this
theorem goodPr_of {p:HPolicy} (hw:p.places.all okPl=true) (hb:p.places.all okBase=true) (hl:N.lightP5 p=true) (hc:N.checkP p=0):goodPr p=true:=by
 obtain ⟨⟨w1,w2⟩,hp,hs,hg,-⟩:=checkP_zero hc
 obtain ⟨w1,w3⟩:=bcond w1
 obtain ⟨w2,w4⟩:=bcond w2
 have w1:=ile_of w1
 have w2:=ile_of w2
 have hl:cond (ilt 20 p.places.length) false (cond (ilt 40 p.slots.length) false (cond (ilt 10 p.grants.length) false (p.places.all N.shortP)))=true:=hl
 cases h1:ilt 20 (p.places.length:Int) with
 | true=>rw [h1] at hl; cases hl
 | false =>
  cases h2:ilt 40 (p.slots.length:Int) with
  | true=>rw [h1,h2] at hl; cases hl
  | false =>
   cases h3:ilt 10 (p.grants.length:Int) with
   | true=>rw [h1,h2,h3] at hl; cases hl
   | false =>
    rw [h1,h2,h3] at hl
    have hl:p.places.all N.shortP=true:=hl
    have h1:=ilt_nof h1
    have h2:=ilt_nof h2
    have h3:=ilt_nof h3
    have a1:p.places.all goodPlc=true:=all_idx (d:=place0) fun i hi=>by
     have z:=placeE_zero (plF_zero hp hi)
     have o:=all_atP hw i place0 hi
     have b:=all_atP hb i place0 hi
     have s:=all_atP hl i place0 hi
     generalize p.places.getD i place0=x at z o b s
     have s:Nat.ble x.name.length 40=true:=by
      have:=ilt_nof (show ilt 40 (x.name.length:Int)=false by simpa [N.shortP] using s)
      exact Nat.ble_eq_true_of_le (by omega)
     have o:okL x.label=true:=o
     have z:cond (ile 0 x.bytes) (ile x.bytes 65536) false=true:=z.2.2.1
     have b:cond (ile 0 x.base) (ilt x.base 18446744073709551616) false=true:=b
     show cond (Nat.ble x.name.length 40) (cond (okL x.label) (cond (cond (ile 0 x.bytes) (ile x.bytes 65536) false) (cond (ile 0 x.base) (ilt x.base 18446744073709551616) false) false) false) false=true
     rw [s,o,z,b]; rfl
    have a2:p.slots.all (N.there p)=true:=all_idx (d:=0) fun i hi=>by
     have z:cond (N.there p (p.slots.getD i 0)) (0:Int) 10=0:=slF_zero hs hi
     cases h:N.there p (p.slots.getD i 0) with
     | true=>rfl
     | false=>rw [h] at z; cases z
    have a3:p.grants.all (goodGra p)=true:=all_idx (d:=grant0) fun i hi=>by
     obtain ⟨⟨z1,z2⟩,-,z3,-⟩:=grantE_zero (grF_zero hg hi)
     generalize p.grants.getD i grant0=x at z1 z2 z3
     have z3:cond (ile 0 x.budget) (ile x.budget 16) false=true:=z3
     show cond (cond (N.there p x.src) (N.there p x.dst) false) (cond (ile 0 x.budget) (ile x.budget 16) false) false=true
     rw [z1,z2,z3]; rfl
    unfold goodPr
    rw [ile_t (by omega),w3,ile_t (by omega),w4,Nat.ble_eq_true_of_le (by omega),a1,Nat.ble_eq_true_of_le (by omega),a2,Nat.ble_eq_true_of_le (by omega),a3]; rfl
theorem labs_nl:∀ {l:List HPlace},(∀ x∈l,goodPlc x=true∧N.name x.name=0)→cNL (N.labsT l)=l.length
 | [],_=>rfl
 | x::r,h=>by
  obtain ⟨h1,h2⟩:=h x (by simp)
  have ih:=labs_nl (l:=r) fun y hy=>h y (by simp [hy])
  have e:cNL (N.labLn x)=1:=by
   unfold N.labLn
   simp only [cNL_app,cNL_no (name_NS h2).1.nl,cNL_no (text_NS x.label (goodPlc_of h1).2.1).1.nl,cNL_no (decU_NS x.bytes).1.nl,cNL_no (decU_NS x.base).1.nl]
   try rfl
  show cNL (N.labLn x++N.labsT r)=_
  rw [cNL_app,e,ih,List.length_cons]; omega
theorem slots_nl {p:HPolicy} (hp:N.placesE p=0):∀ {l:List Int},(∀ k∈l,N.there p k=true)→cNL (N.slotsT p l)=l.length
 | [],_=>rfl
 | x::r,h=>by
  have ih:=slots_nl hp (l:=r) fun y hy=>h y (by simp [hy])
  have e:cNL (N.slotLn p x)=1:=by
   unfold N.slotLn
   simp only [cNL_app,cNL_no (plAt_NS hp (h x (by simp))).1.nl]
   try rfl
  show cNL (N.slotLn p x++N.slotsT p r)=_
  rw [cNL_app,e,ih,List.length_cons]; omega
theorem gras_nl {p:HPolicy} (hp:N.placesE p=0):∀ {l:List HGrant},(∀ x∈l,goodGra p x=true)→cNL (N.grasT p l)=l.length
 | [],_=>rfl
 | x::r,h=>by
  have ih:=gras_nl hp (l:=r) fun y hy=>h y (by simp [hy])
  obtain ⟨⟨h1,h2⟩,-⟩:=goodGra_of (h x (by simp))
  have e:cNL (N.graLn p x)=1:=by
   unfold N.graLn
   simp only [cNL_app,cNL_no (plAt_NS hp h1).1.nl,cNL_no (plAt_NS hp h2).1.nl,cNL_no (decU_NS x.budget).1.nl]
   try rfl
  show cNL (N.graLn p x++N.grasT p r)=_
  rw [cNL_app,e,ih,List.length_cons]; omega
theorem text_small {p:HPolicy} (hc:N.checkP p=0) (hg:goodPr p=true):Nat.ble (N.textP p).length 1000000=true∧Nat.ble (N.splitDotNL (N.textP p)).length 3000=true:=by
 obtain ⟨-,hp,-,-,-⟩:=checkP_zero hc
 obtain ⟨gw,h⟩:=bcond hg
 obtain ⟨gg,h⟩:=bcond h
 obtain ⟨gpl,h⟩:=bcond h
 obtain ⟨gsl,ggr⟩:=bcond h
 obtain ⟨_,w2⟩:=bcond gw
 obtain ⟨_,g2⟩:=bcond gg
 obtain ⟨gpl1,gpl2⟩:=bcond gpl
 obtain ⟨gsl1,gsl2⟩:=bcond gsl
 obtain ⟨ggr1,ggr2⟩:=bcond ggr
 have gpl1:=ble_of gpl1
 have gsl1:=ble_of gsl1
 have ggr1:=ble_of ggr1
 constructor
 ·have:=pr_len3 (ile_of w2) (ile_of g2) gpl1 gpl2 gsl1 gsl2 ggr1 ggr2 (k:=p.grants.length)
  rw [List.take_length,pr_pre3] at this
  exact Nat.ble_eq_true_of_le this
 ·have e1:=labs_nl (l:=p.places) fun x hx=>by
   obtain ⟨k,hk,e⟩:=List.mem_iff_getElem.1 hx
   have hz:=placeE_zero (plF_zero hp hk)
   have eg:p.places.getD k place0=x:=by rw [List.getD_eq_getElem?_getD,List.getElem?_eq_getElem hk]; exact e
   rw [eg] at hz
   exact ⟨List.all_eq_true.1 gpl2 x hx,hz.1⟩
  have e2:=slots_nl hp (l:=p.slots) fun k hk=>List.all_eq_true.1 gsl2 k hk
  have e3:=gras_nl hp (l:=p.grants) fun k hk=>List.all_eq_true.1 ggr2 k hk
  have e0:cNL (N.headT p)=2:=by
   unfold N.headT
   simp only [cNL_app,cNL_no (decU_NS p.work).1.nl,cNL_no (decU_NS p.give).1.nl]
   try rfl
  have:=split_len (N.textP p)
  unfold N.textP at this ⊢
  rw [cNL_app,cNL_app,cNL_app,e0,e1,e2,e3] at this
  exact Nat.ble_eq_true_of_le (by omega)
theorem base_wf {x:HPlace} (h:wfL (cPlace.enc x)=true):okBase x=true:=by
 have h:cond (wfV (.str x.name)) (cond (wfV (.int .u8 x.label.level)) (cond (wfV (.int .u32 x.label.set)) (cond (wfV (.int .i64 x.bytes)) (cond (wfV (.int .u64 x.base)) true false) false) false) false) false=true:=h
 obtain ⟨_,h⟩:=bcond h
 obtain ⟨_,h⟩:=bcond h
 obtain ⟨_,h⟩:=bcond h
 obtain ⟨_,h⟩:=bcond h
 obtain ⟨h,_⟩:=bcond h
 obtain ⟨a1,a2⟩:=int_wfY h
 have e1:IntKind.u64.min=0:=rfl
 have e2:IntKind.u64.max=18446744073709551615:=rfl
 unfold okBase
 rw [ile_t (by omega),ilt_t (by omega)]; rfl
theorem bases_wfR:∀ l:List HPlace,wfRs (l.map cPlace.enc)=true→l.all okBase=true
 | [],_=>rfl
 | p::r,h=>by
  have h:cond (wfL (cPlace.enc p)) (wfRs (r.map cPlace.enc)) false=true:=h
  obtain ⟨h1,h2⟩:=bcond h
  rw [List.all_cons,base_wf h1,bases_wfR r h2]; rfl
theorem check_wf {p:HPolicy} (h:wfL (cPolicy.enc p)=true):cond (p.places.all okPl) (p.places.all okBase) false=true:=by
 have h1:cond (wfV (.int .i64 p.work)) (cond (wfV (.int .i64 p.give)) (cond (cond (Nat.ble (p.places.map cPlace.enc).length 9223372036854775807) (cond (fitsRows cPlace.sh (p.places.map cPlace.enc)) (wfRs (p.places.map cPlace.enc)) false) false) (wfL [V.slc [.int .i64] (p.slots.map (rInt .i64).enc),V.slc [.int .i64,.int .i64,.int .i64] (p.grants.map cGrant.enc)]) false) false) false=true:=h
 obtain ⟨_,h1⟩:=bcond h1
 obtain ⟨_,h1⟩:=bcond h1
 obtain ⟨h1,_⟩:=bcond h1
 obtain ⟨_,h1⟩:=bcond h1
 obtain ⟨_,h1⟩:=bcond h1
 rw [policy_wf h,bases_wfR p.places h1]; rfl
def dCheckL:Den:=den (aCons (vAgg cPolicy) (aOne vStr)) bNil (oV vBool) (fun a _=>cond (a.1.places.all okPl) (a.1.places.all okBase) false) fun _ _=>(true,())
noncomputable def eCheckL:Env:=env Tryz.prog [(9,dTrue),(28,dLightP5),(13,dLawTo),(29,dCheckR),(30,dPrintP),(31,dCheckP),(32,dFindR),(33,dFindR),(10,dPParse),(34,dPrintR),(12,dSamePol)] [] []
theorem q_checkL_ (p:HPolicy) (n:Bytes):evFn eCheckL 8 ((aCons (vAgg cPolicy) (aOne vStr)).enc (p,n)) ([]) some =(
 let z8:=(List.map (RCod.enc cPlace) (HPolicy.places p));let z12:=(List.map (RCod.enc (rInt .i64)) (HPolicy.slots p));let z13:=(List.map (RCod.enc cGrant) (HPolicy.grants p));let z0:=(bif N.checkP {work:=HPolicy.work p,give:=HPolicy.give p,places:=List.map (RCod.dec cPlace) z8,slots:=List.map (RCod.dec (rInt .i64)) z12,grants:=List.map (RCod.dec cGrant) z13:HPolicy}==(0:Int) then N.textP {work:=HPolicy.work p,give:=HPolicy.give p,places:=List.map (RCod.dec cPlace) z8,slots:=List.map (RCod.dec (rInt .i64)) z12,grants:=List.map (RCod.dec cGrant) z13:HPolicy} else []);let z17:=(List.map (RCod.dec cPlace) z8);let z1:=(List.map (RCod.enc cPlace) z17);let z18:=(List.map (RCod.dec (rInt .i64)) z12);let z2:=(List.map (RCod.enc (rInt .i64)) z18);let z19:=(List.map (RCod.dec cGrant) z13);let z3:=(List.map (RCod.enc cGrant) z19);let z4:=(N.checkP {work:=HPolicy.work p,give:=HPolicy.give p,places:=List.map (RCod.dec cPlace) z8,slots:=List.map (RCod.dec (rInt .i64)) z12,grants:=List.map (RCod.dec cGrant) z13:HPolicy} != N.checkP {work:=HPolicy.work p,give:=HPolicy.give p,places:=List.map (RCod.dec cPlace) z1,slots:=List.map (RCod.dec (rInt .i64)) z2,grants:=List.map (RCod.dec cGrant) z3:HPolicy});let z5:=(bif Nat.ble (List.length z17) 3000 then bif Nat.ble (List.length z18) 3000 then Nat.ble (List.length z19) 3000 else false else false);let z6:=(Prod.fst (N.pParse z0));let z7:=(some {v:=V.bool false,bx:=[]:DRes});let z9:=(List.map (RCod.dec (rInt .i64)) (List.map (RCod.enc (rInt .i64)) (HPolicy.slots z6)));let z10:=(List.map (RCod.dec cPlace) (List.map (RCod.enc cPlace) (HPolicy.places z6)));let z11:=(List.map (RCod.dec cGrant) (List.map (RCod.enc cGrant) (HPolicy.grants z6)));let z14:=(List.map (RCod.dec cPlace) z1);let z15:=(List.length (List.map (RCod.dec (rInt .i64)) z2));let z16:=(List.length (List.map (RCod.dec cGrant) z3));cond (!N.lightP5 {work:=HPolicy.work p,give:=HPolicy.give p,places:=List.map (RCod.dec cPlace) z8,slots:=List.map (RCod.dec (rInt .i64)) z12,grants:=List.map (RCod.dec cGrant) z13:HPolicy}) (some {v:=V.bool true,bx:=[]:DRes}) (cond (ilt (40:Int) (↑(List.length n):Int)) (some {v:=V.bool true,bx:=[]:DRes}) (cond z5 (cond (bif bif bif Nat.ble (List.length z14) 3000 then bif Nat.ble z15 3000 then Nat.ble z16 3000 else false else false then List.all z14 fun x=>Nat.ble (List.length (HPlace.name x)) 1000000 else false then List.all z14 fun x=>bif bif ile (0:Int) (Label.level (HPlace.label x)) then ile (Label.level (HPlace.label x)) (255:Int) else false then bif ile (0:Int) (Label.set (HPlace.label x)) then ilt (Label.set (HPlace.label x)) (4294967296:Int) else false else false else false) (cond (goodPrC {work:=HPolicy.work p,give:=HPolicy.give p,places:=List.map (RCod.dec cPlace) z8,slots:=List.map (RCod.dec (rInt .i64)) z12,grants:=List.map (RCod.dec cGrant) z13:HPolicy}) (cond (bif bif Nat.ble (List.length z17) 3000 then bif Nat.ble (List.length z18) 3000 then Nat.ble (List.length z19) 3000 else false else false then List.all z17 fun x=>Nat.ble (List.length (HPlace.name x)) 1000000 else false) (cond z4 z7 (cond z4 z7 (cond z5 (cond (bif Nat.ble (List.length z14) 3000 then bif Nat.ble z15 3000 then Nat.ble z16 3000 else false else false) (cond (N.pFind {work:=HPolicy.work p,give:=HPolicy.give p,places:=List.map (RCod.dec cPlace) z8,slots:=List.map (RCod.dec (rInt .i64)) z12,grants:=List.map (RCod.dec cGrant) z13:HPolicy} n != N.pFind {work:=HPolicy.work p,give:=HPolicy.give p,places:=List.map (RCod.dec cPlace) z1,slots:=List.map (RCod.dec (rInt .i64)) z2,grants:=List.map (RCod.dec cGrant) z3:HPolicy} n) z7 (cond (N.checkP {work:=HPolicy.work p,give:=HPolicy.give p,places:=List.map (RCod.dec cPlace) z1,slots:=List.map (RCod.dec (rInt .i64)) z2,grants:=List.map (RCod.dec cGrant) z3:HPolicy} != (0:Int)) (some {v:=V.bool (z0==[]),bx:=[]:DRes}) (cond (bif Nat.ble (List.length z0) 1000000 then Nat.ble (List.length (N.splitDotNL z0)) 3000 else false) (cond (goodPr {work:=HPolicy.work p,give:=HPolicy.give p,places:=List.map (RCod.dec cPlace) z1,slots:=List.map (RCod.dec (rInt .i64)) z2,grants:=List.map (RCod.dec cGrant) z3:HPolicy}) (cond (z0==N.textP {work:=HPolicy.work p,give:=HPolicy.give p,places:=List.map (RCod.dec cPlace) z1,slots:=List.map (RCod.dec (rInt .i64)) z2,grants:=List.map (RCod.dec cGrant) z3:HPolicy}) (cond (Prod.fst (Prod.snd (N.pParse z0))==(0:Int)) (cond (Prod.snd (Prod.snd (N.pParse z0))==(0:Int)) (cond (bif Nat.ble (List.length z10) 3000 then bif Nat.ble (List.length z9) 3000 then Nat.ble (List.length z11) 3000 else false else false) (cond (bif bif Nat.ble (List.length (List.map (RCod.dec cPlace) (List.map (RCod.enc cPlace) z10))) 3000 then bif Nat.ble (List.length (List.map (RCod.dec (rInt .i64)) (List.map (RCod.enc (rInt .i64)) z9))) 3000 then Nat.ble (List.length (List.map (RCod.dec cGrant) (List.map (RCod.enc cGrant) z11))) 3000 else false else false then bif Nat.ble (List.length z14) 3000 then bif Nat.ble z15 3000 then Nat.ble z16 3000 else false else false else false) (some {v:=V.bool (N.sameP {work:=HPolicy.work z6,give:=HPolicy.give z6,places:=List.map (RCod.dec cPlace) (List.map (RCod.enc cPlace) z10),slots:=List.map (RCod.dec (rInt .i64)) (List.map (RCod.enc (rInt .i64)) z9),grants:=List.map (RCod.dec cGrant) (List.map (RCod.enc cGrant) z11):HPolicy} {work:=HPolicy.work p,give:=HPolicy.give p,places:=List.map (RCod.dec cPlace) z1,slots:=List.map (RCod.dec (rInt .i64)) z2,grants:=List.map (RCod.dec cGrant) z3:HPolicy}),bx:=[]:DRes}) (none)) (none)) z7) z7) z7) (none)) (none)))) (none)) (none)))) (none)) (none)) (none)) (none)))):=by kernel_rfl
theorem q_checkL (p:HPolicy) (n:Bytes):type_of% (by have h:=q_checkL_ p n; dsimp only at h; exact h):=by
 have h:=q_checkL_ p n
 dsimp only at h
 exact h
theorem ok_checkL (hN:FnOk Tryz.prog 127 dOutNum):FnOk Tryz.prog 8 dCheckL:=by
 refine den_okF (env_ok ((((((((((((TOk.nil _).cons ok_rSameP).cons ok_rPrint).cons ok_pParse).cons ok_rFindP).cons ok_pFind).cons ok_pCheck).cons ok_pPrint).cons ok_rCheckP).cons ok_lawTo).cons ok_lightP).cons (ok_aw5 hN))) (E:=eCheckL) Tryz.func8 [] (by kernel_rfl) none0 fun a u hp=>?_
 obtain ⟨p,n⟩:=a
 obtain ⟨hok,hbs⟩:=bcond (show cond (p.places.all okPl) (p.places.all okBase) false=true from hp)
 refine (q_checkL p n).trans ?_
 show _=some (⟨.bool true,[],[]⟩:DRes)
 have hok' : (List.all p.places fun x=>bif bif ile (0:Int) (Label.level (HPlace.label x)) then ile (Label.level (HPlace.label x)) (255:Int) else false then bif ile (0:Int) (Label.set (HPlace.label x)) then ilt (Label.set (HPlace.label x)) (4294967296:Int) else false else false)=true:=hok
 simp only [dec_encsY,fold_pol,hok',bne_self_eq_false,cond_false]
 cases hl:N.lightP5 p with
 | false=>rfl
 | true =>
  cases hn:ilt 40 (n.length:Int) with
  | true=>rfl
  | false =>
   have hfc:=light_few hl
   obtain ⟨hf,hnm⟩:=bcond hfc
   obtain ⟨f1,f2⟩:=bcond hf
   obtain ⟨f2,f3⟩:=bcond f2
   have hnm' : (List.all p.places fun x=>Nat.ble (List.length (HPlace.name x)) 1000000)=true:=hnm
   have hgood:N.checkP p=0→goodPr p=true:=goodPr_of hok hbs hl
   have hC:goodPrC p=true:=by
    show cond (fewC p) (cond (N.checkP p==0) (goodPr p) true) false=true
    rw [hfc]
    cases hc:N.checkP p==0 with
    | false=>rfl
    | true=>exact hgood (by simpa using hc)
   simp only [f1,f2,f3,hnm',hC,cond_true,cond_false,Bool.not_true]
   cases hc:N.checkP p==0 with
   | false =>
    simp only [cond_true,cond_false,bne,hc,Bool.not_false]
    try rfl
   | true =>
    have hz:N.checkP p=0:=by simpa using hc
    have hg:=hgood hz
    obtain ⟨t1,t2⟩:=text_small hz hg
    have hq:=pParse_text hz hg
    simp only [cond_true,cond_false,bne,hz,hg,t1,t2,hq,f1,f2,f3,Bool.not_true,beq_self_eq_true,sameP_refl]
end Go.Ev

/- Listed variables of the library hold at the start: lemmas,no condition. -/
namespace Go.Ev
open Go Go.RowKit Go.ChangeShapes
def glTabs (P:Program) (ns:List String):Bool:=(List.range P.globals.size).all fun i=>match P.globals[i]? with | some g=>(tabNamed g.name).isEmpty || (ns.any fun n=>g.name==n && (P.globalNamed n==some i)) | none=>true
def VarOk (P:Program) (W:World) (n:String):Prop:=∃ cs:Array Value,W.var? P n=some cs∧cs.size=(tabNamed n).length∧∀ (o:Nat) (x:GQ),(tabNamed n)[o]? = some x→∃ y:Value,cs[o]? = some y∧GQ.ok x y
theorem held_vars {P:Program} {ns:List String} {W:World} (h1:glTabs P ns=true) (h2:∀ n∈ns,VarOk P W n):Held P (oldI W) W:=by
 intro b o x hx
 unfold GLv at hx
 split at hx
 ·rename_i g hg
  have hb:b<P.globals.size:=(Array.getElem?_eq_some_iff.1 hg).1
  have h:=List.all_eq_true.1 h1 b (List.mem_range.2 hb)
  simp only [hg,Bool.or_eq_true,List.any_eq_true,Bool.and_eq_true] at h
  rcases h with h | ⟨n,hn,h,h'⟩
  ·rw [List.isEmpty_iff.1 h] at hx
   simp at hx
  ·have e1:g.name=n:=by simpa using h
   have e2:P.globalNamed n=some b:=by simpa using h'
   obtain ⟨cs,v1,v2,v3⟩:=h2 n hn
   have en:GLn P b=cs.size:=by
    unfold GLn
    rw [hg]
    show (tabNamed g.name).length=_
    rw [e1,v2]
   rw [e1] at hx
   obtain ⟨y,hy,hxy⟩:=v3 o x hx
   unfold World.var? at v1
   rw [e2] at v1
   have v1:(match W.heap[b]? with | some (.cells cs _ _)=>some cs | _=>none)=some cs:=v1
   cases hh:W.heap[b]? with
   | none=>rw [hh] at v1; cases v1
   | some ob =>
    have hlt:b<W.heap.size:=(Array.getElem?_eq_some_iff.1 hh).1
    cases ob with
    | cells c e f =>
     rw [hh] at v1
     obtain rfl:c=cs:=Option.some.inj v1
     refine ⟨hlt,⟨y,hxy,?_⟩,?_⟩
     ·rw [cell_eq,hh]; exact hy
     ·rw [cell_eq,hh,en]
      show c[c.size]? = none
      simp
    | _=>rw [hh] at v1; cases v1
 ·cases hx
theorem varOk_tab {P:Program} {W:World} {n:String} {k:IntKind} {zs:List Int} (h:tabNamed n=zs.map fun z=>GQ.val (.int k z)) (hT:Lib.TabIs P W n k zs):VarOk P W n:=by
 refine ⟨_,hT,?_,fun o x hx=>?_⟩
 ·rw [h]; simp
 ·rw [h,List.getElem?_map] at hx
  obtain ⟨z,hz,rfl⟩:=Option.map_eq_some_iff.1 hx
  exact ⟨.int k z,by simp [hz],rfl⟩
def ifaceVar (P:Program) (n:String):Bool:=match P.globalNamed n with
 | some g=>match P.globals[g]? with
  | some gl=>match P.underlying gl.type with
   | some (.interface _)=>true
   | _=>false
  | none=>false
 | none=>false
theorem varOk_err {P:Program} {W:World} {n nm:String} {d:DataW Unit} {r:List (String × DataW Unit)} (h:laidMet P ((n,.iface nm d)::r) W) (hf:ifaceVar P n=true) (hT:tabNamed n=[.ifc]):VarOk P W n:=by
 obtain ⟨ps,⟨g0,t0,cs0,f0,p0,q0,hg0,ht0,hv0,hd0,_,e0⟩,_,hrows⟩:=h
 obtain ⟨l0⟩:=cs0
 unfold ifaceVar at hf
 split at hf
 ·rename_i g hg
  obtain rfl:=Option.some.inj (hg.symm.trans hg0)
  split at hf
  ·rename_i gl hgl
   split at hf
   ·rename_i ms hi
    rw [hgl] at ht0
    obtain rfl:gl.type=t0:=Option.some.inj ht0
    obtain ⟨f1,u,v,rfl,hn,h1⟩:=iface_of_trod hi hd0
    refine ⟨_,hv0,by rw [hT]; rfl,fun o x hx=>?_⟩
    rw [hT] at hx
    match o,hx with
    | 0,hx =>
     obtain rfl:=Option.some.inj hx
     exact ⟨_,rfl,.inr ⟨u,v,rfl⟩⟩
    | o+1,hx=>cases hx
   ·cases hf
  ·cases hf
 ·cases hf
def tabFits (P:Program) (n:String) (k:IntKind):Bool:=match P.globalNamed n with
 | some g=>match P.globals[g]? with
  | some gl=>match P.underlying gl.type with
   | some (.array m e)=>match P.underlying e with
    | some (.int k')=>decide (k' = k) && (P.cellsOf e==1 && P.cellsOf gl.type==m)
    | _=>false
   | _=>false
  | none=>false
 | none=>false
theorem tabIs_laid {P:Program} {n:String} {k:IntKind} {zs:List Int} {rest:List (String × DataW Unit)} {W:World} (h:tabFits P n k=true) (hL:laidMet P ((n,Lib.tabData k zs)::rest) W):Lib.TabIs P W n k zs:=by
 unfold tabFits at h
 split at h
 ·rename_i g hg
  split at h
  ·rename_i gl hgl
   split at h
   ·rename_i m e ht
    split at h
    ·rename_i k' he
     simp only [Bool.and_eq_true,decide_eq_true_eq,beq_iff_eq] at h
     obtain ⟨rfl,h1,h2⟩:=h
     exact Lib.tabIs_of_head hg (by rw [hgl]; rfl) ht he h1 h2 hL
    ·cases h
   ·cases h
  ·cases h
 ·cases h
end Go.Ev

/- What the policies' statements list holds at the start: lemmas,no condition. -/
namespace Go.Proofs.YtcfmdajabkjafaaGreatDoor
open Go.ChangeShapes Go.WideShapes Go.ChangeAt Go.RowKit Go.Ev
theorem laidTab5:(Rows.laid_internal_strconv_uint64pow10:DataW Unit)=Lib.tabData .u64 Lib.pow10Tab:=by kernel_rfl
theorem held5 {W:World} (hL:laidMetH Tryz.prog Rows.policyFlowsRow.laid W):Held Tryz.prog (oldI W) W:=by
 rw [MakeChecks.laidMetH_plain _ _ _ (by kernel_rfl)] at hL
 have h3:=laidMet.tail (laidMet.tail hL)
 have h5:=laidMet.tail (laidMet.tail h3)
 have h6:=laidMet.tail h5
 have h3 : laidMet Tryz.prog (("internal/strconv.uint64pow10", Rows.laid_internal_strconv_uint64pow10) :: _) W := h3
 rw [laidTab5] at h3
 refine held_vars (ns := ["internal/strconv.uint64pow10", "strconv.ErrRange", "strconv.ErrSyntax"]) (by kernel_rfl) fun n hn => ?_
 rcases List.mem_cons.1 hn with rfl | hn
 ·exact varOk_tab (zs:=Lib.pow10Tab) (by kernel_rfl) (tabIs_laid (by kernel_rfl) h3)
 rcases List.mem_cons.1 hn with rfl | hn
 ·exact varOk_err h5 (by kernel_rfl) (by kernel_rfl)
 rcases List.mem_cons.1 hn with rfl | hn
 ·exact varOk_err h6 (by kernel_rfl) (by kernel_rfl)
 ·cases hn
end Go.Proofs.YtcfmdajabkjafaaGreatDoor

/- The function that writes a number's bytes: its walk. -/
namespace Go.Ev
open Go Go.Proofs Go.RowKit Go.Shelf
theorem clamp_eq {bytes:Int}:min (max bytes 0) 8=(N.clamp bytes:Int)∧N.clamp bytes≤8:=by
 unfold N.clamp
 rw [ilt_eq,ilt_eq]
 by_cases h1:0<bytes
 ·by_cases h2:8<bytes
  ·simp [h1,h2]; omega
  ·simp [h1,h2]; omega
 ·simp [h1]; omega
theorem two_blocks {w wr:World} {o1 o2:Obj} (h:Below (w.heap.size+1+1) ((w.alloc o1).alloc o2) wr):wr.heap[w.heap.size]? = some o1∧wr.heap[w.heap.size+1]? = some o2:=by
 have e:(w.alloc o1).heap.size=w.heap.size+1:=by simp
 refine ⟨?_,?_⟩
 ·rw [h.block _ (by omega),Below.heap_alloc _ _ _ (by omega)]; exact Go.heap_alloc_new w o1
 ·rw [h.block _ (by omega),← e]; exact Go.heap_alloc_new _ o2
set_option maxHeartbeats 4000000 in
set_option maxRecDepth 1000000 in
theorem outNum_walk (s : ByteArray) (er n bytes : Int) (w : World) (hs : (s.size : Int) ≤ 9223372036854775799) :
    Calls Tryz.prog 127 #[.agg #[.string s, .int .i64 er], .int .u64 n, .int .i64 bytes] w fun e w' =>
      e = .returned (.agg #[.string ⟨(s.data.toList ++ N.numB n (N.clamp bytes)).toArray⟩, .int .i64 er]) ∧ Below w.heap.size w w' := by
  go_enter Tryz.func127, Tryz.ntmps127
  go_wp2
  go_loopw [8] (fun i wr => ∃ (k : Int) (acc : List UInt8), i = .int .i64 k ∧ Lib.IsBuilder 91 5 (w.heap.size + 1 + 1) (w.heap.size + 1 + 1) (Lib.byteCells acc) wr ∧
      Below (w.heap.size + 1 + 1) ((w.alloc (Obj.cells #[Value.string s, Value.int IntKind.i64 er] 168)).alloc (Obj.cells #[Value.string { data := #[] }, Value.int IntKind.i64 0] 168)) wr ∧
      -1 ≤ k ∧ acc ++ N.numB n (k + 1).toNat = N.numB n (N.clamp bytes) ∧ acc.length + (k + 1).toNat ≤ 8) (fun i _ => (RowKit.intOf i + 1).toNat)
  case atStart =>
    obtain ⟨hcl, hc8⟩ := clamp_eq (bytes := bytes)
    have hf := Lib.fresh_isBuilder 91 5 ((w.alloc (Obj.cells #[Value.string s, Value.int IntKind.i64 er] 168)).alloc (Obj.cells #[Value.string { data := #[] }, Value.int IntKind.i64 0] 168))
    have e0 : ((w.alloc (Obj.cells #[Value.string s, Value.int IntKind.i64 er] 168)).alloc (Obj.cells #[Value.string { data := #[] }, Value.int IntKind.i64 0] 168)).heap.size = w.heap.size + 1 + 1 := by simp
    rw [e0] at hf
    refine ⟨(N.clamp bytes : Int) - 1, [], by rw [hcl], hf, (Below.refl _ _).alloc (by simp) _, by omega, ?_, ?_⟩
    · rw [show ((N.clamp bytes : Int) - 1 + 1).toNat = N.clamp bytes by omega]; rfl
    · simp only [List.length_nil]; omega
  case round =>
    obtain ⟨k, acc, rfl, hI, hB, hk, hacc, hal⟩ := hrel
    by_cases hk0 : 0 ≤ k
    · go_wp2_with (go_at_call 141; refine (writeByte (w.heap.size + 1 + 1) (w.heap.size + 1 + 1) _ _ _ hI (by rw [Lib.byteCells_length]; omega) (by have := hB.size; simp at this; omega)).mono ?_)
      rintro e w1 ⟨rfl, h1, b1⟩
      go_wp2
      go_roundw
      case rel =>
        have e1 : N.numB n (k + 1).toNat = UInt8.ofNat ((n / 2 ^ (8 * k.toNat)) % 256).toNat :: N.numB n k.toNat := by
          rw [show (k + 1).toNat = k.toNat + 1 by omega]; rfl
        have e2 : ((UInt8.ofNat ((n / 2 ^ (8 * k.toNat)) % 256).toNat).toNat : Int) = n / 2 ^ (8 * k).toNat % 256 := by
          rw [show (8 * k).toNat = 8 * k.toNat by omega]
          have h0 : 0 ≤ (n / 2 ^ (8 * k.toNat)) % 256 := Int.emod_nonneg _ (by decide)
          have h1 : (n / 2 ^ (8 * k.toNat)) % 256 < 256 := Int.emod_lt_of_pos _ (by decide)
          have h2 : (UInt8.ofNat ((n / 2 ^ (8 * k.toNat)) % 256).toNat).toNat = ((n / 2 ^ (8 * k.toNat)) % 256).toNat := UInt8.toNat_ofNat_of_lt' (by
            show ((n / 2 ^ (8 * k.toNat)) % 256).toNat < 256
            omega)
          rw [h2]; omega
        refine ⟨k - 1, acc ++ [UInt8.ofNat ((n / 2 ^ (8 * k.toNat)) % 256).toNat], rfl, ?_, hB.trans b1, by omega, ?_, ?_⟩
        · rw [Lib.byteCells_append]
          have e3 : Lib.byteCells [UInt8.ofNat ((n / 2 ^ (8 * k.toNat)) % 256).toNat] = [Value.int .u8 (n / 2 ^ (8 * k).toNat % 256)] := by
            rw [← e2]; rfl
          rw [e3]; exact Or.inr h1
        · rw [e1] at hacc
          rw [← hacc, show (k - 1 + 1).toNat = k.toNat by omega, List.append_assoc]; rfl
        · rw [List.length_append]; simp only [List.length_cons, List.length_nil]; omega
      case measure => simp [RowKit.intOf]; omega
    · have hk1 : k = -1 := by omega
      subst hk1
      have hfin : N.numB n (N.clamp bytes) = acc := by rw [← hacc]; show acc ++ [] = acc; simp
      have hal : acc.length ≤ 8 := by omega
      clear hacc
      rw [hfin]
      obtain ⟨hb0, hb1⟩ := two_blocks hB
      have c0 : wr.cell? ⟨w.heap.size, 0, none⟩ = some (.string s) := by rw [Lib.cell_of_heap hb0]; rfl
      have c1 : wr.cell? ⟨w.heap.size, 1, none⟩ = some (.int .i64 er) := by rw [Lib.cell_of_heap hb0]; rfl
      have c2 : wr.cell? ⟨w.heap.size + 1, 0, none⟩ = some (.string ⟨#[]⟩) := by rw [Lib.cell_of_heap hb1]; rfl
      have c3 : wr.cell? ⟨w.heap.size + 1, 1, none⟩ = some (.int .i64 0) := by rw [Lib.cell_of_heap hb1]; rfl
      have f0 : wr.frozen? ⟨w.heap.size, 0, none⟩ = false := Lib.frozen_of_heap hb0 0
      have f1 : wr.frozen? ⟨w.heap.size, 1, none⟩ = false := Lib.frozen_of_heap hb0 1
      have f2 : wr.frozen? ⟨w.heap.size + 1, 0, none⟩ = false := Lib.frozen_of_heap hb1 0
      have f3 : wr.frozen? ⟨w.heap.size + 1, 1, none⟩ = false := Lib.frozen_of_heap hb1 1
      have hBw : w.heap.size + 1 + 1 ≤ wr.heap.size := by have := hB.size; simp at this; omega
      have hadd : ¬ 9223372036854775807 < s.size + acc.length := by omega
      have hadd2 : ¬ 9223372036854775807 < s.size + (⟨acc.toArray⟩ : ByteArray).size := by
        show ¬ 9223372036854775807 < s.size + acc.toArray.size
        rw [List.size_toArray]; exact hadd
      have hadd3 : ¬ (s.size + (⟨acc.toArray⟩ : ByteArray).size > 9223372036854775807) := hadd2
      have hadd4 : s.size + (⟨acc.toArray⟩ : ByteArray).size ≤ 9223372036854775807 := Nat.not_lt.1 hadd2
      have hadd5 : s.size + acc.length ≤ 9223372036854775807 := Nat.not_lt.1 hadd
      go_wp2
      go_region_with (go_at_call 57; refine (bString (w.heap.size + 1 + 1) (w.heap.size + 1 + 1) acc _ (by exact hI) (by exact hBw)).mono ?_; rintro e w2 ⟨rfl, b2⟩
                      have d0 : w2.cell? ⟨w.heap.size, 0, none⟩ = some (.string s) := by rw [b2.cell (by show w.heap.size < w.heap.size + 1 + 1; omega)]; exact c0
                      have d1 : w2.cell? ⟨w.heap.size, 1, none⟩ = some (.int .i64 er) := by rw [b2.cell (by show w.heap.size < w.heap.size + 1 + 1; omega)]; exact c1
                      have d2 : w2.cell? ⟨w.heap.size + 1, 0, none⟩ = some (.string ⟨#[]⟩) := by rw [b2.cell (by show w.heap.size + 1 < w.heap.size + 1 + 1; omega)]; exact c2
                      have d3 : w2.cell? ⟨w.heap.size + 1, 1, none⟩ = some (.int .i64 0) := by rw [b2.cell (by show w.heap.size + 1 < w.heap.size + 1 + 1; omega)]; exact c3
                      have e0 : w2.frozen? ⟨w.heap.size, 0, none⟩ = false := by rw [b2.frozen (by show w.heap.size < w.heap.size + 1 + 1; omega)]; exact f0
                      have e1 : w2.frozen? ⟨w.heap.size, 1, none⟩ = false := by rw [b2.frozen (by show w.heap.size < w.heap.size + 1 + 1; omega)]; exact f1
                      have e2 : w2.frozen? ⟨w.heap.size + 1, 0, none⟩ = false := by rw [b2.frozen (by show w.heap.size + 1 < w.heap.size + 1 + 1; omega)]; exact f2
                      have e3 : w2.frozen? ⟨w.heap.size + 1, 1, none⟩ = false := by rw [b2.frozen (by show w.heap.size + 1 < w.heap.size + 1 + 1; omega)]; exact f3)
      all_goals go_wp2
      all_goals
        refine ⟨rfl, .agg #[.string (s ++ ⟨acc.toArray⟩), .int .i64 er], ?_, ?_, ?_⟩
        · simp [results, Tryz.results127, go_sem, d2, d3]
        · rw [hfin, ← bytes_append]
        · have b0 : Below w.heap.size w wr := (((Below.refl _ w).alloc (Nat.le_refl _) _).alloc (by simp) _).trans (hB.mono (by omega))
          exact (((b0.drew.trans (b2.mono (by omega))).setCell (p := ⟨w.heap.size, 0, none⟩) (Nat.le_refl _) _).setCell (p := ⟨w.heap.size + 1, 0, none⟩) (Nat.le_succ _) _).setCell (p := ⟨w.heap.size + 1, 1, none⟩) (Nat.le_succ _) _
theorem keeps_below {w w' : World} (X:Nat→Nat→Prop) (h:Below w.heap.size w w'):Keeps X w w' :=
 ⟨h.os,h.tape,h.output,h.size,fun b hb=>ObjOk.same (h.block b hb)⟩
theorem outNum_ok:FnOk Tryz.prog 127 dOutNum:=by
 refine den_of fun a b hp=>?_
 obtain ⟨o,n,bytes⟩:=a
 intro x y hxy w J locs xs hlen hJ hx _ _ _
 have hxy:x=(aCons (vAgg cOut) (aCons (vInt .u64) (aOne (vInt .i64)))).enc (o,n,bytes)∧y=bNil.enc b:=by simpa using hxy
 obtain ⟨rfl,rfl⟩:=hxy
 have hlen:locs=[]:=List.eq_nil_of_length_eq_zero hlen
 subst hlen
 obtain ⟨hp1,hp⟩:=bcond hp
 obtain ⟨hp2,hp3⟩:=bcond hp
 have hp3:o.s.length≤9223372036854775799:=Nat.le_of_ble_eq_true hp3
 obtain ⟨x0,xs1,rfl,hx0,hx⟩:=hx.uncons
 obtain ⟨x1,xs2,rfl,hx1,hx⟩:=hx.uncons
 obtain ⟨x2,rfl,hx2⟩:=hx.one
 obtain ⟨cs,rfl,hc1,hc2⟩:=Rv.agg_inv (show Rv w J _ (.agg [.str o.s,.int .i64 o.err]) x0 from hx0)
 have hx1:=Rv.int_inv (show Rv w J _ (.int .u64 n) x1 from hx1)
 have hx2:=Rv.int_inv (show Rv w J _ (.int .i64 bytes) x2 from hx2)
 subst hx1 hx2
 match cs,hc1,hc2 with
 | [c0,c1],_,hc2 =>
  have h0:=Rv.str_inv (show Rv w J _ (.str o.s) c0 from hc2 0 (by simp))
  have h1:=Rv.int_inv (show Rv w J _ (.int .i64 o.err) c1 from hc2 1 (by simp))
  subst h0 h1
  refine .inl ⟨?_,?_⟩
  ·have hnm : ¬ (Tryz.f127).name = "runtime.NumGoroutine" := by
    intro e
    have : ((Tryz.f127).name == "runtime.NumGoroutine") = false := by kernel_rfl
    rw [e] at this; cases this
   obtain ⟨c,hc⟩:=Option.isSome_iff_exists.1 (show (Tryz.f127).body.isSome=true by kernel_rfl)
   simp [callFunc,Tryz.func127,hnm,hc]
  ·refine (outNum_walk ⟨o.s.toArray⟩ o.err n bytes w (by rw [bytes_size]; omega)).mono fun e w' ⟨he,hb⟩=>⟨_,he,J,?_⟩
   refine ⟨keeps_below _ hb,fun _ _ h=>h,fun b o' h=>Nat.lt_of_lt_of_le (hJ b o' h) hb.size,fun _ _ h _=>h,rfl,(fun j cs cs' p hj=>by cases hj),.inl ⟨rfl,?_⟩⟩
   refine .agg [.str (N.outNum o n bytes).s,.int .i64 (N.outNum o n bytes).err] [.string ⟨(o.s++N.numB n (N.clamp bytes)).toArray⟩,.int .i64 o.err] rfl fun i hi=>?_
   match i,hi with
   | 0,_=>exact .dat (.str _)
   | 1,_=>exact .dat (.int _ _)
end Go.Ev
