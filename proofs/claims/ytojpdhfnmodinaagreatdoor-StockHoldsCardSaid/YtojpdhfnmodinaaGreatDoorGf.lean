/- What stocks keep,in plain terms: definitions and lemmas,no condition. -/
import Derived.Test.YtojpdhfnmodinaaGreatDoorGe
import Derived.Test.YtojpdhfnmodinaaGreatDoorGd
import Derived.Test.YtojpdhfnmodinaaGreatDoorGc
import Derived.Test.YtojpdhfnmodinaaGreatDoorProg
import Derived.KernelRfl
import Derived.Shelf.Strings.Builder1
import Derived.RegionTactic
import Derived.Deep.RegionWith
namespace Go.Ev
open Go
set_option maxRecDepth 100000
theorem lend_mails (l:List HItem):(N.lLend l).1.map HItem.mail=l.map HItem.mail:=by
 unfold N.lLend
 rcases ix_spec N.isReady l 0 (Int.le_refl _) with ⟨h1,_⟩ | ⟨k,h1,h2,_⟩
 ·rw [h1]; rfl
 ·rw [h1,ilt_f (by omega)]
  have e:(0+(k:Int)).toNat=k:=by omega
  rw [e]
  exact set_ids (f:=N.lendI) (fun _=>rfl) l k h2
theorem back_mails (l:List HItem) (id:Int):(N.lBack l id).1.map HItem.mail=l.map HItem.mail:=by
 unfold N.lBack
 rcases ix_spec (N.isId id) l 0 (Int.le_refl _) with ⟨h1,_⟩ | ⟨k,h1,h2,_⟩
 ·rw [h1]; rfl
 ·rw [h1,ilt_f (by omega)]
  have e:(0+(k:Int)).toNat=k:=by omega
  rw [e]
  simp only [cond_false]
  cases (l.getD k item0).lent with
  | true=>exact set_ids (f:=N.backI) (fun _=>rfl) l k h2
  | false=>rfl
theorem wake_mails (l:List HItem):(N.lWake l).map HItem.mail=l.map HItem.mail:=by
 unfold N.lWake
 rw [List.map_map]
 exact List.map_congr_left fun x _=>wake_mail x
theorem lSize_cons (x:HItem) (r:List HItem):N.lSize (x::r)=N.mailSize x.mail+N.lSize r:=rfl
theorem lSize_app:∀ (a b:List HItem),N.lSize (a++b)=N.lSize a+N.lSize b
 | [],b=>(Int.zero_add _).symm
 | x::r,b=>by rw [List.cons_append,lSize_cons,lSize_app r b,lSize_cons,Int.add_assoc]
theorem lSize_of:∀ {l l' : List HItem},l'.map HItem.mail=l.map HItem.mail→N.lSize l' = N.lSize l
 | [],[],_=>rfl
 | [],_::_,h=>by cases h
 | _::_,[],h=>by cases h
 | x::r,y::t,h=>by
  rw [List.map_cons,List.map_cons] at h
  injection h with h1 h2
  rw [lSize_cons,lSize_cons,h1,lSize_of h2]
theorem lSize_sub {l l' : List HItem} (h:l'.Sublist l):N.lSize l'≤N.lSize l:=by
 induction h with
 | slnil=>exact Int.le_refl _
 | cons x _ ih=>have:=(mailSize_le x.mail).1; rw [lSize_cons]; omega
 | cons_cons x _ ih=>rw [lSize_cons,lSize_cons]; omega
structure LineStep (l l' : List HItem):Prop where
 inv:LInv l→LInv l'
 fine:∀ p,allM p l=true→allM p l' = true
 len:l'.length≤l.length
 size:N.lSize l'≤N.lSize l
 low:∀ n:Int,(∀ y∈l,y.mail.id<n)→∀ y∈l',y.mail.id<n
theorem LineStep.mails {l l' : List HItem} (h:l'.map HItem.mail=l.map HItem.mail):LineStep l l' where
 inv:=linv_of_mails h
 fine _:=allM_of h
 len:=by have:=congrArg List.length h; simp only [List.length_map] at this; omega
 size:=by rw [lSize_of h]; exact Int.le_refl _
 low n hn y hy:=by
  have:y.mail∈l.map HItem.mail:=h ▸ List.mem_map_of_mem hy
  obtain ⟨z,hz,e⟩:=List.mem_map.1 this
  rw [← e]; exact hn z hz
theorem LineStep.sub {l l' : List HItem} (h:l'.Sublist l):LineStep l l' where
 inv:=linv_sub h
 fine _ ha:=List.all_eq_true.2 fun x hx=>List.all_eq_true.1 ha x (h.subset hx)
 len:=h.length_le
 size:=lSize_sub h
 low _ hn y hy:=hn y (h.subset hy)
theorem remove_sub (l:List HItem) (id:Int):(N.lRemove l id).1.Sublist l:=by
 unfold N.lRemove
 cases ilt (N.ix (N.isId id) l 0) 0 with
 | true=>exact List.Sublist.refl _
 | false=>exact cut_sub l _
structure StkRow (n:Int) (x:HRow):Prop where
 line:LInv x.line
 fine:allM N.fineCk x.line=true
 most:(x.line.length:Int)≤x.q.most
 q:N.qCheck x.q=0
 life:N.u64 x.q.life=true
 low:n=0∨∀ y∈x.line,y.mail.id<n
structure SInv (s:HStock):Prop where
 next0:0≤s.next
 next1:s.next<18446744073709551616
 bytes0:0≤s.bytes
 bytes1:s.bytes≤9223372036854775807
 few:s.rows.length≤8
 row:∀ x∈s.rows,StkRow s.next x
 names:(s.rows.map fun x=>x.q.name).Nodup
 rise:s.rises.list.all goodFineCk=true
 size:N.sSize s≤s.bytes
theorem qCheck_of {q:HQueue} (h:N.qCheck q=0):N.name q.name=0∧1≤q.most∧q.most≤64∧(q.dead=[]∨N.name q.dead=0):=by
 unfold N.qCheck at h
 cases h1:N.name q.name != 0 with
 | true=>rw [h1] at h; have h:N.name q.name=0:=h; rw [h] at h1; cases h1
 | false =>
  rw [h1] at h
  refine ⟨by simpa using h1,?_⟩
  cases h2:ilt q.most 1 with
  | true=>rw [h2] at h; cases h
  | false =>
   cases h3:ilt 64 q.most with
   | true=>rw [h2,h3] at h; cases h
   | false =>
    refine ⟨ilt_nof h2,ilt_nof h3,?_⟩
    cases h4:q.dead==[] with
    | true=>exact .inl (by simpa using h4)
    | false=>rw [h2,h3,h4] at h; exact .inr h
theorem fineCk_fine {m:HMail} (h:N.fineCk m=true):N.fineM m=true∧N.mailCheck m=0:=by
 obtain ⟨h1,h2⟩:=bcond h
 exact ⟨h1,ieq_of h2⟩
theorem lineF_good {l:List HItem} (h:LInv l) (hf:allM N.fineCk l=true):goodLineF l=true:=by
 have:=h.few
 unfold goodLineF
 rw [ble_t (show l.length≤100 by omega),h.small,List.all_eq_true.2 fun x hx=>(fineCk_fine (List.all_eq_true.1 hf x hx)).1]; rfl
theorem riseCk_fine {x:HRise} (h:goodFineCk x=true):goodFineR x=true:=by
 obtain ⟨h1,h2⟩:=bcond h
 unfold goodFineR
 rw [h1,List.all_eq_true.2 fun m hm=>(fineCk_fine (List.all_eq_true.1 h2 m hm)).1]; rfl
theorem SInv.goodRowsF {s:HStock} (h:SInv s):goodRowsF s=true:=by
 have:=h.few
 unfold Go.Ev.goodRowsF
 rw [ble_t (show s.rows.length≤100 by omega),show s.rows.all goodRowF=true from List.all_eq_true.2 fun x hx=>lineF_good (h.row x hx).line (h.row x hx).fine]; rfl
theorem SInv.goodNF {s:HStock} (h:SInv s):goodNF s=true:=by
 unfold Go.Ev.goodNF goodSF
 rw [h.goodRowsF,List.all_eq_true.2 fun x hx=>riseCk_fine (List.all_eq_true.1 h.rise x hx),ile_t h.next0,ilt_t h.next1]; rfl
theorem SInv.goodN {s:HStock} (h:SInv s):goodN s=true:=by
 unfold Go.Ev.goodN goodB
 rw [sF_ok (bcond h.goodNF).1,ile_t h.next0,ilt_t h.next1,ile_t h.bytes0,ile_t h.bytes1]; rfl
theorem SInv.goodS {s:HStock} (h:SInv s):goodS s=true:=sF_ok (bcond h.goodNF).1
theorem SInv.goodRows {s:HStock} (h:SInv s):goodRows s=true:=(bcond h.goodS).1
theorem SInv.fewRows {s:HStock} (h:SInv s):fewRows s=true:=(bcond h.goodRows).1
theorem SInv.goodB {s:HStock} (h:SInv s):goodB s=true:=(bcond h.goodN).1
theorem rowsSize_cons (x:HRow) (r:List HRow):N.rowsSize (x::r)=N.lSize x.line+N.rowsSize r:=rfl
theorem rowsSize_app:∀ (a b:List HRow),N.rowsSize (a++b)=N.rowsSize a+N.rowsSize b
 | [],b=>(Int.zero_add _).symm
 | x::r,b=>by rw [List.cons_append,rowsSize_cons,rowsSize_app r b,rowsSize_cons,Int.add_assoc]
theorem rowsSize_sub {l l' : List HRow} (h:l'.Sublist l):N.rowsSize l'≤N.rowsSize l:=by
 induction h with
 | slnil=>exact Int.le_refl _
 | cons x _ ih=>have:=(lSize_le x.line).1; rw [rowsSize_cons]; omega
 | cons_cons x _ ih=>rw [rowsSize_cons,rowsSize_cons]; omega
theorem rowsSize_set:∀ (l:List HRow) (k:Nat) (x:HRow),k<l.length→N.rowsSize (l.set k x)=N.rowsSize l-N.lSize (l.getD k row0).line+N.lSize x.line
 | y::r,0,x,_=>by
  show N.lSize x.line+N.rowsSize r=N.lSize y.line+N.rowsSize r-N.lSize y.line+N.lSize x.line
  omega
 | y::r,k+1,x,h=>by
  have:=rowsSize_set r k x (by simpa using h)
  show N.lSize y.line+N.rowsSize (r.set k x)=N.lSize y.line+N.rowsSize r-N.lSize (r.getD k row0).line+N.lSize x.line
  omega
theorem risesSize_set:∀ (l:List HRise) (k:Nat) (x:HRise),k<l.length→N.risesSize (l.set k x)=N.risesSize l-N.riseSize (l.getD k rise0).kept+N.riseSize x.kept
 | y::r,0,x,_=>by
  show N.riseSize x.kept+N.risesSize r=N.riseSize y.kept+N.risesSize r-N.riseSize y.kept+N.riseSize x.kept
  omega
 | y::r,k+1,x,h=>by
  have:=risesSize_set r k x (by simpa using h)
  show N.riseSize y.kept+N.risesSize (r.set k x)=N.riseSize y.kept+N.risesSize r-N.riseSize (r.getD k rise0).kept+N.riseSize x.kept
  omega
theorem set_names (rows:List HRow) (k:Nat) (l:List HItem):(rows.set k ⟨(rows.getD k row0).q,l⟩).map (fun x=>x.q.name)=rows.map fun x=>x.q.name:=by
 rw [List.map_set]
 refine List.ext_getElem? fun i=>?_
 rw [List.getElem?_set]
 by_cases h:k=i
 ·subst h
  by_cases hk:k<rows.length
  ·rw [List.getD_eq_getElem?_getD,List.getElem?_eq_getElem hk]; simp [hk]
  ·simp [hk]
 ·simp [h]
theorem set_rows {rows:List HRow} {n n' : Int} {k:Nat} {x:HRow} (h:∀ y∈rows,StkRow n y) (hn:∀ y,StkRow n y→StkRow n' y) (hx:StkRow n' x):∀ y∈rows.set k x,StkRow n' y:=fun y hy=>by
 rcases List.mem_or_eq_of_mem_set hy with hy | hy
 ·exact hn y (h y hy)
 ·rw [hy]; exact hx
theorem with_inv {s:HStock} (h:SInv s) {k:Int} (h0:0≤k) (h1:k<s.rows.length) {l:List HItem} (hl:LineStep (N.rowK s k).line l):SInv (N.sWith s k l):=by
 have hk:k.toNat<s.rows.length:=by omega
 have hr:=h.row _ (getD_mem row0 hk)
 have hz:=h.size
 have e:=rowsSize_set s.rows k.toNat ⟨(s.rows.getD k.toNat row0).q,l⟩ hk
 have hs:=hl.size
 refine ⟨h.next0,h.next1,h.bytes0,h.bytes1,by show (List.set _ _ _).length≤8; rw [List.length_set]; exact h.few,?_,?_,h.rise,?_⟩
 ·refine set_rows h.row (fun _ hy=>hy) ⟨hl.inv hr.line,hl.fine _ hr.fine,?_,hr.q,hr.life,?_⟩
  ·have h2:=hl.len
   have h3:((N.rowK s k).line.length:Int)≤(s.rows.getD k.toNat row0).q.most:=hr.most
   show (l.length:Int)≤(s.rows.getD k.toNat row0).q.most
   omega
  ·rcases hr.low with h2 | h2
   ·exact .inl h2
   ·exact .inr (hl.low _ h2)
 ·show ((s.rows.set k.toNat ⟨(s.rows.getD k.toNat row0).q,l⟩).map fun x=>x.q.name).Nodup
  rw [set_names]; exact h.names
 ·show N.rowsSize (s.rows.set k.toNat ⟨(s.rows.getD k.toNat row0).q,l⟩)+N.risesSize s.rises.list≤s.bytes
  have hz:N.rowsSize s.rows+N.risesSize s.rises.list≤s.bytes:=hz
  have hs:N.lSize l≤N.lSize (s.rows.getD k.toNat row0).line:=hs
  rw [e]
  show N.rowsSize s.rows-N.lSize (s.rows.getD k.toNat row0).line+N.lSize l+N.risesSize s.rises.list≤s.bytes
  omega
theorem lend_inv {s:HStock} (h:SInv s) (n:Bytes):SInv (N.sLend s n).1:=by
 unfold N.sLend
 cases h1:ilt (N.sAt s n) 0 with
 | true=>exact h
 | false =>
  obtain ⟨g1,g2,_,_⟩:=sAt_lt (nlt_ge h1)
  exact with_inv h g1 g2 (.mails (lend_mails _))
theorem back_inv {s:HStock} (h:SInv s) (n:Bytes) (id:Int):SInv (N.sBack s n id).1:=by
 unfold N.sBack
 cases h1:ilt (N.sAt s n) 0 with
 | true=>exact h
 | false =>
  obtain ⟨g1,g2,_,_⟩:=sAt_lt (nlt_ge h1)
  exact with_inv h g1 g2 (.mails (back_mails _ id))
theorem remove_inv {s:HStock} (h:SInv s) (n:Bytes) (id:Int):SInv (N.sRemove s n id).1:=by
 unfold N.sRemove
 cases h1:ilt (N.sAt s n) 0 with
 | true=>exact h
 | false =>
  obtain ⟨g1,g2,_,_⟩:=sAt_lt (nlt_ge h1)
  exact with_inv h g1 g2 (.sub (remove_sub _ id))
theorem wakeRow_size:∀ l:List HRow,N.rowsSize (l.map N.wakeRow)=N.rowsSize l
 | []=>rfl
 | x::r=>by
  rw [List.map_cons,rowsSize_cons,rowsSize_cons,wakeRow_size r,show N.lSize (N.wakeRow x).line=N.lSize x.line from lSize_of (wake_mails x.line)]
theorem wake_inv {s:HStock} (h:SInv s):SInv (N.sWake s):=by
 refine ⟨h.next0,h.next1,h.bytes0,h.bytes1,by show (List.map _ _).length≤8; rw [List.length_map]; exact h.few,fun y hy=>?_,?_,h.rise,?_⟩
 ·obtain ⟨x,hx,rfl⟩:=List.mem_map.1 (show y∈s.rows.map N.wakeRow from hy)
  have hr:=h.row x hx
  have hl:LineStep x.line (N.lWake x.line):=.mails (wake_mails x.line)
  refine ⟨hl.inv hr.line,hl.fine _ hr.fine,?_,hr.q,hr.life,?_⟩
  ·have h2:=hl.len
   have h3:=hr.most
   show ((N.lWake x.line).length:Int)≤x.q.most
   omega
  ·rcases hr.low with h2 | h2
   ·exact .inl h2
   ·exact .inr (hl.low _ h2)
 ·show ((s.rows.map N.wakeRow).map fun x=>x.q.name).Nodup
  rw [List.map_map]; exact h.names
 ·show N.rowsSize (s.rows.map N.wakeRow)+N.risesSize s.rises.list≤s.bytes
  rw [wakeRow_size]; exact h.size
theorem sAt_neg {s:HStock} {n:Bytes} (h:ile 0 (N.sAt s n)=false):∀ x∈s.rows,x.q.name ≠ n:=fun x hx e=>by
 rw [show ile 0 (N.sAt s n)=s.rows.any (N.isRow n) from ixG_ge _ _] at h
 rw [List.any_eq_true.2 ⟨x,hx,show (x.q.name==n)=true by rw [e]; exact beq_self_eq_true _⟩] at h
 cases h
theorem make_inv {s:HStock} (h:SInv s) {q:HQueue} (hq:N.u64 q.life=true):SInv (N.sMake s q).1:=by
 unfold N.sMake
 cases h1:N.qCheck q != 0 with
 | true=>exact h
 | false =>
  have hc:N.qCheck q=0:=by simpa using h1
  obtain ⟨_,h5,_,_⟩:=qCheck_of hc
  cases h2:ile 0 (N.sAt s q.name) with
  | true=>cases N.eqQ (N.rowK s (N.sAt s q.name)).q q<;>exact h
  | false =>
   cases h3:ile 8 s.rows.length with
   | true=>exact h
   | false =>
    have h4:=ile_nof h3
    simp only [cond_false]
    refine ⟨h.next0,h.next1,h.bytes0,h.bytes1,?_,fun y hy=>?_,?_,h.rise,?_⟩
    ·show (s.rows++[_]).length≤8
     rw [List.length_append]; simp only [List.length_cons,List.length_nil]; omega
    ·rcases List.mem_append.1 (show y∈s.rows++[(⟨q,[]⟩:HRow)] from hy) with hy | hy
     ·exact h.row y hy
     ·rw [List.mem_singleton.1 hy]
      exact ⟨linv0,rfl,by show ((0:Nat):Int)≤q.most; omega,hc,hq,.inr fun y hy=>by cases hy⟩
    ·show ((s.rows++[(⟨q,[]⟩:HRow)]).map fun x=>x.q.name).Nodup
     rw [List.map_append,List.map_cons,List.map_nil,List.nodup_append]
     refine ⟨h.names,List.nodup_cons.2 ⟨List.not_mem_nil,List.nodup_nil⟩,fun a ha b hb=>?_⟩
     obtain ⟨x,hx,rfl⟩:=List.mem_map.1 ha
     rw [List.mem_singleton.1 hb]
     exact sAt_neg h2 x hx
    ·show N.rowsSize (s.rows++[(⟨q,[]⟩:HRow)])+N.risesSize s.rises.list≤s.bytes
     rw [rowsSize_app]
     show N.rowsSize s.rows+0+N.risesSize s.rises.list≤s.bytes
     rw [Int.add_zero]; exact h.size
theorem cutG_sub {α:Type} (l:List α) (k:Nat):(N.cutG l k).Sublist l:=by
 unfold N.cutG
 have:(l.take k++l.drop (k+1)).Sublist (l.take k++l.drop k):=List.Sublist.append (List.Sublist.refl _) (by
  rw [← List.drop_drop]
  exact List.drop_sublist 1 (l.drop k))
 rwa [List.take_append_drop] at this
theorem drop_inv {s:HStock} (h:SInv s) (n:Bytes):SInv (N.sDrop s n).1:=by
 unfold N.sDrop
 cases h1:ilt (N.sAt s n) 0 with
 | true=>exact h
 | false =>
  have hs:=cutG_sub s.rows (N.sAt s n).toNat
  have hz:=rowsSize_sub hs
  have h2:=h.size
  have h3:=hs.length_le
  have h4:=h.few
  refine ⟨h.next0,h.next1,h.bytes0,h.bytes1,?_,fun y hy=>h.row y (hs.subset hy),List.Nodup.sublist (hs.map _) h.names,h.rise,?_⟩
  ·show (N.cutG s.rows (N.sAt s n).toNat).length≤8
   omega
  ·show N.rowsSize (N.cutG s.rows (N.sAt s n).toNat)+N.risesSize s.rises.list≤s.bytes
   have h2:N.rowsSize s.rows+N.risesSize s.rises.list≤s.bytes:=h2
   omega
theorem put_fineCk {x:HRise} (h:goodFineCk x=true) {m:HMail} (hm:N.fineM m=true) (hs:smallM m=true):goodFineCk (N.risePut x m).1=true:=by
 have h0:=put_fineR (riseCk_fine h) hm hs
 obtain ⟨h1,h2⟩:=bcond h
 have h3:=(bcond h0).1
 unfold goodFineCk
 rw [h3]
 show ((N.risePut x m).1.kept.all N.fineCk)=true
 unfold N.risePut
 cases hc:N.mailCheck m != 0 with
 | true=>exact h2
 | false =>
  cases x.total==18446744073709551615 with
  | true=>exact h2
  | false =>
   refine List.all_eq_true.2 fun y hy=>?_
   rcases List.mem_append.1 (List.mem_of_mem_drop hy) with hy | hy
   ·exact List.all_eq_true.1 h2 y hy
   ·rw [List.mem_singleton.1 hy]
    unfold N.fineCk
    rw [hm]
    show (N.mailCheck m==0)=true
    have:N.mailCheck m=0:=by simpa using hc
    rw [this]; rfl
theorem raise_inv {s:HStock} (h:SInv s) (p:Int) {m:HMail} (hm:N.fineM m=true) (hs:smallM m=true):SInv (N.sRaise s p m).1:=by
 unfold N.sRaise
 cases h1:ilt p 0 with
 | true=>exact h
 | false =>
  cases h2:ile 16 p with
  | true=>exact h
  | false =>
   have g1:=ilt_nof h1
   have g2:=ile_nof h2
   simp only [cond_false]
   cases (N.risePut (N.riseK s p) m).2 != 0 with
   | true=>exact h
   | false =>
    cases h3:ilt s.bytes (N.sSize s-N.riseSize (N.riseK s p).kept+N.riseSize (N.risePut (N.riseK s p) m).1.kept) with
    | true=>exact h
    | false =>
     have h4:=ilt_nof h3
     have hk:p.toNat<s.rises.list.length:=by rw [A16.list_len]; omega
     refine ⟨h.next0,h.next1,h.bytes0,h.bytes1,h.few,h.row,h.names,?_,?_⟩
     ·exact set_all _ h.rise (put_fineCk (List.all_eq_true.1 h.rise _ (getD_mem rise0 hk)) hm hs)
     ·show N.rowsSize s.rows+N.risesSize (s.rises.set p.toNat (N.risePut (N.riseK s p) m).1).list≤s.bytes
      rw [A16.list_set,risesSize_set _ _ _ hk]
      have h4:N.rowsSize s.rows+N.risesSize s.rises.list-N.riseSize (s.rises.list.getD p.toNat rise0).kept+N.riseSize (N.risePut (N.riseK s p) m).1.kept≤s.bytes:=h4
      omega
theorem isId_at {l:List HItem} (hs:Sorted l) {k:Nat} (hk:k<l.length):N.ix (N.isId (l.getD k item0).mail.id) l 0=k:=by
 rcases ix_spec (N.isId (l.getD k item0).mail.id) l 0 (Int.le_refl _) with ⟨_,h2⟩ | ⟨j,h1,h2,h3,h4⟩
 ·have:=h2 _ (getD_mem item0 hk)
  rw [show N.isId (l.getD k item0).mail.id (l.getD k item0)=true from beq_self_eq_true _] at this
  cases this
 ·rw [h1]
  have h3:(l.getD j item0).mail.id=(l.getD k item0).mail.id:=by simpa [N.isId] using h3
  have hj:j=k:=by
   rcases Nat.lt_trichotomy j k with hl | hl | hl
   ·have:=List.pairwise_iff_getElem.1 hs j k h2 hk hl
    rw [List.getD_eq_getElem?_getD,List.getElem?_eq_getElem h2,List.getD_eq_getElem?_getD,List.getElem?_eq_getElem hk] at h3
    simp only [Option.getD_some] at h3
    omega
   ·exact hl
   ·have:=h4 k hl
    rw [show N.isId (l.getD k item0).mail.id (l.getD k item0)=true from beq_self_eq_true _] at this
    cases this
  rw [hj]; omega
theorem first_at {l:List HItem} (hs:Sorted l) (h:(N.lFirst l).2=true):∃ k,k<l.length∧(l.getD k item0).lent=false∧(∀ j,j<k→(l.getD j item0).lent=true)∧N.lFirst l=((l.getD k item0).mail,true)∧(N.lRemove l (l.getD k item0).mail.id).1=N.cutAt l k∧N.ix N.isReady l 0=k:=by
 rcases ix_spec N.isReady l 0 (Int.le_refl _) with ⟨h1,_⟩ | ⟨k,h1,h2,h3,h4⟩
 ·unfold N.lFirst N.lTold at h
  rw [h1] at h; cases h
 ·have hl:∀ x:HItem,N.isReady x=true→x.lent=false:=fun x hx=>by
   unfold N.isReady at hx
   cases hc:x.lent with
   | true=>rw [hc] at hx; cases hx
   | false=>rfl
  have hl' : ∀ x:HItem,N.isReady x=false→x.lent=true:=fun x hx=>by
   unfold N.isReady at hx
   cases hc:x.lent with
   | true=>rfl
   | false=>rw [hc] at hx; cases hx
  refine ⟨k,h2,hl _ h3,fun j hj=>hl' _ (h4 j hj),?_,?_,by rw [h1]; omega⟩
  ·unfold N.lFirst N.lTold
   rw [h1,ilt_f (by omega),show (0+(k:Int)).toNat=k from by omega]; rfl
  ·unfold N.lRemove
   rw [isId_at hs h2,ilt_f (by omega)]; rfl
theorem cut_size {l:List HItem} {k:Nat} (h:k<l.length):N.lSize (N.cutAt l k)+N.mailSize (l.getD k item0).mail=N.lSize l:=by
 have e:=congrArg N.lSize (split_at h)
 rw [lSize_app,lSize_cons] at e
 unfold N.cutAt
 rw [lSize_app]
 omega
theorem numM_check (m:HMail) (n:Int):N.mailCheck (N.numM m n)=N.mailCheck m:=rfl
theorem numM_size (m:HMail) (n:Int):N.mailSize (N.numM m n)=N.mailSize m:=rfl
theorem rc_zero {l:List HItem} (hl:l.length<64) {m:HMail} (hm:N.mailCheck m=0) (h:∀ y∈l,y.mail.id<m.id):N.rRc l m=0:=by
 unfold N.rRc
 rw [hm,show (l.any fun y=>ile m.id y.mail.id)=false from by
  rw [Bool.eq_false_iff]
  intro ha
  obtain ⟨y,hy,hyi⟩:=List.any_eq_true.1 ha
  have h1:=ile_of hyi
  have h2:=h y hy
  omega,ile_f (show (l.length:Int)<64 by omega)]; rfl
theorem lput_zero {l:List HItem} (hs:Sorted l) (hl:l.length<64) {x:HItem} (hm:N.mailCheck x.mail=0) (h:∀ y∈l,y.mail.id<x.mail.id):N.lPut l x=(l++[x],0)∧N.rPut l x=(l++[x],0):=by
 have e:N.rPut l x=(l++[x],0):=by
  unfold N.rPut
  rw [rc_zero hl hm h]; rfl
 exact ⟨by rw [← rPut_eq hs]; exact e,e⟩
structure PutEnd (s:HStock) (k:Int) (m out:HMail) (l:List HItem):Prop where
 prog:N.sPutE s k m out l=cond (ilt (N.sRoom s+N.mailSize out) (N.mailSize m)) (s,0,mail0,12) (⟨IntKind.wrap .u64 (s.next+1),s.bytes,(N.sWith s k (l++[⟨N.numM m s.next,false,false⟩])).rows,s.rises⟩,s.next,out,0)
 docu:N.rPutE s k m out l=N.sPutE s k m out l
 inv:SInv (N.sPutE s k m out l).1
theorem wrap_next {n:Int} (h0:0≤n) (h1:n<18446744073709551616):(IntKind.wrap .u64 (n+1)=n+1∧n+1<18446744073709551616)∨IntKind.wrap .u64 (n+1)=0:=by
 by_cases h:n+1<18446744073709551616
 ·exact .inl ⟨wr_u64 (by omega) (by omega),h⟩
 ·have:n=18446744073709551615:=by omega
  subst this; exact .inr (by decide)
theorem put_end {s:HStock} (h:SInv s) (hn:s.next ≠ 0) {k:Int} (h0:0≤k) (h1:k<s.rows.length) {m out:HMail} (hm:N.fineM m=true) (hsm:smallM m=true) (hc:N.mailCheck m=0) {l:List HItem}
  (hl:LineStep (N.rowK s k).line l) (hlen:(l.length:Int)<(N.rowK s k).q.most) (hz:N.lSize l+N.mailSize out=N.lSize (N.rowK s k).line):PutEnd s k m out l:=by
 have hk:k.toNat<s.rows.length:=by omega
 have hr:=h.row _ (getD_mem row0 hk)
 obtain ⟨_,_,q3,_⟩:=qCheck_of hr.q
 have q3:(N.rowK s k).q.most≤64:=q3
 have hlow:∀ y∈l,y.mail.id<s.next:=hl.low _ (hr.low.resolve_left hn)
 have hs:=(hl.inv hr.line).sorted
 obtain ⟨e1,e2⟩:=lput_zero (l:=l) (x:=⟨N.numM m s.next,false,false⟩) hs (by omega) (show N.mailCheck (N.numM m s.next)=0 from hc) hlow
 have hsz:=rowsSize_set s.rows k.toNat ⟨(s.rows.getD k.toNat row0).q,l++[⟨N.numM m s.next,false,false⟩]⟩ hk
 have hla:N.lSize (l++[(⟨N.numM m s.next,false,false⟩:HItem)])=N.lSize l+N.mailSize m:=by
  rw [lSize_app,lSize_cons]
  show _+(N.mailSize m+0)=_
  omega
 have hss:N.sSize ⟨IntKind.wrap .u64 (s.next+1),s.bytes,(N.sWith s k (l++[⟨N.numM m s.next,false,false⟩])).rows,s.rises⟩=N.sSize s-N.mailSize out+N.mailSize m:=by
  show N.rowsSize (s.rows.set k.toNat ⟨(s.rows.getD k.toNat row0).q,l++[⟨N.numM m s.next,false,false⟩]⟩)+N.risesSize s.rises.list=N.rowsSize s.rows+N.risesSize s.rises.list-N.mailSize out+N.mailSize m
  rw [hsz]
  show N.rowsSize s.rows-N.lSize (s.rows.getD k.toNat row0).line+N.lSize (l++[(⟨N.numM m s.next,false,false⟩:HItem)])+N.risesSize s.rises.list=_
  have hz:N.lSize l+N.mailSize out=N.lSize (s.rows.getD k.toNat row0).line:=hz
  rw [hla]; omega
 have prog:N.sPutE s k m out l=cond (ilt (N.sRoom s+N.mailSize out) (N.mailSize m)) (s,0,mail0,12) (⟨IntKind.wrap .u64 (s.next+1),s.bytes,(N.sWith s k (l++[⟨N.numM m s.next,false,false⟩])).rows,s.rises⟩,s.next,out,0):=by
  unfold N.sPutE
  rw [e1,numM_size]; rfl
 refine ⟨prog,?_,?_⟩
 ·rw [prog]
  unfold N.rPutE
  rw [e2,hss]
  have:ilt s.bytes (N.sSize s-N.mailSize out+N.mailSize m)=ilt (N.sRoom s+N.mailSize out) (N.mailSize m):=by
   unfold N.sRoom
   cases hc:ilt s.bytes (N.sSize s-N.mailSize out+N.mailSize m) with
   | true=>rw [ilt_t]; have:=ilt_of hc; omega
   | false=>rw [ilt_f]; have:=ilt_nof hc; omega
  rw [this]; rfl
 ·rw [prog]
  cases hc2:ilt (N.sRoom s+N.mailSize out) (N.mailSize m) with
  | true=>exact h
  | false =>
   have hroom:=ilt_nof hc2
   have hw:=wrap_next h.next0 h.next1
   have hx:smallI ⟨N.numM m s.next,false,false⟩=true:=hsm
   have hli:=put_linv (hl.inv hr.line) hx
   rw [e1] at hli
   show SInv ⟨IntKind.wrap .u64 (s.next+1),s.bytes,(N.sWith s k (l++[⟨N.numM m s.next,false,false⟩])).rows,s.rises⟩
   refine ⟨?_,?_,h.bytes0,h.bytes1,?_,?_,?_,h.rise,?_⟩
   ·show 0≤IntKind.wrap .u64 (s.next+1)
    have:=h.next0
    rcases hw with ⟨e,_⟩ | e<;>rw [e]<;>omega
   ·show IntKind.wrap .u64 (s.next+1)<18446744073709551616
    rcases hw with ⟨e,_⟩ | e<;>rw [e]<;>omega
   ·show (List.set _ _ _).length≤8
    rw [List.length_set]; exact h.few
   ·refine set_rows h.row (fun y hy=>⟨hy.line,hy.fine,hy.most,hy.q,hy.life,?_⟩) ⟨hli,?_,?_,hr.q,hr.life,?_⟩
    ·rcases hw with ⟨e,_⟩ | e
     ·rw [e]
      exact .inr fun z hz=>by have:=hy.low.resolve_left hn z hz; show z.mail.id<s.next+1; omega
     ·exact .inl e
    ·show (l++[(⟨N.numM m s.next,false,false⟩:HItem)]).all (fun x=>N.fineCk x.mail)=true
     rw [List.all_append,show l.all (fun x=>N.fineCk x.mail)=true from hl.fine _ hr.fine]
     have:N.fineCk (N.numM m s.next)=true:=by
      unfold N.fineCk
      rw [numM_fine hm h.next0 h.next1,numM_check,hc]; rfl
     simp [this]
    ·show ((l++[_]).length:Int)≤(s.rows.getD k.toNat row0).q.most
     have hlen:(l.length:Int)<(s.rows.getD k.toNat row0).q.most:=hlen
     rw [List.length_append]; simp only [List.length_cons,List.length_nil]; omega
    ·rcases hw with ⟨e,_⟩ | e
     ·rw [e]
      refine .inr fun y hy=>?_
      rcases List.mem_append.1 hy with hy | hy
      ·have:=hlow y hy; show y.mail.id<s.next+1; omega
      ·rw [List.mem_singleton.1 hy]
       show s.next<s.next+1
       omega
     ·exact .inl e
   ·show ((s.rows.set k.toNat ⟨(s.rows.getD k.toNat row0).q,_⟩).map fun x=>x.q.name).Nodup
    rw [set_names]; exact h.names
   ·rw [hss]
    show N.sSize s-N.mailSize out+N.mailSize m≤s.bytes
    unfold N.sRoom at hroom
    omega
structure PutOk (s:HStock) (n:Bytes) (m:HMail):Prop where
 docu:N.rPutS s n m=N.sPut s n m
 inv:SInv (N.sPut s n m).1
 ends:(∃ e,N.sPut s n m=(s,0,mail0,e)∧e ≠ 0)∨(s.next ≠ 0∧N.mailCheck m=0∧0≤N.sAt s n∧N.sAt s n<s.rows.length∧∃ out l,N.sPut s n m=(⟨IntKind.wrap .u64 (s.next+1),s.bytes,(N.sWith s (N.sAt s n) (l++[⟨N.numM m s.next,false,false⟩])).rows,s.rises⟩,s.next,out,0) ∧
  ((out=mail0∧l=(N.rowK s (N.sAt s n)).line∧(l.length:Int)<(N.rowK s (N.sAt s n)).q.most)∨((N.rowK s (N.sAt s n)).q.most≤(N.rowK s (N.sAt s n)).line.length∧∃ k,k<(N.rowK s (N.sAt s n)).line.length∧((N.rowK s (N.sAt s n)).line.getD k item0).lent=false∧(∀ j,j<k→((N.rowK s (N.sAt s n)).line.getD j item0).lent=true)∧out=((N.rowK s (N.sAt s n)).line.getD k item0).mail∧l=N.cutAt (N.rowK s (N.sAt s n)).line k)))
theorem put_ok {s:HStock} (h:SInv s) (n:Bytes) {m:HMail} (hm:N.fineM m=true) (hsm:smallM m=true):PutOk s n m:=by
 cases h1:ilt (N.sAt s n) 0 with
 | true =>
  have e:N.sPut s n m=(s,0,mail0,10):=by unfold N.sPut; rw [h1]; rfl
  exact ⟨by rw [e]; unfold N.rPutS; rw [h1]; rfl,by rw [e]; exact h,.inl ⟨10,e,by decide⟩⟩
 | false =>
 cases h2:N.mailCheck m != 0 with
 | true =>
  have e:N.sPut s n m=(s,0,mail0,N.mailCheck m):=by unfold N.sPut; rw [h1,h2]; rfl
  exact ⟨by rw [e]; unfold N.rPutS; rw [h1,h2]; rfl,by rw [e]; exact h,.inl ⟨_,e,by simpa using h2⟩⟩
 | false =>
 have hc:N.mailCheck m=0:=by simpa using h2
 cases h3:s.next==0 with
 | true =>
  have e:N.sPut s n m=(s,0,mail0,18):=by unfold N.sPut; rw [h1,h2,h3]; rfl
  exact ⟨by rw [e]; unfold N.rPutS; rw [h1,h2,h3]; rfl,by rw [e]; exact h,.inl ⟨18,e,by decide⟩⟩
 | false =>
 have hn:s.next ≠ 0:=by simpa using h3
 obtain ⟨g1,g2,_,g4⟩:=sAt_lt (nlt_ge h1)
 have hr:=h.row _ (getD_mem row0 g4)
 have hrm:((N.rowK s (N.sAt s n)).line.length:Int)≤(N.rowK s (N.sAt s n)).q.most:=hr.most
 cases h4:ile (N.rowK s (N.sAt s n)).q.most (N.rowK s (N.sAt s n)).line.length with
 | true =>
  cases h5:(N.lFirst (N.rowK s (N.sAt s n)).line).2 with
  | false =>
   have e:N.sPut s n m=(s,0,mail0,12):=by unfold N.sPut; rw [h1,h2,h3,h4,h5]; rfl
   exact ⟨by rw [e]; unfold N.rPutS; rw [h1,h2,h3,h4,h5]; rfl,by rw [e]; exact h,.inl ⟨12,e,by decide⟩⟩
  | true =>
   obtain ⟨k,k1,k2,k3,k4,k5,_⟩:=first_at (l:=(N.rowK s (N.sAt s n)).line) hr.line.sorted h5
   have hcl:=cut_len k1
   have hpe:=put_end h hn g1 g2 (out:=((N.rowK s (N.sAt s n)).line.getD k item0).mail) hm hsm hc (.sub (cut_sub _ k)) (by omega) (cut_size k1)
   have e1:N.sPut s n m=N.sPutE s (N.sAt s n) m ((N.rowK s (N.sAt s n)).line.getD k item0).mail (N.cutAt (N.rowK s (N.sAt s n)).line k):=by unfold N.sPut; rw [h1,h2,h3,h4,k4,k5]; rfl
   have e2:N.rPutS s n m=N.rPutE s (N.sAt s n) m ((N.rowK s (N.sAt s n)).line.getD k item0).mail (N.cutAt (N.rowK s (N.sAt s n)).line k):=by unfold N.rPutS; rw [h1,h2,h3,h4,k4,k5]; rfl
   refine ⟨by rw [e1,e2]; exact hpe.docu,by rw [e1]; exact hpe.inv,?_⟩
   cases hc2:ilt (N.sRoom s+N.mailSize ((N.rowK s (N.sAt s n)).line.getD k item0).mail) (N.mailSize m) with
   | true=>exact .inl ⟨12,by rw [e1,hpe.prog,hc2]; rfl,by decide⟩
   | false=>exact .inr ⟨hn,hc,g1,g2,_,_,by rw [e1,hpe.prog,hc2]; rfl,.inr ⟨ile_of h4,k,k1,k2,k3,rfl,rfl⟩⟩
 | false =>
  have h4':=ile_nof h4
  have hpe:=put_end h hn g1 g2 (out:=mail0) hm hsm hc (.mails (l:=(N.rowK s (N.sAt s n)).line) rfl) (by omega) (Int.add_zero _)
  have e1:N.sPut s n m=N.sPutE s (N.sAt s n) m mail0 (N.rowK s (N.sAt s n)).line:=by unfold N.sPut; rw [h1,h2,h3,h4]; rfl
  have e2:N.rPutS s n m=N.rPutE s (N.sAt s n) m mail0 (N.rowK s (N.sAt s n)).line:=by unfold N.rPutS; rw [h1,h2,h3,h4]; rfl
  refine ⟨by rw [e1,e2]; exact hpe.docu,by rw [e1]; exact hpe.inv,?_⟩
  cases hc2:ilt (N.sRoom s+N.mailSize mail0) (N.mailSize m) with
  | true=>exact .inl ⟨12,by rw [e1,hpe.prog,hc2]; rfl,by decide⟩
  | false=>exact .inr ⟨hn,hc,g1,g2,_,_,by rw [e1,hpe.prog,hc2]; rfl,.inl ⟨rfl,rfl,h4'⟩⟩
def goodAct (a:HSAct):Bool:=cond (goodSA a) (N.u64 a.q.life) false
theorem goodAct_of {a:HSAct} (h:goodAct a=true):N.fineM a.mail=true∧smallM a.mail=true∧N.u64 a.q.life=true:=by
 obtain ⟨h1,h2⟩:=bcond h
 obtain ⟨h1,h3⟩:=bcond h1
 exact ⟨h1,h3,h2⟩
theorem done_inv {s:HStock} (h:SInv s) {a:HSAct} (ha:goodAct a=true) (q:HStock):SInv (N.done21 s q a).1:=by
 obtain ⟨h1,h2,h3⟩:=goodAct_of ha
 unfold N.done21
 cases Int.tmod a.op 10==3 with
 | true=>exact make_inv h h3
 | false =>
 cases Int.tmod a.op 10==4 with
 | true=>exact drop_inv h _
 | false =>
 cases Int.tmod a.op 10==5 with
 | true=>exact lend_inv h _
 | false =>
 cases Int.tmod a.op 10==6 with
 | true=>exact back_inv h _ _
 | false =>
 cases Int.tmod a.op 10==7 with
 | true=>exact remove_inv h _ _
 | false =>
 cases Int.tmod a.op 10==8 with
 | true=>exact raise_inv h _ h1 h2
 | false =>
 cases Int.tmod a.op 10==9 with
 | true=>exact wake_inv h
 | false=>exact (put_ok h _ h1 h2).inv
theorem done_bytes (s q:HStock) (a:HSAct) (h:SInv s) (ha:goodAct a=true):(N.done21 s q a).1.bytes=s.bytes:=by
 obtain ⟨h1,h2,h3⟩:=goodAct_of ha
 unfold N.done21
 cases Int.tmod a.op 10==3 with
 | true =>
  show (N.sMake s a.q).1.bytes=s.bytes
  unfold N.sMake
  cases N.qCheck a.q != 0<;>cases ile 0 (N.sAt s a.q.name)<;>cases N.eqQ (N.rowK s (N.sAt s a.q.name)).q a.q<;>cases ile 8 (s.rows.length:Int)<;>rfl
 | false =>
 cases Int.tmod a.op 10==4 with
 | true =>
  show (N.sDrop s a.name).1.bytes=s.bytes
  unfold N.sDrop
  cases ilt (N.sAt s a.name) 0<;>rfl
 | false =>
 cases Int.tmod a.op 10==5 with
 | true =>
  show (N.sLend s a.name).1.bytes=s.bytes
  unfold N.sLend
  cases ilt (N.sAt s a.name) 0<;>rfl
 | false =>
 cases Int.tmod a.op 10==6 with
 | true =>
  show (N.sBack s a.name a.id).1.bytes=s.bytes
  unfold N.sBack
  cases ilt (N.sAt s a.name) 0<;>rfl
 | false =>
 cases Int.tmod a.op 10==7 with
 | true =>
  show (N.sRemove s a.name a.id).1.bytes=s.bytes
  unfold N.sRemove
  cases ilt (N.sAt s a.name) 0<;>rfl
 | false =>
 cases Int.tmod a.op 10==8 with
 | true =>
  show (N.sRaise s a.place a.mail).1.bytes=s.bytes
  unfold N.sRaise
  cases ilt a.place 0<;>cases ile 16 a.place<;>cases (N.risePut (N.riseK s a.place) a.mail).2 != 0<;>cases ilt s.bytes (N.sSize s-N.riseSize (N.riseK s a.place).kept+N.riseSize (N.risePut (N.riseK s a.place) a.mail).1.kept)<;>rfl
 | false =>
 cases Int.tmod a.op 10==9 with
 | true=>rfl
 | false =>
  show (N.sPut s a.name a.mail).1.bytes=s.bytes
  rcases (put_ok h a.name h1 h2).ends with ⟨e,h4,_⟩ | ⟨_,_,_,_,out,l,h4,_⟩<;>rw [h4]
theorem done_next (s q:HStock) (a:HSAct) (hp:ilt (Int.tmod a.op 10) 3=false) (h0:ilt (Int.tmod a.op 10) 10=true):(N.done21 s q a).1.next=s.next:=by
 have hp:=ilt_nof hp
 have h0:=ilt_of h0
 unfold N.done21
 cases h3:Int.tmod a.op 10==3 with
 | true =>
  show (N.sMake s a.q).1.next=s.next
  unfold N.sMake
  cases N.qCheck a.q != 0<;>cases ile 0 (N.sAt s a.q.name)<;>cases N.eqQ (N.rowK s (N.sAt s a.q.name)).q a.q<;>cases ile 8 (s.rows.length:Int)<;>rfl
 | false =>
 cases h4:Int.tmod a.op 10==4 with
 | true =>
  show (N.sDrop s a.name).1.next=s.next
  unfold N.sDrop
  cases ilt (N.sAt s a.name) 0<;>rfl
 | false =>
 cases h5:Int.tmod a.op 10==5 with
 | true =>
  show (N.sLend s a.name).1.next=s.next
  unfold N.sLend
  cases ilt (N.sAt s a.name) 0<;>rfl
 | false =>
 cases h6:Int.tmod a.op 10==6 with
 | true =>
  show (N.sBack s a.name a.id).1.next=s.next
  unfold N.sBack
  cases ilt (N.sAt s a.name) 0<;>rfl
 | false =>
 cases h7:Int.tmod a.op 10==7 with
 | true =>
  show (N.sRemove s a.name a.id).1.next=s.next
  unfold N.sRemove
  cases ilt (N.sAt s a.name) 0<;>rfl
 | false =>
 cases h8:Int.tmod a.op 10==8 with
 | true =>
  show (N.sRaise s a.place a.mail).1.next=s.next
  unfold N.sRaise
  cases ilt a.place 0<;>cases ile 16 a.place<;>cases (N.risePut (N.riseK s a.place) a.mail).2 != 0<;>cases ilt s.bytes (N.sSize s-N.riseSize (N.riseK s a.place).kept+N.riseSize (N.risePut (N.riseK s a.place) a.mail).1.kept)<;>rfl
 | false =>
 cases h9:Int.tmod a.op 10==9 with
 | true=>rfl
 | false =>
  simp only [beq_eq_false_iff_ne,ne_eq] at h3 h4 h5 h6 h7 h8 h9
  omega
theorem new_inv (base bytes:Int) (h0:0≤base) (h1:base<18446744073709551616) (h2:bytes≤9223372036854775807):SInv (N.sNew base bytes):=by
 have hb:0≤cond (ilt 0 bytes) bytes 0∧cond (ilt 0 bytes) bytes 0≤9223372036854775807:=by
  cases hc:ilt 0 bytes with
  | true=>have:=ilt_of hc; exact ⟨by show 0≤bytes; omega,h2⟩
  | false=>exact ⟨Int.le_refl 0,show (0:Int)≤9223372036854775807 by omega⟩
 exact { next0:=h0,next1:=h1,bytes0:=hb.1,bytes1:=hb.2,few:=Nat.zero_le 8,row:=fun x hx=>(List.not_mem_nil hx).elim,names:=List.nodup_nil,rise:=rfl,size:=hb.1 }
end Go.Ev

/- The statements' own example of stocks: lemmas; the function that writes numbers is a premise. -/
namespace Go.Ev
open Go Go.Proofs
set_option maxRecDepth 100000
-- FOLD2
noncomputable def eAw18x:Env:=env Tryz.prog [(109,dTrue)] [] []
theorem q_aw18x  : evFn eAw18x 36 [] [] some =
 some {v:=V.bool true,bx:=[]:DRes}:=by kernel_rfl
theorem ok_aw18x (hN:FnOk Tryz.prog 95 dOutNum):FnOk Tryz.prog 36 dTrue :=
 den_okF (env_ok ((TOk.nil _).cons (ok_aw18 hN))) (E:=eAw18x) Tryz.func36 [] (by kernel_rfl) none0 fun _ _ _=>q_aw18x
noncomputable def eAw20x:Env:=env Tryz.prog [(110,dTrue)] [] []
theorem q_aw20x  : evFn eAw20x 37 [] [] some =
 some {v:=V.bool true,bx:=[]:DRes}:=by kernel_rfl
theorem ok_aw20x (hN:FnOk Tryz.prog 95 dOutNum):FnOk Tryz.prog 37 dTrue :=
 den_okF (env_ok ((TOk.nil _).cons (ok_aw20 hN))) (E:=eAw20x) Tryz.func37 [] (by kernel_rfl) none0 fun _ _ _=>q_aw20x
noncomputable def eAw21:Env:=env Tryz.prog [(10,dSNew),(11,dSMake),(13,dSPut),(35,dTrue),(36,dTrue),(37,dTrue)] [] []
theorem q_aw21  : evFn eAw21 8 [] [] some =
 some {v:=V.bool true,bx:=[]:DRes}:=by kernel_rfl
theorem ok_aw21 (hN:FnOk Tryz.prog 95 dOutNum):FnOk Tryz.prog 8 dTrue :=
 den_okF (env_ok (((((((TOk.nil _).cons (ok_aw20x hN)).cons (ok_aw18x hN)).cons ok_aw4').cons (ok_sPut hN)).cons ok_sMake).cons ok_sNew)) (E:=eAw21) Tryz.func8 [] (by kernel_rfl) none0 fun _ _ _=>q_aw21
end Go.Ev

/- Whatever is asked of a stock,no more is kept than may be: lemmas; the function that writes numbers is a premise. -/
namespace Go.Ev
open Go Go.Proofs
set_option maxRecDepth 100000
-- FOLD2
def stockZ:HStock:={ next:=0,bytes:=0,rows:=List.map cRow.dec [],rises:=⟨⟨0,List.map cMail.dec []⟩,⟨0,List.map cMail.dec []⟩,⟨0,List.map cMail.dec []⟩,⟨0,List.map cMail.dec []⟩,⟨0,List.map cMail.dec []⟩,⟨0,List.map cMail.dec []⟩,⟨0,List.map cMail.dec []⟩,⟨0,List.map cMail.dec []⟩,⟨0,List.map cMail.dec []⟩,⟨0,List.map cMail.dec []⟩,⟨0,List.map cMail.dec []⟩,⟨0,List.map cMail.dec []⟩,⟨0,List.map cMail.dec []⟩,⟨0,List.map cMail.dec []⟩,⟨0,List.map cMail.dec []⟩,⟨0,List.map cMail.dec []⟩⟩ }
theorem stockZ_eq:stockZ=stock0:=rfl
def mailAt (c:List V) (j:Nat):HMail:=⟨(c.getD (j+0) .undef).toInt,(c.getD (j+1) .undef).toStr,(c.getD (j+2) .undef).toStr,rowsP (c.getD (j+3) .undef).toRows,(c.getD (j+4) .undef).toStr,(c.getD (j+5) .undef).toInt,(c.getD (j+6) .undef).toInt⟩
theorem mailAt_SA (r:List V):mailAt r 6=(cSAct.dec r).mail:=rfl
def N.linesOk (s:HStock):List HQueue→Bool
 | []=>true
 | q::r=>cond (ile ((N.sLine s q.name).length:Int) q.most) (N.linesOk s r) false
structure HSta where
 s:HStock
 last:Int
 any:Bool
structure HInv (base bytes:Int) (a:HSta):Prop where
 inv:SInv a.s
 bytes:a.s.bytes=cond (ilt 0 bytes) bytes 0
 next:a.s.next=cond a.any (IntKind.wrap .u64 (a.last+1)) base
open Classical in
noncomputable def goodHoldC (base bytes last:Int) (any:Bool) (c:List V):Bool:=decide (∃ a:HSta,HInv base bytes a∧a.last=last∧a.any=any∧cStock.enc a.s=etaRow xsStock 0 c)
open Classical in
theorem goodHoldC_of {base bytes last:Int} {any:Bool} {c:List V} (h:goodHoldC base bytes last any c=true):∃ a:HSta,HInv base bytes a∧a.last=last∧a.any=any∧cStock.enc a.s=etaRow xsStock 0 c:=of_decide_eq_true h
open Classical in
theorem goodHoldC_t {base bytes:Int} {a:HSta} (h:HInv base bytes a):goodHoldC base bytes a.last a.any (cStock.enc a.s)=true:=decide_eq_true ⟨a,h,rfl,rfl,rfl⟩
theorem rows_decS (c:List V):List.map cRow.dec (V.toRows (List.getD c 2 V.undef))=(cStock.dec c).rows:=rfl
theorem line_le100 {s:HStock} (h:goodRows s=true) (n:Bytes):(N.sLine s n).length≤100:=by
 obtain ⟨_,h2⟩:=bcond h
 unfold N.sLine
 cases h1:ilt (N.sAt s n) 0 with
 | true=>exact Nat.zero_le _
 | false =>
  obtain ⟨g1,g2,g3,g4⟩:=sAt_lt (nlt_ge h1)
  exact (goodLine_of (rowK_good h2 g4)).1
theorem at_row {s:HStock} (h:(s.rows.map fun x=>x.q.name).Nodup) {x:HRow} (hx:x∈s.rows):0≤N.sAt s x.q.name∧N.rowK s (N.sAt s x.q.name)=x:=by
 rcases ixG_spec (N.isRow x.q.name) s.rows 0 with ⟨_,h2⟩ | ⟨a,y,b,h1,h2,h3,h4,_⟩
 ·rw [List.any_eq_true.2 ⟨x,hx,show (x.q.name==x.q.name)=true from beq_self_eq_true _⟩] at h2; cases h2
 ·have h2:N.sAt s x.q.name=0+(a.length:Int):=h2
  have hy:y.q.name=x.q.name:=by simpa [N.isRow] using h3
  refine ⟨by omega,?_⟩
  unfold N.rowK
  rw [h2,show (0+(a.length:Int)).toNat=a.length from by omega,h1,List.getD_eq_getElem?_getD,List.getElem?_append_right (Nat.le_refl _),Nat.sub_self]
  show y=x
  rw [h1] at hx h
  rw [List.map_append,List.map_cons,List.nodup_append,List.nodup_cons] at h
  rcases List.mem_append.1 hx with hx | hx
  ·have:=List.any_eq_false.1 h4 x hx
   exact (this (show (x.q.name==x.q.name)=true from beq_self_eq_true _)).elim
  ·rcases List.mem_cons.1 hx with hx | hx
   ·exact hx.symm
   ·exact (h.2.1.1 (List.mem_map.2 ⟨x,hx,hy.symm⟩)).elim
theorem line_row {s:HStock} (h:(s.rows.map fun x=>x.q.name).Nodup) {x:HRow} (hx:x∈s.rows):N.sLine s x.q.name=x.line:=by
 obtain ⟨h1,h2⟩:=at_row h hx
 unfold N.sLine
 rw [ilt_f h1,h2]; rfl
theorem linesOk_true {s:HStock} (h:SInv s):N.linesOk s (s.rows.map HRow.q)=true:=by
 have:∀ l:List HRow,(∀ x∈l,x∈s.rows)→N.linesOk s (l.map HRow.q)=true:=fun l=>by
  induction l with
  | nil=>exact fun _=>rfl
  | cons x r ih =>
   intro hl
   have hx:=hl x (List.mem_cons_self ..)
   have hm:=(h.row x hx).most
   show cond (ile ((N.sLine s x.q.name).length:Int) x.q.most) _ _=true
   rw [line_row h.names hx,ile_t hm]
   exact ih fun y hy=>hl y (List.mem_cons_of_mem _ hy)
 exact this s.rows fun _ hx=>hx
def goodActW (a:HSAct):Bool:=cond (N.fineM a.mail) (N.u64 a.q.life) false
theorem lightSA_small {a:HSAct} (h:N.lightSA a=true):smallM a.mail=true:=by
 unfold N.lightSA at h
 cases hc:ilt 40 (N.max3 a.name.length a.q.name.length a.q.dead.length) with
 | true=>rw [hc] at h; cases h
 | false =>
  rw [hc] at h
  obtain ⟨_,h1⟩:=bcond (show N.lightM a.mail=true from h)
  obtain ⟨_,h1⟩:=bcond h1
  obtain ⟨h1,_⟩:=bcond h1
  exact ble_t (Nat.le_trans (light_small h1) (by decide))
theorem acts_good:∀ {l:List HSAct},N.lightSAs l=true→l.all goodActW=true→l.all goodAct=true
 | [],_,_=>rfl
 | a::r,h,hw=>by
  obtain ⟨h1,h2⟩:=bcond h
  rw [List.all_cons,Bool.and_eq_true] at hw
  obtain ⟨h3,h4⟩:=bcond hw.1
  rw [List.all_cons,acts_good h2 hw.2]
  show (cond (cond (N.fineM a.mail) (smallM a.mail) false) (N.u64 a.q.life) false && true)=true
  rw [h3,h4,lightSA_small h1]; rfl
theorem sact_wf {a:HSAct} (h:wfL (cSAct.enc a)=true):goodActW a=true:=by
 have h:cond (wfV (.int .u8 a.op)) (cond (wfV (.str a.name)) (cond (wfV (.str a.q.name)) (cond (wfV (.int .u64 a.q.most)) (cond (wfV (.int .u64 a.q.life)) (cond (wfV (.str a.q.dead)) (wfL (cMail.enc a.mail++[.int .u64 a.id,.int .i64 a.place])) false) false) false) false) false) false=true:=h
 obtain ⟨_,h⟩:=bcond h
 obtain ⟨_,h⟩:=bcond h
 obtain ⟨_,h⟩:=bcond h
 obtain ⟨_,h⟩:=bcond h
 obtain ⟨hl,h⟩:=bcond h
 obtain ⟨_,h⟩:=bcond h
 rw [wfL_append] at h
 have hm:=mail_wf (bcond h).1
 obtain ⟨l1,l2⟩:=int_wf hl
 have e1:IntKind.u64.min=0:=rfl
 have e2:IntKind.u64.max=18446744073709551615:=rfl
 show cond (N.fineM a.mail) (cond (ile 0 a.q.life) (ilt a.q.life 18446744073709551616) false) false=true
 rw [show N.fineM a.mail=true from hm,ile_t (by omega),ilt_t (by omega)]; rfl
theorem sacts_wfR:∀ l:List HSAct,wfRs (l.map cSAct.enc)=true→l.all goodActW=true
 | [],_=>rfl
 | m::r,h=>by
  have h:cond (wfL (cSAct.enc m)) (wfRs (r.map cSAct.enc)) false=true:=h
  obtain ⟨h1,h2⟩:=bcond h
  rw [List.all_cons,sacts_wfR r h2,sact_wf h1]; rfl
theorem sacts_wf {l:List HSAct} (h:wfL ((rSl cSAct).enc l)=true):l.all goodActW=true:=by
 have h:cond (cond (Nat.ble (l.map cSAct.enc).length 9223372036854775807) (cond (fitsRows cSAct.sh (l.map cSAct.enc)) (wfRs (l.map cSAct.enc)) false) false) true false=true:=h
 exact sacts_wfR l (bcond (bcond (bcond h).1).2).2
def dSHolds:Den:=den (aCons (vInt .u64) (aCons (vInt .i64) (aOne (vSl cSAct)))) bNil (oV vBool) (fun a _=>cond (cond (ile 0 a.1) (ilt a.1 18446744073709551616) false) (cond (ile a.2.1 9223372036854775807) (cond (Nat.ble a.2.2.length 9223372036854775807) (a.2.2.all goodActW) false) false) false) fun _ _=>(true,())
theorem stock0_good:goodNF stock0=true:=rfl
theorem hold_facts {t:HStock} {b:Int} (h:SInv t) (hb:t.bytes=cond (ilt 0 b) b 0):goodB t=true∧ilt (N.sRoom t) 0=false∧goodS t=true ∧
  (IntKind.wrap .i64 (N.sSize t+N.sRoom t) != cond (ilt 0 b) b 0)=false∧Nat.ble t.rows.length 100=true∧ilt 8 (t.rows.length:Int)=false∧(Nat.ble t.rows.length 1000=true∧goodRows t=true)∧N.linesOk t (t.rows.map fun self=>self.q)=true:=by
 have h1:=h.few
 have h2:=h.size
 have h3:=h.bytes1
 have h4:=h.bytes0
 refine ⟨h.goodB,ilt_f (by unfold N.sRoom; omega),h.goodS,?_,ble_t (by omega),ilt_f (by omega),⟨ble_t (by omega),h.goodRows⟩,linesOk_true h⟩
 unfold N.sRoom
 rw [show N.sSize t+(t.bytes-N.sSize t)=t.bytes from by omega,wr_i64 (by omega) (by omega),hb]
 exact bne_self_eq_false _
theorem put_low {s t:HStock} {n:Bytes} {m out:HMail} {l:List HItem} {x:Int} (h:SInv s) (hn:s.next ≠ 0) (_he:N.sPut s n m=(t,x,out,0))
  (ho:(out=mail0∧l=(N.rowK s (N.sAt s n)).line∧(l.length:Int)<(N.rowK s (N.sAt s n)).q.most)∨((N.rowK s (N.sAt s n)).q.most≤(N.rowK s (N.sAt s n)).line.length∧∃ k,k<(N.rowK s (N.sAt s n)).line.length∧((N.rowK s (N.sAt s n)).line.getD k item0).lent=false∧(∀ j,j<k→((N.rowK s (N.sAt s n)).line.getD j item0).lent=true)∧out=((N.rowK s (N.sAt s n)).line.getD k item0).mail∧l=N.cutAt (N.rowK s (N.sAt s n)).line k)):out.id<s.next:=by
 have h0:=h.next0
 rcases ho with ⟨e,_⟩ | ⟨_,k,k1,_,_,e,_⟩
 ·rw [e]; show (0:Int)<s.next; omega
 ·rw [e]
  by_cases hk:(N.sAt s n).toNat<s.rows.length
  ·exact ((h.row _ (getD_mem row0 hk)).low.resolve_left hn) _ (getD_mem item0 k1)
  ·rw [show (N.rowK s (N.sAt s n))=row0 from by unfold N.rowK; rw [List.getD_eq_getElem?_getD,List.getElem?_eq_none (by omega)]; rfl] at k1
   exact (Nat.not_lt_zero _ k1).elim
theorem sHolds_wf {b n:Int} {l:List HSAct} (h0:wfL ((rInt .u64).enc b)=true) (h1:wfL ((rInt .i64).enc n)=true) (h2:wfL ((rSl cSAct).enc l)=true):cond (cond (ile 0 b) (ilt b 18446744073709551616) false) (cond (ile n 9223372036854775807) (cond (Nat.ble l.length 9223372036854775807) (l.all goodActW) false) false) false=true:=by
 obtain ⟨a1,a2⟩:=bcond (u64_wf h0)
 have h1:cond (wfV (.int .i64 n)) true false=true:=h1
 obtain ⟨_,b2⟩:=int_wf (bcond h1).1
 have e1:IntKind.i64.max=9223372036854775807:=rfl
 have a2:=ile_of a2
 rw [a1,ilt_t (by omega),ile_t (by omega),len_wf h2,sacts_wf h2]; rfl
def schSHolds8:SSch:={ fr:=[(0,.int .u64),(1,.int .i64),(7,.ptr 10000 0 0),(8,.int .u64),(9,.bool),(26,.slc [.int .u8,.str,.str,.int .u64,.int .u64,.str,.int .u64,.str,.str,.slc [.str,.int .u8,.int .i64,.str],.str,.int .u64,.int .u8,.int .u64,.int .i64]),(27,.int .i64),(28,.int .i64)],tab:=[(10000,.row [] xsStock)] }
noncomputable def gSHolds8:List Leaf→(Ex→St→Option R)→Option R
 | [.i i0,.i i1,.i i8,.b b9,.r r26,.i i27,.i i28,.c cx0],K=>cond (i27==r26.length) (cond (i28==0) (cond (Nat.ble r26.length 60) (cond (goodHoldC i0 i1 i8 b9 cx0) (cond ((r26.map cSAct.dec).all goodAct) (K (.exit 0) { fr:=[],tab:=[] }) none) none) none) none) none
 | _,_=>none
def schSHolds21:SSch:={ fr:=[(0,.int .u64),(1,.int .i64),(7,.ptr 10000 0 0),(8,.int .u64),(9,.bool),(26,.slc [.int .u8,.str,.str,.int .u64,.int .u64,.str,.int .u64,.str,.str,.slc [.str,.int .u8,.int .i64,.str],.str,.int .u64,.int .u8,.int .u64,.int .i64]),(27,.int .i64),(28,.int .i64),(105,.slc [.str,.int .u64,.int .u64,.str]),(106,.int .i64),(107,.int .i64)],tab:=[(10000,.row [] xsStock)] }
def gSHolds21:List Leaf→(Ex→St→Option R)→Option R
 | [.i i0,.i i1,.i i8,.b b9,.r r26,.i i27,.i i28,.r r105,.i i106,.i i107,.c cx0],K=>cond (i106==r105.length) (cond (i107==0) (cond (Nat.ble r105.length 1000) (cond (goodRows (cStock.dec cx0)) (cond (N.linesOk (cStock.dec cx0) (r105.map cQueue.dec)) (K (.exit 2) { fr:=[(0,.int .u64 i0),(1,.int .i64 i1),(7,.ptr 10000 0 0 0),(8,.int .u64 i8),(9,.bool b9),(26,.slc [.int .u8,.str,.str,.int .u64,.int .u64,.str,.int .u64,.str,.str,.slc [.str,.int .u8,.int .i64,.str],.str,.int .u64,.int .u8,.int .u64,.int .i64] r26),(27,.int .i64 i27),(28,.int .i64 i28)],tab:=[(10000,.var (etaRow xsStock 0 cx0))] }) (K .ret { fr:=[(6,.bool false)],tab:=[] })) none) none) none) none
 | _,_=>none
noncomputable def eSHolds:Env:=env Tryz.prog [(8,dTrue),(18,dLight21),(10,dSNew),(13,dSPut),(19,dDone21),(20,dSRoom),(21,dSSize),(22,dSQueues),(14,dSLine),(15,dLLen)] [(21,loopF schSHolds21 gSHolds21),(8,loopF schSHolds8 gSHolds8)] [(8,[(0,[0,1,7,8,9,26,27,28]),(1,[]),(1000,[6])]),(21,[(0,[0,1,7,8,9,26,27,28,105,106,107]),(3,[0,1,7,8,9,26,27,28]),(1000,[6])])]
theorem q_sHolds (base bytes:Int) (l:List HSAct):evFn eSHolds 4 ((aCons (vInt .u64) (aCons (vInt .i64) (aOne (vSl cSAct)))).enc (base,bytes,l)) ([]) some =
 cond (Nat.ble (List.length (List.map (RCod.dec cSAct) (List.map (RCod.enc cSAct) l))) 9223372036854775807) (cond (!bif N.lightSAs (List.map (RCod.dec cSAct) (List.map (RCod.enc cSAct) l)) then ile (↑(List.length (List.map (RCod.dec cSAct) (List.map (RCod.enc cSAct) l))):Int) (60:Int) else false) (some {v:=V.bool true,bx:=[]:DRes}) (cond ((↑(List.length (List.map (RCod.enc cSAct) l)):Int)==(↑(List.length (List.map (RCod.enc cSAct) l)):Int)) (cond (Nat.ble (List.length (List.map (RCod.enc cSAct) l)) 60) (cond (goodHoldC base bytes (0:Int) false (RCod.enc cStock (N.sNew base bytes))) (cond (List.all (List.map (RCod.dec cSAct) (List.map (RCod.enc cSAct) l)) goodAct) (some {v:=V.bool true,bx:=[]:DRes}) (none)) (none)) (none)) (none))) (none):=by kernel_rfl
theorem q_sHoldsR8_ (i0:Int) (i1:Int) (i8:Int) (b9:Bool) (r26:List (List V)) (i27:Int) (i28:Int) (cx0:List V) (K:Ex→St→Option R):evRound eSHolds 4 8 { fr:=[(0,.int .u64 i0),(1,.int .i64 i1),(7,.ptr 10000 0 0 0),(8,.int .u64 i8),(9,.bool b9),(26,.slc [.int .u8,.str,.str,.int .u64,.int .u64,.str,.int .u64,.str,.str,.slc [.str,.int .u8,.int .i64,.str],.str,.int .u64,.int .u8,.int .u64,.int .i64] r26),(27,.int .i64 i27),(28,.int .i64 i28)],tab:=[(10000,.var (etaRow xsStock 0 cx0))] } K =(
 let z8:=(List.getD r26 (Int.toNat i28) []);let z15:=(N.sPut (RCod.dec cStock cx0) (V.toStr (List.getD z8 1 V.undef)) (mailAt z8 6));let z1:=(Prod.snd z15);let z9:=(Prod.fst z15);let z11:=(RCod.dec cStock (RCod.enc cStock z9));let z4:=(K Ex.ret {fr:=[(6,V.bool false)],tab:=[]:St});let z14:=(IntKind.wrap .i64 (N.sSize z11+N.sRoom z11) != bif ilt (0:Int) i1 then i1 else (0:Int));let z18:=(List.map (RCod.dec cRow) (List.map (RCod.enc cRow) (HStock.rows z9)));let z12:=(Nat.ble (List.length z18) 100);let z10:=(List.map (RCod.enc cQueue) (List.map (fun self=>self.1) z18));let z13:=(↑(List.length z10):Int);let z16:=(IntKind.wrap .i64 (i28+(1:Int)));let z0:=(cond (Prod.snd (Prod.snd z1)==(0:Int)) (cond (goodB z11) (cond (ilt (N.sRoom z11) (0:Int)) z4 (cond (goodS z11) (cond (goodB z11) (cond z14 z4 (cond z12 (cond (ilt (8:Int) z13) z4 (cond z12 (cond (z13==z13) (cond (Nat.ble (List.length z10) 1000) (cond (goodRows z11) (cond (N.linesOk z11 (List.map (RCod.dec cQueue) z10)) (K Ex.normal {fr:=[(0,V.int .u64 i0),(1,V.int .i64 i1),(7,V.ptr 10000 0 0 0),(8,V.int .u64 (Prod.fst z1)),(9,V.bool true),(26,V.slc [.int .u8,.str,.str,.int .u64,.int .u64,.str,.int .u64,.str,.str,.slc [.str,.int .u8,.int .i64,.str],.str,.int .u64,.int .u8,.int .u64,.int .i64] r26),(27,V.int .i64 i27),(28,V.int .i64 z16)],tab:=[(10000,Box.var (RCod.enc cStock z9))]:St}) z4) (none)) (none)) (none)) (none))) (none))) (none)) (none))) (none)) (cond (goodB z11) (cond (ilt (N.sRoom z11) (0:Int)) z4 (cond (goodS z11) (cond (goodB z11) (cond z14 z4 (cond z12 (cond (ilt (8:Int) z13) z4 (cond z12 (cond (z13==z13) (cond (Nat.ble (List.length z10) 1000) (cond (goodRows z11) (cond (N.linesOk z11 (List.map (RCod.dec cQueue) z10)) (K Ex.normal {fr:=[(0,V.int .u64 i0),(1,V.int .i64 i1),(7,V.ptr 10000 0 0 0),(8,V.int .u64 i8),(9,V.bool b9),(26,V.slc [.int .u8,.str,.str,.int .u64,.int .u64,.str,.int .u64,.str,.str,.slc [.str,.int .u8,.int .i64,.str],.str,.int .u64,.int .u8,.int .u64,.int .i64] r26),(27,V.int .i64 i27),(28,V.int .i64 z16)],tab:=[(10000,Box.var (RCod.enc cStock z9))]:St}) z4) (none)) (none)) (none)) (none))) (none))) (none)) (none))) (none)));let z2:=(Prod.fst (N.done21 (RCod.dec cStock cx0) stockZ (RCod.dec cSAct z8)));let z17:=(List.map (RCod.dec cRow) (List.map (RCod.enc cRow) (HStock.rows z2)));let z3:=(List.map (RCod.enc cQueue) (List.map (fun self=>self.1) z17));let z5:=(RCod.dec cStock (RCod.enc cStock z2));let z6:=(cond (ile (Prod.fst z1) (HMail.id (Prod.fst (Prod.snd z1)))) z4 z0);let z7:=(Nat.ble (List.length z17) 100);cond (ilt i28 i27) (cond (decide ((0:Int)≤i28∧i28<(↑(List.length r26):Int))) (cond (ilt (Int.tmod (V.toInt (List.getD z8 0 V.undef)) (10:Int)) (3:Int)) (cond (bif goodN (RCod.dec cStock cx0) then bif N.okM (mailAt z8 6) then smallM (mailAt z8 6) else false else false) (cond (Prod.snd (Prod.snd z1)==(0:Int)) (cond (b9) (cond (Prod.fst z1 != IntKind.wrap .u64 (i8+(1:Int))) z4 (cond (!b9) (cond (Prod.fst z1 != i0) z4 z6) z6)) (cond (!b9) (cond (Prod.fst z1 != i0) z4 z6) z6)) z0) (none)) (cond (bif goodN (RCod.dec cStock cx0) then bif goodNF stockZ then goodSA (RCod.dec cSAct z8) else false else false) (cond (goodB z5) (cond (ilt (N.sRoom z5) (0:Int)) z4 (cond (goodS z5) (cond (goodB z5) (cond (IntKind.wrap .i64 (N.sSize z5+N.sRoom z5) != bif ilt (0:Int) i1 then i1 else (0:Int)) z4 (cond z7 (cond (ilt (8:Int) (↑(List.length z3):Int)) z4 (cond z7 (cond ((↑(List.length z3):Int)==(↑(List.length z3):Int)) (cond (Nat.ble (List.length z3) 1000) (cond (goodRows z5) (cond (N.linesOk z5 (List.map (RCod.dec cQueue) z3)) (K Ex.normal {fr:=[(0,V.int .u64 i0),(1,V.int .i64 i1),(7,V.ptr 10000 0 0 0),(8,V.int .u64 i8),(9,V.bool b9),(26,V.slc [.int .u8,.str,.str,.int .u64,.int .u64,.str,.int .u64,.str,.str,.slc [.str,.int .u8,.int .i64,.str],.str,.int .u64,.int .u8,.int .u64,.int .i64] r26),(27,V.int .i64 i27),(28,V.int .i64 z16)],tab:=[(10000,Box.var (RCod.enc cStock z2))]:St}) z4) (none)) (none)) (none)) (none))) (none))) (none)) (none))) (none)) (none))) (none)) (K (Ex.exit 0) {fr:=[],tab:=[]:St})):=by kernel_rfl
theorem q_sHoldsR8 (i0:Int) (i1:Int) (i8:Int) (b9:Bool) (r26:List (List V)) (i27:Int) (i28:Int) (cx0:List V) (K:Ex→St→Option R):type_of% (by have h:=q_sHoldsR8_ i0 i1 i8 b9 r26 i27 i28 cx0 K; dsimp only at h; exact h):=by
 have h:=q_sHoldsR8_ i0 i1 i8 b9 r26 i27 i28 cx0 K
 dsimp only at h
 exact h
theorem q_sHoldsR21 (i0:Int) (i1:Int) (i8:Int) (b9:Bool) (r26:List (List V)) (i27:Int) (i28:Int) (r105:List (List V)) (i106:Int) (i107:Int) (cx0:List V) (K:Ex→St→Option R):evRound eSHolds 4 21 { fr:=[(0,.int .u64 i0),(1,.int .i64 i1),(7,.ptr 10000 0 0 0),(8,.int .u64 i8),(9,.bool b9),(26,.slc [.int .u8,.str,.str,.int .u64,.int .u64,.str,.int .u64,.str,.str,.slc [.str,.int .u8,.int .i64,.str],.str,.int .u64,.int .u8,.int .u64,.int .i64] r26),(27,.int .i64 i27),(28,.int .i64 i28),(105,.slc [.str,.int .u64,.int .u64,.str] r105),(106,.int .i64 i106),(107,.int .i64 i107)],tab:=[(10000,.var (etaRow xsStock 0 cx0))] } K =
 cond (ilt i107 i106) (cond (decide ((0:Int)≤i107∧i107<(↑(List.length r105):Int))) (cond (Nat.ble (List.length (List.map (RCod.dec cRow) (V.toRows (List.getD cx0 2 .undef)))) 100) (cond (ilt (V.toInt (List.getD (List.getD r105 (Int.toNat i107) []) 1 V.undef)) (IntKind.wrap .u64 (↑(List.length (List.map (RCod.dec cItem) (List.map (RCod.enc cItem) (N.sLine (RCod.dec cStock cx0) (V.toStr (List.getD (List.getD r105 (Int.toNat i107) []) 0 V.undef)))))):Int))) (K Ex.ret {fr:=[(6,V.bool false)],tab:=[]:St}) (K Ex.normal {fr:=[(0,V.int .u64 i0),(1,V.int .i64 i1),(7,V.ptr 10000 0 0 0),(8,V.int .u64 i8),(9,V.bool b9),(26,V.slc [.int .u8,.str,.str,.int .u64,.int .u64,.str,.int .u64,.str,.str,.slc [.str,.int .u8,.int .i64,.str],.str,.int .u64,.int .u8,.int .u64,.int .i64] r26),(27,V.int .i64 i27),(28,V.int .i64 i28),(105,V.slc [.str,.int .u64,.int .u64,.str] r105),(106,V.int .i64 i106),(107,V.int .i64 (IntKind.wrap .i64 (i107+(1:Int))))],tab:=[(10000,Box.var (etaRow xsStock 0 cx0))]:St})) (none)) (none)) (K (Ex.exit 2) {fr:=[(0,V.int .u64 i0),(1,V.int .i64 i1),(7,V.ptr 10000 0 0 0),(8,V.int .u64 i8),(9,V.bool b9),(26,V.slc [.int .u8,.str,.str,.int .u64,.int .u64,.str,.int .u64,.str,.str,.slc [.str,.int .u8,.int .i64,.str],.str,.int .u64,.int .u8,.int .u64,.int .i64] r26),(27,V.int .i64 i27),(28,V.int .i64 i28)],tab:=[(10000,Box.var (etaRow xsStock 0 cx0))]:St}):=by kernel_rfl
theorem ok_sHolds_8:RoundsOk eSHolds 4 8:=by
 refine rounds_of rfl fun l K q h=>?_
 unfold gSHolds8 at h
 split at h
 ·rename_i i0 i1 i8 b9 r26 i27 i28 cx0
  have h1:=(cond_none h).1; replace h:=(cond_none h).2; have h2:=(cond_none h).1; replace h:=(cond_none h).2; have h3:=(cond_none h).1; replace h:=(cond_none h).2; have h4:=(cond_none h).1; replace h:=(cond_none h).2; have h5:=(cond_none h).1; replace h:=(cond_none h).2
  have e1:=ieq_of h1
  have e2:=ieq_of h2
  subst e1 e2
  have h3:r26.length≤60:=ble_of h3
  obtain ⟨a0,g1,g2,g3,g5⟩:=goodHoldC_of h4
  subst g2 g3
  show ∃ n,iterR eSHolds 4 8 n { fr:=[(0,.int .u64 i0),(1,.int .i64 i1),(7,.ptr 10000 0 0 0),(8,.int .u64 a0.last),(9,.bool a0.any),(26,.slc [.int .u8,.str,.str,.int .u64,.int .u64,.str,.int .u64,.str,.str,.slc [.str,.int .u8,.int .i64,.str],.str,.int .u64,.int .u8,.int .u64,.int .i64] r26),(27,.int .i64 r26.length),(28,.int .i64 0)],tab:=[(10000,.var (etaRow xsStock 0 cx0))] } K=some q
  rw [← g5]
  have main:=range_ind (E:=eSHolds) (f:=4) (id:=8) (A:=HSta) r26 (fun a i=>{ fr:=[(0,.int .u64 i0),(1,.int .i64 i1),(7,.ptr 10000 0 0 0),(8,.int .u64 a.last),(9,.bool a.any),(26,.slc [.int .u8,.str,.str,.int .u64,.int .u64,.str,.int .u64,.str,.str,.slc [.str,.int .u8,.int .i64,.str],.str,.int .u64,.int .u8,.int .u64,.int .i64] r26),(27,.int .i64 r26.length),(28,.int .i64 i)],tab:=[(10000,.var (etaRow xsStock 0 (cStock.enc a.s)))] }) (fun a _=>HInv i0 i1 a)
   (fun _ _ K=>K (.exit 0) { fr:=[],tab:=[] }) (fun a i ha hi=>?_) (fun a ha=>?_) a0 0 (Int.le_refl _) (by omega) g1 K q (by assumption)
  ·exact main
  ·have hq:=fun K=>q_sHoldsR8 i0 i1 a.last a.any r26 r26.length (i:Int) (cStock.enc a.s) K
   have t1:ilt (i:Int) r26.length=true:=ilt_t (by omega)
   have t2:decide ((0:Int)≤i∧(i:Int)<r26.length)=true:=decide_eq_true (by omega)
   have t3:IntKind.wrap .i64 ((i:Int)+1)=(i:Int)+1:=wr_i64 (by omega) (by omega)
   have hg:goodAct (cSAct.dec (r26.getD i []))=true:=all_get h5 hi
   obtain ⟨ha1,ha2,ha3⟩:=goodAct_of hg
   have n0:V.toInt (List.getD (List.getD r26 i []) 0 V.undef)=(cSAct.dec (r26.getD i [])).op:=rfl
   have n1:V.toStr (List.getD (List.getD r26 i []) 1 V.undef)=(cSAct.dec (r26.getD i [])).name:=rfl
   simp only [Int.toNat_natCast,mailAt_SA,n0,n1,cStock.de,dec_encs,List.length_map,stockZ_eq] at hq
   simp only [t1,t2,t3,ha.inv.goodN,stock0_good,(bcond hg).1,fine_ok ha1,ha2,cond_true] at hq
   cases hop:ilt (Int.tmod (cSAct.dec (r26.getD i [])).op 10) 3 with
   | true =>
    have hpo:=put_ok ha.inv (cSAct.dec (r26.getD i [])).name ha1 ha2
    rcases hpo.ends with ⟨e,he,hne⟩ | ⟨hn,hc,_,_,out,l,he,hout⟩
    ·obtain ⟨f1,f2,f3,f4,f5,f6,⟨f7,f9⟩,f8⟩:=hold_facts ha.inv ha.bytes
     simp only [hop,he,show (e==0)=false from beq_eq_false_iff_ne.2 hne,f1,f2,f3,f4,f5,f6,f7,f9,f8,beq_self_eq_true,cond_true,cond_false] at hq
     exact .inl ⟨a,ha,fun K=>by rw [hq]; rfl,fun K=>rfl⟩
    ·have hlow:=put_low ha.inv hn he hout
     have hinv:=hpo.inv
     rw [he] at hinv
     have hb:(N.sPut a.s (cSAct.dec (r26.getD i [])).name (cSAct.dec (r26.getD i [])).mail).1.bytes=cond (ilt 0 i1) i1 0:=by rw [he]; exact ha.bytes
     rw [he] at hb
     obtain ⟨f1,f2,f3,f4,f5,f6,⟨f7,f9⟩,f8⟩:=hold_facts hinv hb
     have hnx:=ha.next
     simp only [hop,he,f1,f2,f3,f4,f5,f6,f7,f9,f8,ile_f hlow,beq_self_eq_true,cond_true,cond_false] at hq
     refine .inl ⟨⟨_,a.s.next,true⟩,⟨hinv,hb,rfl⟩,fun K=>?_,fun K=>rfl⟩
     rw [hq]
     cases hany:a.any with
     | true =>
      rw [hany] at hnx
      rw [show (a.s.next != IntKind.wrap .u64 (a.last+1))=false from by rw [show a.s.next=IntKind.wrap .u64 (a.last+1) from hnx]; exact bne_self_eq_false _]
      try rfl
     | false =>
      rw [hany] at hnx
      rw [show (a.s.next != i0)=false from by rw [show a.s.next=i0 from hnx]; exact bne_self_eq_false _]
      try rfl
   | false =>
    have hinv:=done_inv ha.inv hg stock0
    have hb:=(done_bytes a.s stock0 _ ha.inv hg).trans ha.bytes
    have hnx:=(done_next a.s stock0 (cSAct.dec (r26.getD i [])) hop (ilt_t (Int.tmod_lt_of_pos _ (by decide)))).trans ha.next
    obtain ⟨f1,f2,f3,f4,f5,f6,⟨f7,f9⟩,f8⟩:=hold_facts hinv hb
    simp only [hop,f1,f2,f3,f4,f5,f6,f7,f9,f8,beq_self_eq_true,cond_true,cond_false] at hq
    exact .inl ⟨⟨_,a.last,a.any⟩,⟨hinv,hb,hnx⟩,fun K=>by rw [hq]; rfl,fun K=>rfl⟩
  ·refine ⟨.exit 0,{ fr:=[],tab:=[] },by simp,fun K=>?_,fun K=>rfl⟩
   rw [q_sHoldsR8,ilt_f (by omega)]
   try rfl
 ·cases h
theorem ok_sHolds_21:RoundsOk eSHolds 4 21:=by
 refine rounds_of rfl fun l K q h=>?_
 unfold gSHolds21 at h
 split at h
 ·rename_i i0 i1 i8 b9 r26 i27 i28 r105 i106 i107 cx0
  have h1:=(cond_none h).1; replace h:=(cond_none h).2; have h2:=(cond_none h).1; replace h:=(cond_none h).2; have h3:=(cond_none h).1; replace h:=(cond_none h).2; have h4:=(cond_none h).1; replace h:=(cond_none h).2
  have e1:=ieq_of h1
  have e2:=ieq_of h2
  subst e1 e2
  have h3:r105.length≤1000:=ble_of h3
  have main:=range_ind (E:=eSHolds) (f:=4) (id:=21) (A:=Unit) (r105) (fun a i=>{ fr:=[(0,.int .u64 i0),(1,.int .i64 i1),(7,.ptr 10000 0 0 0),(8,.int .u64 i8),(9,.bool b9),(26,.slc [.int .u8,.str,.str,.int .u64,.int .u64,.str,.int .u64,.str,.str,.slc [.str,.int .u8,.int .i64,.str],.str,.int .u64,.int .u8,.int .u64,.int .i64] r26),(27,.int .i64 i27),(28,.int .i64 i28),(105,.slc [.str,.int .u64,.int .u64,.str] r105),(106,.int .i64 r105.length),(107,.int .i64 i)],tab:=[(10000,.var (etaRow xsStock 0 cx0))] }) (fun a i=>True)
   (fun a rows K=>cond (N.linesOk (cStock.dec cx0) (rows.map cQueue.dec)) (K (.exit 2) { fr:=[(0,.int .u64 i0),(1,.int .i64 i1),(7,.ptr 10000 0 0 0),(8,.int .u64 i8),(9,.bool b9),(26,.slc [.int .u8,.str,.str,.int .u64,.int .u64,.str,.int .u64,.str,.str,.slc [.str,.int .u8,.int .i64,.str],.str,.int .u64,.int .u8,.int .u64,.int .i64] r26),(27,.int .i64 i27),(28,.int .i64 i28)],tab:=[(10000,.var (etaRow xsStock 0 cx0))] }) (K .ret { fr:=[(6,.bool false)],tab:=[] })) (fun a i ha hi=>?_) (fun a ha=>?_) (()) 0 (Int.le_refl _) (by omega) trivial K q (by assumption)
  ·exact main
  ·have hq:=fun K=>q_sHoldsR21 (i0) (i1) (i8) (b9) (r26) (i27) (i28) (r105) (r105.length) ((i:Int)) (cx0) K
   have t1:ilt (i:Int) r105.length=true:=ilt_t (by omega)
   have t2:decide ((0:Int)≤i∧(i:Int)<r105.length)=true:=decide_eq_true (by omega)
   have t3:IntKind.wrap .i64 ((i:Int)+1)=(i:Int)+1:=wr_i64 (by omega) (by omega)
   have h5:fewRows (cStock.dec cx0)=true:=(bcond h4).1
   have h6:Nat.ble (cStock.dec cx0).rows.length 100=true:=h5
   have w:=wr_u64 (n:=((N.sLine (cStock.dec cx0) (cQueue.dec (r105.getD i [])).name).length:Int)) (by omega) (by have:=line_le100 h4 (cQueue.dec (r105.getD i [])).name; omega)
   have n0:V.toStr (List.getD (List.getD r105 i []) 0 V.undef)=(cQueue.dec (r105.getD i [])).name:=rfl
   have n1:V.toInt (List.getD (List.getD r105 i []) 1 V.undef)=(cQueue.dec (r105.getD i [])).most:=rfl
   simp only [Int.toNat_natCast,dec_encs,n0,n1,rows_decS] at hq
   simp only [t1,t2,t3,cond_true,h6,w] at hq
   cases hc:ile ((N.sLine (cStock.dec cx0) (cQueue.dec (r105.getD i [])).name).length:Int) (cQueue.dec (r105.getD i [])).most with
   | true =>
    refine .inl ⟨(),trivial,fun K=>?_,fun K=>?_⟩
    ·rw [hq]
     show cond (!ile _ _) _ _=_
     rw [hc]; rfl
    ·show cond (cond (ile _ _) _ false) _ _=_
     rw [hc]; rfl
   | false =>
    refine .inr ⟨.ret,{ fr:=[(6,.bool false)],tab:=[] },by simp,fun K=>?_,fun K=>?_⟩
    ·rw [hq]
     show cond (!ile _ _) _ _=_
     rw [hc]; rfl
    ·show cond (cond (ile _ _) _ false) _ _=_
     rw [hc]; rfl
  ·refine ⟨.exit 2,{ fr:=[(0,.int .u64 i0),(1,.int .i64 i1),(7,.ptr 10000 0 0 0),(8,.int .u64 i8),(9,.bool b9),(26,.slc [.int .u8,.str,.str,.int .u64,.int .u64,.str,.int .u64,.str,.str,.slc [.str,.int .u8,.int .i64,.str],.str,.int .u64,.int .u8,.int .u64,.int .i64] r26),(27,.int .i64 i27),(28,.int .i64 i28)],tab:=[(10000,.var (etaRow xsStock 0 cx0))] },by simp,fun K=>?_,fun K=>rfl⟩
   rw [q_sHoldsR21,ilt_f (by omega)]
   try rfl
 ·cases h
theorem ok_sHolds (hN:FnOk Tryz.prog 95 dOutNum):FnOk Tryz.prog 4 dSHolds:=by
 refine den_okF (env_ok (((((((((((TOk.nil _).cons ok_lLen).cons ok_sLine).cons ok_sQueues).cons (ok_sSize hN)).cons (ok_sRoom hN)).cons (ok_lDone21 hN)).cons (ok_sPut hN)).cons ok_sNew).cons ok_sLight).cons (ok_aw21 hN))) (E:=eSHolds) Tryz.func4 [8,21] (by kernel_rfl) (two2 ok_sHolds_8 ok_sHolds_21) fun a b hp=>?_
 obtain ⟨base,bytes,l⟩:=a
 obtain ⟨hb,hp⟩:=bcond (show cond (cond (ile 0 base) (ilt base 18446744073709551616) false) (cond (ile bytes 9223372036854775807) (cond (Nat.ble l.length 9223372036854775807) (l.all goodActW) false) false) false=true from hp)
 obtain ⟨hb,hb2⟩:=bcond hb
 obtain ⟨hy,hp⟩:=bcond hp
 obtain ⟨hp,hl⟩:=bcond hp
 have hst:=goodHoldC_t (base:=base) (bytes:=bytes) (a:=⟨N.sNew base bytes,0,false⟩) ⟨new_inv base bytes (ile_of hb) (ilt_of hb2) (ile_of hy),rfl,rfl⟩
 have hst:goodHoldC base bytes 0 false (cStock.enc (N.sNew base bytes))=true:=hst
 refine (q_sHolds base bytes l).trans ?_
 simp only [dec_encs,List.length_map,hp,hst,beq_self_eq_true,cond_true]
 cases h5:N.lightSAs l with
 | false=>rfl
 | true =>
  cases h4:ile (l.length:Int) 60 with
  | false=>rfl
  | true =>
   rw [ble_t (show l.length≤60 by have:=ile_of h4; omega),acts_good h5 hl]
   try rfl
end Go.Ev

/- The library's text builder in this program,and the function that writes a number's bytes with it: lemmas,no condition but the text's length. -/
namespace Go.Ev
open Go Go.Proofs Go.RowKit Go.Shelf
theorem bSize:(Tryz.prog.info? 223).map (·.size)=some 2:=by kernel_rfl
theorem bLies:liesAt Tryz.prog Tryz.prog.depth 223 (2 / Tryz.prog.cellsOf 223) 0 223 1=true:=by kernel_rfl
theorem bByte:(Tryz.prog.info? 5).map (fun i=>(i.zero,i.size,i.bytes))=some (some (.int .u8 0),1,1):=by kernel_rfl
set_option maxHeartbeats 1000000 in
set_option maxRecDepth 100000 in
theorem cc_used (b : Nat) (w : World) (h0 : w.cell? ⟨b, 0, none⟩ = some (.pointer (some ⟨b, 0, none⟩))) :
    Calls Tryz.prog 190 #[.pointer (some ⟨b, 0, none⟩)] w fun e w' => e = .returned (.tuple #[]) ∧ w' = w := by
  obtain ⟨j, hj, _⟩ := Option.map_eq_some_iff.1 bSize
  go_enter Tryz.func190, Tryz.ntmps190
  go_wp2
  rw [Lib.run_neq_ptr_same w _ Tryz.underlying221 hj]
  go_wp2
  go_end0
  exact ⟨rfl, rfl⟩
set_option maxHeartbeats 1000000 in
set_option maxRecDepth 100000 in
theorem cc_fresh (b : Nat) (w : World) (h0 : w.cell? ⟨b, 0, none⟩ = some (.pointer none)) (hsh : w.shape? b = some (223, 2)) (hfz : w.frozen? ⟨b, 0, none⟩ = false) :
    Calls Tryz.prog 190 #[.pointer (some ⟨b, 0, none⟩)] w fun e w' => e = .returned (.tuple #[]) ∧ w' = w.setCell ⟨b, 0, none⟩ (.pointer (some ⟨b, 0, none⟩)) := by
  obtain ⟨j, hj, hjs⟩ := Option.map_eq_some_iff.1 bSize
  go_enter Tryz.func190, Tryz.ntmps190
  go_wp2
  rw [Lib.run_to_unsafe w ⟨b, 0, none⟩ Tryz.underlying221 Tryz.underlying256 hj (by rw [hjs]; decide) hsh (Nat.zero_lt_succ 1)]
  simp only [Result.andThen]
  rw [Oper.upon_value]
  go_wp2
  rw [run_callFunc_extern Tryz.func198 (by kernel_rfl) (by kernel_rfl) (by kernel_rfl) (e := Extern.AbiNoEscape.same) (by kernel_rfl)]
  rw [Lib.run_noEscape]
  simp only [Result.andThen]
  rw [Oper.upon_value]
  go_wp2
  rw [Lib.run_from_unsafe w ⟨b, 0, none⟩ Tryz.underlying256 Tryz.underlying221 hj hsh bLies]
  simp only [Result.andThen]
  rw [Oper.upon_value]
  go_wp2
  go_end0
  exact ⟨rfl, rfl⟩
theorem cc (B b:Nat) (bs:List Value) (w:World) (h:Lib.IsBuilder 223 5 B b bs w) :
  Calls Tryz.prog 190 #[.pointer (some ⟨b,0,none⟩)] w fun e w'=>e = .returned (.tuple #[])∧(Lib.BuilderAt 223 5 B b (.pointer (some ⟨b,0,none⟩)) bs w'∧Below B w w'):=by
 rcases h with h | h
 ·refine (cc_fresh b w h.cell0 h.shape h.frozen0).mono ?_
  rintro e w' ⟨rfl,rfl⟩
  exact ⟨rfl,h.used _,(Below.refl B w).setCell (p:=⟨b,0,none⟩) h.1 _⟩
 ·refine (cc_used b w h.cell0).mono ?_
  rintro e w' ⟨rfl,rfl⟩
  exact ⟨rfl,h,Below.refl B _⟩
set_option maxHeartbeats 2000000 in
set_option maxRecDepth 100000 in
theorem writeByte (B b : Nat) (bs : List Value) (c : Int) (w : World) (h : Lib.IsBuilder 223 5 B b bs w) (hlen : bs.length + 1 ≤ 140737488355328) (hBw : B ≤ w.heap.size) :
    Calls Tryz.prog 161 #[.pointer (some ⟨b, 0, none⟩), .int .u8 c] w fun e w' => e = .returned .nilIface ∧ (Lib.BuilderAt 223 5 B b (.pointer (some ⟨b, 0, none⟩)) (bs ++ [.int .u8 c]) w' ∧ Below B w w') := by
  obtain ⟨i0, hi, hz0, hz1, hz2⟩ := info_parts bByte
  go_enter Tryz.func161, Tryz.ntmps161
  go_wp2_with (go_at_call 190; refine (cc B b bs _ h).mono ?_)
  rintro e w1 ⟨rfl, h1, hb1⟩
  obtain ⟨hB, v, hbk, hown, hne⟩ := h1
  have c0 : w1.cell? ⟨b, 0, none⟩ = some (.pointer (some ⟨b, 0, none⟩)) := by rw [Lib.cell_of_heap hbk]; rfl
  have c1 : w1.cell? ⟨b, 1, none⟩ = some v := by rw [Lib.cell_of_heap hbk]; rfl
  go_wp2_with (at_builtin; refine wpList_append_own _ rfl _ _ 208 rfl B 5 i0 (.int .u8 0) 1 1 Tryz.underlying208 hi hz0 hz1 hz2 rfl (by decide) _ _ _ rfl (hown.alloc _) ⟨w1.heap.size, 0, none⟩ 1 1 [.int .u8 c] rfl rfl ?c1 ?c2 ?c3 ?c4 ?c5 ?_)
  case c1 =>
    intro j u hj
    match j, hj with
    | 0, hj => simp at hj; subst hj; simp [Addr.add]
  case c2 => intro u hu; simp at hu; subst hu; rfl
  case c3 => unfold maxLen; omega
  case c4 => omega
  case c5 => have := hb1.size; simp; omega
  intro v' w2 hown' hgrow _
  have hlt : b < w1.heap.size := by
    rcases Nat.lt_or_ge b w1.heap.size with h' | h'
    · exact h'
    · simp [Array.getElem?_eq_none h'] at hbk
  have hb2 : w2.heap[b]? = some (.cells #[.pointer (some ⟨b, 0, none⟩), v] 223 (0, 0)) := by
    rw [hgrow.block b (by simp; omega) (fun e => hne e.symm), Lib.alloc_old w1 _ b hlt]
    exact hbk
  have d0 : w2.cell? ⟨b, 0, none⟩ = some (.pointer (some ⟨b, 0, none⟩)) := by rw [Lib.cell_of_heap hb2]; rfl
  have d1 : w2.cell? ⟨b, 1, none⟩ = some v := by rw [Lib.cell_of_heap hb2]; rfl
  have f1 : w2.frozen? ⟨b, 1, none⟩ = false := Lib.frozen_of_heap hb2 1
  obtain ⟨g, cap, rfl⟩ : ∃ g cap, v' = .slice (some ⟨g, 0, none⟩) (bs.length + 1) cap := by
    rcases hown'.2 with ⟨_, h0⟩ | ⟨g, cap, cur, hv, _⟩
    · omega
    · exact ⟨g, cap, hv⟩
  go_wp2
  go_ret
  refine ⟨rfl, ?_, ?_⟩
  · exact Lib.BuilderAt.put (T := 223) (e := 5) hB hb2 (bs' := bs ++ [.int .u8 c]) (by simpa using hown') (by decide)
  · exact ((hb1.alloc (by have := hb1.size; omega) _).grown hgrow (by have := hb1.size; simp; omega) (fun k hk => (hown.lt k hk).1)).setCell (p := ⟨b, 1, none⟩) hB _
def lays169_ren:Go.Shelf.Ren:=⟨fun | 169=>162 | n=>n,fun | 70=>221 | 9=>9 | 0=>0 | 72=>223 | 37=>208 | 127=>249 | 3=>3 | 5=>5 | n=>n,fun | n=>n⟩
theorem lays169:Go.Proofs.Lays.n169 Tryz.prog lays169_ren:={
 mixed:=by kernel_rfl
 f169:=Tryz.func162.trans (congrArg some (by kernel_rfl))
 t0:=Tryz.underlying0
 a0:=Tryz.isAgg0
 z0:=Tryz.sizeOf0
 v0:=Tryz.zeroValue0
 t3:=Tryz.underlying3
 a3:=Tryz.isAgg3
 z3:=Tryz.sizeOf3
 v3:=Tryz.zeroValue3
 t9:=Tryz.underlying9
 a9:=Tryz.isAgg9
 z9:=Tryz.sizeOf9
 v9:=Tryz.zeroValue9
 t37:=Tryz.underlying208
 a37:=Tryz.isAgg208
 z37:=Tryz.sizeOf208
 v37:=Tryz.zeroValue208
 t70:=Tryz.underlying221
 a70:=Tryz.isAgg221
 z70:=Tryz.sizeOf221
 v70:=Tryz.zeroValue221
 t72:=Tryz.underlying223
 a72:=Tryz.isAgg223
 z72:=Tryz.sizeOf223
 v72:=Tryz.zeroValue223
 t127:=Tryz.underlying249
 a127:=Tryz.isAgg249
 z127:=Tryz.sizeOf249
 v127:=Tryz.zeroValue249 }
theorem extra169:Builder.Extra Tryz.prog lays169_ren:={
 sizeBuilder:=by kernel_rfl
 liesBuilder:=by kernel_rfl
 t5:=Tryz.underlying5
 a5:=Tryz.isAgg5
 z5:=Tryz.sizeOf5
 v5:=Tryz.zeroValue5
 infoByte:=by kernel_rfl
 cellsByte:=by kernel_rfl
 sizeByte:=by kernel_rfl
 neB5:=by decide }
theorem bString (B b:Nat) (l:List UInt8) (w:World) (h:Lib.IsBuilder 223 5 B b (Lib.byteCells l) w) (hBw:B≤w.heap.size) :
  Calls Tryz.prog 162 #[.pointer (some ⟨b,0,none⟩)] w fun e w'=>e = .returned (.string ⟨l.toArray⟩)∧Below B w w':=Any.Builder_String_any lays169 extra169 B b l w h hBw
end Go.Ev

/- The function that writes a number's bytes: its walk. -/
namespace Go.Ev
open Go Go.Proofs Go.RowKit Go.Shelf
theorem clamp_eq {bytes:Int}:min (max bytes 0) 8=(N.clamp bytes:Int)∧N.clamp bytes≤8:=by
 unfold N.clamp
 rw [ilt_eq,ilt_eq]
 by_cases h1:0<bytes
 ·by_cases h2:8<bytes
  ·simp [h1,h2]; omega
  ·simp [h1,h2]; omega
 ·simp [h1]; omega
theorem two_blocks {w wr:World} {o1 o2:Obj} (h:Below (w.heap.size+1+1) ((w.alloc o1).alloc o2) wr):wr.heap[w.heap.size]? = some o1∧wr.heap[w.heap.size+1]? = some o2:=by
 have e:(w.alloc o1).heap.size=w.heap.size+1:=by simp
 refine ⟨?_,?_⟩
 ·rw [h.block _ (by omega),Below.heap_alloc _ _ _ (by omega)]; exact Go.heap_alloc_new w o1
 ·rw [h.block _ (by omega),← e]; exact Go.heap_alloc_new _ o2
set_option maxHeartbeats 4000000 in
set_option maxRecDepth 1000000 in
theorem outNum_walk (s : ByteArray) (er n bytes : Int) (w : World) (hs : (s.size : Int) ≤ 9223372036854775799) :
    Calls Tryz.prog 95 #[.agg #[.string s, .int .i64 er], .int .u64 n, .int .i64 bytes] w fun e w' =>
      e = .returned (.agg #[.string ⟨(s.data.toList ++ N.numB n (N.clamp bytes)).toArray⟩, .int .i64 er]) ∧ Below w.heap.size w w' := by
  go_enter Tryz.func95, Tryz.ntmps95
  go_wp2
  go_loopw [8] (fun i wr => ∃ (k : Int) (acc : List UInt8), i = .int .i64 k ∧ Lib.IsBuilder 223 5 (w.heap.size + 1 + 1) (w.heap.size + 1 + 1) (Lib.byteCells acc) wr ∧
      Below (w.heap.size + 1 + 1) ((w.alloc (Obj.cells #[Value.string s, Value.int IntKind.i64 er] 154)).alloc (Obj.cells #[Value.string { data := #[] }, Value.int IntKind.i64 0] 154)) wr ∧
      -1 ≤ k ∧ acc ++ N.numB n (k + 1).toNat = N.numB n (N.clamp bytes) ∧ acc.length + (k + 1).toNat ≤ 8) (fun i _ => (intOf i + 1).toNat)
  case atStart =>
    obtain ⟨hcl, hc8⟩ := clamp_eq (bytes := bytes)
    have hf := Lib.fresh_isBuilder 223 5 ((w.alloc (Obj.cells #[Value.string s, Value.int IntKind.i64 er] 154)).alloc (Obj.cells #[Value.string { data := #[] }, Value.int IntKind.i64 0] 154))
    have e0 : ((w.alloc (Obj.cells #[Value.string s, Value.int IntKind.i64 er] 154)).alloc (Obj.cells #[Value.string { data := #[] }, Value.int IntKind.i64 0] 154)).heap.size = w.heap.size + 1 + 1 := by simp
    rw [e0] at hf
    refine ⟨(N.clamp bytes : Int) - 1, [], by rw [hcl], hf, (Below.refl _ _).alloc (by simp) _, by omega, ?_, ?_⟩
    · rw [show ((N.clamp bytes : Int) - 1 + 1).toNat = N.clamp bytes by omega]; rfl
    · simp only [List.length_nil]; omega
  case round =>
    obtain ⟨k, acc, rfl, hI, hB, hk, hacc, hal⟩ := hrel
    by_cases hk0 : 0 ≤ k
    · go_wp2_with (go_at_call 161; refine (writeByte (w.heap.size + 1 + 1) (w.heap.size + 1 + 1) _ _ _ hI (by rw [Lib.byteCells_length]; omega) (by have := hB.size; simp at this; omega)).mono ?_)
      rintro e w1 ⟨rfl, h1, b1⟩
      go_wp2
      go_roundw
      case rel =>
        have e1 : N.numB n (k + 1).toNat = UInt8.ofNat ((n / 2 ^ (8 * k.toNat)) % 256).toNat :: N.numB n k.toNat := by
          rw [show (k + 1).toNat = k.toNat + 1 by omega]; rfl
        have e2 : ((UInt8.ofNat ((n / 2 ^ (8 * k.toNat)) % 256).toNat).toNat : Int) = n / 2 ^ (8 * k).toNat % 256 := by
          rw [show (8 * k).toNat = 8 * k.toNat by omega]
          have h0 : 0 ≤ (n / 2 ^ (8 * k.toNat)) % 256 := Int.emod_nonneg _ (by decide)
          have h1 : (n / 2 ^ (8 * k.toNat)) % 256 < 256 := Int.emod_lt_of_pos _ (by decide)
          have h2 : (UInt8.ofNat ((n / 2 ^ (8 * k.toNat)) % 256).toNat).toNat = ((n / 2 ^ (8 * k.toNat)) % 256).toNat := UInt8.toNat_ofNat_of_lt' (by
            show ((n / 2 ^ (8 * k.toNat)) % 256).toNat < 256
            omega)
          rw [h2]; omega
        refine ⟨k - 1, acc ++ [UInt8.ofNat ((n / 2 ^ (8 * k.toNat)) % 256).toNat], rfl, ?_, hB.trans b1, by omega, ?_, ?_⟩
        · rw [Lib.byteCells_append]
          have e3 : Lib.byteCells [UInt8.ofNat ((n / 2 ^ (8 * k.toNat)) % 256).toNat] = [Value.int .u8 (n / 2 ^ (8 * k).toNat % 256)] := by
            rw [← e2]; rfl
          rw [e3]; exact Or.inr h1
        · rw [e1] at hacc
          rw [← hacc, show (k - 1 + 1).toNat = k.toNat by omega, List.append_assoc]; rfl
        · rw [List.length_append]; simp only [List.length_cons, List.length_nil]; omega
      case measure => simp [intOf]; omega
    · have hk1 : k = -1 := by omega
      subst hk1
      have hfin : N.numB n (N.clamp bytes) = acc := by rw [← hacc]; show acc ++ [] = acc; simp
      have hal : acc.length ≤ 8 := by omega
      clear hacc
      rw [hfin]
      obtain ⟨hb0, hb1⟩ := two_blocks hB
      have c0 : wr.cell? ⟨w.heap.size, 0, none⟩ = some (.string s) := by rw [Lib.cell_of_heap hb0]; rfl
      have c1 : wr.cell? ⟨w.heap.size, 1, none⟩ = some (.int .i64 er) := by rw [Lib.cell_of_heap hb0]; rfl
      have c2 : wr.cell? ⟨w.heap.size + 1, 0, none⟩ = some (.string ⟨#[]⟩) := by rw [Lib.cell_of_heap hb1]; rfl
      have c3 : wr.cell? ⟨w.heap.size + 1, 1, none⟩ = some (.int .i64 0) := by rw [Lib.cell_of_heap hb1]; rfl
      have f0 : wr.frozen? ⟨w.heap.size, 0, none⟩ = false := Lib.frozen_of_heap hb0 0
      have f1 : wr.frozen? ⟨w.heap.size, 1, none⟩ = false := Lib.frozen_of_heap hb0 1
      have f2 : wr.frozen? ⟨w.heap.size + 1, 0, none⟩ = false := Lib.frozen_of_heap hb1 0
      have f3 : wr.frozen? ⟨w.heap.size + 1, 1, none⟩ = false := Lib.frozen_of_heap hb1 1
      have hBw : w.heap.size + 1 + 1 ≤ wr.heap.size := by have := hB.size; simp at this; omega
      have hadd : ¬ 9223372036854775807 < s.size + acc.length := by omega
      have hadd2 : ¬ 9223372036854775807 < s.size + (⟨acc.toArray⟩ : ByteArray).size := by
        show ¬ 9223372036854775807 < s.size + acc.toArray.size
        rw [List.size_toArray]; exact hadd
      have hadd3 : ¬ (s.size + (⟨acc.toArray⟩ : ByteArray).size > 9223372036854775807) := hadd2
      have hadd4 : s.size + (⟨acc.toArray⟩ : ByteArray).size ≤ 9223372036854775807 := Nat.not_lt.1 hadd2
      have hadd5 : s.size + acc.length ≤ 9223372036854775807 := Nat.not_lt.1 hadd
      go_wp2
      go_region_with (go_at_call 162; refine (bString (w.heap.size + 1 + 1) (w.heap.size + 1 + 1) acc _ (by exact hI) (by exact hBw)).mono ?_; rintro e w2 ⟨rfl, b2⟩
                      have d0 : w2.cell? ⟨w.heap.size, 0, none⟩ = some (.string s) := by rw [b2.cell (by show w.heap.size < w.heap.size + 1 + 1; omega)]; exact c0
                      have d1 : w2.cell? ⟨w.heap.size, 1, none⟩ = some (.int .i64 er) := by rw [b2.cell (by show w.heap.size < w.heap.size + 1 + 1; omega)]; exact c1
                      have d2 : w2.cell? ⟨w.heap.size + 1, 0, none⟩ = some (.string ⟨#[]⟩) := by rw [b2.cell (by show w.heap.size + 1 < w.heap.size + 1 + 1; omega)]; exact c2
                      have d3 : w2.cell? ⟨w.heap.size + 1, 1, none⟩ = some (.int .i64 0) := by rw [b2.cell (by show w.heap.size + 1 < w.heap.size + 1 + 1; omega)]; exact c3
                      have e0 : w2.frozen? ⟨w.heap.size, 0, none⟩ = false := by rw [b2.frozen (by show w.heap.size < w.heap.size + 1 + 1; omega)]; exact f0
                      have e1 : w2.frozen? ⟨w.heap.size, 1, none⟩ = false := by rw [b2.frozen (by show w.heap.size < w.heap.size + 1 + 1; omega)]; exact f1
                      have e2 : w2.frozen? ⟨w.heap.size + 1, 0, none⟩ = false := by rw [b2.frozen (by show w.heap.size + 1 < w.heap.size + 1 + 1; omega)]; exact f2
                      have e3 : w2.frozen? ⟨w.heap.size + 1, 1, none⟩ = false := by rw [b2.frozen (by show w.heap.size + 1 < w.heap.size + 1 + 1; omega)]; exact f3)
      all_goals go_wp2
      all_goals
        refine ⟨rfl, .agg #[.string (s ++ ⟨acc.toArray⟩), .int .i64 er], ?_, ?_, ?_⟩
        · simp [results, Tryz.results95, go_sem, d2, d3]
        · rw [hfin, ← bytes_append]
        · have b0 : Below w.heap.size w wr := (((Below.refl _ w).alloc (Nat.le_refl _) _).alloc (by simp) _).trans (hB.mono (by omega))
          exact (((b0.drew.trans (b2.mono (by omega))).setCell (p := ⟨w.heap.size, 0, none⟩) (Nat.le_refl _) _).setCell (p := ⟨w.heap.size + 1, 0, none⟩) (Nat.le_succ _) _).setCell (p := ⟨w.heap.size + 1, 1, none⟩) (Nat.le_succ _) _
theorem keeps_below {w w' : World} (X:Nat→Nat→Prop) (h:Below w.heap.size w w'):Keeps X w w' :=
 ⟨h.os,h.tape,h.output,h.size,fun b hb=>ObjOk.same (h.block b hb)⟩
theorem outNum_ok:FnOk Tryz.prog 95 dOutNum:=by
 refine den_of fun a b hp=>?_
 obtain ⟨o,n,bytes⟩:=a
 intro x y hxy w J locs xs hlen hJ hx _ _ _
 have hxy:x=(aCons (vAgg cOut) (aCons (vInt .u64) (aOne (vInt .i64)))).enc (o,n,bytes)∧y=bNil.enc b:=by simpa using hxy
 obtain ⟨rfl,rfl⟩:=hxy
 have hlen:locs=[]:=List.eq_nil_of_length_eq_zero hlen
 subst hlen
 obtain ⟨hp1,hp⟩:=bcond hp
 obtain ⟨hp2,hp3⟩:=bcond hp
 have hp3:o.s.length≤9223372036854775799:=Nat.le_of_ble_eq_true hp3
 obtain ⟨x0,xs1,rfl,hx0,hx⟩:=hx.uncons
 obtain ⟨x1,xs2,rfl,hx1,hx⟩:=hx.uncons
 obtain ⟨x2,rfl,hx2⟩:=hx.one
 obtain ⟨cs,rfl,hc1,hc2⟩:=Rv.agg_inv (show Rv w J _ (.agg [.str o.s,.int .i64 o.err]) x0 from hx0)
 have hx1:=Rv.int_inv (show Rv w J _ (.int .u64 n) x1 from hx1)
 have hx2:=Rv.int_inv (show Rv w J _ (.int .i64 bytes) x2 from hx2)
 subst hx1 hx2
 match cs,hc1,hc2 with
 | [c0,c1],_,hc2 =>
  have h0:=Rv.str_inv (show Rv w J _ (.str o.s) c0 from hc2 0 (by simp))
  have h1:=Rv.int_inv (show Rv w J _ (.int .i64 o.err) c1 from hc2 1 (by simp))
  subst h0 h1
  refine .inl ⟨?_,?_⟩
  ·have hnm : ¬ (Tryz.f95).name = "runtime.NumGoroutine" := by
    intro e
    have : ((Tryz.f95).name == "runtime.NumGoroutine") = false := by kernel_rfl
    rw [e] at this; cases this
   obtain ⟨c,hc⟩:=Option.isSome_iff_exists.1 (show (Tryz.f95).body.isSome=true by kernel_rfl)
   simp [callFunc,Tryz.func95,hnm,hc]
  ·refine (outNum_walk ⟨o.s.toArray⟩ o.err n bytes w (by rw [bytes_size]; omega)).mono fun e w' ⟨he,hb⟩=>⟨_,he,J,?_⟩
   refine ⟨keeps_below _ hb,fun _ _ h=>h,fun b o' h=>Nat.lt_of_lt_of_le (hJ b o' h) hb.size,fun _ _ h _=>h,rfl,(fun j cs cs' p hj=>by cases hj),.inl ⟨rfl,?_⟩⟩
   refine .agg [.str (N.outNum o n bytes).s,.int .i64 (N.outNum o n bytes).err] [.string ⟨(o.s++N.numB n (N.clamp bytes)).toArray⟩,.int .i64 o.err] rfl fun i hi=>?_
   match i,hi with
   | 0,_=>exact .dat (.str _)
   | 1,_=>exact .dat (.int _ _)
end Go.Ev
