/- What a claim needs: definitions and lemmas, no condition. -/
import Derived.Test.YtojpdhfnmodinaaGreatDoorGb
import Derived.ProofKit
import Derived.Test.YtojpdhfnmodinaaGreatDoorProg
import Derived.KernelRfl
import Derived.Lib.Bytealg
namespace Go.Ev
open Go Go.RowKit
section
variable {m:Nat} {S:St}
theorem D8:∀ (L:List (Nat × Box)) (c:Can) {K:Can->Option R} {q:R},vI S L c K=some q->∃ c',K c' = some q∧Au c c' ∧
  ∀ w₀ aB aC ρ I a w,Rel m w₀ aB aC ρ I S a w->∀ G Pn,qB S ρ w I c G Pn->(∀ d,d<BOX->(∃ cells,dF S.tab d=some (.var cells))->dF c.m d=some d) ->
   (∀ d,d∈Pn->d<BOX∧(∃ cells,dF S.tab d=some (.var cells))∧∃ p,p∈L∧p.1=d)->∃ G',Ext G G'∧qB S ρ w I c' G' []
 | [],c,K,q,h=>⟨c,h,fun _ _ h=>h,fun w₀ aB aC ρ I a w hr G Pn hc _ hp=>by
   have:Pn=[]:=List.eq_nil_iff_forall_not_mem.2 fun d hd=>by obtain ⟨_,_,p,hp,_⟩:=hp d hd; cases hp
   subst this
   exact ⟨G,Ext.refl G,hc⟩⟩
 | (d,b₀)::r,c,K,q,h=>by
  have skip:(∀ e:Nat,(e<BOX∧(∃ cells,dF S.tab e=some (.var cells))∧dF c.tab e=none)->e ≠ d)->vI S r c K=some q->∃ c',K c' = some q∧Au c c' ∧
    ∀ w₀ aB aC ρ I a w,Rel m w₀ aB aC ρ I S a w->∀ G Pn,qB S ρ w I c G Pn->(∀ d,d<BOX->(∃ cells,dF S.tab d=some (.var cells))->dF c.m d=some d) ->
     (∀ e,e∈Pn->e<BOX∧(∃ cells,dF S.tab e=some (.var cells))∧∃ p,p∈(d,b₀)::r∧p.1=e)->∃ G',Ext G G'∧qB S ρ w I c' G' []:=fun hne h=>by
   obtain ⟨c',h1,h2,h3⟩:=D8 r c h
   refine ⟨c',h1,h2,fun w₀ aB aC ρ I a w hr G Pn hc hm hp=>h3 w₀ aB aC ρ I a w hr G Pn hc hm fun e he=>?_⟩
   obtain ⟨p1,p2,p,p3,p4⟩:=hp e he
   refine ⟨p1,p2,p,(List.mem_cons.1 p3).resolve_left fun e2=>?_,p4⟩
   subst e2
   exact hne e ⟨p1,p2,(hc.pend e he).1⟩ p4.symm
  simp only [vI] at h
  rcases qW h with ⟨hb,h⟩ | ⟨hb,h⟩
  .have hb:d<BOX:=Nat.le_of_ble_eq_true hb
   split at h
   .rename_i bx ht
    exact skip (fun e he e2=>by rw [e2,ht] at he; exact absurd he.2.2 (by simp)) h
   .rename_i ht
    split at h
    .rename_i cells hs
     obtain ⟨cells',c₁,h1,h2,h3,h4⟩:=(X6 (m:=m) (S:=S) 100).2 cells _ _ q h
     obtain ⟨c₂,k1,k2,k3⟩:=D8 r _ h1
     refine ⟨c₂,k1,fun e d' he=>k2 e d' (h2 e d' he),fun w₀ aB aC ρ I a w hr G Pn hc hm hp=>?_⟩
     obtain ⟨ak5,e1,e2,e3⟩:=h4 w₀ aB aC ρ I a w hr G Pn hc
     have hmd:=hm d hb ⟨cells,hs⟩
     obtain ⟨br,f1,_,f3⟩:=hc.LV d d hmd
     obtain ⟨fM,g1,g2⟩:=hr.tab d _ hs
     rw [f1] at g1; cases g1
     obtain ⟨b,p,val,v1,v2,v3⟩:=CJ g2
     have hdP:d∈Pn:=(hc.done d _ f3).resolve_right fun ⟨bx,hbx⟩=>by rw [ht] at hbx; cases hbx
     have hpop:=e2.pop (id:=d) hdP (Pn':=Pn.filter (· != d)) (fun e he=>by by_cases e' : e=d<;>simp [e',he]) (fun e he=>by simpa using he) (box:=.var cells') (br:=br.new) (e1 _ _ f3)
      (fun y8 hG=>by
       obtain ⟨a1,a2,a3,a4,_⟩:=g2
       refine ⟨by rw [h3]; exact a1,a2,a3,rfl,b,p,v1,fun j hj=>⟨val j,v2 j (by omega),?_⟩⟩
       have:=(e3 _ v3 y8 hG).2 j hj
       rwa [CO val _ _ (by omega)] at this)
      (fun e he=>by
       have:=e2.inj e d _ he (h2 _ _ hmd)
       subst this
       exact .inr ⟨⟨_,hs⟩,_,rfl⟩)
     obtain ⟨X7,x1,x2⟩:=k3 w₀ aB aC ρ I a w hr ak5 _ hpop (fun e he hv=>h2 _ _ (hm e he hv)) fun e he=>by
      simp only [List.mem_filter,bne_iff_ne] at he
      obtain ⟨p1,p2,p,p3,p4⟩:=hp e he.1
      exact ⟨p1,p2,p,(List.mem_cons.1 p3).resolve_left fun e2=>by subst e2; exact he.2 p4.symm,p4⟩
     exact ⟨X7,e1.trans x1,x2⟩
    .rename_i hs
     exact skip (fun e he e2=>by subst e2; obtain ⟨_,⟨cells,hc⟩,_⟩:=he; exact hs cells hc) h
  .have hb:¬ d<BOX:=fun h=>by rw [Nat.blt,Nat.ble_eq_true_of_le h] at hb; cases hb
   exact skip (fun e he e2=>by rw [e2] at he; exact hb he.1) h
theorem UO:∀ (ts:List Nat) (c:Can) {K:List (Nat × V)->Can->Option R} {q:R},ZP S ts c K=some q->∃ l c',K l c' = some q∧Au c c' ∧
  ∀ w₀ aB aC ρ I a w,Rel m w₀ aB aC ρ I S a w->∀ G Pn,qB S ρ w I c G Pn->∃ G',Ext G G'∧qB S ρ w I c' G' Pn ∧
   ∀ t v,dF l t=some v->∀ y8,Ext G' y8->Rv w I y8 v (a.tmps.getD t Go.undef)
 | [],c,K,q,h=>⟨[],c,h,fun _ _ h=>h,fun w₀ aB aC ρ I a w hr G Pn hc=>⟨G,Ext.refl G,hc,fun t v h=>by cases h⟩⟩
 | t::ts,c,K,q,h=>by
  simp only [ZP] at h
  obtain ⟨v,c',h1,h2,h3⟩:=(X6 (m:=m) (S:=S) 100).1 _ _ _ q h
  obtain ⟨l,c'',k1,k2,k3⟩:=UO ts _ h1
  refine ⟨_,_,k1,fun e d' he=>k2 e d' (h2 e d' he),fun w₀ aB aC ρ I a w hr G Pn hc=>?_⟩
  obtain ⟨G',e1,e2,e3⟩:=h3 w₀ aB aC ρ I a w hr G Pn hc
  obtain ⟨X7,f1,f2,f3⟩:=k3 w₀ aB aC ρ I a w hr G' Pn e2
  refine ⟨X7,e1.trans f1,f2,fun t' v' hv y8 hG=>?_⟩
  rw [qC] at hv
  split at hv
  .rename_i e; subst e; cases hv
   have hx:Rv w I ρ (S.get t') (a.tmps.getD t' Go.undef):=by
    unfold St.get
    rw [JV]
    cases e:dF S.fr t' with
    | none=>exact .undef _
    | some u=>exact hr.fr t' u e
   exact e3 _ hx y8 (f1.trans hG)
  .exact f3 t' v' hv y8 hG
theorem uh:∀ (L:List (Nat × Box)) (d d' : Nat),dF (kQ S L) d=some d'->d' = d∧d<BOX∧(∃ cells,dF S.tab d=some (.var cells))∧∃ p,p∈L∧p.1=d
 | [],_,_,h=>by cases h
 | (e,b)::L,d,d',h=>by
  have rest:dF (kQ S L) d=some d'->d' = d∧d<BOX∧(∃ cells,dF S.tab d=some (.var cells))∧∃ p,p∈(e,b)::L∧p.1=d:=fun h=>by
   obtain ⟨h1,h2,h3,p,h4,h5⟩:=uh L d d' h
   exact ⟨h1,h2,h3,p,List.mem_cons_of_mem _ h4,h5⟩
  simp only [kQ] at h
  cases hb:Nat.blt e BOX with
  | false=>rw [hb] at h; exact rest h
  | true =>
   rw [hb,cond_true] at h
   split at h
   .rename_i cells hs
    rw [qC] at h
    split at h
    .rename_i e2; subst e2; cases h
     exact ⟨rfl,Nat.le_of_ble_eq_true hb,⟨cells,hs⟩,_,List.mem_cons_self,rfl⟩
    .exact rest h
   .exact rest h
theorem RZ {α:Type}:∀ (L:List (Nat × α)) (d:Nat) (b:α),dF L d=some b->∃ p,p∈L∧p.1=d
 | [],_,_,h=>by cases h
 | (e,x)::L,d,b,h=>by
  rw [qC] at h
  split at h
  .rename_i e2; exact ⟨_,List.mem_cons_self,e2.symm⟩
  .obtain ⟨p,h1,h2⟩:=RZ L d b h; exact ⟨p,List.mem_cons_of_mem _ h1,h2⟩
theorem Az:∀ (L:List (Nat × Box)) (d:Nat),d<BOX->(∃ cells,dF S.tab d=some (.var cells))->(∃ p,p∈L∧p.1=d)->dF (kQ S L) d=some d
 | [],_,_,_,⟨p,h,_⟩=>by cases h
 | (e,b)::L,d,hd,hv,⟨p,hp,he⟩=>by
  have rest:e ≠ d->dF (kQ S L) d=some d:=fun hne=>Az L d hd hv ⟨p,(List.mem_cons.1 hp).resolve_left fun e2=>by subst e2; exact hne he,he⟩
  simp only [kQ]
  by_cases e2:e=d
  .subst e2
   obtain ⟨cells,hs⟩:=hv
   have hb:Nat.blt e BOX=true:=Nat.ble_eq_true_of_le hd
   rw [hb,cond_true,hs]
   simp only [qC,if_true]
  .cases hb:Nat.blt e BOX with
   | false=>exact rest e2
   | true =>
    rw [cond_true]
    split
    .rw [qC,if_neg (fun h=>e2 h.symm)]; exact rest e2
    .exact rest e2
theorem D9:∀ (L:List (Nat × Box)) (p:Nat × Nat),p∈kQ S L->p.1<BOX∧(∃ cells,dF S.tab p.1=some (.var cells))∧∃ p',p'∈L∧p'.1=p.1
 | [],_,h=>by cases h
 | (e,b)::L,p,h=>by
  have rest:p∈kQ S L->p.1<BOX∧(∃ cells,dF S.tab p.1=some (.var cells))∧∃ p',p'∈(e,b)::L∧p'.1=p.1:=fun h=>by
   obtain ⟨h1,h2,p',h3,h4⟩:=D9 L p h
   exact ⟨h1,h2,p',List.mem_cons_of_mem _ h3,h4⟩
  simp only [kQ] at h
  cases hb:Nat.blt e BOX with
  | false=>rw [hb] at h; exact rest h
  | true =>
   rw [hb,cond_true] at h
   split at h
   .rename_i cells hs
    rcases List.mem_cons.1 h with rfl | h
    .exact ⟨Nat.le_of_ble_eq_true hb,⟨cells,hs⟩,_,List.mem_cons_self,rfl⟩
    .exact rest h
   .exact rest h
theorem abZ (keep:List Nat) (S:St) (K:St->Option R) (q:R) (h:XL keep S K=some q):∃ S',K S' = some q∧CG m S S':=by
 unfold XL at h
 obtain ⟨c₁,h,hm1,h1⟩:=D8 (m:=m) S.tab _ h
 obtain ⟨fr,c₂,h,hm2,h2⟩:=UO (m:=m) keep c₁ h
 refine ⟨_,h,fun w₀ hz aB aC ρ I a w hr=>?_⟩
 -- the beginning
 let ab1:Nat->Option Real:=fun d=>match dF (kQ S S.tab) d with | some _=>(ρ d).map Real.new | none=>none
 have g₀:∀ d br,ab1 d=some br->dF (kQ S S.tab) d=some d∧∃ fM,ρ d=some fM∧br=fM.new:=fun d br hg=>by
  simp only [ab1] at hg
  split at hg
  .rename_i d' hd
   obtain ⟨rfl,_⟩:=uh _ _ _ hd
   cases e:ρ d' with
   | none=>rw [e] at hg; cases hg
   | some b=>rw [e] at hg; cases hg; exact ⟨hd,b,rfl,rfl⟩
  .cases hg
 have m₀:∀ d d',dF (kQ S S.tab) d=some d'->d' = d∧∃ br cells,ρ d=some br∧dF S.tab d=some (.var cells)∧ab1 d=some br.new:=fun d d' hd=>by
  obtain ⟨rfl,_,⟨cells,hs⟩,_⟩:=uh _ _ _ hd
  obtain ⟨br,h1,_⟩:=hr.tab d' _ hs
  exact ⟨rfl,br,cells,h1,hs,by simp only [ab1]; rw [hd,h1]; rfl⟩
 have ak6:qB S ρ w I { m:=kQ S S.tab,tab:=[],n:=0 } ab1 ((kQ S S.tab).map Prod.fst):=by
  refine ⟨fun d d' hd=>?_,fun d e d' hd he=>?_,fun d br hg=>?_,fun d br hg=>?_,fun d bx hb=>(by cases hb),fun d d' bx _ hb=>(by cases hb),fun d br hg=>?_,fun d hd=>⟨rfl,?_⟩⟩
  .obtain ⟨rfl,br,cells,e1,e2,e3⟩:=m₀ d d' hd
   exact ⟨br,e1,⟨_,e2,by simp⟩,e3⟩
  .exact ((m₀ d d' hd).1.symm.trans (m₀ e d' he).1)
  .exact .inl ⟨d,(g₀ d br hg).1⟩
  .obtain ⟨_,h2,_⟩:=uh _ _ _ (g₀ d br hg).1
   unfold BOX at h2; unfold CAN; simp only; omega
  .obtain ⟨p,e1,e2⟩:=RZ _ _ _ (g₀ d br hg).1
   exact .inl (List.mem_map.2 ⟨p,e1,e2⟩)
  .obtain ⟨p,hp,rfl⟩:=List.mem_map.1 hd
   have:=(D9 _ _ hp).1
   unfold BOX at this; unfold CAN; simp only; omega
 obtain ⟨ak5,x1,i1⟩:=h1 w₀ aB aC ρ I a w hr ab1 _ ak6 (fun d hd hv=>Az S.tab d hd hv (by obtain ⟨cells,hs⟩:=hv; exact RZ _ _ _ hs)) (fun d hd=>by
  obtain ⟨p,hp,rfl⟩:=List.mem_map.1 hd
  exact D9 _ _ hp)
 obtain ⟨G,x2,i2,f2⟩:=h2 w₀ aB aC ρ I a w hr ak5 [] i1
 have real:∀ d' br b o,G d' = some br->br.has b o->∃ d fM,dF c₂.m d=some d'∧ρ d=some fM∧Live S d∧fM.has b o:=fun d' br b o hg hh=>by
  rcases i2.dom d' br hg with ⟨d,hd⟩ | hb
  .obtain ⟨fM,k1,k2,k3⟩:=i2.LV d d' hd
   rw [hg] at k3; cases k3
   exact ⟨d,fM,hd,k1,k2,hh⟩
  .obtain ⟨o₀,k1,_⟩:=hh
   rw [hb] at k1; cases k1
 refine ⟨G,fun t v hv=>f2 t v hv G (Ext.refl G),hr.XM,hr.size,fun d bx hb=>?_,fun d br hg=>?_,fun d d' br fM b o _ _ hd hd' hh hh'=>?_,fun d br b o _ hd hh=>?_,fun d br b o _ hd hh=>?_,
  fun d sh rows gen br b o hb hd hh=>?_,fun d br b o _ hd hh=>?_,hr.aU,hr.pV,hr.sW,hr.keeps,fun d br hl=>?_,(fun d br hl=>by rw [hz.1] at hl; cases hl),(by rw [hz.2]; exact fun _ _ hl=>nomatch hl)⟩
 .obtain ⟨br,k1,k2⟩:=i2.aer d bx hb
  exact ⟨br,k1,k2 G (Ext.refl G)⟩
 .exact (i2.done d br hg).resolve_left (by simp)
 .obtain ⟨e,b1,k1,k2,k3,k4⟩:=real d br b o hd hh
  obtain ⟨e',b2,l1,l2,l3,l4⟩:=real d' fM b o hd' hh'
  have:=hr.apart e e' b1 b2 b o k3 l3 k2 l2 k4 l4
  subst this
  rw [k1] at l1; cases l1; rfl
 .obtain ⟨e,b1,k1,k2,k3,k4⟩:=real d br b o hd hh
  exact hr.qQ e b1 b o k3 k2 k4
 .obtain ⟨e,b1,k1,k2,k3,k4⟩:=real d br b o hd hh
  exact hr.org e b1 b o k3 k2 k4
 .obtain ⟨e,b1,k1,k2,k3,k4⟩:=real d br b o hd hh
  rcases i2.kind e d _ k1 hb with ⟨⟨sh',rows',g',ht⟩,_⟩ | ⟨_,_,hx⟩
  .exact hr.oO e sh' rows' g' b1 b o ht k2 k4
  .cases hx
 .obtain ⟨e,b1,k1,k2,k3,k4⟩:=real d br b o hd hh
  exact hr.alive e b1 b o k3 k2 k4
 .obtain ⟨hρ,cells,hs⟩:=hr.iT d br hl
  have amR:=Az S.tab d (w₀.small d br hl) ⟨cells,hs⟩ (RZ _ _ _ hs)
  have hm:=hm2 d d (hm1 d d amR)
  obtain ⟨fM,k1,_,k3⟩:=i2.LV d d hm
  rw [hρ] at k1; cases k1
  obtain ⟨ao2,t1,t2⟩:=hr.tab d _ hs
  rw [hρ] at t1; cases t1
  have hg0:br.new=br:=by
   have:=t2.2.2.2.1
   cases br; simp only at this; subst this; rfl
  refine ⟨by rw [k3,hg0],?_⟩
  obtain ⟨bx,hb⟩:=(i2.done d _ k3).resolve_left (by simp)
  rcases i2.kind d d bx hm hb with ⟨⟨_,_,_,ht⟩,_⟩ | ⟨_,cells',rfl⟩
  .rw [hs] at ht; cases ht
  .exact ⟨cells',hb⟩
end
theorem AA (fk:Nat->Bool):∀ (j:Nat) (l:List V),(Um fk j l).length=l.length
 | _,[]=>rfl
 | j,v::r=>by cases v<;>simp [Um,AA fk (j+1) r]
theorem P5 {w:World} {I:Nat->Nat->Prop} {ρ:Nat->Option Real} {x:Value} (fk:Nat->Bool):∀ (j:Nat) (l:List V) (i:Nat),Rv w I ρ (l.getD i .undef) x->Rv w I ρ ((Um fk j l).getD i .undef) x
 | _,[],i,h=>h
 | j,v::r,0,h=>by
  have h:Rv w I ρ v x:=by simpa using h
  cases v with
  | iZ sh =>
   show Rv w I ρ (cond (fk j) (.iZ sh) (.slc sh [])) x
   cases fk j with
   | true=>exact h
   | false=>exact h.tX
  | _=>exact h
 | j,v::r,i+1,h=>by
  have h:Rv w I ρ (r.getD i .undef) x:=by simpa using h
  have:=P5 fk (j+1) r i h
  cases v<;>simpa [Um] using this
theorem y9 (fk:Nat->Bool):∀ (T:List (Nat × Box)) (d:Nat),dF (OQ fk T) d=(dF T d).map (adP fk)
 | [],d=>rfl
 | (e,b)::r,d=>by
  simp only [OQ,dF]
  cases Nat.beq d e with
  | true=>rfl
  | false=>exact y9 fk r d
theorem aes {fk:Nat->Bool} {b:Box}:adP fk b ≠ .dead↔b ≠ .dead:=by cases b<;>simp [adP]
theorem AB {fk:Nat->Bool} {S:St} {d:Nat} (h:Live (frz fk S) d):Live S d:=by
 obtain ⟨box,h1,h2⟩:=h
 have h1:dF (OQ fk S.tab) d=some box:=h1
 rw [y9] at h1
 cases e:dF S.tab d with
 | none=>rw [e] at h1; cases h1
 | some b =>
  rw [e] at h1
  cases h1
  exact ⟨b,e,aes.1 h2⟩
theorem ak7 (fk:Nat->Bool) {m:Nat} {w₀:Base} {aB aC I:Nat->Nat->Prop} {ρ:Nat->Option Real} {S:St} {a:Act} {w:World} (hr:Rel m w₀ aB aC ρ I S a w):Rel m w₀ aB aC ρ I (frz fk S) a w:=by
 refine ⟨hr.fr,hr.XM,hr.size,fun d box hb=>?_,fun d br hd=>?_,fun d d' br fM b o h1 h2=>hr.apart d d' br fM b o (AB h1) (AB h2),fun d br b o h1=>hr.qQ d br b o (AB h1),fun d br b o h1=>hr.org d br b o (AB h1),
  fun d sh rows gen br b o hb=>?_,fun d br b o h1=>hr.alive d br b o (AB h1),hr.aU,hr.pV,hr.sW,hr.keeps,fun d br hl=>?_,fun d br hl=>?_,hr.Uc⟩
 .have hb:dF (OQ fk S.tab) d=some box:=hb
  rw [y9] at hb
  cases e:dF S.tab d with
  | none=>rw [e] at hb; cases hb
  | some b =>
   rw [e] at hb
   cases hb
   obtain ⟨br,h1,h2⟩:=hr.tab d b e
   refine ⟨br,h1,?_⟩
   cases b with
   | var cells =>
    obtain ⟨g1,g2,g3,g4,bb,oo,g5,g6⟩:=h2
    refine ⟨by rw [AA]; exact g1,g2,g3,g4,bb,oo,g5,fun j hj=>?_⟩
    rw [AA] at hj
    obtain ⟨x,k1,k2⟩:=g6 j hj
    exact ⟨x,k1,P5 fk 0 cells j k2⟩
   | _=>exact h2
 .obtain ⟨box,h1⟩:=hr.dom d br hd
  exact ⟨adP fk box,by show dF (OQ fk S.tab) d=_; rw [y9,h1]; rfl⟩
 .have hb:dF (OQ fk S.tab) d=some (.sl sh rows gen):=hb
  rw [y9] at hb
  cases e:dF S.tab d with
  | none=>rw [e] at hb; cases hb
  | some bx =>
   rw [e] at hb
   cases bx with
   | sl sh' rows' gen'=>cases hb; exact hr.oO d sh rows gen br b o e
   | _=>cases hb
 .obtain ⟨h1,cells,h2⟩:=hr.iT d br hl
  exact ⟨h1,Um fk 0 cells,by show dF (OQ fk S.tab) d=_; rw [y9,h2]; rfl⟩
 .obtain ⟨h1,h2⟩:=hr.hid d br hl
  exact ⟨h1,by show dF (OQ fk S.tab) d=_; rw [y9,h2]; rfl⟩
theorem aam:∀ (T:List (Nat × V)) (t:Nat) (v:V),dF (ahT T) t=some v->∃ v',dF T t=some v'∧∀ {w:World} {I:Nat->Nat->Prop} {ρ:Nat->Option Real} {x:Value},Rv w I ρ v' x->Rv w I ρ v x
 | [],t,v,h=>by cases h
 | (s,u)::r,t,v,h=>by
  simp only [ahT,dF] at h
  simp only [dF]
  cases hb:Nat.beq t s with
  | true =>
   rw [hb] at h
   cases h
   refine ⟨u,rfl,fun {w I ρ x} hx=>?_⟩
   cases u with
   | iZ sh=>exact hx.tX
   | _=>exact hx
  | false =>
   rw [hb] at h
   exact aam r t v h
theorem aia {m:Nat} {w₀:Base} {aB aC I:Nat->Nat->Prop} {ρ:Nat->Option Real} {S:St} {a:Act} {w:World} (hr:Rel m w₀ aB aC ρ I S a w):Rel m w₀ aB aC ρ I (amw S) a w :=
 ⟨fun t v hv=>by
  obtain ⟨v',h1,h2⟩:=aam S.fr t v hv
  exact h2 (hr.fr t v' h1),hr.XM,hr.size,hr.tab,hr.dom,hr.apart,hr.qQ,hr.org,hr.oO,hr.alive,hr.aU,hr.pV,hr.sW,hr.keeps,hr.iT,hr.hid,hr.Uc⟩
theorem UQ {m:Nat} (fz:Bool) (fk:Nat->Bool) (fy:Bool) (keep:List Nat) (S:St) (K:St->Option R) (q:R) (h:canon fz fk fy keep S K=some q):∃ S',K S' = some q∧CG m S S':=by
 unfold canon at h
 obtain ⟨S',h1,h2⟩:=abZ (m:=m) keep _ K q h
 refine ⟨S',h1,fun w₀ hz aB aC ρ I a w hr=>h2 w₀ hz aB aC ρ I a w ?_⟩
 have hf:Rel m w₀ aB aC ρ I (cond fz (frz fk S) S) a w:=by
  cases fz with
  | false=>exact hr
  | true=>exact ak7 fk hr
 cases fy with
 | false=>exact hf
 | true=>exact aia hf
end Go.Ev

namespace Go.Ev
open Go Go.RowKit
theorem LW {E:Env} (hG:OM E) {f:FuncId} {fn:Func} {c:Code} (hf:E.P.funcs[f]? = some fn) (hb:fn.body=some c)
  (hl : ∀ p ∈ fQ c, wV E fn.ntmps p.1 p.2) (hnm : (fn.name == "runtime.NumGoroutine") = false) {D : Den} (h : ∀ args bx, D.pre args bx = true -> bV E f args bx some = some (D.res args bx)) : bH E.P f D :=
 ah9 hG hf hb (fun fz fk fy keep S K q hh=>UQ fz fk fy keep S K q hh) hl hnm h
theorem X8 {E:Env} {m:Nat} (hG:OM E) {id:Nat} {c:Code} (hl:∀ p∈fQ c,wV E m p.1 p.2) (hd:nK m c=true)
  (h:∀ F,E.L id=some F->∀ S K q,F S K=some q->∃ n,IE E id c n S K=some q):wV E m id c :=
 aep hG (fun fz fk fy keep S K q hh=>UQ fz fk fy keep S K q hh) hl hd h
end Go.Ev

namespace Go.Ev
open Go
section
variable {κ α β γ:Type} {A:(κ->Option R)->Prop}
theorem Fb.no:Fb A (fun _=>none):=fun K q h=>by cases h
theorem ah1.go (a:α):ah1 (fun k=>k a):=fun _ _ _=>⟨_,⟨a,rfl⟩,fun _=>rfl⟩
theorem ad8.go (a:α) (b:β):ad8 (fun k=>k a b):=fun _ _ _=>⟨_,⟨a,b,rfl⟩,fun _=>rfl⟩
theorem ah2.go (a:α) (b:β) (c:γ):ah2 (fun k=>k a b c):=fun _ _ _=>⟨_,⟨a,b,c,rfl⟩,fun _=>rfl⟩
theorem ah1.bind {F:(α->Option R)->Option R} {G:α->κ->Option R} (hF:ah1 F) (hG:∀ a,Fb A (G a)):Fb A (fun k=>F fun a=>G a k):=fun K q h=>by
 obtain ⟨_,⟨a,rfl⟩,h1⟩:=hF _ q h
 have h:F (fun a=>G a K)=some q:=h
 rw [h1] at h
 obtain ⟨p,hp,h2⟩:=hG a K q h
 exact ⟨p,hp,fun K'=>(h1 _).trans (h2 K')⟩
theorem ad8.bind {F:(α->β->Option R)->Option R} {G:α->β->κ->Option R} (hF:ad8 F) (hG:∀ a b,Fb A (G a b)):Fb A (fun k=>F fun a b=>G a b k):=fun K q h=>by
 obtain ⟨_,⟨a,b,rfl⟩,h1⟩:=hF _ q h
 have h:F (fun a b=>G a b K)=some q:=h
 rw [h1] at h
 obtain ⟨p,hp,h2⟩:=hG a b K q h
 exact ⟨p,hp,fun K'=>(h1 _).trans (h2 K')⟩
theorem ah2.bind {F:(α->β->γ->Option R)->Option R} {G:α->β->γ->κ->Option R} (hF:ah2 F) (hG:∀ a b c,Fb A (G a b c)):Fb A (fun k=>F fun a b c=>G a b c k):=fun K q h=>by
 obtain ⟨_,⟨a,b,c,rfl⟩,h1⟩:=hF _ q h
 have h:F (fun a b c=>G a b c K)=some q:=h
 rw [h1] at h
 obtain ⟨p,hp,h2⟩:=hG a b c K q h
 exact ⟨p,hp,fun K'=>(h1 _).trans (h2 K')⟩
theorem Fb.vf {v:V} {G:V->κ->Option R} (h:Fb A (G v)):Fb A (fun k=>Go.Ev.vf v fun v=>G v k):=by
 have e:(fun k=>Go.Ev.vf v fun v=>G v k)=fun k=>G v k:=by funext k; rw [Ud]
 rw [e]; exact h
end
section
variable {E:Env}
end
end Go.Ev

namespace Go.Ev
open Go Go.RowKit
end Go.Ev

namespace Go.Ev
open Go Go.RowKit
mutual
def wfV:V->Bool
 | .int k n=>(Lit.int k n).wf
 | .str s=>Nat.ble s.length 9223372036854775807
 | .slc sh rows=>cond (Nat.ble rows.length 9223372036854775807) (cond (dJ sh rows) (JL rows) false) false
 | .bool _=>true
 | .iZ _=>true
 | _=>false
def LX:List V->Bool
 | []=>true
 | v::r=>cond (wfV v) (LX r) false
def JL:List (List V)->Bool
 | []=>true
 | r::rs=>cond (LX r) (JL rs) false
end
theorem zf:∀ (a b:List V),LX (a++b)=cond (LX a) (LX b) false
 | [],b=>by simp [LX]
 | v::r,b=>by
  simp only [List.cons_append,LX,zf r b]
  cases wfV v<;>cases LX r<;>cases LX b<;>rfl
theorem UR {α:Type} (dec:List V->α) (enc:α->List V) (sh:List Sh) (h:∀ r,fZ sh r=true->LX r=true->LX (enc (dec r))=true):∀ rows,dJ sh rows=true->JL rows=true->JL ((rows.map dec).map enc)=true
 | [],_,_=>rfl
 | r::rs,hf,hr=>by
  simp only [JL] at hr
  simp only [dJ] at hf
  cases e:LX r with
  | false=>rw [e] at hr; cases hr
  | true =>
   cases e2:fZ sh r with
   | false=>rw [e2] at hf; cases hf
   | true =>
    rw [e] at hr
    rw [e2] at hf
    simp only [List.map_cons,JL,h r e2 e,cond_true]
    exact UR dec enc sh h rs hf hr
structure aj (α:Type) where
 sh:List Sh
 enc:α->List V
 dec:List V->α
 rf:Sh.qp sh sh=true
 fit:∀ a,fZ sh (enc a)=true
 wf:∀ row,fZ sh row=true->LX row=true->LX (enc (dec row))=true
 de:∀ a,dec (enc a)=a
 law:∀ (w:World) (I:Nat->Nat->Prop) (row:List V) (val:Nat->Value),fZ sh row=true->(∀ j,j<sh.length->Dat w I (row.getD j .undef) (val j))->∀ j,j<sh.length->Dat w I ((enc (dec row)).getD j .undef) (val j)
theorem lQ {sh:List Sh} {row:List V} (h:fZ sh row=true):row.length=sh.length:=(kP sh row h).1
theorem fits_int {k:IntKind} {v:V} (h:fits (.int k) v=true):∃ n,v = .int k n:=by
 cases v<;>first | (cases h; done) | (simp only [fits,decide_eq_true_eq] at h; subst h; exact ⟨_,rfl⟩)
theorem fits_bool {v:V} (h:fits .bool v=true):∃ n,v = .bool n:=by cases v<;>first | (cases h; done) | exact ⟨_,rfl⟩
theorem UU {v:V} (h:fits .str v=true):∃ n,v = .str n:=by cases v<;>first | (cases h; done) | exact ⟨_,rfl⟩
theorem UW {c:List Sh} {v:V} (h:fits (.slc c) v=true):(∃ r,v = .slc c r)∨v = .iZ c:=by
 cases v<;>first | (cases h; done) | (have:=Sh.oG _ _ h; subst this; first | exact .inl ⟨_,rfl⟩ | exact .inr rfl)
theorem pY {s:Sh} {row:List V} (h:fZ [s] row=true):∃ v,row=[v]∧fits s v=true:=by
 match row,h with
 | [],h=>cases h
 | [v],h =>
  refine ⟨v,rfl,?_⟩
  simp only [fZ] at h
  cases e:fits s v with
  | true=>rfl
  | false=>rw [e] at h; cases h
 | v::u::r,h =>
  simp only [fZ] at h
  cases e:fits s v with
  | true=>rw [e] at h; cases h
  | false=>rw [e] at h; cases h
theorem zh:∀ (s t:List Sh) (x y:List V),fZ s x=true->fZ t y=true->fZ (s++t) (x++y)=true
 | [],t,x,y,h,k=>by cases x with | nil=>exact k | cons _ _=>cases h
 | a::s,t,x,y,h,k=>by
  cases x with
  | nil=>cases h
  | cons v x =>
   simp only [fZ] at h
   simp only [List.cons_append,fZ]
   cases e:fits a v with
   | false=>rw [e] at h; cases h
   | true=>rw [e] at h; exact zh s t x y h k
theorem AL:∀ (s t:List Sh) (z:List V),fZ (s++t) z=true->fZ s (z.take s.length)=true∧fZ t (z.drop s.length)=true
 | [],t,z,h=>⟨rfl,by simpa using h⟩
 | a::s,t,z,h=>by
  cases z with
  | nil=>cases h
  | cons v z =>
   simp only [List.cons_append,fZ] at h
   simp only [List.length_cons,List.take_succ_cons,List.drop_succ_cons,fZ]
   cases e:fits a v with
   | false=>rw [e] at h; cases h
   | true=>rw [e] at h; exact AL s t z h
theorem Sh.I4:∀ (a b c d:List Sh),Sh.qp a b=true->Sh.qp c d=true->Sh.qp (a++c) (b++d)=true
 | [],b,c,d,h,k=>by cases b with | nil=>exact k | cons _ _=>cases h
 | x::a,b,c,d,h,k=>by
  cases b with
  | nil=>cases h
  | cons y b =>
   simp only [Sh.qp] at h
   simp only [List.cons_append,Sh.qp]
   cases e:Sh.beq x y with
   | false=>rw [e] at h; cases h
   | true=>rw [e] at h; exact Sh.I4 a b c d h k
def vw (k:IntKind):aj Int where
 sh:=[.int k]; enc n:=[.int k n]; dec r:=(r.getD 0 .undef).toInt
 rf:=by simp [Sh.qp,Sh.beq]
 fit _:=by simp [fZ,fits]
 de _:=rfl
 wf row h hw:=by
  obtain ⟨v,rfl,hf⟩:=pY h
  obtain ⟨n,rfl⟩:=fits_int hf
  exact hw
 law w I row val h hd j hj:=by
  obtain ⟨v,rfl,hf⟩:=pY h
  obtain ⟨n,rfl⟩:=fits_int hf
  have:j=0:=by simp at hj; exact hj
  subst this
  exact hd 0 (by simp)
def aeu:aj Bool where
 sh:=[.bool]; enc n:=[.bool n]; dec r:=(r.getD 0 .undef).toBool
 rf:=rfl
 fit _:=rfl
 de _:=rfl
 wf row h hw:=by
  obtain ⟨v,rfl,hf⟩:=pY h
  obtain ⟨n,rfl⟩:=fits_bool hf
  exact hw
 law w I row val h hd j hj:=by
  obtain ⟨v,rfl,hf⟩:=pY h
  obtain ⟨n,rfl⟩:=fits_bool hf
  have:j=0:=by simp at hj; exact hj
  subst this
  exact hd 0 (by simp)
def oH:aj (List UInt8) where
 sh:=[.str]; enc n:=[.str n]; dec r:=(r.getD 0 .undef).toStr
 rf:=rfl
 fit _:=rfl
 de _:=rfl
 wf row h hw:=by
  obtain ⟨v,rfl,hf⟩:=pY h
  obtain ⟨n,rfl⟩:=UU hf
  exact hw
 law w I row val h hd j hj:=by
  obtain ⟨v,rfl,hf⟩:=pY h
  obtain ⟨n,rfl⟩:=UU hf
  have:j=0:=by simp at hj; exact hj
  subst this
  exact hd 0 (by simp)
theorem UY {α:Type} (c:aj α) {w:World} {I:Nat->Nat->Prop} {rows:List (List V)} {x:Value} (h:Dat w I (.slc c.sh rows) x):Dat w I (.slc c.sh ((rows.map c.dec).map c.enc)) x:=by
 cases h with
 | slc _ _ a cap val hcap hnil hfit ha hd =>
  have hlen:((rows.map c.dec).map c.enc).length=rows.length:=by simp
  have hget:∀ i,i<rows.length->((rows.map c.dec).map c.enc).getD i []=c.enc (c.dec (rows.getD i [])):=fun i hi=>by
   simp [List.getD_eq_getElem?_getD,hi]
  rw [<- hlen]
  refine .slc _ _ a cap val (by rw [hlen]; exact hcap) hnil (jJ _ _ fun i hi=>?_) (fun hr=>?_) (fun i j hi hj=>?_)
  .rw [hlen] at hi; rw [hget i hi]; exact c.fit _
  .obtain ⟨b,o,h1,h2⟩:=ha (by intro e; subst e; exact hr rfl)
   exact ⟨b,o,h1,fun i j hi hj=>h2 i j (by rwa [hlen] at hi) hj⟩
  .rw [hlen] at hi
   unfold rowAt
   rw [hget i hi]
   exact c.law w I _ (val i) (fO _ _ hfit i hi) (fun j hj=>hd i j hi hj) j hj
def vC {α:Type} (c:aj α):aj (List α) where
 sh:=[.slc c.sh]; enc l:=[.slc c.sh (l.map c.enc)]; dec r:=(r.getD 0 .undef).toRows.map c.dec
 rf:=by simp [Sh.qp,Sh.beq,c.rf]
 fit _:=by simp [fZ,fits,c.rf]
 de l:=by simp [V.toRows,Function.comp_def,c.de]
 wf row h hw:=by
  obtain ⟨v,rfl,hf⟩:=pY h
  rcases UW hf with ⟨r,rfl⟩ | rfl
  .simp only [LX,wfV] at hw ⊢
   cases e1:Nat.ble r.length 9223372036854775807 with
   | false=>simp only [e1,cond_false] at hw; cases hw
   | true =>
    cases e3:dJ c.sh r with
    | false=>simp only [e1,e3,cond_true,cond_false] at hw; cases hw
    | true =>
     cases e2:JL r with
     | false=>simp only [e1,e2,e3,cond_true,cond_false] at hw; cases hw
     | true =>
      have g1:((r.map c.dec).map c.enc).length=r.length:=by simp
      have g2:dJ c.sh ((r.map c.dec).map c.enc)=true:=jJ _ _ fun i hi=>by
       rw [g1] at hi
       rw [show ((r.map c.dec).map c.enc).getD i []=c.enc (c.dec (r.getD i [])) by simp [List.getD_eq_getElem?_getD,hi]]
       exact c.fit _
      show (cond (cond (Nat.ble ((r.map c.dec).map c.enc).length 9223372036854775807) (cond (dJ c.sh ((r.map c.dec).map c.enc)) (JL ((r.map c.dec).map c.enc)) false) false) true false)=true
      rw [g1,e1,g2,UR c.dec c.enc c.sh c.wf r e3 e2]; rfl
  .rfl
 law w I row val h hd j hj:=by
  obtain ⟨v,rfl,hf⟩:=pY h
  have:j=0:=by simp at hj; exact hj
  subst this
  have h0:=hd 0 (by simp)
  rcases UW hf with ⟨r,rfl⟩ | rfl
  .exact UY c h0
  .exact UY c (rows:=[]) h0.tX
def aj.and {α β:Type} (c:aj α) (d:aj β):aj (α × β) where
 sh:=c.sh++d.sh; enc p:=c.enc p.1++d.enc p.2; dec r:=(c.dec (r.take c.sh.length),d.dec (r.drop c.sh.length))
 rf:=Sh.I4 _ _ _ _ c.rf d.rf
 fit p:=zh _ _ _ _ (c.fit _) (d.fit _)
 de p:=by
  have l1:(c.enc p.1).length=c.sh.length:=lQ (c.fit _)
  show (c.dec ((c.enc p.1++d.enc p.2).take c.sh.length),d.dec ((c.enc p.1++d.enc p.2).drop c.sh.length))=p
  rw [<- l1,List.take_left,List.drop_left,c.de,d.de]
 wf row h hw:=by
  obtain ⟨h1,h2⟩:=AL _ _ _ h
  have e:row.take c.sh.length++row.drop c.sh.length=row:=List.take_append_drop _ _
  rw [<- e,zf] at hw
  obtain ⟨w1,w2⟩:LX (row.take c.sh.length)=true∧LX (row.drop c.sh.length)=true:=by
   cases e1:LX (row.take c.sh.length) with
   | false=>rw [e1] at hw; cases hw
   | true=>rw [e1] at hw; exact ⟨rfl,hw⟩
  rw [zf,c.wf _ h1 w1,d.wf _ h2 w2]; rfl
 law w I row val h hd j hj:=by
  obtain ⟨h1,h2⟩:=AL _ _ _ h
  have l1:(c.enc (c.dec (row.take c.sh.length))).length=c.sh.length:=lQ (c.fit _)
  have hl:=lQ h
  simp only [List.length_append] at hj hl
  by_cases hjc:j<c.sh.length
  .have:=c.law w I _ val h1 (fun i hi=>by
    have:=hd i (by simp; omega)
    rwa [show (row.take c.sh.length).getD i .undef=row.getD i .undef by simp [List.getD_eq_getElem?_getD,hi]]) j hjc
   rwa [show (c.enc (c.dec (row.take c.sh.length))++d.enc (d.dec (row.drop c.sh.length))).getD j .undef=(c.enc (c.dec (row.take c.sh.length))).getD j .undef by
    simp [List.getD_eq_getElem?_getD,List.getElem?_append_left (show j<(c.enc (c.dec (row.take c.sh.length))).length by omega)]]
  .have:=d.law w I _ (fun i=>val (c.sh.length+i)) h2 (fun i hi=>by
    have:=hd (c.sh.length+i) (by simp; omega)
    rwa [show (row.drop c.sh.length).getD i .undef=row.getD (c.sh.length+i) .undef by simp [List.getD_eq_getElem?_getD]]) (j-c.sh.length) (by omega)
   rw [show c.sh.length+(j-c.sh.length)=j by omega] at this
   rwa [show (c.enc (c.dec (row.take c.sh.length))++d.enc (d.dec (row.drop c.sh.length))).getD j .undef=(d.enc (d.dec (row.drop c.sh.length))).getD (j-c.sh.length) .undef by
    simp [List.getD_eq_getElem?_getD,List.getElem?_append_right (show (c.enc (c.dec (row.take c.sh.length))).length<=j by omega),l1]]
def aj.iso {α β:Type} (c:aj α) (f:α->β) (g:β->α) (h:∀ a,g (f a)=a) (h2:∀ b,f (g b)=b):aj β where
 sh:=c.sh; enc b:=c.enc (g b); dec r:=f (c.dec r)
 rf:=c.rf
 fit b:=c.fit _
 de b:=by rw [c.de,h2]
 wf row hf hw:=by
  show LX (c.enc (g (f (c.dec row))))=true
  rw [h]; exact c.wf row hf hw
 law w I row val hf hd:=by
  show ∀ j,j<c.sh.length->Dat w I ((c.enc (g (f (c.dec row)))).getD j .undef) (val j)
  rw [h]
  exact c.law w I row val hf hd
structure Hz (α:Type) where
 ok:V->Bool
 enc:α->V
 dec:V->α
 ed:∀ a,ok (enc a)=true∧dec (enc a)=a
 law:∀ (w:World) (I:Nat->Nat->Prop) (ρ:Nat->Option Real) (v:V) (x:Value),ok v=true->Rv w I ρ v x->Rv w I ρ (enc (dec v)) x
theorem HY:∀ (sh:List Sh) (row:List V),fZ sh row=true->∀ j,j<sh.length->vk (row.getD j .undef)=true:=fun sh row h j hj=>by
 have:=(kP sh row h).2 j hj
 generalize sh.getD j .XG=s at this
 generalize row.getD j .undef=v at this
 cases s<;>cases v<;>first | rfl | cases this
def bJ {α:Type} (c:aj α):Hz α where
 ok:=fun | .agg cs=>fZ c.sh cs | _=>false
 enc a:=.agg (c.enc a)
 dec:=fun | .agg cs=>c.dec cs | _=>c.dec []
 ed a:=⟨c.fit a,c.de a⟩
 law w I ρ v x h hx:=by
  cases v with
  | agg cs =>
   obtain ⟨xs,rfl,l,hh⟩:=hx.nN
   have hl:=lQ h
   have hl' : (c.enc (c.dec cs)).length=c.sh.length:=lQ (c.fit _)
   refine .agg _ xs (by simp only; omega) fun i hi=>?_
   simp only at hi ⊢
   exact .dat (c.law w I cs (fun j=>xs.getD j Go.undef) h (fun j hj=>jf (hh j (by omega)) (HY _ _ h j hj)) i (by omega))
  | _=>cases h
def UZ {α:Type} (c:aj α) (h1:c.sh.length=1):Hz α where
 ok v:=fZ c.sh [v]
 enc a:=(c.enc a).headD .undef
 dec v:=c.dec [v]
 ed a:=by
  have l1:(c.enc a).length=1:=(lQ (c.fit _)).trans h1
  have e:[(c.enc a).headD .undef]=c.enc a:=by
   match hc:c.enc a,l1 with
   | [v],_=>rfl
   | [],h=>rw [hc] at l1; cases l1
   | _::_::_,h=>rw [hc] at l1; simp at l1
  rw [e]; exact ⟨c.fit a,c.de a⟩
 law w I ρ v x h hx:=by
  have hd:Dat w I v x:=jf hx (by simpa using HY _ _ h 0 (by omega))
  have:=c.law w I [v] (fun _=>x) h (fun j hj=>by
   have h0:j=0:=by omega
   subst h0
   exact hd) 0 (by omega)
  have e:(c.enc (c.dec [v])).headD .undef=(c.enc (c.dec [v])).getD 0 .undef:=by cases c.enc (c.dec [v])<;>rfl
  rw [e]; exact .dat this
def dA (k:IntKind):Hz Int:=UZ (vw k) rfl
def lC:Hz Bool:=UZ aeu rfl
def gy:Hz (List UInt8):=UZ oH rfl
def qw {α:Type} (c:aj α):Hz (List α):=UZ (vC c) rfl
def jL (n:Nat):Hz Unit where
 ok:=fun | .ptr m 0 0 0=>Nat.beq n m | _=>false
 enc _:=.ptr n 0 0 0
 dec _:=()
 ed _:=⟨Nat.beq_refl n,rfl⟩
 law w I ρ v x h hx:=by
  split at h
  .have:=Nat.eq_of_beq_eq_true h; subst this; exact hx
  .cases h
structure LY (α:Type) where
 ok:List V->Bool
 enc:α->List V
 dec:List V->α
 ed:∀ a,ok (enc a)=true∧dec (enc a)=a
 law:∀ (w:World) (I:Nat->Nat->Prop) (ρ:Nat->Option Real) (vs:List V) (xs:List Value),ok vs=true->dh w I ρ vs xs->dh w I ρ (enc (dec vs)) xs
def aew:LY Unit where
 ok:=fun | []=>true | _=>false
 enc _:=[]
 dec _:=()
 ed _:=⟨rfl,rfl⟩
 law w I ρ vs xs h hx:=by cases vs with | nil=>exact hx | cons _ _=>cases h
def aT {α:Type} (c:Hz α):LY α where
 ok:=fun | [v]=>c.ok v | _=>false
 enc a:=[c.enc a]
 dec vs:=c.dec (vs.headD .undef)
 ed a:=c.ed a
 law w I ρ vs xs h hx:=by
  match vs,h with
  | [v],h =>
   obtain ⟨x,rfl,hx1⟩:=hx.one
   refine ⟨rfl,fun i hi=>?_⟩
   have:i=0:=by simp at hi; exact hi
   subst this
   exact c.law w I ρ v x h hx1
  | [],h=>cases h
  | _::_::_,h=>cases h
def bg {α β:Type} (c:Hz α) (r:LY β):LY (α × β) where
 ok:=fun | v::vs=>cond (c.ok v) (r.ok vs) false | []=>false
 enc p:=c.enc p.1::r.enc p.2
 dec vs:=(c.dec (vs.headD .undef),r.dec vs.tail)
 ed p:=by
  obtain ⟨h1,h2⟩:=c.ed p.1
  obtain ⟨h3,h4⟩:=r.ed p.2
  refine ⟨?_,?_⟩
  .show cond (c.ok (c.enc p.1)) (r.ok (r.enc p.2)) false=true
   rw [h1,h3]; rfl
  .show (c.dec (c.enc p.1),r.dec (r.enc p.2))=p
   rw [h2,h4]
 law w I ρ vs xs h hx:=by
  cases vs with
  | nil=>cases h
  | cons v vs =>
   obtain ⟨h1,h2⟩:c.ok v=true∧r.ok vs=true:=by
    simp only at h
    cases e:c.ok v with
    | true=>rw [e] at h; exact ⟨rfl,h⟩
    | false=>rw [e] at h; cases h
   obtain ⟨x,xs',rfl,hx1,hx2⟩:=hx.pK
   have g1:=c.law w I ρ v x h1 hx1
   have g2:=r.law w I ρ vs xs' h2 hx2
   refine ⟨by simp [g2.1],fun i hi=>?_⟩
   cases i with
   | zero=>exact g1
   | succ i=>exact g2.2 i (by simpa using hi)
structure U0 (α:Type) where
 ok:List (List V)->Bool
 enc:α->List (List V)
 dec:List (List V)->α
 len:∀ bx,ok bx=true->(enc (dec bx)).length=bx.length
 law:∀ bx,ok bx=true->∀ (j:Nat) (cs cs' : List V),bx[j]? = some cs->(enc (dec bx))[j]? = some cs'->cs'.length=cs.length ∧
  ∀ (w:World) (J:Nat->Nat->Prop) (ρ:Nat->Option Real) (k:Nat) (y:Value),k<cs.length->Rv w J ρ (cs.getD k .undef) y->∀ val:Nat->Value,val k=y ->
   (∀ i,i<cs.length->Rv w J ρ (cs.getD i .undef) (val i))->Rv w J ρ (cs'.getD k .undef) y
def dV:U0 Unit where
 ok:=fun | []=>true | _=>false
 enc _:=[]
 dec _:=()
 len bx h:=by cases bx with | nil=>rfl | cons _ _=>cases h
 law bx h j cs cs' hj:=by cases bx with | nil=>cases hj | cons _ _=>cases h
theorem aex {α:Type} (c:aj α) {cs:List V} (h:fZ c.sh cs=true):(c.enc (c.dec cs)).length=cs.length ∧
  ∀ (w:World) (J:Nat->Nat->Prop) (ρ:Nat->Option Real) (k:Nat) (y:Value),k<cs.length->Rv w J ρ (cs.getD k .undef) y->∀ val:Nat->Value,val k=y ->
   (∀ i,i<cs.length->Rv w J ρ (cs.getD i .undef) (val i))->Rv w J ρ ((c.enc (c.dec cs)).getD k .undef) y:=by
 have hl:=lQ h
 have hl' : (c.enc (c.dec cs)).length=c.sh.length:=lQ (c.fit _)
 refine ⟨by omega,fun w J ρ k y hk hy val hv hall=>?_⟩
 have:=c.law w J cs val h (fun j hj=>jf (hall j (by omega)) (HY _ _ h j hj)) k (by omega)
 rw [hv] at this
 exact .dat this
def jr {α:Type} (c:aj α):U0 α where
 ok:=fun | [cs]=>fZ c.sh cs | _=>false
 enc a:=[c.enc a]
 dec bx:=c.dec (bx.headD [])
 len bx h:=by
  match bx,h with
  | [cs],h=>rfl
  | [],h=>cases h
  | _::_::_,h=>cases h
 law bx h j cs cs' hj hj':=by
  match bx,h with
  | [c₀],h =>
   have:j=0:=by
    have:=(List.getElem?_eq_some_iff.1 hj).1
    simp at this; exact this
   subst this
   cases hj; cases hj'
   exact aex c h
  | [],h=>cases h
  | _::_::_,h=>cases h
structure Out where
 v:V
 nb:List Box:=[]
def den {α β γ:Type} (A:LY α) (B:U0 β) (O:γ->Out) (p:α->β->Bool) (f:α->β->γ × β):Den where
 pre vs bx:=cond (A.ok vs) (cond (B.ok bx) (p (A.dec vs) (B.dec bx)) false) false
 res vs bx:={ v:=(O (f (A.dec vs) (B.dec bx)).1).v,bx:=B.enc (f (A.dec vs) (B.dec bx)).2,nb:=(O (f (A.dec vs) (B.dec bx)).1).nb }
def oV {α:Type} (c:Hz α) (a:α):Out:={ v:=c.enc a }
def vF {α:Type} (c:LY α) (a:α):Out:={ v:=.jc (c.enc a) }
def aoi {α:Type} (c:aj α) (a:α):Out:={ v:=.ptr NEW 0 0 0,nb:=[.var (c.enc a)] }
def ak9 {α:Type} (c:aj α) (l:List α):Out:={ v:=.own NEW 0,nb:=[.sl c.sh (l.map c.enc) 0] }
theorem bH.at {P:Program} {f:FuncId} {args:List V} {bx:List (List V)} {r:aJ} (h:bH P f { pre:=fun a b=>@decide (a=args∧b=bx) (Classical.propDecidable _),res:=fun _ _=>r }) {A' : List V} {B' : List (List V)}
  (hB:bx.length=B'.length) (hlen:∀ (j:Nat) (cs cs' : List V),B'[j]? = some cs->bx[j]? = some cs'->cs'.length=cs.length ∧
   ∀ (w:World) (J:Nat->Nat->Prop) (ρ:Nat->Option Real) (k:Nat) (y:Value),k<cs.length->Rv w J ρ (cs.getD k .undef) y->∀ val:Nat->Value,val k=y ->
   (∀ i,i<cs.length->Rv w J ρ (cs.getD i .undef) (val i))->Rv w J ρ (cs'.getD k .undef) y)
  (hA:∀ (w:World) (I:Nat->Nat->Prop) (ρ:Nat->Option Real) (xs:List Value),dh w I ρ A' xs->dh w I ρ args xs) :
  bH P f { pre:=fun a b=>@decide (a=A'∧b=B') (Classical.propDecidable _),res:=fun _ _=>r }:=by
 intro a b hpre w J fB xs hl hJ hx hc hdis hgl
 have hpre' : a=A'∧b=B':=by simpa using hpre
 obtain ⟨rfl,rfl⟩:=hpre'
 have get:∀ (j:Nat) (cs' : List V),bx[j]? = some cs'->∃ cs,b[j]? = some cs:=fun j cs' hj=>by
  have:=(List.getElem?_eq_some_iff.1 hj).1
  exact ⟨b[j]'(by omega),by simp⟩
 have hloc:jw fB bx=jw fB b:=by
  funext j
  unfold jw
  cases hlj:fB[j]? with
  | none=>rfl
  | some p =>
   cases hbj:bx[j]? with
   | none =>
    have:b[j]? = none:=by rw [List.getElem?_eq_none_iff] at hbj ⊢; omega
    rw [this]
   | some cs' =>
    obtain ⟨cs,hcs⟩:=get j cs' hbj
    rw [hcs]
    simp only [Option.some.injEq,Real.mk.injEq,true_and,and_true]
    exact (hlen j cs cs' hcs hbj).1
 have hhas:∀ r o,Am fB bx r o↔Am fB b r o:=fun r o=>by
  constructor
  .rintro ⟨j,p,cs',h1,h2,h3,h4,h5⟩
   obtain ⟨cs,hcs⟩:=get j cs' h2
   exact ⟨j,p,cs,h1,hcs,h3,h4,by rw [<- (hlen j cs cs' hcs h2).1]; exact h5⟩
  .rintro ⟨j,p,cs,h1,h2,h3,h4,h5⟩
   have hj:=(List.getElem?_eq_some_iff.1 h2).1
   have h2' : bx[j]? = some (bx[j]'(by omega)):=by simp
   exact ⟨j,p,_,h1,h2',h3,h4,by rw [(hlen j cs _ h2 h2').1]; exact h5⟩
 have main:=h args bx (by simp) w J fB xs (by omega) hJ (hloc ▸ hA w J _ xs hx) (fun j p cs' h1 h2 k hk=>by
   obtain ⟨cs,hcs⟩:=get j cs' h2
   obtain ⟨e1,e2⟩:=hlen j cs cs' hcs h2
   obtain ⟨⟨y,g1,g2⟩,g3,g4⟩:=hc j p cs h1 hcs k (by omega)
   have ex:∀ i,∃ z,i<cs.length->w.cell? ⟨p.1,p.2+i,none⟩=some z∧Rv w J mD (cs.getD i .undef) z:=fun i=>by
    by_cases hi:i<cs.length
    .obtain ⟨⟨z,q1,q2⟩,_⟩:=hc j p cs h1 hcs i hi; exact ⟨z,fun _=>⟨q1,q2⟩⟩
    .exact ⟨Go.undef,fun h=>absurd h hi⟩
   have hv:=fun i=>Classical.choose_spec (ex i)
   refine ⟨⟨y,g1,e2 w J mD k y (by omega) g2 (fun i=>Classical.choose (ex i)) ?_ (fun i hi=>(hv i hi).2)⟩,g3,g4⟩
   exact (Option.some.inj (g1.symm.trans (hv k (by omega)).1)).symm)
  (fun j j' p p' cs cs' r o h1 h2 h3 h4 h5 h6 h7 h8 h9 h10=>by
   obtain ⟨c,hc1⟩:=get j cs h3
   obtain ⟨c',hc2⟩:=get j' cs' h4
   exact hdis j j' p p' c c' r o h1 h2 hc1 hc2 h5 h6 (by rw [<- (hlen j c cs hc1 h3).1]; exact h7) h8 h9 (by rw [<- (hlen j' c' cs' hc2 h4).1]; exact h10)) hgl
 have conv:∀ v w',(∃ J',Du w w' J fB bx r v J')->∃ J',Du w w' J fB b r v J':=fun v w' ⟨J',hR⟩ =>
  ⟨J',⟨hR.keeps.mono fun r o _ h=>(hhas r o).1 h,hR.mono,hR.lt,hR.old,hR.len.trans hB,fun j cs cs' p h1 h2 h3=>by
   have hj:=(List.getElem?_eq_some_iff.1 h1).1
   have h2' : bx[j]? = some (bx[j]'(by omega)):=by simp
   have e:=hR.bx j _ cs' p h2' h2 h3
   exact ⟨e.1.trans (hlen j cs _ h1 h2').1,e.2⟩,hR.val⟩⟩
 rcases main with ⟨h1,h2⟩ | ⟨v,w',h1,h2⟩
 .exact .inl ⟨h1,h2.mono fun e w' ⟨v,hv,hr⟩=>⟨v,hv,conv v w' hr⟩⟩
 .exact .inr ⟨v,w',h1,conv v w' h2⟩
theorem Si {P:Program} {f:FuncId} {α β γ:Type} {A:LY α} {B:U0 β} {O:γ->Out} {p:α->β->Bool} {g:α->β->γ × β}
  (h:∀ a b,p a b=true->bH P f { pre:=fun x y=>@decide (x=A.enc a∧y=B.enc b) (Classical.propDecidable _),res:=fun _ _=>{ v:=(O (g a b).1).v,bx:=B.enc (g a b).2,nb:=(O (g a b).1).nb } }):bH P f (den A B O p g):=by
 intro args bx hpre
 obtain ⟨h1,hpre⟩:A.ok args=true∧cond (B.ok bx) (p (A.dec args) (B.dec bx)) false=true:=by
  simp only [den] at hpre
  cases e:A.ok args with
  | true=>rw [e] at hpre; exact ⟨rfl,hpre⟩
  | false=>rw [e] at hpre; cases hpre
 obtain ⟨h2,h3⟩:B.ok bx=true∧p (A.dec args) (B.dec bx)=true:=by
  cases e:B.ok bx with
  | true=>rw [e] at hpre; exact ⟨rfl,hpre⟩
  | false=>rw [e] at hpre; cases hpre
 exact ((h _ _ h3).at (A':=args) (B':=bx) (B.len bx h2) (B.law bx h2) (fun w I ρ xs hx=>A.law w I ρ args xs h1 hx)) args bx (by simp)
theorem ala {E:Env} (hG:OM E) {f:FuncId} {fn:Func} {c:Code} (hf:E.P.funcs[f]? = some fn) (hb:fn.body=some c)
  (hl : ∀ q ∈ fQ c, wV E fn.ntmps q.1 q.2) (hnm : (fn.name == "runtime.NumGoroutine") = false) {α β γ : Type} {A : LY α} {B : U0 β} {O : γ -> Out} {p : α -> β -> Bool} {g : α -> β -> γ × β}
  (h:∀ a b,p a b=true->bV E f (A.enc a) (B.enc b) some=some { v:=(O (g a b).1).v,bx:=B.enc (g a b).2,nb:=(O (g a b).1).nb }):bH E.P f (den A B O p g):=by
 intro args bx hpre
 obtain ⟨h1,hpre⟩:A.ok args=true∧cond (B.ok bx) (p (A.dec args) (B.dec bx)) false=true:=by
  simp only [den] at hpre
  cases e:A.ok args with
  | true=>rw [e] at hpre; exact ⟨rfl,hpre⟩
  | false=>rw [e] at hpre; cases hpre
 obtain ⟨h2,h3⟩:B.ok bx=true∧p (A.dec args) (B.dec bx)=true:=by
  cases e:B.ok bx with
  | true=>rw [e] at hpre; exact ⟨rfl,hpre⟩
  | false=>rw [e] at hpre; cases hpre
 have hE:=LW hG hf hb hl hnm (D:={ pre:=fun a b=>@decide (a=A.enc (A.dec args)∧b=B.enc (B.dec bx)) (Classical.propDecidable _),res:=fun _ _=>(den A B O p g).res args bx }) (fun a b hab=>by
  have hab:a=A.enc (A.dec args)∧b=B.enc (B.dec bx):=by simpa using hab
  obtain ⟨rfl,rfl⟩:=hab
  exact h _ _ h3)
 exact (hE.at (A':=args) (B':=bx) (B.len bx h2) (B.law bx h2) (fun w I ρ xs hx=>A.law w I ρ args xs h1 hx)) args bx (by simp)
end Go.Ev

namespace Go.Ev
open Go Go.RowKit
def gu (P:Program) (T:List (Nat × Den)):Prop:=∀ f D,dF T f=some D->bH P f D
theorem gu.nil (P:Program):gu P []:=fun f D h=>by cases h
theorem gu.cons {P:Program} {T:List (Nat × Den)} {f:Nat} {D:Den} (h:bH P f D) (hT:gu P T):gu P ((f,D)::T):=fun g D' hg=>by
 simp only [dF] at hg
 cases e:Nat.beq g f with
 | true =>
  rw [e] at hg
  have:=Nat.eq_of_beq_eq_true e
  subst this
  cases hg; exact h
 | false=>rw [e] at hg; exact hT g D' hg
abbrev ajW:=St->(Ex->St->Option R)->Option R
def env (P:Program) (T:List (Nat × Den)) (L:List (Nat × ajW)) (kt:List (Nat × List (Nat × List Nat))) (ow:List Nat:=[]):Env :=
 { P:=P,G:=dF T,L:=dF L,keep:=fun id e=>lk [] (lk [] kt id) e,ow:=fun f=>nV f ow }
def o9 (E:Env) (f:FuncId) (id:Nat):Nat->St->(Ex->St->Option R)->Option R
 | 0,_,_=>none
 | n+1,S,K=>bI E f id S fun e S=>match e with
  | .normal=>o9 E f id n S K
  | e=>K e S
def dM (E:Env) (f:FuncId) (id:Nat):Prop:=∀ F,E.L id=some F->∀ S K q,F S K=some q->∃ n,o9 E f id n S K=some q
def LZ:List (Nat × Code)->Bool
 | []=>true
 | p::r=>cond (r.all fun q=>!Nat.beq p.1 q.1) (LZ r) false
theorem Sj:∀ (l:List (Nat × Code)),LZ l=true->∀ i c,(i,c)∈l->dF l i=some c
 | [],_,i,c,h=>by cases h
 | (j,d)::r,hn,i,c,h=>by
  simp only [LZ] at hn
  cases ha:r.all fun q=>!Nat.beq j q.1 with
  | false=>simp only [ha] at hn; cases hn
  | true =>
   simp only [ha,cond_true] at hn
   simp only [dF]
   rcases List.mem_cons.1 h with e | h
   .cases e; simp
   .have:=List.all_eq_true.1 ha (i,c) h
    have e:Nat.beq i j=false:=by
     rw [Bool.eq_false_iff]
     intro e
     have:=Nat.eq_of_beq_eq_true e
     subst this
     simp at *
    rw [e]
    exact Sj r hn i c h
theorem Sl {E:Env} {f:FuncId} {fn:Func} {c:Code} (hf:E.P.funcs[f]? = some fn) (hb:fn.body=some c) {id:Nat} {b:Code} (hl:dF (fQ c) id=some b) :
  ∀ n S K,o9 E f id n S K=IE E id b n S K
 | 0,S,K=>rfl
 | n+1,S,K=>by
  have ih:=Sl (E:=E) hf hb hl n
  have e:∀ K',bI E f id S K' = Rw E id b S K':=fun K'=>by
   unfold bI; rw [hf]; simp only [hb,hl]
  unfold o9 IE
  rw [e]
  congr 1
  funext e S
  cases e with
  | normal=>exact ih S K
  | _=>rfl
theorem kJ {E:Env} {m:Nat} (hG:OM E):∀ (c:Code),nK m c=true ->
  (∀ p∈fQ c,∀ F,E.L p.1=some F->∀ S K q,F S K=some q->∃ n,IE E p.1 p.2 n S K=some q)->∀ p∈fQ c,wV E m p.1 p.2
 | .seq a b,hd,h,p,hp=>by
  obtain ⟨d1,d2⟩:=dL hd
  rcases List.mem_append.1 hp with hp | hp
  .exact kJ hG a d1 (fun q hq=>h q (List.mem_append_left _ hq)) p hp
  .exact kJ hG b d2 (fun q hq=>h q (List.mem_append_right _ hq)) p hp
 | .cond x a b,hd,h,p,hp=>by
  obtain ⟨d1,d2⟩:=dL hd
  rcases List.mem_append.1 hp with hp | hp
  .exact kJ hG a d1 (fun q hq=>h q (List.mem_append_left _ hq)) p hp
  .exact kJ hG b d2 (fun q hq=>h q (List.mem_append_right _ hq)) p hp
 | .block id c,hd,h,p,hp=>kJ hG c hd h p hp
 | .scope c,hd,h,p,hp=>kJ hG c hd h p hp
 | .loop c,hd,h,p,hp=>by
  have hd' : nK m c=true:=hd
  unfold fQ at hp h
  cases hr:kG c with
  | none =>
   rw [hr] at hp h
   exact kJ hG c hd' h p hp
  | some j =>
   rw [hr] at hp h
   have inner:=kJ hG c hd' (fun q hq=>h q (List.mem_cons_of_mem _ hq))
   rcases List.mem_cons.1 hp with rfl | hp
   .exact X8 hG inner hd' (h (j,c) List.mem_cons_self)
   .exact inner p hp
 | .skip,hd,h,p,hp=>by cases hp
 | .region ..,hd,h,p,hp=>by cases hp
 | .exit ..,hd,h,p,hp=>by cases hp
 | .label ..,hd,h,p,hp=>by cases hp
 | .ret,hd,h,p,hp=>by cases hp
 | .goto ..,hd,h,p,hp=>by cases hp
 | .refuse ..,hd,h,p,hp=>by cases hp
 | .rangeFunc ..,hd,h,p,hp=>by cases hp
theorem aib {E:Env} (hG:OM E) {f:FuncId} {fn:Func} {c:Code} (hf:E.P.funcs[f]? = some fn) (hb:fn.body=some c)
  (hd : nK fn.ntmps c = true) (hn : LZ (fQ c) = true) (hl : ∀ q ∈ fQ c, dM E f q.1) (hnm : (fn.name == "runtime.NumGoroutine") = false) {α β γ : Type} {A : LY α} {B : U0 β} {O : γ -> Out} {p : α -> β -> Bool} {g : α -> β -> γ × β}
  (h:∀ a b,p a b=true->bV E f (A.enc a) (B.enc b) some=some { v:=(O (g a b).1).v,bx:=B.enc (g a b).2,nb:=(O (g a b).1).nb }):bH E.P f (den A B O p g) :=
 ala hG hf hb (kJ hG c hd fun q hq F hF S K r hr=>by
  obtain ⟨n,hn'⟩:=hl q hq F hF S K r hr
  exact ⟨n,by rw [<- Sl hf hb (Sj _ hn q.1 q.2 hq)]; exact hn'⟩) hnm h
theorem aic {s:Sh} {v:V} (h:adQ s v=true):eta s v=v:=by
 cases s with
 | bool=>cases v<;>first | rfl | cases h
 | int k =>
  cases v with
  | int k' n=>have:k=k':=of_decide_eq_true h; subst this; rfl
  | _=>cases h
 | str=>cases v<;>first | rfl | cases h
 | slc c =>
  cases v with
  | slc c' r=>have:=Sh.oG _ _ h; subst this; rfl
  | _=>cases h
 | XG=>cases v<;>cases h
theorem Ea:∀ (sh:List Sh) (pre vs:List V),DU sh vs=true->aF sh pre.length (pre++vs)=vs
 | [],pre,[],_=>rfl
 | [],_,_::_,h=>by cases h
 | _::_,_,[],h=>by cases h
 | s::ss,pre,v::vs,h=>by
  simp only [DU] at h
  cases hf:adQ s v with
  | false=>rw [hf] at h; cases h
  | true =>
   rw [hf] at h
   have ih:=Ea ss (pre++[v]) vs h
   rw [List.append_assoc,List.singleton_append,List.length_append] at ih
   show eta s ((pre++v::vs).getD pre.length .undef)::aF ss (pre.length+1) (pre++v::vs)=_
   rw [show aF ss (pre.length+1) (pre++v::vs)=vs from ih,show (pre++v::vs).getD pre.length .undef=v by simp [List.getD_eq_getElem?_getD],aic hf]
mutual
theorem nU.get_put:∀ (s:nU) (v:V) (x:List Leaf),nU.get s v=some x->∀ r,nU.put s (x++r)=(v,r)
 | .undef,v,x,h,r=>by cases v<;>simp [nU.get] at h<;>subst h<;>rfl
 | .bool,v,x,h,r=>by cases v<;>simp [nU.get] at h<;>subst h<;>rfl
 | .int k,v,x,h,r=>by
  cases v<;>simp only [nU.get,reduceCtorEq] at h
  rename_i k' n
  by_cases e:k=k'
  .subst e; simp at h; subst h; rfl
  .simp [e] at h
 | .str,v,x,h,r=>by cases v<;>simp [nU.get] at h<;>subst h<;>rfl
 | .nJ,v,x,h,r=>by cases v<;>simp [nU.get] at h<;>subst h<;>rfl
 | .qo,v,x,h,r=>by cases v<;>simp [nU.get] at h<;>subst h<;>rfl
 | .wH,v,x,h,r=>by cases v<;>simp [nU.get] at h<;>subst h<;>rfl
 | .ptr d a o,v,x,h,r=>by
  cases v<;>simp only [nU.get,reduceCtorEq] at h
  rename_i d' a' o' g
  cases e1:Nat.beq d d'<;>cases e2:Nat.beq a a'<;>cases e3:Nat.beq o o'<;>cases e4:Nat.beq g 0<;>simp only [e1,e2,e3,e4,cond_true,cond_false,reduceCtorEq] at h
  cases h
  have:=Nat.eq_of_beq_eq_true e1; have:=Nat.eq_of_beq_eq_true e2; have:=Nat.eq_of_beq_eq_true e3; have:=Nat.eq_of_beq_eq_true e4
  subst_vars; rfl
 | .own d,v,x,h,r=>by
  cases v<;>simp only [nU.get,reduceCtorEq] at h
  rename_i d' g
  cases e1:Nat.beq d d'<;>cases e4:Nat.beq g 0<;>simp only [e1,e4,cond_true,cond_false,reduceCtorEq] at h
  cases h
  have:=Nat.eq_of_beq_eq_true e1; have:=Nat.eq_of_beq_eq_true e4
  subst_vars; rfl
 | .slc sh,v,x,h,r=>by
  cases v<;>simp only [nU.get,reduceCtorEq] at h
  rename_i sh' rows
  cases e1:Sh.qp sh sh'<;>simp only [e1,cond_true,cond_false,reduceCtorEq] at h
  cases h
  have:=Sh.oG _ _ e1
  subst this; rfl
 | .agg cs,v,x,h,r=>by
  cases v<;>simp only [nU.get,reduceCtorEq] at h
  simp only [nU.put,nU.uI cs _ x h r]
 | .iY cs,v,x,h,r=>by
  cases v<;>simp only [nU.get,reduceCtorEq] at h
  simp only [nU.put,nU.uI cs _ x h r]
 | .rowA sh,v,x,h,r=>by
  cases v<;>simp only [nU.get,reduceCtorEq] at h
  rename_i vs
  cases e:DU sh vs with
  | false=>rw [e] at h; cases h
  | true =>
   rw [e] at h; cases h
   show (V.agg (aF sh 0 vs),r)=_
   rw [show aF sh 0 vs=vs from Ea sh [] vs e]
 | .fn f a b,v,x,h,r=>by
  cases v<;>simp only [nU.get,reduceCtorEq] at h
  rename_i f' a' b'
  cases e1:Nat.beq f f' with
  | false=>simp only [e1,cond_false,reduceCtorEq] at h
  | true =>
   simp only [e1,cond_true] at h
   have:=Nat.eq_of_beq_eq_true e1
   subst this
   split at h
   .rename_i y hy
    split at h
    .rename_i z hz
     cases h
     simp only [nU.put,List.append_assoc,nU.uI a _ y hy,nU.uI b _ z hz]
    .cases h
   .cases h
theorem nU.uI:∀ (s:List nU) (v:List V) (x:List Leaf),nU.KH s v=some x->∀ r,nU.Rx s (x++r)=(v,r)
 | [],v,x,h,r=>by cases v<;>simp [nU.KH] at h; subst h; rfl
 | s::ss,v,x,h,r=>by
  cases v with
  | nil=>simp [nU.KH] at h
  | cons v vs =>
   simp only [nU.KH] at h
   split at h
   .rename_i y hy
    split at h
    .rename_i z hz
     cases h
     simp only [nU.Rx,List.append_assoc,nU.get_put s _ y hy,nU.uI ss _ z hz]
    .cases h
   .cases h
end
theorem xI.get_put (s:xI) (v:Box) (x:List Leaf) (h:xI.get s v=some x) (r:List Leaf):xI.put s (x++r)=(v,r):=by
 cases s with
 | var cs =>
  cases v<;>simp only [xI.get,reduceCtorEq] at h
  simp only [xI.put,nU.uI cs _ x h r]
 | sl sh =>
  cases v<;>simp only [xI.get,reduceCtorEq] at h
  rename_i sh' rows g
  cases e1:Sh.qp sh sh'<;>cases e4:Nat.beq g 0<;>simp only [e1,e4,cond_true,cond_false,reduceCtorEq] at h
  cases h
  have:=Sh.oG _ _ e1; have:=Nat.eq_of_beq_eq_true e4
  subst_vars; rfl
 | row cs sh =>
  cases v<;>simp only [xI.get,reduceCtorEq] at h
  rename_i vs
  split at h
  .rename_i y hy
   cases e:DU sh (vs.drop cs.length) with
   | false=>rw [e] at h; cases h
   | true =>
    rw [e] at h; cases h
    have h1:=nU.uI cs _ y hy (.c (vs.drop cs.length)::r)
    have h2:aF sh 0 (vs.drop cs.length)=vs.drop cs.length:=Ea sh [] _ e
    simp only [xI.put,List.append_assoc,List.singleton_append,h1,h2,List.take_append_drop]
  .cases h
theorem P6:∀ (s:List (Nat × nU)) (v:List (Nat × V)) (x:List Leaf),Px s v=some x->∀ r,ZQ s (x++r)=(v,r)
 | [],v,x,h,r=>by cases v<;>simp [Px] at h; subst h; rfl
 | (i,s)::ss,v,x,h,r=>by
  cases v with
  | nil=>simp [Px] at h
  | cons v vs =>
   obtain ⟨j,v⟩:=v
   simp only [Px] at h
   cases e:Nat.beq i j with
   | false=>simp only [e,cond_false,reduceCtorEq] at h
   | true =>
    have:=Nat.eq_of_beq_eq_true e
    subst this
    simp only [e,cond_true] at h
    split at h
    .rename_i y hy
     split at h
     .rename_i z hz
      cases h
      simp only [ZQ,List.append_assoc,nU.get_put s _ y hy,P6 ss _ z hz]
     .cases h
    .cases h
theorem L6:∀ (s:List (Nat × xI)) (v:List (Nat × Box)) (x:List Leaf),G9 s v=some x->∀ r,mQ s (x++r)=(v,r)
 | [],v,x,h,r=>by cases v<;>simp [G9] at h; subst h; rfl
 | (i,s)::ss,v,x,h,r=>by
  cases v with
  | nil=>simp [G9] at h
  | cons v vs =>
   obtain ⟨j,v⟩:=v
   simp only [G9] at h
   cases e:Nat.beq i j with
   | false=>simp only [e,cond_false,reduceCtorEq] at h
   | true =>
    have:=Nat.eq_of_beq_eq_true e
    subst this
    simp only [e,cond_true] at h
    split at h
    .rename_i y hy
     split at h
     .rename_i z hz
      cases h
      simp only [mQ,List.append_assoc,xI.get_put s _ y hy,L6 ss _ z hz]
     .cases h
    .cases h
theorem fK.get_put (c:fK) (S:St) (x:List Leaf) (h:c.get S=some x):S=c.put x:=by
 unfold fK.get at h
 split at h
 .rename_i y hy
  split at h
  .rename_i z hz
   cases h
   have e:=L6 c.tab _ z hz []
   rw [List.append_nil] at e
   simp only [fK.put,P6 c.fr _ y hy,e]
  .cases h
 .cases h
def dO (c:fK) (G:List Leaf->(Ex->St->Option R)->Option R):ajW:=fun S K=>match c.get S with | some l=>G l K | none=>none
theorem bn {E:Env} {f:FuncId} {id:Nat} {c:fK} {G:List Leaf->(Ex->St->Option R)->Option R} (hL:E.L id=some (dO c G))
  (h:∀ l K q,G l K=some q->∃ n,o9 E f id n (c.put l) K=some q):dM E f id:=fun F hF S K q hq=>by
 rw [hL] at hF
 cases hF
 unfold dO at hq
 split at hq
 .rename_i l hl
  have:=fK.get_put c S l hl
  subst this
  exact h l K q hq
 .cases hq
theorem I5 {E:Env} {f:FuncId} {id:Nat} (hL:E.L id=some fun _ _=>none):dM E f id:=fun F hF S K q hq=>by rw [hL] at hF; cases hF; cases hq
theorem dN {E:Env} {f:FuncId} {id:Nat} {σ:Type} (enc:σ->St) (inv:σ->Prop) (μ:σ->Nat) (res:σ->(Ex->St->Option R)->Option R)
  (h:∀ s,inv s->(∃ s',inv s'∧μ s' < μ s∧(∀ K,bI E f id (enc s) K=K .normal (enc s'))∧∀ K,res s K=res s' K) ∨
   ∃ e S,e ≠ .normal∧(∀ K,bI E f id (enc s) K=K e S)∧∀ K,res s K=K e S) (s:σ) (hs:inv s) (K:Ex->St->Option R) (q:R) (hq:res s K=some q):∃ n,o9 E f id n (enc s) K=some q:=by
 have main:∀ (d:Nat) (s:σ),μ s<=d->inv s->res s K=some q->∃ n,o9 E f id n (enc s) K=some q:=by
  intro d
  induction d with
  | zero =>
   intro s hd hs hq
   rcases h s hs with ⟨s',_,h2,_,_⟩ | ⟨e,S,he,h1,h2⟩
   .omega
   .refine ⟨1,?_⟩
    unfold o9
    rw [h1]
    rw [h2] at hq
    cases e with
    | normal=>exact absurd rfl he
    | exit j=>exact hq
    | ret=>exact hq
  | succ d ih =>
   intro s hd hs hq
   rcases h s hs with ⟨s',hi,h2,h3,h4⟩ | ⟨e,S,he,h1,h2⟩
   .obtain ⟨n,hn⟩:=ih s' (by omega) hi (by rw [<- h4]; exact hq)
    refine ⟨n+1,?_⟩
    unfold o9
    rw [h3]; exact hn
   .refine ⟨1,?_⟩
    unfold o9
    rw [h1]
    rw [h2] at hq
    cases e with
    | normal=>exact absurd rfl he
    | exit j=>exact hq
    | ret=>exact hq
 exact main (μ s) s (Nat.le_refl _) hs hq
theorem eF {x y:Int} (h:x<y):aU x y=true:=by rw [kN]; exact decide_eq_true h
theorem gZ {x y:Int} (h:y<=x):aU x y=false:=by rw [kN]; exact decide_eq_false (by omega)
theorem dY {x y:Int} (h:x<=y):bW x y=true:=by rw [wI]; exact decide_eq_true h
theorem zS {x y:Int} (h:y<x):bW x y=false:=by rw [wI]; exact decide_eq_false (by omega)
theorem fA {x y:Nat} (h:x<=y):Nat.ble x y=true:=Nat.ble_eq_true_of_le h
theorem alb {x y:Nat} (h:x=y):Nat.beq x y=true:=by subst h; exact Nat.beq_refl x
theorem aan {x y:Int} (h:x=y):(x==y)=true:=beq_iff_eq.2 h
theorem I7 {x y:Int} (h:x ≠ y):(x==y)=false:=beq_eq_false_iff_ne.2 h
theorem aao {x y:Int} (h:x ≠ y):(x != y)=true:=by rw [bne,I7 h]; rfl
theorem I8 {x y:Int} (h:x=y):(x != y)=false:=by rw [bne,aan h]; rfl
theorem bK {x y:Int} (h:bW x y=true):x<=y:=by rw [wI] at h; exact of_decide_eq_true h
theorem nP {x y:Int} (h:bW x y=false):y<x:=by rw [wI] at h; have:=of_decide_eq_false h; omega
theorem jv {x y:Int} (h:aU x y=true):x<y:=by rw [kN] at h; exact of_decide_eq_true h
theorem dP {x y:Int} (h:aU x y=false):y<=x:=by rw [kN] at h; have:=of_decide_eq_false h; omega
theorem aZ {x y:Int} (h:(x==y)=true):x=y:=beq_iff_eq.1 h
theorem aV {x y:Nat} (h:Nat.ble x y=true):x<=y:=Nat.le_of_ble_eq_true h
theorem dQ {n:Int} (h1 : -9223372036854775808<=n) (h2:n<=9223372036854775807):IntKind.wrap .i64 n=n:=by
 simp only [IntKind.wrap,IntKind.signed,IntKind.bits]
 simp
 omega
theorem evs:(∀ {x y:Int},x<y->aU x y=true)∧(∀ {x y:Int},y<=x->aU x y=false)∧(∀ {x y:Int},x<=y->bW x y=true)∧(∀ {x y:Int},y<x->bW x y=false) ∧
  (∀ {x y:Nat},x<=y->Nat.ble x y=true)∧(∀ {x y:Nat},x=y->Nat.beq x y=true)∧(∀ {x y:Int},x=y->(x==y)=true)∧(∀ {x y:Int},x ≠ y->(x==y)=false) ∧
  (∀ {x y:Int},x ≠ y->(x != y)=true)∧(∀ {x y:Int},x=y->(x != y)=false)∧(∀ {p:Prop} [Decidable p],p->decide p=true) ∧
  (∀ {n:Int},-9223372036854775808<=n->n<=9223372036854775807->IntKind.wrap .i64 n=n)∧(∀ {α:Type} (a b:α),cond true a b=a)∧(∀ {α:Type} (a b:α),cond false a b=b) ∧
  (∀ {α β:Type} (l:List α) (f:α->β),(l.map f).length=l.length)∧(∀ {α:Type} (n:Nat) (a:α),(List.replicate n a).length=n)∧(∀ {α:Type} (l:List α) (i:Nat) (a:α),(l.set i a).length=l.length) ∧
  (∀ {α:Type} (l m:List α),(l++m).length=l.length+m.length)∧Int.toNat 0=0∧(∀ p:Prop,(True∧p)=p)∧(∀ p:Prop,(p∧True)=p) :=
 ⟨eF,gZ,dY,zS,fA,alb,aan,I7,aao,I8,fun h=>decide_eq_true h,dQ,fun _ _=>rfl,fun _ _=>rfl,fun _ _=>List.length_map ..,fun _ _=>List.length_replicate,fun _ _ _=>List.length_set,fun _ _=>List.length_append,rfl,true_and,and_true⟩
def Eb (fn:Func):Code:=fn.body.getD .skip
def Sm:List Nat->List Nat->Bool
 | [],[]=>true | a::x,b::y=>cond (Nat.beq a b) (Sm x y) false
 | _,_=>false
def chk (fn:Func) (ids:List Nat):Bool :=
 cond fn.body.isSome (cond (nK fn.ntmps (Eb fn)) (cond (LZ (fQ (Eb fn))) (cond (Sm ((fQ (Eb fn)).map (·.1)) ids) (!(fn.name == "runtime.NumGoroutine")) false) false) false) false
theorem H6:∀ (a b:List Nat),Sm a b=true->a=b
 | [],b,h=>by cases b<;>first | rfl | cases h
 | a::x,b,h=>by
  cases b with
  | nil=>cases h
  | cons c y =>
   simp only [Sm] at h
   cases e:Nat.beq a c with
   | false=>rw [e] at h; cases h
   | true =>
    rw [e] at h
    rw [Nat.eq_of_beq_eq_true e,H6 x y h]
theorem aX {a b:Bool} (h:cond a b false=true):a=true∧b=true:=by cases a<;>cases b<;>simp at *
theorem aN {E:Env} (hG:OM E) {f:FuncId} {fn:Func} (hf:E.P.funcs[f]? = some fn) (ids:List Nat) (hk:chk fn ids=true) (hl:∀ id∈ids,dM E f id)
  {α β γ:Type} {A:LY α} {B:U0 β} {O:γ->Out} {p:α->β->Bool} {g:α->β->γ × β}
  (h:∀ a b,p a b=true->bV E f (A.enc a) (B.enc b) some=some { v:=(O (g a b).1).v,bx:=B.enc (g a b).2,nb:=(O (g a b).1).nb }):bH E.P f (den A B O p g):=by
 unfold chk at hk
 obtain ⟨h1,hk⟩:=aX hk
 obtain ⟨h2,hk⟩:=aX hk
 obtain ⟨h3,hk⟩:=aX hk
 obtain ⟨h4,hk⟩:=aX hk
 have e:=H6 _ _ h4
 obtain ⟨c,hc⟩:=Option.isSome_iff_exists.1 h1
 have hb:Eb fn=c:=by unfold Eb; rw [hc]; rfl
 rw [hb] at h2 h3 e
 exact aib hG hf hc h2 h3 (fun q hq=>hl q.1 (by rw [<- e]; exact List.mem_map_of_mem hq)) (by simpa using hk) h
theorem none0 {p:Nat->Prop}:∀ id∈([]:List Nat),p id:=fun _ h=>by cases h
theorem one1 {p:Nat->Prop} {a:Nat} (h:p a):∀ id∈[a],p id:=fun id hi=>by
 have:=List.mem_singleton.1 hi; subst this; exact h
theorem FH {p:Nat->Prop} {a b:Nat} (h:p a) (k:p b):∀ id∈[a,b],p id:=fun id hi=>by
 rcases List.mem_cons.1 hi with rfl | hi
 .exact h
 .exact one1 k id hi
theorem aey {p:Nat->Prop} {a b c:Nat} (h:p a) (k:p b) (l:p c):∀ id∈[a,b,c],p id:=fun id hi=>by
 rcases List.mem_cons.1 hi with rfl | hi
 .exact h
 .exact FH k l id hi
theorem aQ {E:Env} {T:List (Nat × Den)} (h:gu E.P T) (hT:E.G=dF T:=by rfl) (hM:E.M=(fun _=>none):=by rfl) (hX:E.X=(fun _=>none):=by rfl):OM E :=
 ⟨fun f D hf=>h f D (by rw [<- hT]; exact hf),(fun f F hf=>by rw [hM] at hf; cases hf),fun f F hf=>by rw [hX] at hf; cases hf⟩
abbrev MF:=adE
abbrev XF:=List V->List (Nat × Box)->(V->List (Nat × Box)->Option R)->Option R
def MOk (P:Program) (T:List (Nat × MF)):Prop:=∀ f F,dF T f=some F->aac P f F
theorem MOk.nil (P:Program):MOk P []:=fun f F h=>by cases h
theorem MOk.cons {P:Program} {T:List (Nat × MF)} {f:Nat} {F:MF} (h:aac P f F) (hT:MOk P T):MOk P ((f,F)::T):=fun g F' hg=>by
 simp only [dF] at hg
 cases e:Nat.beq g f with
 | true =>
  rw [e] at hg
  obtain rfl:=Nat.eq_of_beq_eq_true e
  cases hg; exact h
 | false=>rw [e] at hg; exact hT g F' hg
def XOk (P:Program) (T:List (Nat × XF)):Prop:=∀ f F,dF T f=some F->ad9 P f F
theorem XOk.nil (P:Program):XOk P []:=fun f F h=>by cases h
theorem XOk.cons {P:Program} {T:List (Nat × XF)} {f:Nat} {F:XF} (h:ad9 P f F) (hT:XOk P T):XOk P ((f,F)::T):=fun g F' hg=>by
 simp only [dF] at hg
 cases e:Nat.beq g f with
 | true =>
  rw [e] at hg
  obtain rfl:=Nat.eq_of_beq_eq_true e
  cases hg; exact h
 | false=>rw [e] at hg; exact hT g F' hg
theorem alc {E:Env} (hG:OM E) {f:FuncId} {fn:Func} (hf:E.P.funcs[f]? = some fn) (ids:List Nat) (hk:chk fn ids=true) (hl:∀ id∈ids,dM E f id) (args:List V) (bx:List (List V)) (r:aJ)
  (h:bV E f args bx some=some r):bH E.P f { pre:=fun a b=>@decide (a=args∧b=bx) (Classical.propDecidable _),res:=fun _ _=>r }:=by
 unfold chk at hk
 obtain ⟨h1,hk⟩:=aX hk
 obtain ⟨h2,hk⟩:=aX hk
 obtain ⟨h3,hk⟩:=aX hk
 obtain ⟨h4,hk⟩:=aX hk
 have e:=H6 _ _ h4
 obtain ⟨c,hc⟩:=Option.isSome_iff_exists.1 h1
 have hb:Eb fn=c:=by unfold Eb; rw [hc]; rfl
 rw [hb] at h2 h3 e
 exact LW hG hf hc (kJ hG c h2 fun q hq F hF S K r hr=>by
  obtain ⟨n,hn'⟩:=hl q.1 (by rw [<- e]; exact List.mem_map_of_mem hq) F hF S K r hr
  exact ⟨n,by rw [<- Sl hf hc (Sj _ h3 q.1 q.2 hq)]; exact hn'⟩) (by simpa using hk) (fun a b hab=>by
  have hab:a=args∧b=bx:=by simpa using hab
  obtain ⟨rfl,rfl⟩:=hab
  exact h)
theorem bH.empty {P:Program} {f:FuncId} {sh:List Sh} {r:aJ} (h1:bH P f { pre:=fun a b=>@decide (a=[.iZ sh]∧b=[]) (Classical.propDecidable _),res:=fun _ _=>r })
  (h2:bH P f { pre:=fun a b=>@decide (a=[.nn sh]∧b=[]) (Classical.propDecidable _),res:=fun _ _=>r }):bH P f { pre:=fun a b=>@decide (a=[.slc sh []]∧b=[]) (Classical.propDecidable _),res:=fun _ _=>r }:=by
 intro a b hpre w J fB xs hl hJ hx hc hdis hgl
 have hpre:a=[.slc sh []]∧b=[]:=by simpa using hpre
 obtain ⟨rfl,rfl⟩:=hpre
 obtain ⟨x,rfl,hx1⟩:=hx.one
 have one:∀ v,Rv w J (jw fB []) v x->dh w J (jw fB []) [v] [x]:=fun v hv=>⟨rfl,fun i hi=>by
  have:i=0:=by simp at hi; exact hi
  subst this; exact hv⟩
 cases hx1 with
 | dat h =>
  cases h with
  | slc _ _ al cap val hcap hnil hfit ha hd =>
   cases al with
   | none =>
    obtain rfl:=hnil rfl
    exact h1 [.iZ sh] [] (by simp) w J fB _ hl hJ (one _ (.dat (.iZ sh))) hc hdis hgl
   | some q=>exact h2 [.nn sh] [] (by simp) w J fB _ hl hJ (one _ (.nn sh q cap)) hc hdis hgl
end Go.Ev

namespace Go.Ev
open Go Go.RowKit Go.ChangeShapes Go.WideShapes
def X9 (lay:TypeId->Bool) (sh:TypeId->List Sh) (P:Program):Nat->List Field->Option Nat
 | o,[]=>some o
 | o,f::r=>cond (cond (Nat.beq f.offset o) (cond (lay f.type) (Nat.beq (sh f.type).length (P.cellsOf f.type)) false) false) (X9 lay sh P (o+P.cellsOf f.type) r) none
def ab2 (P:Program):Nat->TypeId->Bool
 | 0,_=>false
 | n+1,t=>match P.underlying t with
  | some .bool=>true | some (.int _)=>true | some .string=>true
  | some (.slice e)=>cond (ab2 P n e) (cond (Nat.blt 0 (P.cellsOf e)) (cond (Nat.beq (gG P n e).length (P.cellsOf e)) (Sh.qp (gG P n e) (gG P n e)) false) false) false
  | some (.struct fs)=>match X9 (ab2 P n) (gG P n) P 0 fs.toList with
   | some o=>Nat.beq o (P.cellsOf t)
   | none=>false
  | _=>false
def OY (w:World):Nat->Nat->Prop:=fun b _=>b<w.heap.size
section
variable {H:Type} {enc:TypeId × Value->H} {P:Program} {w:World} {base:Nat} {spare:Nat->Bool} {held:Bool}
def FI (w:World) (sh:List Sh) (cs:List Value) (row:List V):Prop :=
 fZ sh row=true∧LX row=true∧row.length=cs.length∧∀ j,j<row.length->Dat w (OY w) (row.getD j .undef) (cs.getD j Go.undef)
theorem FI.append {s t:List Sh} {cs ds:List Value} {r q:List V} (h:FI w s cs r) (k:FI w t ds q):FI w (s++t) (cs++ds) (r++q):=by
 obtain ⟨h1,h2,h3,h4⟩:=h
 obtain ⟨k1,k2,k3,k4⟩:=k
 refine ⟨zh _ _ _ _ h1 k1,by rw [zf,h2,k2]; rfl,by simp [h3,k3],fun j hj=>?_⟩
 by_cases hl:j<r.length
 .have:=h4 j hl
  rwa [show (r++q).getD j .undef=r.getD j .undef by simp [List.getD_eq_getElem?_getD,List.getElem?_append_left hl],
   show (cs++ds).getD j Go.undef=cs.getD j Go.undef by simp [List.getD_eq_getElem?_getD,List.getElem?_append_left (show j<cs.length by omega)]]
 .have:=k4 (j-r.length) (by simp at hj; omega)
  rwa [show (r++q).getD j .undef=q.getD (j-r.length) .undef by simp [List.getD_eq_getElem?_getD,List.getElem?_append_right (show r.length<=j by omega)],
   show (cs++ds).getD j Go.undef=ds.getD (j-r.length) Go.undef by simp [List.getD_eq_getElem?_getD,List.getElem?_append_right (show cs.length<=j by omega),h3]]
theorem P7 {lay:TypeId->Bool} {sh:TypeId->List Sh}:∀ (fs:List Field) (o n:Nat) (cs:List Value),X9 lay sh P o fs=some n->n<=o+cs.length ->
  (∀ f∈fs,lay f.type=true->o<=f.offset->∃ row,FI w (sh f.type) ((cs.drop (f.offset-o)).take (P.cellsOf f.type)) row)->∃ row,FI w ((fs.map fun f=>sh f.type).flatten) (cs.take (n-o)) row
 | [],o,n,cs,h,_,_=>by
  cases h
  exact ⟨[],rfl,rfl,by simp,fun j hj=>by cases hj⟩
 | f::r,o,n,cs,h,hn,hf=>by
  unfold X9 at h
  cases h1:Nat.beq f.offset o with
  | false=>simp only [h1,cond_false,reduceCtorEq] at h
  | true =>
   cases h2:lay f.type with
   | false=>simp only [h1,h2,cond_true,cond_false,reduceCtorEq] at h
   | true =>
    cases h3:Nat.beq (sh f.type).length (P.cellsOf f.type) with
    | false=>simp only [h1,h2,h3,cond_true,cond_false,reduceCtorEq] at h
    | true =>
     simp only [h1,h2,h3,cond_true] at h
     have e1:=Nat.eq_of_beq_eq_true h1
     have e3:=Nat.eq_of_beq_eq_true h3
     have mono:∀ (l:List Field) (a b:Nat),X9 lay sh P a l=some b->a<=b:=by
      intro l
      induction l with
      | nil=>intro a b hh; cases hh; exact Nat.le_refl _
      | cons g l ih =>
       intro a b hh
       unfold X9 at hh
       cases hc:(cond (Nat.beq g.offset a) (cond (lay g.type) (Nat.beq (sh g.type).length (P.cellsOf g.type)) false) false) with
       | false=>rw [hc] at hh; cases hh
       | true=>rw [hc] at hh; have:=ih _ _ hh; omega
     have hm:=mono _ _ _ h
     obtain ⟨r1,k1⟩:=hf f List.mem_cons_self h2 (by omega)
     rw [show f.offset-o=0 by omega,List.drop_zero] at k1
     obtain ⟨r2,k2⟩:=P7 r (o+P.cellsOf f.type) n (cs.drop (P.cellsOf f.type)) h (by simp; omega) fun g hg hl ho=>by
      obtain ⟨row,hr⟩:=hf g (List.mem_cons_of_mem _ hg) hl (by omega)
      refine ⟨row,?_⟩
      rwa [List.drop_drop,show P.cellsOf f.type+(g.offset-(o+P.cellsOf f.type))=g.offset-o by omega]
     have:=k1.append k2
     refine ⟨r1++r2,?_⟩
     rw [show cs.take (n-o)=cs.take (P.cellsOf f.type)++(cs.drop (P.cellsOf f.type)).take (n-(o+P.cellsOf f.type)) by
      rw [<- List.take_add]; congr 1; omega]
     exact this
theorem L8:∀ (fuel n:Nat) (t:TypeId) (cs:List Value) (x:DataW H × List MemPlace),DataW.trod enc P w base spare held fuel t cs=some x->ab2 P n t=true->∃ row,FI w (gG P n t) cs row
 | 0,_,_,_,_,h,_=>by cases h
 | _+1,0,_,_,_,_,hl=>by cases hl
 | fuel+1,n+1,t,cs,x,h,hl=>by
  have one:∀ (s:Sh) (v:V) (y:Value),fits s v=true->wfV v=true->Dat w (OY w) v y->FI w [s] [y] [v]:=fun s v y h1 h2 h3 =>
   ⟨by simp [fZ,h1],by simp [LX,h2],rfl,fun j hj=>by
    have:j=0:=by simp at hj; exact hj
    subst this; exact h3⟩
  unfold ab2 at hl
  unfold gG
  cases hu:P.underlying t with
  | none=>rw [hu] at hl; cases hl
  | some d =>
   rw [hu] at hl
   cases d with
   | bool =>
    obtain ⟨b,rfl,_⟩:=DataW.trod_bool hu h
    exact ⟨_,one _ (.bool b) _ rfl rfl (.bool b)⟩
   | int k =>
    obtain ⟨m,rfl,_,hw⟩:=DataW.trod_int hu h
    exact ⟨_,one _ (.int k m) _ (by simp [fits]) hw (.int k m)⟩
   | string =>
    obtain ⟨s,rfl,_,hw⟩:=DataW.trod_string hu h
    refine ⟨_,one _ (.str s.data.toList) _ rfl (Nat.ble_eq_true_of_le ?_) ?_⟩
    .have:s.data.toList.length=s.size:=Array.length_toList
     unfold maxLen at hw
     omega
    .have:s=⟨s.data.toList.toArray⟩:=by cases s; simp
     conv=>rhs; rw [this]
     exact .str _
   | slice e =>
    obtain ⟨hl1,hl⟩:=aX hl
    obtain ⟨hpos,hl⟩:=aX hl
    obtain ⟨hlen,hrf⟩:=aX hl
    have hpos:0<P.cellsOf e:=Nat.le_of_ble_eq_true hpos
    have hlen:=Nat.eq_of_beq_eq_true hlen
    rcases DataW.trod_slice hu h with ⟨rfl,_⟩ | ⟨a,len,cap,elems,rest,m,hm,rfl,_,hb,hle,hmx,hel,hget,_,_⟩
    .exact ⟨_,one _ (.slc (gG P n e) []) _ hrf rfl (.slc _ [] _ 0 (fun _ _=>Go.undef) (Nat.le_refl _) (fun _=>rfl) rfl (fun h=>absurd rfl h) (fun i j hi=>by cases hi))⟩
    .cases hm
     have hrow:∀ i,∃ row vals,i<len->w.cells? base (a.add (i*P.cellsOf e)) (P.cellsOf e)=some vals∧FI w (gG P n e) vals row:=fun i=>by
      by_cases hi:i<len
      .have:=hget i hi
       have hi' : i<elems.length:=by omega
       rw [List.getElem?_eq_getElem hi',Option.bind_eq_some_iff] at this
       obtain ⟨vals,h1,h2⟩:=this
       obtain ⟨row,h3⟩:=L8 fuel n e vals _ h2 hl1
       exact ⟨row,vals,fun _=>⟨h1,h3⟩⟩
      .exact ⟨[],[],fun h=>absurd h hi⟩
     obtain ⟨row,hv⟩:=Classical.axiomOfChoice hrow
     obtain ⟨vals,hh⟩:=Classical.axiomOfChoice hv
     have hg:∀ i,i<len->((List.range len).map row).getD i []=row i:=fun i hi=>by simp [List.getD_eq_getElem?_getD,hi]
     have hfit:dJ (gG P n e) ((List.range len).map row)=true:=jJ _ _ fun i hi=>by
      have hi:i<len:=by simpa using hi
      rw [hg i hi]; exact (hh i hi).2.1
     have hwf:JL ((List.range len).map row)=true:=by
      have:∀ l:List Nat,(∀ i∈l,i<len)->JL (l.map row)=true:=by
       intro l
       induction l with
       | nil=>intro _; rfl
       | cons i l ih =>
        intro hl
        simp only [List.map_cons,JL,(hh i (hl i List.mem_cons_self)).2.2.1,cond_true]
        exact ih fun k hk=>hl k (List.mem_cons_of_mem _ hk)
      exact this _ fun i hi=>List.mem_range.1 hi
     have hle' : len<=9223372036854775807:=by unfold maxLen at hmx; omega
     refine ⟨_,one _ (.slc (gG P n e) ((List.range len).map row)) _ hrf (by
      show cond (Nat.ble ((List.range len).map row).length 9223372036854775807) (cond (dJ (gG P n e) ((List.range len).map row)) (JL ((List.range len).map row)) false) false=true
      rw [hfit,hwf,Nat.ble_eq_true_of_le (by simpa using hle')]; rfl) ?_⟩
     have hcell:∀ i,i<len->∀ j,j<P.cellsOf e->w.cell? ((a.add (i*P.cellsOf e)).add j)=some ((vals i).getD j Go.undef):=fun i hi j hj=>by
      have:=(World.cells?_some (hh i hi).1).2.2 j hj
      rw [this,List.getD_eq_getElem?_getD]
      have hl2:j<(vals i).length:=by rw [(World.cells?_some (hh i hi).1).2.1]; exact hj
      rw [List.getElem?_eq_getElem hl2]; rfl
     have key:Dat w (OY w) (.slc (gG P n e) ((List.range len).map row)) (.slice (some a) ((List.range len).map row).length cap):=by
      refine .slc _ _ (some a) cap (fun i j=>(vals i).getD j Go.undef) (by simpa using hle) (fun h=>by cases h) hfit (fun hr=>?_) (fun i j hi hj=>?_)
      .have hpos' : 0<len:=by
        rcases Nat.eq_zero_or_pos len with h0 | h0
        .subst h0; exact absurd rfl hr
        .exact h0
       have hc0:=hcell 0 hpos' 0 hpos
       have hsp:a.spot=none:=by
        simp only [Nat.zero_mul,Addr.add,if_true] at hc0
        unfold World.cell? at hc0
        split at hc0
        .cases hs:a.spot with
         | none=>rfl
         | some q=>rw [hs] at hc0; simp at hc0
        .cases hc0
       obtain ⟨b,o,sp⟩:=a
       simp only at hsp
       subst hsp
       refine ⟨b,o,rfl,fun i j hi hj=>?_⟩
       have hi:i<len:=by simpa using hi
       have:=hcell i hi j (by omega)
       rw [nO,nO,Nat.add_assoc] at this
       rw [hlen]
       exact ⟨this,lt_of_cell this⟩
      .have hi:i<len:=by simpa using hi
       unfold rowAt
       rw [hg i hi]
       have h4:=(hh i hi).2
       have hl3:(row i).length=(gG P n e).length:=lQ h4.1
       exact h4.2.2.2 j (by omega)
     have e1:((List.range len).map row).length=len:=by simp
     rw [e1] at key
     exact key
   | struct fs =>
    obtain ⟨xs,m,hm,_,hcs,hxl,hget⟩:=DataW.trod_struct hu h
    cases hm
    simp only at hl
    cases ho:X9 (ab2 P n) (gG P n) P 0 fs.toList with
    | none=>rw [ho] at hl; cases hl
    | some o =>
     rw [ho] at hl
     have ho':=Nat.eq_of_beq_eq_true hl
     obtain ⟨row,hr⟩:=P7 (w:=w) (P:=P) fs.toList 0 o cs ho (by omega) fun f hf aoj _=>by
      obtain ⟨i,hi⟩:=List.getElem?_of_mem hf
      have hi2:fs[i]? = some f:=by simpa using hi
      have hlt:=(Array.getElem?_eq_some_iff.1 hi2).1
      have:=hget i f hi2
      rw [List.getElem?_eq_getElem (by omega)] at this
      exact L8 fuel n f.type _ _ this aoj
     refine ⟨row,?_⟩
     rwa [Nat.sub_zero,ho',<- hcs,List.take_length] at hr
   | _=>cases hl
theorem U1 {α:Type} (c:aj α) (hc1:c.sh.length=1) {n:Nat} {t:TypeId} {r:Reach} {b0:Nat} {v:Value} {d:DataW H} {ps:List MemPlace} (ht:lK P t=false) (hs:Sh.qp (gG P n t) c.sh=true) (hl:ab2 P n t=true)
  (hval:Value.okWide P w r b0 t v) (h:DataW.Trod enc P w base spare held t v d ps):∃ a:α,LX (c.enc a)=true∧Rv w (OY w) mD ((UZ c hc1).enc a) v:=by
 obtain ⟨fuel,h⟩:=h
 obtain ⟨row,h1,h2,h3,h4⟩:=L8 fuel n t _ _ h hl
 rw [Sh.oG _ _ hs] at h1
 have hcs:v.cells.toList=[v]:=by
  unfold Value.okWide at hval
  cases v with
  | agg cs =>
   exfalso
   unfold lK at ht
   cases hu:P.underlying t with
   | none=>rw [hu] at hval; simp [Cell.okWide,hu,Cell.ok] at hval
   | some dd =>
    rw [hu] at hval ht
    cases dd<;>first | (cases ht; done) | (simp [Cell.okWide,hu,Cell.ok] at hval; done)
  | _=>rfl
 rw [hcs] at h3 h4
 have hl1:=lQ h1
 have hl2:(c.enc (c.dec row)).length=c.sh.length:=lQ (c.fit _)
 refine ⟨c.dec row,c.wf row h1 h2,?_⟩
 have:=c.law w (OY w) row (fun j=>[v].getD j Go.undef) h1 (fun j hj=>h4 j (by omega)) 0 (by omega)
 have e:(UZ c hc1).enc (c.dec row)=(c.enc (c.dec row)).getD 0 .undef:=by
  show (c.enc (c.dec row)).headD .undef=_
  cases c.enc (c.dec row)<;>rfl
 rw [e]; exact .dat this
end
def ald (P:Program):Bool:=P.globals.toList.all fun g=>(KI g.name).isEmpty
theorem aie {P:Program} {J:Nat->Nat->Prop} {w:World} (h:ald P=true):Held P J w:=fun b o x hx=>by
 unfold GLv at hx
 split at hx
 .rename_i g hg
  have:=List.all_eq_true.1 h g (by have:=Array.mem_of_getElem? hg; simpa using this)
  have e:KI g.name=[]:=List.isEmpty_iff.1 this
  rw [e] at hx
  simp at hx
 .cases hx
theorem ab3 {P : Program} {f : FuncId} {fn : Func} (hf : P.funcs[f]? = some fn) (hb : fn.body.isSome = true) (hnm : (fn.name == "runtime.NumGoroutine") = false) {α : Type} {A : LY α} {p : α -> Unit -> Bool} {g : α -> Unit -> Bool × Unit}
  (h:bH P f (den A dV (oV lC) p g)) (a:α) (hp:p a ()=true) (hg:(g a ()).1=true) {W:World} {xs:List Value} (hx:dh W (OY W) mD (A.enc a) xs) (hgl:Held P (OY W) W) :
  Calls P f xs.toArray W fun e W'=>e = .returned (.bool true)∧Below W.heap.size W W':=by
 obtain ⟨h1,h2⟩:=A.ed a
 have hpre:(den A dV (oV lC) p g).pre (A.enc a) []=true:=by
  show cond (A.ok (A.enc a)) (cond true (p (A.dec (A.enc a)) ()) false) false=true
  rw [h1,h2,hp]; rfl
 have hloc:jw [] []=mD:=by funext j; rfl
 have main:=h (A.enc a) [] hpre W (OY W) [] xs rfl (fun b o hb=>hb) (hloc ▸ hx) (fun j p cs hj=>by cases hj) (fun j j' p p' cs cs' b o hj=>by cases hj) hgl
 have fin:∀ v W',(∃ J',Du W W' (OY W) [] [] ((den A dV (oV lC) p g).res (A.enc a) []) v J')->v = .bool true∧Below W.heap.size W W':=fun v W' ⟨J',hR⟩=>by
  refine ⟨?_,(hR.keeps.mono fun b o _ hh=>?_).below⟩
  .have e:((den A dV (oV lC) p g).res (A.enc a) []).v = .bool true:=by
    show V.bool (g (A.dec (A.enc a)) ()).1 = .bool true
    rw [h2,hg]
   rcases hR.val with ⟨_,hv⟩ | ⟨_,_,hn,_⟩
   .rw [e] at hv; exact hv.o8
   .cases hn
  .obtain ⟨j,p,cs,h1,_⟩:=hh
   cases h1
 rcases main with ⟨_,h4⟩ | ⟨v,W',h3,_⟩
 .exact h4.mono fun e W' ⟨v,he,hr⟩=>by
   obtain ⟨e1,e2⟩:=fin v W' hr
   exact ⟨by rw [he,e1],e2⟩
 .exfalso
  obtain ⟨c,hc⟩:=Option.isSome_iff_exists.1 hb
  have hnm' : ¬ fn.name = "runtime.NumGoroutine" := fun e => by rw [e] at hnm; cases hnm
  have:(callFunc f xs.toArray).run P W = .ok (.enter f xs.toArray) W:=by simp [callFunc,hf,hnm',hc]
  rw [this] at h3
  cases h3
end Go.Ev

namespace Go.Ev
open Go
abbrev Bytes:=List UInt8
structure gV where
 s:Bytes
 err:Int
structure dw where
 s:Bytes
 err:Int
def cOut:aj gV:=(oH.and (vw .i64)).iso (fun p=>⟨p.1,p.2⟩) (fun o=>(o.s,o.err)) (fun _=>rfl) fun _=>rfl
def GZ:aj dw:=(oH.and (vw .i64)).iso (fun p=>⟨p.1,p.2⟩) (fun o=>(o.s,o.err)) (fun _=>rfl) fun _=>rfl
namespace N
def bP (i:dw) (code:Int):dw:=bif i.err==0 then (bif code != 0 then ⟨[],code⟩ else i) else i
def jB (i:dw) (n:Int):Bytes × dw :=
 bif i.err != 0 then ([],i) else bif bW n 0 then ([],i) else bif aU i.s.length n then ([],bP i 3) else (i.s.take n.toNat,⟨i.s.drop n.toNat,i.err⟩)
def be:Bytes->Int->Int
 | [],n=>n
 | c::r,n=>be r (n*256+c.toNat)
def beR:List (List V)->Int->Int
 | [],n=>n
 | r::rs,n=>beR rs (Ue .or .u64 (shl .u64 n 8) (IntKind.wrap .u64 (V.toInt (r.getD 0 .undef))))
def ay (i:dw) (n:Int):Int × dw:=(be (jB i (bif aU 8 n then 8 else n)).1 0,(jB i (bif aU 8 n then 8 else n)).2)
def bQ (n:Int):Nat->Bytes
 | 0=>[]
 | k+1=>UInt8.ofNat ((n / 2 ^ (8*k)) % 256).toNat::bQ n k
def clamp (bytes:Int):Nat:=(bif aU 0 bytes then (bif aU 8 bytes then 8 else bytes) else 0).toNat
def iO (o:gV) (n bytes:Int):gV:=⟨o.s++bQ n (clamp bytes),o.err⟩
def rE (o:gV) (s:Bytes):gV:=⟨o.s++s,o.err⟩
def jO (o:gV) (s:Bytes):gV:=bif aU 65535 s.length then ⟨o.s,bif o.err==0 then 5 else o.err⟩ else rE (iO o s.length 2) s
end N
theorem ale (n:Int) (b:Nat) (hn:0<=n) (h:n<72057594037927936) (hb:b<256):Ue .or .u64 (shl .u64 n 8) (IntKind.wrap .u64 (b:Int))=n*256+b:=by
 obtain ⟨m,rfl⟩:=Int.eq_ofNat_of_zero_le hn
 have hm:m<72057594037927936:=by omega
 have w:∀ x:Nat,x<18446744073709551616->IntKind.wrap .u64 (x:Int)=x:=fun x hx=>by
  simp only [IntKind.wrap,IntKind.signed,IntKind.bits]
  simp
  omega
 have e1:shl .u64 (m:Int) 8=((m*256:Nat):Int):=by
  have:=w (m*256) (by omega)
  unfold shl
  rw [show (m:Int)*2 ^ (min (Int.toNat 8) (IntKind.bits .u64))=((m*256:Nat):Int) by simp [IntKind.bits]]
  exact this
 rw [e1,w b (by omega)]
 have e2:∀ x:Nat,x<18446744073709551616->(BitVec.ofInt 64 (x:Int)).toNat=x:=fun x hx=>by
  simp; omega
 show IntKind.wrap .u64 (((BitVec.ofInt 64 ((m*256:Nat):Int) ||| BitVec.ofInt 64 (b:Int):BitVec 64).toNat:Nat):Int)=_
 rw [BitVec.toNat_or,e2 _ (by omega),e2 _ (by omega)]
 have e3:m*256 ||| b=m*256+b:=by
  have:=Nat.shiftLeft_add_eq_or_of_lt (i:=8) (b:=b) (by omega) m
  rw [Nat.shiftLeft_eq,show (2:Nat) ^ 8=256 by decide] at this
  exact this.symm
 rw [e3,w _ (by omega)]
 rw [Int.natCast_add,Int.natCast_mul]; rfl
theorem P8:∀ (l:Bytes) (n:Int) (k:Nat),0<=n->l.length<=k->k<=8->n<((256 ^ (8-k):Nat):Int)->N.beR (iy l) n=N.be l n
 | [],n,k,_,_,_,_=>rfl
 | c::r,n,k,hn,hl,hk,h=>by
  have hc:c.toNat<256:=c.toNat_lt
  have hl' : r.length+1<=k:=hl
  have hk1:1<=k:=by omega
  have h7:n<72057594037927936:=by
   have h1:256 ^ (8-k)<=256 ^ 7:=Nat.pow_le_pow_right (by decide) (by omega)
   have e:(256:Nat) ^ 7=72057594037927936:=by decide
   rw [e] at h1
   omega
  show N.beR (iy r) (Ue .or .u64 (shl .u64 n 8) (IntKind.wrap .u64 ((c.toNat:Nat):Int)))=N.be r (n*256+c.toNat)
  rw [ale n c.toNat hn h7 hc]
  refine P8 r _ (k-1) (by omega) (by omega) (by omega) ?_
  have:(256:Nat) ^ (8-(k-1))=256 ^ (8-k)*256:=by
   rw [show 8-(k-1)=(8-k)+1 by omega,Nat.pow_succ]
  rw [this]; omega
theorem N.CQ (i:dw) (n:Int) (m:Nat) (h:n<=m):(N.jB i n).1.length<=m:=by
 unfold N.jB
 cases i.err != 0<;>cases bW n 0<;>cases aU (i.s.length:Int) n<;>simp<;>omega
theorem N.I9 (n:Int):∀ k,(N.bQ n k).length=k
 | 0=>rfl
 | k+1=>by simp [N.bQ,N.I9 n k]
def FK:Den:=den (bg (jL 0) (aT (dA .i64))) (jr GZ) (vF aew) (fun _ _=>true) fun a i=>((),N.bP i a.2)
def alf:Den:=den (bg (jL 0) (aT (dA .i64))) (jr GZ) (oV gy) (fun _ _=>true) fun a i=>N.jB i a.2
def Sr:Den:=den (bg (jL 0) (aT (dA .i64))) (jr GZ) (oV (dA .u64)) (fun _ _=>true) fun a i=>N.ay i a.2
def dNew:Den:=den (aT gy) dV (aoi GZ) (fun _ _=>true) fun s _=>(⟨s,0⟩,())
def fP:Den:=den (bg (bJ cOut) (bg (dA .u64) (aT (dA .i64)))) dV (oV (bJ cOut)) (fun a _=>cond (bW 0 a.2.1) (cond (aU a.2.1 18446744073709551616) (Nat.ble a.1.s.length 9223372036854775799) false) false) fun a _=>(N.iO a.1 a.2.1 a.2.2,())
def FM:Den:=den (bg (bJ cOut) (aT gy)) dV (oV (bJ cOut)) (fun a _=>Nat.ble (a.1.s.length+a.2.length) 9223372036854775807) fun a _=>(N.rE a.1 a.2,())
def AO:Den:=den (bg (bJ cOut) (aT gy)) dV (oV (bJ cOut)) (fun a _=>Nat.ble (a.1.s.length+a.2.length) 9223372036854775790) fun a _=>(N.jO a.1 a.2,())
def rF:Den:=den (aT (bJ cOut)) dV (oV gy) (fun _ _=>true) fun o _=>(o.s,())
end Go.Ev

namespace Go.Ev
open Go
namespace N
def eP:Bytes->List Bytes
 | []=>[[]]
 | c::r=>cond (c==46) ([]::eP r) (match eP r with | []=>[[c]] | w::ws=>(c::w)::ws)
def words (s:Bytes):List Bytes:=cond s.isEmpty [] (eP s)
def nR (c:Int):Bool:=cond (cond (bW 97 c) (bW c 122) false) true (cond (cond (bW 48 c) (bW c 57) false) true (cond (c==45) true (c==95)))
def letter (c:UInt8):Bool:=nR c.toNat
def plain (s:Bytes):Bool:=s.all letter
def OZ (p k:List Bytes):Nat->Int->Int->Int->Int->Option Int
 | 0,_,_,_,_=>none
 | f+1,i,j,b,fr=>cond (aU j k.length)
   (cond (cond (aU i p.length) (p.getD i.toNat []==[35]) false) (OZ p k f (i+1) j (i+1) j)
    (cond (cond (aU i p.length) (cond (p.getD i.toNat []==[42]) true (p.getD i.toNat []==k.getD j.toNat [])) false) (OZ p k f (i+1) (j+1) b fr)
     (cond (bW 0 b) (OZ p k f b (fr+1) b (fr+1)) none)))
   (some i)
def hashes (p:List Bytes):Nat->Int->Int
 | 0,i=>i
 | f+1,i=>cond (cond (aU i p.length) (p.getD i.toNat []==[35]) false) (hashes p f (i+1)) i
def wX (p k:List Bytes):Nat:=(k.length+1)*(p.length+1)+p.length+2
def Sv (p k:List Bytes):Bool:=match OZ p k (wX p k) 0 0 (-1) 0 with
 | some i=>hashes p (p.length+1) i==p.length
 | none=>false
def FN (besides:List Bytes):List Bytes->Int
 | []=>0
 | w::r=>cond (besides.any (w==·)) (FN besides r) (cond (cond (w==[]) true (!plain w)) 4 (FN besides r))
def key (s:Bytes) (besides:List Bytes):Int:=cond (aU 64 s.length) 5 (FN besides (words s))
def name (s:Bytes):Int:=cond (s==[]) 15 (cond (aU 16 s.length) 5 (cond (!plain s) 4 0))
def oI (pattern:Bool):List Bytes->Int
 | []=>0
 | w::r=>cond (cond (cond ((w.length:Int)==0) true (!plain w)) (!cond pattern (cond (w==[42]) true (w==[35])) false) false) 4 (oI pattern r)
def wY (s:Bytes) (pattern:Bool):Int:=cond (aU 64 s.length) 5 (oI pattern (words s))
def dot:Bytes->Int
 | []=>-1
 | c::r=>cond (c==46) 0 (cond (dot r==-1) (-1) (dot r+1))
def dots (s:Bytes):Int:=s.count 46
end N
def uJ:Nat:=1000000
def BIG:Nat:=1000000000000
def Sz:Den:=den (aT (dA .u8)) dV (oV lC) (fun _ _=>true) fun c _=>(N.nR c,())
def Ya:Den:=den (aT gy) dV (oV lC) (fun s _=>Nat.ble s.length uJ) fun s _=>(N.plain s,())
def L9:Den:=den (aT gy) dV (oV (qw oH)) (fun s _=>Nat.ble s.length uJ) fun s _=>(N.words s,())
def aap:Den:=den (bg gy (aT (dA .u8))) dV (oV (dA .i64)) (fun a _=>a.2==46) fun a _=>(N.dot a.1,())
def aif:Den:=den (bg gy (aT gy)) dV (oV (dA .i64)) (fun a _=>a.2==[46]) fun a _=>(N.dot a.1,())
def aez:Den:=den (bg gy (aT (dA .u8))) dV (oV (dA .i64)) (fun a _=>a.2==46) fun a _=>(N.dots a.1,())
def ajX:Den:=den (bg gy (aT gy)) dV (oV (dA .i64)) (fun a _=>a.2==[46]) fun a _=>(N.dots a.1,())
def aeA:Den:=den (bg gy (aT gy)) dV (oV (qw oH)) (fun a _=>cond (a.2==[46]) (Nat.ble a.1.length uJ) false) fun a _=>(N.eP a.1,())
def P9:Den:=den (bg gy (bg gy (bg (dA .i64) (aT (dA .i64))))) dV (oV (qw oH)) (fun a _=>cond (a.2.1==[46]) (cond (a.2.2.1==0) (cond (a.2.2.2==-1) (Nat.ble a.1.length uJ) false) false) false) fun a _=>(N.eP a.1,())
def small (l:List Bytes):Bool:=Nat.ble l.length uJ
def U2:Den:=den (bg gy (aT gy)) dV (oV lC) (fun a _=>cond (Nat.ble a.1.length uJ) (Nat.ble a.2.length uJ) false) fun a _=>(N.Sv (N.words a.1) (N.words a.2),())
def aaq:Den:=den (bg gy (aT lC)) dV (oV (dA .i64)) (fun _ _=>true) fun a _=>(N.wY a.1 a.2,())
def ajY:Den:=den (bg gy (aT (qw oH))) dV (oV (dA .i64)) (fun a _=>small a.2) fun a _=>(N.key a.1 a.2,())
def amU:Den:=den (aT gy) dV (oV (dA .i64)) (fun _ _=>true) fun s _=>(N.key s [],())
def FP:Den:=den (aT gy) dV (oV (dA .i64)) (fun _ _=>true) fun s _=>(N.name s,())
end Go.Ev

namespace Go.Ev
open Go
abbrev hash:Bytes:=[35]
abbrev star:Bytes:=[42]
inductive M:List Bytes->List Bytes->Prop
 | nil:M [] []
 | skip {p k:List Bytes}:M p k->M (hash::p) k
 | eat {p k:List Bytes} {x:Bytes}:M (hash::p) k->M (hash::p) (x::k)
 | one {w x:Bytes} {p k:List Bytes}:w ≠ hash->(w=star∨w=x)->M p k->M (w::p) (x::k)
theorem amV {k:List Bytes}:M [] k↔k=[]:=⟨fun h=>by cases h; rfl,fun h=>by subst h; exact .nil⟩
theorem amW {w:Bytes} {p k:List Bytes} (hw:w ≠ hash):M (w::p) k↔∃ x k',k=x::k'∧(w=star∨w=x)∧M p k':=by
 constructor
 .intro h
  cases h with
  | skip=>exact absurd rfl hw
  | eat=>exact absurd rfl hw
  | one _ h1 h2=>exact ⟨_,_,rfl,h1,h2⟩
 .rintro ⟨x,k',rfl,h1,h2⟩; exact .one hw h1 h2
theorem aeB {p k:List Bytes}:M (hash::p) k↔M p k∨∃ x k',k=x::k'∧M (hash::p) k':=by
 constructor
 .intro h
  cases h with
  | skip h=>exact .inl h
  | eat h=>exact .inr ⟨_,_,rfl,h⟩
  | one h=>exact absurd rfl h
 .rintro (h | ⟨x,k',rfl,h⟩)
  .exact .skip h
  .exact .eat h
theorem AP {p:List Bytes}:∀ {k:List Bytes},M (hash::p) k↔∃ n,n<=k.length∧M p (k.drop n)
 | []=>by
  rw [aeB]
  constructor
  .rintro (h | ⟨_,_,h,_⟩)
   .exact ⟨0,Nat.le_refl _,h⟩
   .cases h
  .rintro ⟨n,_,h⟩; exact .inl (by simpa using h)
 | x::k=>by
  rw [aeB]
  constructor
  .rintro (h | ⟨y,k',e,h⟩)
   .exact ⟨0,Nat.zero_le _,h⟩
   .cases e
    obtain ⟨n,h1,h2⟩:=AP.1 h
    exact ⟨n+1,by simpa using h1,h2⟩
  .rintro ⟨n,h1,h2⟩
   cases n with
   | zero=>exact .inl h2
   | succ n=>exact .inr ⟨x,k,rfl,AP.2 ⟨n,by simpa using h1,h2⟩⟩
def want (w:Bytes) (k:List Bytes) (may:List Bool) (j:Nat):Prop :=
 if w=hash then ∃ i,i<=j∧may.getD i false=true else 0<j∧may.getD (j-1) false=true∧(w=star∨w=k.getD (j-1) [])
section
variable {p k:List Bytes}
def Mx (p k:List Bytes) (i j:Nat):Prop:=M (p.drop i) (k.drop j)
theorem getD_at {l:List Bytes} {i:Nat} (h:i<l.length):l.drop i=l.getD i []::l.drop (i+1):=by
 rw [List.drop_eq_getElem_cons h,List.getD_eq_getElem?_getD,List.getElem?_eq_getElem h]; rfl
theorem SA {i j:Nat} (hi:i<p.length) (hh:p.getD i []=hash) (hj:j<=k.length):Mx p k i j↔∃ t,j<=t∧t<=k.length∧Mx p k (i+1) t:=by
 unfold Mx
 rw [getD_at hi,hh,AP]
 constructor
 .rintro ⟨n,h1,h2⟩
  rw [List.length_drop] at h1
  rw [List.drop_drop] at h2
  exact ⟨j+n,by omega,by omega,h2⟩
 .rintro ⟨t,h1,h2,h3⟩
  refine ⟨t-j,by rw [List.length_drop]; omega,?_⟩
  rw [List.drop_drop,show j+(t-j)=t by omega]; exact h3
theorem Yb {i j:Nat} (hi:i<p.length) (hh:p.getD i [] ≠ hash):Mx p k i j↔j<k.length∧(p.getD i []=star∨p.getD i []=k.getD j [])∧Mx p k (i+1) (j+1):=by
 unfold Mx
 rw [getD_at hi,amW hh]
 constructor
 .rintro ⟨x,k',e,h1,h2⟩
  have hj:j<k.length:=by
   have:=congrArg List.length e
   rw [List.length_drop] at this; simp at this; omega
  rw [getD_at hj] at e
  cases e
  exact ⟨hj,h1,h2⟩
 .rintro ⟨hj,h1,h2⟩
  exact ⟨_,_,getD_at hj,h1,h2⟩
theorem alg {j:Nat} (hj:j<=k.length):Mx p k p.length j↔j=k.length:=by
 unfold Mx
 rw [List.drop_length,amV,List.drop_eq_nil_iff]; omega
theorem aii {i j j' : Nat} (hi:i<p.length) (hh:p.getD i []=hash) (h1:j<=j') (h2:j'<=k.length) (h:Mx p k i j'):Mx p k i j:=by
 rw [SA hi hh (by omega)] at *
 obtain ⟨t,g1,g2,g3⟩:=h
 exact ⟨t,by omega,g2,g3⟩
theorem aeC:∀ (d b t:Nat),b+d<=p.length->(∀ x,b<=x->x<b+d->p.getD x [] ≠ hash)->t<=k.length->Mx p k b t->t+d<=k.length∧Mx p k (b+d) (t+d)
 | 0,b,t,_,_,ht,h=>⟨ht,h⟩
 | d+1,b,t,hb,hn,ht,h=>by
  obtain ⟨h1,_,h3⟩:=(Yb (by omega) (hn b (Nat.le_refl _) (by omega))).1 h
  obtain ⟨g1,g2⟩:=aeC d (b+1) (t+1) (by omega) (fun x hx hx2=>hn x (by omega) (by omega)) (by omega) h3
  exact ⟨by omega,by rw [show b+(d+1)=b+1+d by omega,show t+(d+1)=t+1+d by omega]; exact g2⟩
structure Mc (p k:List Bytes) (i j b fr:Int):Prop where
 i0:0<=i
 i1:i<=p.length
 j0:0<=j
 j1:j<=k.length
 bk:b = -1∧fr=0∨0<=b∧b<=i∧0<=fr∧i-b=j-fr∧∀ x:Nat,b<=x->(x:Int)<i->p.getD x [] ≠ hash
def uK (p k:List Bytes) (i fr:Int):Nat:=(k.length+1-fr.toNat)*(p.length+1)+(p.length-i.toNat)
def Said (p k:List Bytes) (i j b fr:Int):Prop:=Mx p k i.toNat j.toNat∨(0<=b∧∃ t,fr.toNat<t∧t<=k.length∧Mx p k b.toNat t)
theorem CS (_:Nat) {i j b fr:Int} (h:Mc p k i j b fr) (hj:aU j k.length=true) :
  (cond (aU i p.length) (p.getD i.toNat []==[35]) false=true->Mc p k (i+1) j (i+1) j∧uK p k (i+1) j<uK p k i fr∧(Said p k (i+1) j (i+1) j↔Said p k i j b fr)) ∧
  (cond (aU i p.length) (p.getD i.toNat []==[35]) false=false->cond (aU i p.length) (cond (p.getD i.toNat []==[42]) true (p.getD i.toNat []==k.getD j.toNat [])) false=true ->
   Mc p k (i+1) (j+1) b fr∧uK p k (i+1) fr<uK p k i fr∧(Said p k (i+1) (j+1) b fr↔Said p k i j b fr)) ∧
  (cond (aU i p.length) (p.getD i.toNat []==[35]) false=false->cond (aU i p.length) (cond (p.getD i.toNat []==[42]) true (p.getD i.toNat []==k.getD j.toNat [])) false=false ->
   (bW 0 b=true->Mc p k b (fr+1) b (fr+1)∧uK p k b (fr+1)<uK p k i fr∧(Said p k b (fr+1) b (fr+1)↔Said p k i j b fr))∧(bW 0 b=false->¬ Said p k i j b fr)):=by
 obtain ⟨i0,i1,j0,j1,bk⟩:=h
 rw [kN] at hj
 have hj:=of_decide_eq_true hj
 have hfr:0<=fr∧fr<=j:=by omega
 refine ⟨fun hc=>?_,fun hc hm=>?_,fun hc hm=>?_⟩
 .have hi:i<p.length:=by
   rw [kN] at hc
   by_cases e:i<p.length
   .exact e
   .rw [decide_eq_false e] at hc; cases hc
  rw [kN,decide_eq_true hi,cond_true] at hc
  have hh:p.getD i.toNat []=hash:=by simpa using hc
  refine ⟨⟨by omega,by omega,j0,j1,.inr ⟨by omega,by omega,j0,by omega,fun x h1 h2=>by omega⟩⟩,?_,?_⟩
  .unfold uK
   have:(k.length+1-j.toNat)*(p.length+1)<=(k.length+1-fr.toNat)*(p.length+1):=Nat.mul_le_mul_right _ (by omega)
   omega
  .have e1:(i+1).toNat=i.toNat+1:=by omega
   have hi' : i.toNat<p.length:=by omega
   have hj' : j.toNat<=k.length:=by omega
   unfold Said
   rw [e1]
   constructor
   .intro h
    refine .inl ((SA hi' hh hj').2 ?_)
    rcases h with h | ⟨_,t,h1,h2,h3⟩
    .exact ⟨j.toNat,Nat.le_refl _,by omega,h⟩
    .exact ⟨t,by omega,h2,h3⟩
   .intro h
    have:Mx p k i.toNat j.toNat:=by
     rcases h with h | ⟨hb,t,h1,h2,h3⟩
     .exact h
     .rcases bk with ⟨e,_⟩ | ⟨c0,c1,c2,c3,c4⟩
      .omega
      .obtain ⟨g1,g2⟩:=aeC (i.toNat-b.toNat) b.toNat t (by omega) (fun x hx hx2=>c4 x (by omega) (by omega)) h2 h3
       rw [show b.toNat+(i.toNat-b.toNat)=i.toNat by omega] at g2
       exact aii (by omega) hh (by omega) g1 g2
    obtain ⟨t,g1,g2,g3⟩:=(SA hi' hh hj').1 this
    by_cases e:t=j.toNat
    .subst e; exact .inl g3
    .exact .inr ⟨by omega,t,by omega,g2,g3⟩
 .have hi:i<p.length:=by
   rw [kN] at hm
   by_cases e:i<p.length
   .exact e
   .rw [decide_eq_false e] at hm; cases hm
  rw [kN,decide_eq_true hi,cond_true] at hc hm
  have hh:p.getD i.toNat [] ≠ hash:=by simpa using hc
  have hw:p.getD i.toNat []=star∨p.getD i.toNat []=k.getD j.toNat []:=by
   cases e:(p.getD i.toNat []==[42]) with
   | true=>exact .inl (by simpa using e)
   | false=>rw [e,cond_false] at hm; exact .inr (by simpa using hm)
  refine ⟨⟨by omega,by omega,by omega,by omega,?_⟩,?_,?_⟩
  .rcases bk with h | ⟨c0,c1,c2,c3,c4⟩
   .exact .inl h
   .refine .inr ⟨c0,by omega,c2,by omega,fun x h1 h2=>?_⟩
    by_cases e:(x:Int)=i
    .rw [show x=i.toNat by omega]; exact hh
    .exact c4 x h1 (by omega)
  .unfold uK; omega
  .unfold Said
   rw [show (i+1).toNat=i.toNat+1 by omega,show (j+1).toNat=j.toNat+1 by omega]
   rw [Yb (i:=i.toNat) (j:=j.toNat) (by omega) hh]
   have:j.toNat<k.length:=by omega
   simp only [this,hw,true_and]
 .have hno:¬ Mx p k i.toNat j.toNat:=by
   by_cases hi:i<p.length
   .rw [kN,decide_eq_true hi,cond_true] at hc hm
    have hh:p.getD i.toNat [] ≠ hash:=by simpa using hc
    rw [Yb (by omega) hh]
    rintro ⟨_,h,_⟩
    rcases h with h | h
    .rw [h] at hm; cases hm
    .have:(p.getD i.toNat []==k.getD j.toNat [])=true:=by simpa using h
     rw [this] at hm
     cases e:(p.getD i.toNat []==[42])<;>rw [e] at hm<;>cases hm
   .rw [show i.toNat=p.length by omega,alg (by omega)]; omega
  refine ⟨fun hb=>?_,fun hb=>?_⟩
  .rw [wI] at hb
   have hb:=of_decide_eq_true hb
   rcases bk with ⟨e,_⟩ | ⟨c0,c1,c2,c3,c4⟩
   .omega
   .refine ⟨⟨c0,by omega,by omega,by omega,.inr ⟨c0,Int.le_refl _,by omega,by omega,fun x h1 h2=>by omega⟩⟩,?_,?_⟩
    .unfold uK
     have e:k.length+1-fr.toNat=(k.length+1-(fr+1).toNat)+1:=by omega
     rw [e,Nat.add_mul]
     omega
    .unfold Said
     rw [show (fr+1).toNat=fr.toNat+1 by omega]
     constructor
     .rintro (h | ⟨_,t,h1,h2,h3⟩)
      .exact .inr ⟨hb,fr.toNat+1,by omega,by omega,h⟩
      .exact .inr ⟨hb,t,by omega,h2,h3⟩
     .rintro (h | ⟨_,t,h1,h2,h3⟩)
      .exact absurd h hno
      .by_cases e:t=fr.toNat+1
       .subst e; exact .inl h3
       .exact .inr ⟨hb,t,by omega,h2,h3⟩
  .rw [wI] at hb
   have hb:=of_decide_eq_false hb
   rintro (h | ⟨h,_⟩)
   .exact hno h
   .exact hb h
theorem J4:∀ (f:Nat) {i j b fr i' : Int},Mc p k i j b fr->N.OZ p k f i j b fr=some i'->0<=i'∧i'<=p.length
 | 0,i,j,b,fr,i',_,h=>by cases h
 | f+1,i,j,b,fr,i',h,he=>by
  unfold N.OZ at he
  cases hj:aU j k.length with
  | false =>
   rw [hj,cond_false,Option.some.injEq] at he
   subst he; exact ⟨h.i0,h.i1⟩
  | true =>
   obtain ⟨s1,s2,s3⟩:=CS f h hj
   rw [hj,cond_true] at he
   cases hc:cond (aU i p.length) (p.getD i.toNat []==[35]) false with
   | true=>rw [hc,cond_true] at he; exact J4 f (s1 hc).1 he
   | false =>
    rw [hc,cond_false] at he
    cases hm:cond (aU i p.length) (cond (p.getD i.toNat []==[42]) true (p.getD i.toNat []==k.getD j.toNat [])) false with
    | true=>rw [hm,cond_true] at he; exact J4 f (s2 hc hm).1 he
    | false =>
     rw [hm,cond_false] at he
     cases hb:bW 0 b with
     | true=>rw [hb,cond_true] at he; exact J4 f ((s3 hc hm).1 hb).1 he
     | false=>rw [hb] at he; cases he
end
end Go.Ev

namespace Go.Ev
open Go
def jG (r:List V):Bytes:=(r.getD 0 .undef).toStr
def rowB (r:List V):Bool:=(r.getD 0 .undef).toBool
def dK (r:List (List V)):List Bytes:=r.map jG
def kX (r:List (List V)):List Bool:=r.map rowB
theorem uM (r:List (List V)) (i:Nat):(dK r).getD i []=jG (r.getD i []):=by
 unfold dK; simp only [List.getD_eq_getElem?_getD,List.getElem?_map]; cases r[i]?<;>rfl
theorem jH (r:List (List V)):(dK r).length=r.length:=List.length_map ..
theorem H7 (l:List Bytes):dK (l.map oH.enc)=l:=by
 unfold dK; rw [List.map_map]; exact List.map_id' l
theorem Md {r:List (List V)} {i:Nat} (h:i<r.length):(dK r).drop i=jG (r.getD i [])::(dK r).drop (i+1):=by
 rw [<- uM]; exact getD_at (by rw [jH]; exact h)
theorem drop_byte {s:Bytes} {k:Nat} (h:k<s.length):s.drop k=s.getD k 0::s.drop (k+1):=by
 rw [List.drop_eq_getElem_cons h,List.getD_eq_getElem?_getD,List.getElem?_eq_getElem h]; rfl
namespace N
def spl (s:Bytes):Nat->Int->Int->List (List V)->Int × List (List V)
 | 0,_,from',rows=>(from',rows)
 | f+1,i,from',rows=>cond (((s.getD i.toNat 0).toNat:Int)==46) (spl s f (i+1) (i+1) (rows++[[.str ((s.take i.toNat).drop from'.toNat)]])) (spl s f (i+1) from' rows)
def gen:Nat->Bytes->Int->List (List V)->Bytes × Int × List (List V)
 | 0,s,i,rows=>(s,i,rows)
 | f+1,s,i,rows=>cond (aU (dot s) 0) (s,i,rows) (gen f (s.drop (dot s+1).toNat) (i+1) (rows.set i.toNat [.str (s.take (dot s).toNat)]))
def xR (p k:List Bytes) (i j b fr:Int):Nat->Int:=fun f=>(OZ p k f i j b fr).getD (-1)
end N
theorem vT:∀ s,N.eP s ≠ []
 | []=>by simp [N.eP]
 | c::r=>by
  unfold N.eP
  cases c==46 with
  | true=>simp
  | false =>
   simp only [cond_false]
   split<;>simp
def amX (u:Bytes):List Bytes->List Bytes
 | []=>[] | w::ws=>(u++w)::ws
theorem aij (c:UInt8):(((c.toNat:Int)==46))=(c==46):=by
 rw [Bool.eq_iff_iff,beq_iff_eq,beq_iff_eq]
 constructor
 .intro h
  have:c.toNat=(46:UInt8).toNat:=by show c.toNat=46; omega
  exact UInt8.toNat_inj.1 this
 .intro h; subst h; rfl
theorem Yc (s:Bytes):∀ (f:Nat) (i fr:Int) (rows:List (List V)),0<=fr->fr<=i->i+f=s.length ->
  0<=(N.spl s f i fr rows).1∧(N.spl s f i fr rows).1<=s.length∧(N.spl s f i fr rows).2++[[.str (s.drop (N.spl s f i fr rows).1.toNat)]]=rows++(amX ((s.take i.toNat).drop fr.toNat) (N.eP (s.drop i.toNat))).map oH.enc
 | 0,i,fr,rows,h0,h1,h2=>by
  have hi:i.toNat=s.length:=by omega
  refine ⟨h0,?_,?_⟩
  .show fr<=_; omega
  .show rows++[[.str (s.drop fr.toNat)]]=_
   rw [hi,List.take_length,List.drop_length]
   show _=rows++[[V.str (s.drop fr.toNat++[])]]
   rw [List.append_nil]
 | f+1,i,fr,rows,h0,h1,h2=>by
  have hlt:i.toNat<s.length:=by omega
  have e1:(i+1).toNat=i.toNat+1:=by omega
  unfold N.spl
  rw [drop_byte hlt]
  unfold N.eP
  rw [aij]
  cases hc:s.getD i.toNat 0==46 with
  | true =>
   obtain ⟨g1,g2,g3⟩:=Yc s f (i+1) (i+1) (rows++[[.str ((s.take i.toNat).drop fr.toNat)]]) (by omega) (Int.le_refl _) (by omega)
   simp only [cond_true]
   refine ⟨g1,g2,g3.trans ?_⟩
   rw [e1]
   have:(s.take (i.toNat+1)).drop (i.toNat+1)=[]:=by rw [List.drop_take]; simp
   rw [this]
   show _=rows++[V.str ((s.take i.toNat).drop fr.toNat++[])]::(N.eP (s.drop (i.toNat+1))).map oH.enc
   rw [List.append_nil,List.append_assoc]
   congr 1
   cases h:N.eP (s.drop (i.toNat+1)) with
   | nil=>exact absurd h (vT _)
   | cons w ws=>rfl
  | false =>
   obtain ⟨g1,g2,g3⟩:=Yc s f (i+1) fr rows h0 (by omega) (by omega)
   simp only [cond_false]
   refine ⟨g1,g2,g3.trans ?_⟩
   rw [e1]
   congr 2
   cases h:N.eP (s.drop (i.toNat+1)) with
   | nil=>exact absurd h (vT _)
   | cons w ws =>
    show ((s.take (i.toNat+1)).drop fr.toNat++w)::ws=((s.take i.toNat).drop fr.toNat++s.getD i.toNat 0::w)::ws
    have:s.take (i.toNat+1)=s.take i.toNat++[s.getD i.toNat 0]:=by
     rw [List.take_add_one,List.getD_eq_getElem?_getD,List.getElem?_eq_getElem hlt]; rfl
    rw [this,List.drop_append_of_le_length (by rw [List.length_take]; omega),List.append_assoc]; rfl
theorem SB (s:Bytes):∀ (f:Nat) (i fr:Int) (rows:List (List V)),(N.spl s f i fr rows).2.length<=rows.length+f
 | 0,i,fr,rows=>Nat.le_refl _
 | f+1,i,fr,rows=>by
  unfold N.spl
  cases (((s.getD i.toNat 0).toNat:Int)==46) with
  | true =>
   have:=SB s f (i+1) (i+1) (rows++[[.str ((s.take i.toNat).drop fr.toNat)]])
   simp only [List.length_append,List.length_cons,List.length_nil] at this
   simp only [cond_true]; omega
  | false =>
   have:=SB s f (i+1) fr rows
   simp only [cond_false]; omega
theorem zi:∀ s,(N.dot s = -1∧N.eP s=[s]∧N.dots s=0)∨(0<=N.dot s∧N.dot s<s.length∧N.eP s=s.take (N.dot s).toNat::N.eP (s.drop (N.dot s+1).toNat)∧N.dots s=N.dots (s.drop (N.dot s+1).toNat)+1)
 | []=>.inl ⟨rfl,rfl,rfl⟩
 | c::r=>by
  have hd:N.dots (c::r)=N.dots r+(if c==46 then 1 else 0):=by
   unfold N.dots; rw [List.count_cons]; split<;>simp
  have hs:N.eP (c::r)=cond (c==46) ([]::N.eP r) (match N.eP r with | []=>[[c]] | w::ws=>(c::w)::ws):=rfl
  have ht:N.dot (c::r)=cond (c==46) 0 (cond (N.dot r==-1) (-1) (N.dot r+1)):=rfl
  rw [hs,ht]
  cases hc:c==46 with
  | true =>
   rw [hc,if_pos rfl] at hd
   simp only [cond_true]
   refine .inr ⟨by decide,by simp only [List.length_cons]; omega,?_,?_⟩
   .rfl
   .rw [hd]; rfl
  | false =>
   rw [hc] at hd
   simp only [cond_false]
   rcases zi r with ⟨h1,h2,h3⟩ | ⟨h1,h2,h3,h4⟩
   .rw [h1,h2]
    exact .inl ⟨rfl,rfl,by rw [hd,h3]; rfl⟩
   .have hne:(N.dot r==-1)=false:=by rw [beq_eq_false_iff_ne]; omega
    rw [hne,cond_false]
    have e1:(N.dot r+1+1).toNat=(N.dot r+1).toNat+1:=by omega
    have e2:(N.dot r+1).toNat=(N.dot r).toNat+1:=by omega
    refine .inr ⟨by omega,by simp only [List.length_cons]; omega,?_,?_⟩
    .rw [h3,e1,List.drop_succ_cons,e2,List.take_succ_cons]
    .rw [hd,h4,e1,List.drop_succ_cons]; simp
theorem aeD:∀ (f:Nat) (s:Bytes) (i:Int) (rows:List (List V)),0<=i->(f:Int)=N.dots s->(rows.length:Int)=i+f+1 ->
  0<=(N.gen f s i rows).2.1∧(N.gen f s i rows).2.1<rows.length∧(N.gen f s i rows).2.2.length=rows.length ∧
  ((N.gen f s i rows).2.2.set (N.gen f s i rows).2.1.toNat [.str (N.gen f s i rows).1]).take ((N.gen f s i rows).2.1+1).toNat=rows.take i.toNat++(N.eP s).map oH.enc
 | f,s,i,rows,h0,hf,hl=>by
  have stop:N.eP s=[s]->(rows.set i.toNat [.str s]).take (i+1).toNat=rows.take i.toNat++(N.eP s).map oH.enc:=fun e=>by
   have hi:i.toNat<rows.length:=by omega
   rw [e,show (i+1).toNat=i.toNat+1 by omega,List.take_add_one,List.getElem?_set_self hi,List.take_set_of_le (Nat.le_refl _)]; rfl
  rcases zi s with ⟨h1,h2,h3⟩ | ⟨h1,h2,h3,h4⟩
  .have:f=0:=by omega
   subst this
   exact ⟨h0,by show i<_; omega,rfl,stop h2⟩
  .cases f with
   | zero =>
    have:0<=N.dots (s.drop (N.dot s+1).toNat):=Int.natCast_nonneg _
    omega
   | succ f =>
    have hn:aU (N.dot s) 0=false:=by rw [kN,decide_eq_false_iff_not]; omega
    unfold N.gen
    rw [hn,cond_false]
    obtain ⟨g1,g2,g3,g4⟩:=aeD f (s.drop (N.dot s+1).toNat) (i+1) (rows.set i.toNat [.str (s.take (N.dot s).toNat)]) (by omega) (by omega) (by rw [List.length_set]; omega)
    rw [List.length_set] at g2 g3
    refine ⟨g1,g2,g3,g4.trans ?_⟩
    have hi:i.toNat<rows.length:=by omega
    rw [h3,show (i+1).toNat=i.toNat+1 by omega,List.take_add_one,List.getElem?_set_self hi,List.take_set_of_le (Nat.le_refl _),List.append_assoc]; rfl
end Go.Ev

namespace Go.Ev
open Go
structure aW where
 key:Bytes
 kind:Int
 num:Int
 text:Bytes
def _root_.Go.Ev.aj.spelt {α:Type} (c:aj α) (sh:List Sh) (enc:α->List V) (dec:List V->α) (hs:c.sh=sh) (he:∀ a,c.enc a=enc a) (hd:∀ r,c.dec r=dec r):aj α where
 sh:=sh; enc:=enc; dec:=dec
 rf:=by rw [<- hs]; exact c.rf
 fit a:=by rw [<- hs,<- he]; exact c.fit a
 wf row h hw:=by rw [<- hd,<- he]; exact c.wf row (by rw [hs]; exact h) hw
 de a:=by rw [<- hd,<- he]; exact c.de a
 law w I row val h hr j hj:=by rw [<- hd,<- he]; exact c.law w I row val (by rw [hs]; exact h) (fun k hk=>hr k (by rw [<- hs]; exact hk)) j (by rw [hs]; exact hj)
theorem nG {r:List V}:(r.take 1).getD 0 .undef=r.getD 0 .undef:=by cases r<;>rfl
theorem pq {r:List V} (i:Nat):(r.drop 1).getD i .undef=r.getD (i+1) .undef:=by cases r<;>rfl
def rowP (r:List V):aW:=⟨(r.getD 0 .undef).toStr,(r.getD 1 .undef).toInt,(r.getD 2 .undef).toInt,(r.getD 3 .undef).toStr⟩
def iw:aj aW:=((oH.and ((vw .u8).and ((vw .i64).and oH))).iso (fun p=>(⟨p.1,p.2.1,p.2.2.1,p.2.2.2⟩:aW)) (fun o=>(o.key,o.kind,o.num,o.text)) (fun _=>rfl) fun _=>rfl).spelt
 yP (fun p=>[.str p.key,.int .u8 p.kind,.int .i64 p.num,.str p.text]) rowP rfl (fun _=>rfl) fun r=>by
  show (⟨((r.take 1).getD 0 .undef).toStr,(((r.drop 1).take 1).getD 0 .undef).toInt,((((r.drop 1).drop 1).take 1).getD 0 .undef).toInt,(((r.drop 1).drop 1).drop 1 |>.getD 0 .undef).toStr⟩:aW)=rowP r
  simp only [nG,pq]; rfl
def dS (r:List (List V)):List aW:=r.map rowP
def jM:aW:=⟨[],0,0,[]⟩
theorem zk (r:List (List V)) (i:Nat):(dS r).getD i jM=rowP (r.getD i []):=by
 unfold dS; simp only [List.getD_eq_getElem?_getD,List.getElem?_map]; cases r[i]?<;>rfl
theorem mV (r:List (List V)):(dS r).length=r.length:=List.length_map ..
theorem xU (l:List aW):dS (l.map iw.enc)=l:=by
 unfold dS; rw [List.map_map]; exact List.map_id' l
theorem getD_drop {α:Type} {l:List α} {i:Nat} (d:α) (h:i<l.length):l.drop i=l.getD i d::l.drop (i+1):=by
 rw [List.drop_eq_getElem_cons h,List.getD_eq_getElem?_getD,List.getElem?_eq_getElem h]; rfl
theorem uD {r:List (List V)} {i:Nat} (h:i<r.length):(dS r).drop i=rowP (r.getD i [])::(dS r).drop (i+1):=by
 rw [<- zk]; exact getD_drop jM (by rw [mV]; exact h)
theorem gB:∀ l:List aW,(l.map (fun p=>[V.str p.key,V.int .u8 p.kind,V.int .i64 p.num,V.str p.text])).map (fun r=>({ key:=V.toStr (List.getD r 0 .undef),kind:=V.toInt (List.getD r 1 .undef),num:=V.toInt (List.getD r 2 .undef),text:=V.toStr (List.getD r 3 .undef) }:aW))=l:=fun l=>xU l
theorem FQ (l:List aW) (i:Nat):rowP ((l.map (fun p=>[V.str p.key,V.int .u8 p.kind,V.int .i64 p.num,V.str p.text])).getD i [])=l.getD i jM:=by
 rw [<- zk]; exact congrArg (fun x=>x.getD i jM) (xU l)
theorem ab4:(∀ (l:List aW) (i:Nat),V.toStr (List.getD (List.getD (l.map (fun p=>[V.str p.key,V.int .u8 p.kind,V.int .i64 p.num,V.str p.text])) i []) 0 .undef)=(l.getD i jM).key) ∧
  (∀ (l:List aW) (i:Nat),V.toInt (List.getD (List.getD (l.map (fun p=>[V.str p.key,V.int .u8 p.kind,V.int .i64 p.num,V.str p.text])) i []) 1 .undef)=(l.getD i jM).kind) ∧
  (∀ (l:List aW) (i:Nat),V.toInt (List.getD (List.getD (l.map (fun p=>[V.str p.key,V.int .u8 p.kind,V.int .i64 p.num,V.str p.text])) i []) 2 .undef)=(l.getD i jM).num) ∧
  (∀ (l:List aW) (i:Nat),V.toStr (List.getD (List.getD (l.map (fun p=>[V.str p.key,V.int .u8 p.kind,V.int .i64 p.num,V.str p.text])) i []) 3 .undef)=(l.getD i jM).text) :=
 ⟨fun l i=>congrArg aW.key (FQ l i),fun l i=>congrArg aW.kind (FQ l i),fun l i=>congrArg aW.num (FQ l i),fun l i=>congrArg aW.text (FQ l i)⟩
def vFn (f:FuncId) (n:Nat):Hz Unit where
 ok:=fun | .fn g [] [.ptr m 0 0 0]=>cond (Nat.beq f g) (Nat.beq n m) false | _=>false
 enc _:=.fn f [] [.ptr n 0 0 0]
 dec _:=()
 ed _:=⟨by show cond (Nat.beq f f) (Nat.beq n n) false=true; rw [Nat.beq_refl,Nat.beq_refl]; rfl,rfl⟩
 law w I ρ v x h hx:=by
  split at h
  .obtain ⟨h1,h2⟩:=aX h
   have:=Nat.eq_of_beq_eq_true h1; subst this
   have:=Nat.eq_of_beq_eq_true h2; subst this
   exact hx
  .cases h
namespace N
def eqP (p q:aW):Bool:=p.key==q.key && (p.kind==q.kind && (p.num==q.num && (p.text==q.text && true)))
def kZ:List aW->List aW->Bool
 | [],[]=>true | p::a,q::b=>cond (eqP p q) (kZ a b) false | _,_=>false
def iP (key:Bytes):List aW->Int->Int
 | [],_=>-1 | p::r,i=>cond (p.key==key) i (iP key r (i+1))
def find (h:List aW) (key:Bytes):aW × Bool:=cond (aU (iP key h 0) 0) (jM,false) (h.getD (iP key h 0).toNat jM,true)
def jC (p:aW) (ahead:List aW):Int :=
 cond (name p.key != 0) (name p.key) (cond (aU 2 p.kind) 8 (cond (cond (p.kind==1) (aU 64 p.text.length) false) 5 (cond (cond (cond (p.kind==2) (p.num != 0) false) (p.num != 1) false) 7
  (cond (cond (cond (p.kind==1) (p.num != 0) false) true (cond (p.kind != 1) (!(p.text==[])) false)) 4 (cond (find ahead p.key).2 9 0)))))
def eu (h:List aW):Nat->Int->Int
 | 0,_=>0 | f+1,i=>cond (jC (h.getD i.toNat jM) (h.take i.toNat) != 0) (jC (h.getD i.toNat jM) (h.take i.toNat)) (eu h f (i+1))
def cZ (h:List aW):Int:=cond (aU 8 h.length) 6 (eu h h.length 0)
def dD (s:Bytes):Bytes:=bQ s.length 2++s
def uN (p:aW):Bytes:=dD p.key++bQ (IntKind.wrap .u64 p.kind) 1++cond (p.kind==0) (bQ (IntKind.wrap .u64 p.num) 8) (cond (p.kind==1) (dD p.text) (cond (p.kind==2) (bQ (IntKind.wrap .u64 p.num) 1) []))
def lS:List aW->Bytes
 | []=>[] | p::r=>uN p++lS r
def Ec (p:aW):Bool:=cond (Nat.ble p.key.length 64) (Nat.ble p.text.length 64) false
def iU (h:List aW):Bytes:=bQ h.length 1++lS h
end N
def H8 (h:List aW):Bool:=Nat.ble h.length uJ
def aeF:Den:=den (bg (qw iw) (aT (qw iw))) dV (oV lC) (fun a _=>H8 a.1) fun a _=>(N.kZ a.1 a.2,())
def aar:Den:=den (bg (bJ iw) (aT (jL 0))) (jr oH) (oV lC) (fun _ _=>true) fun a key=>(a.1.key==key,key)
def U3 (f:FuncId):Den:=den (bg (qw iw) (aT (vFn f 0))) (jr oH) (oV (dA .i64)) (fun a _=>H8 a.1) fun a key=>(N.iP key a.1 0,key)
def aj0:Den:=den (bg (qw iw) (aT gy)) dV (vF (bg (bJ iw) (aT lC))) (fun a _=>H8 a.1) fun a _=>(N.find a.1 a.2,())
def H9:Den:=den (bg (bJ iw) (aT (qw iw))) dV (oV (dA .i64)) (fun a _=>H8 a.2) fun a _=>(N.jC a.1 a.2,())
def uO:Den:=den (aT (qw iw)) dV (oV (dA .i64)) (fun _ _=>true) fun h _=>(N.cZ h,())
def Ed:Den:=den (aT (qw iw)) dV (vF (bg gy (aT (dA .i64)))) (fun _ _=>true) fun h _=>(cond (N.cZ h != 0) ([],N.cZ h) (N.iU h,0),())
theorem Ia (key:Bytes):∀ (h:List aW) (i:Int),0<=i->N.iP key h i = -1∨(i<=N.iP key h i∧N.iP key h i<i+h.length)
 | [],i,_=>.inl rfl
 | p::r,i,h0=>by
  unfold N.iP
  cases p.key==key with
  | true=>exact .inr ⟨Int.le_refl _,by simp only [List.length_cons,cond_true]; omega⟩
  | false =>
   rcases Ia key r (i+1) (by omega) with h | ⟨h1,h2⟩
   .exact .inl h
   .exact .inr ⟨by simp only [cond_false]; omega,by simp only [List.length_cons,cond_false]; omega⟩
abbrev yE (p:aW):List V:=[V.str p.key,V.int .u8 p.kind,V.int .i64 p.num,V.str p.text]
abbrev yD (r:List V):aW:={key:=V.toStr (r.getD 0 .undef),kind:=V.toInt (r.getD 1 .undef),num:=V.toInt (r.getD 2 .undef),text:=V.toStr (r.getD 3 .undef)}
end Go.Ev

namespace Go.Ev
open Go
structure bY where
 s:Bytes
 at' : Int
 code:Int
def aj1 (r:List V):bY:=⟨(r.getD 0 .undef).toStr,(r.getD 1 .undef).toInt,(r.getD 2 .undef).toInt⟩
def wZ:aj bY:=((oH.and ((vw .i64).and (vw .i64))).iso (fun p=>(⟨p.1,p.2.1,p.2.2⟩:bY)) (fun o=>(o.s,o.at',o.code)) (fun _=>rfl) fun _=>rfl).spelt
 [.str,.int .i64,.int .i64] (fun p=>[.str p.s,.int .i64 p.at',.int .i64 p.code]) aj1 rfl (fun _=>rfl) fun r=>by
  show (⟨((r.take 1).getD 0 .undef).toStr,(((r.drop 1).take 1).getD 0 .undef).toInt,((r.drop 1).drop 1 |>.getD 0 .undef).toInt⟩:bY)=aj1 r
  simp only [nG,pq]; rfl
namespace N
def bM (i:dw) (n:Int):Bytes × dw :=
 jB (cond (aU n (IntKind.wrap .i64 (ay i 2).1)) (bP (ay i 2).2 5) (ay i 2).2) (IntKind.wrap .i64 (ay i 2).1)
def Yd (i:dw):Int:=i.s.length
def oneOf (key:Bytes) (kind:Int) (i:dw):aW × dw :=
 cond (kind==0) (⟨key,kind,IntKind.wrap .i64 (ay i 8).1,[]⟩,(ay i 8).2) (cond (kind==1) (⟨key,kind,0,(bM i 64).1⟩,(bM i 64).2)
  (cond (kind==2) (⟨key,kind,IntKind.wrap .i64 (ay i 1).1,[]⟩,(ay i 1).2) (⟨key,kind,0,[]⟩,bP i 8)))
def one (i:dw):aW × dw:=oneOf (bM i 16).1 (IntKind.wrap .u8 (ay (bM i 16).2 1).1) (ay (bM i 16).2 1).2
def bad (p:aW) (acc:List aW) (i:dw):dw:=cond (i.err==0) (bP i (jC p acc)) i
def jh:Nat->dw->List aW->List aW × dw
 | 0,i,acc=>(acc,i)
 | k+1,i,acc=>cond ((bad (one i).1 acc (one i).2).err != 0) ([],bad (one i).1 acc (one i).2) (jh k (bad (one i).1 acc (one i).2) (acc++[(one i).1]))
def iH (i:dw):List aW × dw :=
 jh (IntKind.wrap .i64 (ay i 1).1).toNat (cond (aU 8 (IntKind.wrap .i64 (ay i 1).1)) (bP (ay i 1).2 6) (ay i 1).2) []
def fF (q:bY) (c:Int):bY:=cond (q.code==0) ⟨q.s,q.at',c⟩ q
def oZ (q:bY) (n:Int):Bytes × bY :=
 cond (q.code != 0) ([],q) (cond (bW n 0) ([],q) (cond (aU (q.s.length-q.at') n) ([],fF q 3) ((q.s.drop q.at'.toNat).take n.toNat,⟨q.s,q.at' + n,q.code⟩)))
def bD (q:bY) (n:Int):Int × bY:=(be (oZ q (cond (aU 8 n) 8 n)).1 0,(oZ q (cond (aU 8 n) 8 n)).2)
def iC (q:bY) (n:Int):Bytes × bY :=
 oZ (cond (aU n (IntKind.wrap .i64 (bD q 2).1)) (fF (bD q 2).2 5) (bD q 2).2) (IntKind.wrap .i64 (bD q 2).1)
def Me (key:Bytes) (kind:Int) (q:bY):aW × bY :=
 cond (kind==0) (⟨key,kind,IntKind.wrap .i64 (bD q 8).1,[]⟩,(bD q 8).2) (cond (kind==1) (⟨key,kind,0,(iC q 64).1⟩,(iC q 64).2)
  (cond (kind==2) (⟨key,kind,IntKind.wrap .i64 (bD q 1).1,[]⟩,(bD q 1).2) (⟨key,kind,0,[]⟩,fF q 8)))
def xW (q:bY):aW × bY:=Me (iC q 16).1 (IntKind.wrap .u8 (bD (iC q 16).2 1).1) (bD (iC q 16).2 1).2
def MB (p:aW) (acc:List aW) (q:bY):bY:=cond (q.code==0) (fF q (jC p acc)) q
def kM:Nat->bY->List aW->List aW × bY
 | 0,q,acc=>(acc,q)
 | k+1,q,acc=>cond (q.code==0) (kM k (MB (xW q).1 acc (xW q).2) (acc++[(xW q).1])) (acc,q)
def FT (q:bY):List aW × bY :=
 kM (IntKind.wrap .i64 (bD q 1).1).toNat (cond (aU 8 (IntKind.wrap .i64 (bD q 1).1)) (fF (bD q 1).2 6) (bD q 1).2) []
def vU (q:bY):List aW × bY:=cond ((FT q).2.code != 0) ([],(FT q).2) (FT q)
end N
def N.bU (q:bY):Bool:=cond (bW 0 q.at') (cond (bW q.at' q.s.length) (Nat.ble q.s.length uJ) false) false
def J5:Den:=den (bg (jL 0) (aT (dA .i64))) (jr GZ) (oV gy) (fun _ _=>true) fun a i=>N.bM i a.2
def Ee:Den:=den (aT (jL 0)) (jr GZ) (oV (dA .i64)) (fun _ _=>true) fun _ i=>(i.err,i)
def aas:Den:=den (aT (jL 0)) (jr GZ) (oV (dA .i64)) (fun _ _=>true) fun _ i=>(N.Yd i,i)
def aeG:Den:=den (aT (jL 0)) (jr GZ) (oV (dA .i64)) (fun _ _=>true) fun _ i=>(cond (i.err==0) (cond (aU 0 i.s.length) 4 0) i.err,i)
def amY:Den:=den (aT (jL 0)) (jr GZ) (oV (bJ iw)) (fun _ _=>true) fun _ i=>N.one i
def Qa:Den:=den (aT (jL 0)) (jr GZ) (oV (qw iw)) (fun _ _=>true) fun _ i=>N.iH i
def Ib:Den:=den (bg (jL 0) (aT (dA .i64))) (jr wZ) (vF aew) (fun _ _=>true) fun a q=>((),N.fF q a.2)
def aeH:Den:=den (bg (jL 0) (aT (dA .i64))) (jr wZ) (oV gy) (fun _ q=>N.bU q) fun a q=>N.oZ q a.2
def MC:Den:=den (bg (jL 0) (aT (dA .i64))) (jr wZ) (oV (dA .u64)) (fun _ q=>N.bU q) fun a q=>N.bD q a.2
def SC:Den:=den (bg (jL 0) (aT (dA .i64))) (jr wZ) (oV gy) (fun _ q=>N.bU q) fun a q=>N.iC q a.2
def aeI:Den:=den (aT (jL 0)) (jr wZ) (oV (qw iw)) (fun _ q=>N.bU q) fun _ q=>N.vU q
end Go.Ev

namespace Go.Ev
open Go
structure au where
 id:Int
 bZ:Bytes
 key:Bytes
 head:List aW
 body:Bytes
 due:Int
 hops:Int
def aeJ (r:List V):au:=⟨(r.getD 0 .undef).toInt,(r.getD 1 .undef).toStr,(r.getD 2 .undef).toStr,dS (r.getD 3 .undef).toRows,(r.getD 4 .undef).toStr,(r.getD 5 .undef).toInt,(r.getD 6 .undef).toInt⟩
def ah:aj au:=(((vw .u64).and (oH.and (oH.and ((vC iw).and (oH.and ((vw .u64).and (vw .u8))))))).iso (fun p=>(⟨p.1,p.2.1,p.2.2.1,p.2.2.2.1,p.2.2.2.2.1,p.2.2.2.2.2.1,p.2.2.2.2.2.2⟩:au)) (fun o=>(o.id,o.bZ,o.key,o.head,o.body,o.due,o.hops)) (fun _=>rfl) fun _=>rfl).spelt
 yM
 (fun m=>[.int .u64 m.id,.str m.bZ,.str m.key,.slc yP (m.head.map fun p=>[V.str p.key,V.int .u8 p.kind,V.int .i64 p.num,V.str p.text]),.str m.body,.int .u64 m.due,.int .u8 m.hops]) aeJ rfl (fun _=>rfl) fun r=>by
  show (⟨((r.take 1).getD 0 .undef).toInt,(((r.drop 1).take 1).getD 0 .undef).toStr,((((r.drop 1).drop 1).take 1).getD 0 .undef).toStr,(((((r.drop 1).drop 1).drop 1).take 1).getD 0 .undef).toRows.map iw.dec,
   ((((((r.drop 1).drop 1).drop 1).drop 1).take 1).getD 0 .undef).toStr,(((((((r.drop 1).drop 1).drop 1).drop 1).drop 1).take 1).getD 0 .undef).toInt,((((((r.drop 1).drop 1).drop 1).drop 1).drop 1).drop 1 |>.getD 0 .undef).toInt⟩:au)=aeJ r
  simp only [nG,pq]; rfl
def kY:au:=⟨0,[],[],[],[],0,0⟩
namespace N
def aP (m:au):Int:=cond (name m.bZ != 0) (name m.bZ) (cond (key m.key [] != 0) (key m.key []) (cond (cZ m.head != 0) (cZ m.head) (cond (aU 256 m.body.length) 5 (cond (aU 4 m.hops) 7 0))))
def lT (m:au):Bytes:=bQ m.id 8++dD m.bZ++dD m.key++iU m.head++dD m.body++bQ m.due 8++bQ (IntKind.wrap .u64 m.hops) 1
def dB (m:au):Int:=cond (aP m != 0) 0 (lT m).length
def lU (a b:au):Bool:=cond (a.id==b.id) (cond (a.bZ==b.bZ) (cond (a.key==b.key) (cond (kZ a.head b.head) (cond (a.body==b.body) (cond (a.due==b.due) (a.hops==b.hops) false) false) false) false) false) false
def zl (m:au) (i:dw):au × dw :=
 cond ((cond (i.err==0) (bP i (aP m)) i).err != 0) (kY,cond (i.err==0) (bP i (aP m)) i) (m,cond (i.err==0) (bP i (aP m)) i)
def cu (i:dw):au × dw :=
 let a:=ay i 8
 let b:=bM a.2 16
 let c:=bM b.2 64
 let d:=iH c.2
 let e:=bM d.2 256
 let f:=ay e.2 8
 let g:=ay f.2 1
 zl ⟨a.1,b.1,c.1,d.1,e.1,f.1,IntKind.wrap .u8 g.1⟩ g.2
def MG (m:au) (q:bY):au × bY :=
 cond ((cond (q.code==0) (fF q (aP m)) q).code != 0) (kY,cond (q.code==0) (fF q (aP m)) q) (m,cond (q.code==0) (fF q (aP m)) q)
def mF (i:bY):au × bY :=
 let a:=bD i 8
 let b:=iC a.2 16
 let c:=iC b.2 64
 let d:=vU c.2
 let e:=iC d.2 256
 let f:=bD e.2 8
 let g:=bD f.2 1
 MG ⟨a.1,b.1,c.1,d.1,e.1,f.1,IntKind.wrap .u8 g.1⟩ g.2
def yF (m:au):Bool:=cond (cond (bW 0 m.id) (aU m.id 18446744073709551616) false) (cond (cond (bW 0 m.due) (aU m.due 18446744073709551616) false) (cond (bW 0 m.hops) (aU m.hops 256) false) false) false
end N
def N.O1 (p:aW):Bool:=cond (bW 0 p.kind) (cond (aU p.kind 256) (cond (bW (-9223372036854775808) p.num) (bW p.num 9223372036854775807) false) false) false
def iQ (m:au):Bool:=H8 m.head
def aeK:Den:=den (aT (qw iw)) dV (oV (qw iw)) (fun l _=>H8 l) fun l _=>(l,())
def uF:Den:=den (aT (bJ ah)) dV (oV (bJ ah)) (fun m _=>iQ m) fun m _=>(m,())
def lH:Den:=den (aT (bJ ah)) dV (oV (dA .i64)) (fun _ _=>true) fun m _=>(N.aP m,())
def Ic:Den:=den (bg (bJ ah) (aT (bJ ah))) dV (oV lC) (fun a _=>iQ a.1) fun a _=>(N.lU a.1 a.2,())
def uP:Den:=den (aT (bJ ah)) dV (vF (bg gy (aT (dA .i64)))) (fun m _=>N.yF m) fun m _=>(cond (N.aP m != 0) ([],N.aP m) (N.lT m,0),())
def CU:Den:=den (aT (bJ ah)) dV (oV (dA .i64)) (fun m _=>N.yF m) fun m _=>(N.dB m,())
def Ef:Den:=den (aT (bJ ah)) dV (oV (dA .i64)) (fun m _=>cond (N.yF m) (m.head.all N.O1) false) fun m _=>(N.dB m,())
def Ie:Den:=den (aT (jL 0)) (jr GZ) (oV (bJ ah)) (fun _ _=>true) fun _ i=>N.cu i
def Ye:Den:=den (aT (jL 0)) (jr wZ) (oV (bJ ah)) (fun _ q=>N.bU q) fun _ q=>N.mF q
end Go.Ev

namespace Go.Ev
open Go
structure amZ where
 sort:Int
 key:Bytes
 want:List aW
 all:Bool
namespace N
def aol (h:List aW) (p:aW):Bool:=cond (find h p.key).2 (eqP (find h p.key).1 p) false
def Yf (h:List aW) (all:Bool):List aW->Bool
 | []=>all
 | p::r=>cond (aol h p) (cond all (Yf h all r) true) (cond all false (Yf h all r))
def goes (r:amZ) (k:Bytes) (h:List aW):Bool:=cond (r.sort==0) (k==r.key) (cond (r.sort==2) (Sv (words r.key) (words k)) (cond (r.sort==3) (Yf h r.all r.want) true))
end N
end Go.Ev

namespace Go.Ev
open Go
theorem lD {r:List (List V)} {i:Nat} (h:i<r.length):r.drop i=r.getD i []::r.drop (i+1):=by
 rw [List.drop_eq_getElem_cons h,List.getD_eq_getElem?_getD,List.getElem?_eq_getElem h]; rfl
theorem dH {E:Env} {f:FuncId} {id:Nat} {A:Type} (r:List (List V)) (enc:A->Int->St) (inv:A->Nat->Prop) (res:A->List (List V)->(Ex->St->Option R)->Option R)
  (step:∀ (a:A) (i:Nat),inv a i->i<r.length->(∃ a',inv a' (i+1)∧(∀ K,bI E f id (enc a i) K=K .normal (enc a' ((i:Int)+1)))∧∀ K,res a (r.getD i []::r.drop (i+1)) K=res a' (r.drop (i+1)) K) ∨
   ∃ e S,e ≠ .normal∧(∀ K,bI E f id (enc a i) K=K e S)∧∀ K,res a (r.getD i []::r.drop (i+1)) K=K e S)
  (fin:∀ a,inv a r.length->∃ e S,e ≠ .normal∧(∀ K,bI E f id (enc a r.length) K=K e S)∧∀ K,res a [] K=K e S)
  (a:A) (i:Int) (h0:0<=i) (h1:i<=r.length) (ha:inv a i.toNat) (K:Ex->St->Option R) (q:R) (hq:res a (r.drop i.toNat) K=some q):∃ n,o9 E f id n (enc a i) K=some q:=by
 refine dN (σ:=A × Nat) (fun s=>enc s.1 s.2) (fun s=>inv s.1 s.2∧s.2<=r.length) (fun s=>r.length-s.2) (fun s K=>res s.1 (r.drop s.2) K) (fun s ⟨hs,hl⟩=>?_) (a,i.toNat) ⟨ha,by simp only; omega⟩ K q hq |>.imp fun n h=>by
  simpa only [Int.toNat_of_nonneg h0] using h
 obtain ⟨a,i⟩:=s
 simp only at hs hl ⊢
 by_cases hi:i<r.length
 .rw [lD hi]
  rcases step a i hs hi with ⟨a',g1,g2,g3⟩ | ⟨e,S,g1,g2,g3⟩
  .exact .inl ⟨(a',i+1),⟨g1,hi⟩,by simp only; omega,fun K=>by rw [g2]; rfl,fun K=>g3 K⟩
  .exact .inr ⟨e,S,g1,g2,g3⟩
 .obtain rfl:i=r.length:=by omega
  rw [List.drop_eq_nil_of_le (Nat.le_refl _)]
  obtain ⟨e,S,g1,g2,g3⟩:=fin a hs
  exact .inr ⟨e,S,g1,g2,g3⟩
end Go.Ev

namespace Go.Ev
open Go Go.Proofs
set_option maxRecDepth 100000
noncomputable def aat:Env:=env Tryz.prog [] [] []
theorem aeL (c:Int):bV aat 116 ((aT (dA .u8)).enc c) ([]) some =
 cond (bW 97 c) (cond (bW c 122) (some {v:=.bool true,bx:=[]}) (cond (bW 48 c) (cond (bW c 57) (some {v:=.bool true,bx:=[]}) (cond (c==45) (some {v:=.bool true,bx:=[]}) (some {v:=.bool (c==95),bx:=[]}))) (cond (c==45) (some {v:=.bool true,bx:=[]}) (some {v:=.bool (c==95),bx:=[]})))) (cond (bW 48 c) (cond (bW c 57) (some {v:=.bool true,bx:=[]}) (cond (c==45) (some {v:=.bool true,bx:=[]}) (some {v:=.bool (c==95),bx:=[]}))) (cond (c==45) (some {v:=.bool true,bx:=[]}) (some {v:=.bool (c==95),bx:=[]}))):=by kernel_rfl
theorem Qb:bH Tryz.prog 116 Sz:=by
 refine aN (aQ (gu.nil _)) (E:=aat) Tryz.func116 [] (by kernel_rfl) none0 fun c _ _=>?_
 refine (aeL c).trans ?_
 show _=some (⟨.bool (N.nR c),[],[]⟩:aJ)
 unfold N.nR
 cases bW 97 c<;>cases bW c 122<;>cases bW 48 c<;>cases bW c 57<;>cases c==45<;>rfl
theorem Eh (c:UInt8) (r:Bytes):N.plain (c::r)=cond (N.nR c.toNat) (N.plain r) false:=by
 show (N.letter c && N.plain r)=_
 unfold N.letter
 cases N.nR c.toNat<;>rfl
def aeM:fK:={ fr:=[(0,.str),(6,.int .i64),(7,.int .i64)],tab:=[] }
def aeN:List Leaf->(Ex->St->Option R)->Option R
 | [.s s0,.i i6,.i i7],K=>cond (i6==s0.length) (cond (bW 0 i7) (cond (Nat.ble s0.length uJ) (cond (N.plain (s0.drop i7.toNat)) (K (.exit 0) { fr:=[],tab:=[] }) (K .ret { fr:=[(2,.bool false)],tab:=[] })) none) none) none
 | _,_=>none
noncomputable def SE:Env:=env Tryz.prog [] [(2,dO aeM aeN)] [(2,[(0,[0,6,7]),(1,[]),(1000,[2])])]
theorem aik (s:Bytes):bV SE 168 ((aT gy).enc s) ([]) some =
 cond ((↑(List.length s):Int)==(↑(List.length s):Int)) (cond (Nat.ble (List.length s) 1000000) (cond (N.plain (List.drop 0 s)) (some {v:=.bool true,bx:=[]}) (some {v:=.bool false,bx:=[]})) none) none:=by kernel_rfl
theorem MH (s0:Bytes) (i6:Int) (i7:Int) (K:Ex->St->Option R):type_of% (by
  have h:bI SE 168 2 { fr:=[(0,.str s0),(6,.int .i64 i6),(7,.int .i64 i7)],tab:=[] } K =(
   let z1:=(↑(UInt8.toNat (List.getD s0 (Int.toNat i7) (0:UInt8))):Int);let z3:=(K .normal {fr:=[(0,.str s0),(6,.int .i64 i6),(7,.int .i64 (IntKind.wrap .i64 (i7+1)))],tab:=[]});let z4:=(K .ret {fr:=[(2,.bool false)],tab:=[]});let z0:=(cond (z1==45) (cond (z1==45) z3 z4) (cond (z1==95) z3 z4));let z2:=(cond (bW 48 z1) (cond (bW z1 57) (cond (bW z1 57) z3 z4) z0) z0);cond (aU i7 i6) (cond (decide (0<=i7∧i7<(↑(List.length s0):Int))) (cond (bW 97 z1) (cond (bW z1 122) (cond (bW z1 122) z3 z4) z2) z2) none) (K (.exit 0) {fr:=[],tab:=[]})):=by kernel_rfl
  dsimp only at h;exact h):=by kernel_rfl
theorem U4:bH Tryz.prog 168 Ya:=by
 refine aN (aQ (gu.nil _)) (E:=SE) Tryz.func168 [2] (by kernel_rfl) (one1 (bn rfl fun l K q h=>?_)) fun s _ h=>?_
 .unfold aeN at h
  split at h
  .rename_i s n i
   replace h:=RH h;obtain ⟨h1,h2,h3,h⟩:=h
   have h1:=aZ h1
   subst h1
   have h3:s.length<=1000000:=aV h3
   refine dN (E:=SE) (f:=168) (id:=2) (fun i:Int=>{ fr:=[(0,.str s),(6,.int .i64 s.length),(7,.int .i64 i)],tab:=[] }) (fun i=>0<=i) (fun i=>s.length-i.toNat)
    (fun i K=>cond (N.plain (s.drop i.toNat)) (K (.exit 0) { fr:=[],tab:=[] }) (K .ret { fr:=[(2,.bool false)],tab:=[] })) (fun i hi=>?_) i (bK h2) K q h
   by_cases hl:i<s.length
   .rw [drop_byte (show i.toNat<s.length by omega),Eh]
    cases hc:N.nR (s.getD i.toNat 0).toNat with
    | true =>
     refine .inl ⟨i+1,by omega,by omega,fun K=>?_,fun K=>?_⟩
     .rw [MH]
      simp (disch:=omega) only [evs]
      revert hc
      unfold N.nR
      cases bW 97 (s.getD i.toNat 0).toNat<;>cases bW (s.getD i.toNat 0).toNat 122<;>cases bW 48 (s.getD i.toNat 0).toNat<;>cases bW (s.getD i.toNat 0).toNat 57<;>cases ((s.getD i.toNat 0).toNat:Int)==45<;>cases ((s.getD i.toNat 0).toNat:Int)==95<;>intro hc<;>first | rfl | cases hc
     .rw [cond_true,show (i+1).toNat=i.toNat+1 by omega]
    | false =>
     refine .inr ⟨.ret,_,by simp,fun K=>?_,fun K=>rfl⟩
     rw [MH]
     simp (disch:=omega) only [evs]
     revert hc
     unfold N.nR
     cases bW 97 (s.getD i.toNat 0).toNat<;>cases bW (s.getD i.toNat 0).toNat 122<;>cases bW 48 (s.getD i.toNat 0).toNat<;>cases bW (s.getD i.toNat 0).toNat 57<;>cases ((s.getD i.toNat 0).toNat:Int)==45<;>cases ((s.getD i.toNat 0).toNat:Int)==95<;>intro hc<;>first | rfl | cases hc
   .refine .inr ⟨.exit 0,{ fr:=[],tab:=[] },by simp,fun K=>?_,fun K=>?_⟩
    .rw [MH]
     simp (disch:=omega) only [evs]
    .rw [List.drop_eq_nil_of_le (by omega)]; rfl
  .cases h
 .refine (aik s).trans ?_
  have h:s.length<=1000000:=aV h
  show _=some (⟨.bool (N.plain s),[],[]⟩:aJ)
  simp (disch:=omega) only [evs,List.drop_zero]
  cases N.plain s<;>rfl
def U5:fK:={ fr:=[(0,.str),(3,.own 10000),(4,.int .i64),(5,.int .i64)],tab:=[(10000,.sl [.str])] }
def Qc:List Leaf->(Ex->St->Option R)->Option R
 | [.s s0,.i i4,.i i5,.r mG],K=>cond (Nat.ble s0.length uJ) (cond (bW 0 i4) (cond (bW i4 i5) (cond (bW i5 s0.length) (cond (Nat.ble (mG.length+(s0.length-i5.toNat)) (uJ+1))
   (K (.exit 0) { fr:=[(0,.str s0),(3,.own 10000 0),(4,.int .i64 (N.spl s0 (s0.length-i5.toNat) i5 i4 mG).1)],tab:=[(10000,.sl [.str] (N.spl s0 (s0.length-i5.toNat) i5 i4 mG).2 0)] }) none) none) none) none) none
 | _,_=>none
noncomputable def CV:Env:=env Tryz.prog [] [(6,dO U5 Qc)] [(6,[(0,[0,3,4,5]),(1,[0,3,4]),(1000,[2])])]
theorem Yg (s:Bytes):bV CV 117 ((aT gy).enc s) ([]) some =
 cond ((↑(List.length s):Int)==0) (some {v:=.slc [.str] [],bx:=[]}) (cond (Nat.ble (List.length s) 1000000) (cond (Nat.ble (0+(List.length s-0)) 1000001) (cond (decide (0<=Prod.fst (N.spl s (List.length s-0) 0 0 [])∧Prod.fst (N.spl s (List.length s-0) 0 0 [])<=(↑(List.length s):Int))) (cond (decide ((List.length (Prod.snd (N.spl s (List.length s-0) 0 0 []))+1)*16<=140737488355328)) (some {v:=.slc [.str] (Prod.snd (N.spl s (List.length s-0) 0 0 [])++[[V.str (List.drop (Int.toNat (Prod.fst (N.spl s (List.length s-0) 0 0 []))) (List.take (List.length s) s))]]),bx:=[]}) none) none) none) none):=by kernel_rfl
theorem AQ (s0:Bytes) (i4:Int) (i5:Int) (mG:List (List V)) (K:Ex->St->Option R):bI CV 117 6 { fr:=[(0,.str s0),(3,.own 10000 0),(4,.int .i64 i4),(5,.int .i64 i5)],tab:=[(10000,.sl [.str] mG 0)] } K =
 cond (aU i5 (↑(List.length s0):Int)) (cond (decide (0<=i5∧i5<(↑(List.length s0):Int))) (cond ((↑(UInt8.toNat (List.getD s0 (Int.toNat i5) (0:UInt8))):Int)==46) (cond (decide (0<=i5∧i5<=(↑(List.length s0):Int))) (cond (decide (0<=i4∧i4<=(↑(Int.toNat i5):Int))) (cond (decide ((List.length mG+1)*16<=140737488355328)) (K .normal {fr:=[(0,.str s0),(3,.own 10000 0),(4,.int .i64 (IntKind.wrap .i64 (i5+1))),(5,.int .i64 (IntKind.wrap .i64 (i5+1)))],tab:=[(10000,.sl [.str] (mG++[[V.str (List.drop (Int.toNat i4) (List.take (Int.toNat i5) s0))]]) 0)]}) none) none) none) (K .normal {fr:=[(0,.str s0),(3,.own 10000 0),(4,.int .i64 i4),(5,.int .i64 (IntKind.wrap .i64 (i5+1)))],tab:=[(10000,.sl [.str] mG 0)]})) none) (K (.exit 0) {fr:=[(0,.str s0),(3,.own 10000 0),(4,.int .i64 i4)],tab:=[(10000,.sl [.str] mG 0)]}):=by kernel_rfl
theorem U6:bH Tryz.prog 117 L9:=by
 refine aN (aQ (gu.nil _)) (E:=CV) Tryz.func117 [6] (by kernel_rfl) (one1 (bn rfl fun l K q h=>?_)) fun s _ h=>?_
 .unfold Qc at h
  split at h
  .rename_i s fr i rows
   replace h:=EY h;obtain ⟨h1,h2,h3,h4,h5,h⟩:=h
   have h1:s.length<=1000000:=aV h1
   have h5:rows.length+(s.length-i.toNat)<=1000001:=aV h5
   refine dN (E:=CV) (f:=117) (id:=6) (σ:=Int × Int × List (List V)) (fun x=>{ fr:=[(0,.str s),(3,.own 10000 0),(4,.int .i64 x.1),(5,.int .i64 x.2.1)],tab:=[(10000,.sl [.str] x.2.2 0)] })
    (fun x=>0<=x.1∧x.1<=x.2.1∧x.2.1<=s.length∧x.2.2.length+(s.length-x.2.1.toNat)<=1000001) (fun x=>s.length-x.2.1.toNat)
    (fun x K=>K (.exit 0) { fr:=[(0,.str s),(3,.own 10000 0),(4,.int .i64 (N.spl s (s.length-x.2.1.toNat) x.2.1 x.1 x.2.2).1)],tab:=[(10000,.sl [.str] (N.spl s (s.length-x.2.1.toNat) x.2.1 x.1 x.2.2).2 0)] }) ?_ (fr,i,rows)
    ⟨bK h2,bK h3,bK h4,h5⟩ K q h
   rintro ⟨fr,i,rows⟩ ⟨h2,h3,h4,h5⟩
   simp only at h2 h3 h4 h5 ⊢
   by_cases hl:i<s.length
   .have e:s.length-i.toNat=(s.length-(i+1).toNat)+1:=by omega
    rw [e]
    simp only [N.spl]
    cases hc:(((s.getD i.toNat 0).toNat:Int)==46) with
    | true =>
     refine .inl ⟨(i+1,i+1,rows++[[.str ((s.take i.toNat).drop fr.toNat)]]),⟨by simp only; omega,by simp only; omega,by simp only; omega,by simp only [List.length_append,List.length_cons,List.length_nil]; omega⟩,by simp only; omega,fun K=>?_,fun K=>rfl⟩
     rw [AQ]
     simp (disch:=omega) only [evs,hc]
    | false =>
     refine .inl ⟨(fr,i+1,rows),⟨by simp only; omega,by simp only; omega,by simp only; omega,by simp only; omega⟩,by simp only; omega,fun K=>?_,fun K=>rfl⟩
     rw [AQ]
     simp (disch:=omega) only [evs,hc]
   .refine .inr ⟨.exit 0,_,by simp,fun K=>?_,fun K=>rfl⟩
    rw [AQ,show s.length-i.toNat=0 by omega]
    simp (disch:=omega) only [evs,N.spl]
  .cases h
 .refine (Yg s).trans ?_
  have h:s.length<=1000000:=aV h
  show _=some (⟨.slc [.str] ((N.words s).map oH.enc),[],[]⟩:aJ)
  cases s with
  | nil=>rfl
  | cons c r =>
   generalize hs:c::r=s at *
   have hpos:0<s.length:=by rw [<- hs]; simp
   have hw:N.words s=N.eP s:=by rw [<- hs]; rfl
   obtain ⟨g1,g2,g3⟩:=Yc s s.length 0 0 [] (by omega) (by omega) (by omega)
   have g4:=SB s s.length 0 0 []
   simp only [List.length_nil,Nat.zero_add] at g4
   simp (disch:=omega) only [evs,Nat.sub_zero,Nat.zero_add]
   rw [List.take_length,g3,hw]
   simp only [Int.toNat_zero,List.drop_zero,List.take_zero,List.nil_append]
   cases h:N.eP s with
   | nil=>exact absurd h (vT _)
   | cons w ws=>rfl
noncomputable def aj2:Env:=env Tryz.prog [(219,aap)] [] []
theorem alh (s:Bytes):bV aj2 215 ((bg gy (aT (dA .u8))).enc (s,46)) ([]) some =
 some {v:=.int .i64 (N.dot s),bx:=[]}:=by kernel_rfl
theorem ali (s:Bytes):Lib.indexByte s 46=N.dot s:=by
 induction s with
 | nil=>rfl
 | cons c r ih =>
  unfold Lib.indexByte N.dot
  rw [ih]
  cases c==46<;>cases N.dot r==-1<;>rfl
theorem U7 {P:Program} {f:FuncId} {vs:List V} {D:Den} (v:V) (x:Value) (hv:∀ w I ρ,Rv w I ρ v x) (xs:List Value) (hx:∀ w I ρ ys,dh w I ρ vs ys->ys=xs) (hD:∀ a b,D.pre a b=true->a=vs∧b=[]∧D.res a b=⟨v,[],[]⟩)
  (h:∀ w,(callFunc f xs.toArray).run P w = .ok (.value x) w):bH P f D:=fun a b hp w J fB ys hl hJ hr _ _ _=>by
 obtain ⟨rfl,rfl,e⟩:=hD a b hp
 obtain rfl:=hx _ _ _ _ hr
 refine .inr ⟨x,w,h w,J,?_⟩
 rw [e]
 exact ⟨Keeps.refl _ _,fun _ _ h=>h,hJ,fun _ _ h _=>h,rfl,fun j cs cs' p h1=>by simp at h1,.inl ⟨rfl,hv _ _ _⟩⟩
theorem U8 {s:Bytes} {w:World} {I:Nat->Nat->Prop} {ρ:Nat->Option Real} {ys:List Value} (h:dh w I ρ [.str s,.int .u8 46] ys):ys=[.string ⟨s.toArray⟩,.int .u8 46]:=by
 obtain ⟨x,xs,rfl,h1,h2⟩:=h.pK
 obtain ⟨y,rfl,h3⟩:=h2.one
 rw [h1.qx,h3.gI]
theorem ail:bH Tryz.prog 219 aap:=by
 refine Si fun a u h=>?_
 obtain ⟨s,c⟩:=a
 have h:c=46:=aZ h
 subst h
 refine U7 (vs:=[.str s,.int .u8 46]) (.int .i64 (N.dot s)) (.int .i64 (N.dot s)) (fun _ _ _=>.dat (.int _ _)) [.string ⟨s.toArray⟩,.int .u8 46] (fun _ _ _ _ h=>U8 h) (fun a b h=>?_) fun w=>?_
 .have h:a=(bg gy (aT (dA .u8))).enc (s,46)∧b=dV.enc u:=by simpa using h
  exact ⟨h.1,h.2,rfl⟩
 .rw [run_callFunc_extern Tryz.func219 (by kernel_rfl) (by kernel_rfl) (by kernel_rfl) (e:=Extern.BytealgIndexByte.indexByte) (by kernel_rfl),Lib.run_indexByteString]
  simp only [Result.andThen]
  have:Lib.indexByte (ByteArray.mk s.toArray).data.toList (Int.toNat 46).toUInt8=N.dot s:=ali s
  rw [this]
theorem aeO:bH Tryz.prog 211 aez:=by
 refine Si fun a u h=>?_
 obtain ⟨s,c⟩:=a
 have h:c=46:=aZ h
 subst h
 refine U7 (vs:=[.str s,.int .u8 46]) (.int .i64 (N.dots s)) (.int .i64 (N.dots s)) (fun _ _ _=>.dat (.int _ _)) [.string ⟨s.toArray⟩,.int .u8 46] (fun _ _ _ _ h=>U8 h) (fun a b h=>?_) fun w=>?_
 .have h:a=(bg gy (aT (dA .u8))).enc (s,46)∧b=dV.enc u:=by simpa using h
  exact ⟨h.1,h.2,rfl⟩
 .rw [run_callFunc_extern Tryz.func211 (by kernel_rfl) (by kernel_rfl) (by kernel_rfl) (e:=Extern.BytealgCount.count) (by kernel_rfl),Lib.run_countString]
  try rfl
theorem ain:bH Tryz.prog 215 aap:=by
 refine aN (aQ ((gu.nil _).cons ail)) (E:=aj2) Tryz.func215 [] (by kernel_rfl) none0 fun a _ h=>?_
 obtain ⟨s,c⟩:=a
 have h:c=46:=aZ h
 subst h
 exact alh s
noncomputable def aj3:Env:=env Tryz.prog [(215,aap)] [(15,fun _ _=>none)] []
theorem alj (s:Bytes):bV aj3 212 ((bg gy (aT gy)).enc (s,[46])) ([]) some =
 cond ([(46:UInt8)]==s) (some {v:=.int .i64 0,bx:=[]}) (some {v:=.int .i64 (N.dot s),bx:=[]}):=by kernel_rfl
theorem aio:bH Tryz.prog 212 aif:=by
 refine aN (aQ ((gu.nil _).cons ain)) (E:=aj3) Tryz.func212 [15] (by kernel_rfl) (one1 (I5 rfl)) fun a _ h=>?_
 obtain ⟨s,c⟩:=a
 have h:c=[46]:=by simpa using h
 subst h
 refine (alj s).trans ?_
 cases e:([46]==s) with
 | true =>
  have e:[46]=s:=by simpa using e
  subst e; rfl
 | false=>rfl
noncomputable def am0:Env:=env Tryz.prog [(212,aif)] [] []
theorem am1 (s:Bytes):bV am0 207 ((bg gy (aT gy)).enc (s,[46])) ([]) some =
 some {v:=.int .i64 (N.dot s),bx:=[]}:=by kernel_rfl
theorem alk:bH Tryz.prog 207 aif:=by
 refine aN (aQ ((gu.nil _).cons aio)) (E:=am0) Tryz.func207 [] (by kernel_rfl) none0 fun a _ h=>?_
 obtain ⟨s,c⟩:=a
 have h:c=[46]:=by simpa using h
 subst h
 exact am1 s
noncomputable def aj6:Env:=env Tryz.prog [(211,aez)] [(6,fun _ _=>none)] []
theorem alm (s:Bytes):bV aj6 206 ((bg gy (aT gy)).enc (s,[46])) ([]) some =
 some {v:=.int .i64 (N.dots s),bx:=[]}:=by kernel_rfl
theorem aip:bH Tryz.prog 206 ajX:=by
 refine aN (aQ ((gu.nil _).cons aeO)) (E:=aj6) Tryz.func206 [6] (by kernel_rfl) (one1 (I5 rfl)) fun a _ h=>?_
 obtain ⟨s,c⟩:=a
 have h:c=[46]:=by simpa using h
 subst h
 exact alm s
def aln:fK:={ fr:=[(0,.str),(1,.str),(2,.int .i64),(3,.int .i64),(9,.own 10000),(10,.int .i64)],tab:=[(10000,.sl [.str])] }
def am2:List Leaf->(Ex->St->Option R)->Option R
 | [.s s0,.s s1,.i i2,.i i3,.i i10,.r mG],K=>cond (s1==[46]) (cond (i2==0) (cond (bW 0 i10) (cond (bW i10 i3) (cond (i3+1==mG.length) (cond (Nat.ble s0.length uJ) (cond (Nat.ble mG.length (uJ+1))
   (K (.exit 0) { fr:=[(0,.str (N.gen (i3-i10).toNat s0 i10 mG).1),(9,.own 10000 0),(10,.int .i64 (N.gen (i3-i10).toNat s0 i10 mG).2.1)],tab:=[(10000,.sl [.str] (N.gen (i3-i10).toNat s0 i10 mG).2.2 0)] }) none) none) none) none) none) none) none
 | _,_=>none
noncomputable def aiq:Env:=env Tryz.prog [(206,ajX),(207,aif)] [(11,dO aln am2)] [(11,[(0,[0,1,2,3,9,10]),(1,[0,9,10]),(1000,[8])])]
theorem am3 (s:Bytes):type_of% (by
  have h:bV aiq 203 ((bg gy (bg gy (bg (dA .i64) (aT (dA .i64))))).enc (s,[46],0,-1)) ([]) some =(
   let z2:=((↑(List.length s):Int)+1);let z6:=(IntKind.wrap .i64 (N.dots s+1));let z0:=(bif aU (IntKind.wrap .i64 z2) z6 then IntKind.wrap .i64 z2 else IntKind.wrap .i64 (N.dots s+1));let z1:=(N.gen (Int.toNat (IntKind.wrap .i64 (z0-1)-0)) s 0 (List.replicate (Int.toNat z0) [V.str []]));let z3:=(List.set (Prod.snd z1.2) (Int.toNat (Prod.fst z1.2)) [V.str z1.1]);let z4:=(Prod.fst z1.2+1);let z5:=(List.length (List.replicate (Int.toNat z0) [V.str []]));cond (decide ((0<=bif aU (IntKind.wrap .i64 z2) z6 then IntKind.wrap .i64 z2 else IntKind.wrap .i64 (N.dots s+1))∧(z0=bif aU (IntKind.wrap .i64 z2) z6 then IntKind.wrap .i64 z2 else IntKind.wrap .i64 (N.dots s+1))∧z0*(↑(16:Nat):Int)<=140737488355328∧z0<=140737488355328)) (cond (bW 0 (IntKind.wrap .i64 (z0-1))) (cond (IntKind.wrap .i64 (z0-1)+1==(↑z5:Int)) (cond (Nat.ble (List.length s) 1000000) (cond (Nat.ble z5 1000001) (cond (decide (0<=Prod.fst z1.2∧Prod.fst z1.2<(↑(List.length (Prod.snd z1.2)):Int))) (cond (decide (0<=IntKind.wrap .i64 z4∧IntKind.wrap .i64 z4<=(↑(List.length z3):Int))) (some {v:=.slc [.str] (List.drop 0 (List.take (Int.toNat (IntKind.wrap .i64 z4)) z3)),bx:=[]}) none) none) none) none) none) none) none):=by kernel_rfl
  dsimp only at h;exact h):=by kernel_rfl
theorem Yh (s0:Bytes) (i3:Int) (i10:Int) (mG:List (List V)) (K:Ex->St->Option R):bI aiq 203 11 { fr:=[(0,.str s0),(1,.str [46]),(2,.int .i64 0),(3,.int .i64 i3),(9,.own 10000 0),(10,.int .i64 i10)],tab:=[(10000,.sl [.str] mG 0)] } K =
 cond (aU i10 i3) (cond (aU (N.dot s0) 0) (K (.exit 0) {fr:=[(0,.str s0),(9,.own 10000 0),(10,.int .i64 i10)],tab:=[(10000,.sl [.str] mG 0)]}) (cond (decide (0<=IntKind.wrap .i64 (N.dot s0+0)∧IntKind.wrap .i64 (N.dot s0+0)<=(↑(List.length s0):Int))) (cond (decide (0<=i10∧i10<(↑(List.length mG):Int))) (cond (decide (0<=IntKind.wrap .i64 (N.dot s0+(↑(1:Nat):Int))∧IntKind.wrap .i64 (N.dot s0+(↑(1:Nat):Int))<=(↑(List.length s0):Int))) (K .normal {fr:=[(0,.str (List.drop (Int.toNat (IntKind.wrap .i64 (N.dot s0+(↑(1:Nat):Int)))) (List.take (List.length s0) s0))),(1,.str [(46:UInt8)]),(2,.int .i64 0),(3,.int .i64 i3),(9,.own 10000 0),(10,.int .i64 (IntKind.wrap .i64 (i10+1)))],tab:=[(10000,.sl [.str] (List.set mG (Int.toNat i10) [V.str (List.drop 0 (List.take (Int.toNat (IntKind.wrap .i64 (N.dot s0+0))) s0))]) 0)]}) none) none) none)) (K (.exit 0) {fr:=[(0,.str s0),(9,.own 10000 0),(10,.int .i64 i10)],tab:=[(10000,.sl [.str] mG 0)]}):=by kernel_rfl
theorem air (s:Bytes):N.dots s<=s.length:=by unfold N.dots; have:=List.count_le_length (a:=(46:UInt8)) (l:=s); omega
theorem alo:bH Tryz.prog 203 P9:=by
 refine aN (aQ (((gu.nil _).cons alk).cons aip)) (E:=aiq) Tryz.func203 [11] (by kernel_rfl) (one1 (bn rfl fun l K q h=>?_)) fun a _ h=>?_
 .unfold am2 at h
  split at h
  .rename_i s c z n i rows
   replace h:=cN7 h;obtain ⟨h1,h2,h3,h4,h5,h6,h7,h⟩:=h
   have h7:rows.length<=1000001:=aV h7
   have h1:c=[46]:=by simpa using h1
   have h2:=aZ h2
   subst h1 h2
   have h5:=aZ h5
   have h6:s.length<=1000000:=aV h6
   have h3:=bK h3
   have h4:=bK h4
   refine dN (E:=aiq) (f:=203) (id:=11) (σ:=Bytes × Int × List (List V)) (fun x=>{ fr:=[(0,.str x.1),(1,.str [46]),(2,.int .i64 0),(3,.int .i64 n),(9,.own 10000 0),(10,.int .i64 x.2.1)],tab:=[(10000,.sl [.str] x.2.2 0)] })
    (fun x=>x.1.length<=1000000∧0<=x.2.1∧x.2.1<=n∧n+1=x.2.2.length∧x.2.2.length<=1000001) (fun x=>(n-x.2.1).toNat)
    (fun x K=>K (.exit 0) { fr:=[(0,.str (N.gen (n-x.2.1).toNat x.1 x.2.1 x.2.2).1),(9,.own 10000 0),(10,.int .i64 (N.gen (n-x.2.1).toNat x.1 x.2.1 x.2.2).2.1)],tab:=[(10000,.sl [.str] (N.gen (n-x.2.1).toNat x.1 x.2.1 x.2.2).2.2 0)] }) ?_ (s,i,rows)
    ⟨h6,h3,h4,h5,h7⟩ K q h
   rintro ⟨s,i,rows⟩ ⟨h6,h3,h4,h5,h7⟩
   simp only at h6 h3 h4 h5 h7 ⊢
   by_cases hl:i<n
   .have e:(n-i).toNat=(n-(i+1)).toNat+1:=by omega
    rw [e]
    simp only [N.gen]
    rcases zi s with ⟨g1,_,_⟩ | ⟨g1,g2,_,_⟩
    .have hd:aU (N.dot s) 0=true:=by rw [g1]; rfl
     rw [hd]
     refine .inr ⟨.exit 0,_,by simp,fun K=>?_,fun K=>rfl⟩
     rw [Yh]
     simp (disch:=omega) only [evs]
    .have hd:aU (N.dot s) 0=false:=gZ (by omega)
     rw [hd]
     refine .inl ⟨(s.drop (N.dot s+1).toNat,i+1,rows.set i.toNat [.str (s.take (N.dot s).toNat)]),⟨by simp only [List.length_drop]; omega,by simp only; omega,by simp only; omega,by simp only [List.length_set]; omega,by simp only [List.length_set]; omega⟩,by simp only; omega,fun K=>?_,fun K=>rfl⟩
     rw [Yh]
     simp (disch:=omega) only [evs,List.take_length,Int.add_zero,List.drop_zero]
     try rfl
   .refine .inr ⟨.exit 0,_,by simp,fun K=>?_,fun K=>rfl⟩
    rw [Yh,show (n-i).toNat=0 by omega]
    simp (disch:=omega) only [evs,N.gen]
  .cases h
 .obtain ⟨s,c,z,n⟩:=a
  have h1:=(aX h).1; replace h:=(aX h).2; have h2:=(aX h).1; replace h:=(aX h).2; have h3:=(aX h).1; replace h:=(aX h).2
  have e1:c=[46]:=by simpa using h1
  have e2:z=0:=aZ h2
  have e3:n = -1:=aZ h3
  subst e1 e2 e3
  have h:s.length<=1000000:=aV h
  refine (am3 s).trans ?_
  show _=some (⟨.slc [.str] ((N.eP s).map oH.enc),[],[]⟩:aJ)
  have hd:=air s
  have hd0:0<=N.dots s:=Int.natCast_nonneg _
  obtain ⟨g1,g2,g3,g4⟩:=aeD (N.dots s).toNat s 0 (List.replicate (N.dots s+1).toNat [V.str []]) (by omega) (by omega) (by rw [List.length_replicate]; omega)
  rw [List.length_replicate] at g2 g3
  simp (disch:=omega) only [evs,show N.dots s+1-1-0=N.dots s by omega,g3]
  rw [g4]
  try rfl
noncomputable def aeP:Env:=env Tryz.prog [(203,P9)] [] []
theorem ais (s:Bytes):bV aeP 199 ((bg gy (aT gy)).enc (s,[46])) ([]) some =
 cond (Nat.ble (List.length s) 1000000) (some {v:=.slc [.str] (List.map (fun n=>[V.str n]) (N.eP s)),bx:=[]}) none:=by kernel_rfl
theorem aeQ:bH Tryz.prog 199 aeA:=by
 refine aN (aQ ((gu.nil _).cons alo)) (E:=aeP) Tryz.func199 [] (by kernel_rfl) none0 fun a _ h=>?_
 obtain ⟨s,c⟩:=a
 obtain ⟨h1,h⟩:=aX h
 have h1:c=[46]:=by simpa using h1
 subst h1
 have h:s.length<=1000000:=aV h
 refine (ais s).trans ?_
 simp (disch:=omega) only [evs]
 try rfl
noncomputable def aeR:Env:=env Tryz.prog [(199,aeA)] [] []
theorem ait (s:Bytes):bV aeR 191 ((aT gy).enc s) ([]) some =
 cond (s==[]) (some {v:=.slc [.str] [],bx:=[]}) (cond (Nat.ble (List.length s) 1000000) (some {v:=.slc [.str] (List.map (fun n=>[V.str n]) (N.eP s)),bx:=[]}) none):=by kernel_rfl
theorem U9:bH Tryz.prog 191 L9:=by
 refine aN (aQ ((gu.nil _).cons aeQ)) (E:=aeR) Tryz.func191 [] (by kernel_rfl) none0 fun s _ h=>?_
 have h:s.length<=1000000:=aV h
 refine (ait s).trans ?_
 show _=some (⟨.slc [.str] ((N.words s).map oH.enc),[],[]⟩:aJ)
 simp (disch:=omega) only [evs]
 cases s with
 | nil=>rfl
 | cons c r=>rfl
def Yi:fK:={ fr:=[(1,.bool),(13,.slc [.str]),(14,.int .i64),(15,.int .i64)],tab:=[] }
def Va:List Leaf->(Ex->St->Option R)->Option R
 | [.b b1,.r r13,.i i14,.i i15],K=>cond (i14==r13.length) (cond (bW 0 i15) (cond (Nat.ble r13.length BIG) (cond (r13.all fun r=>Nat.ble (jG r).length uJ)
   (cond (N.oI b1 ((dK r13).drop i15.toNat)==0) (K (.exit 0) { fr:=[],tab:=[] }) (K .ret { fr:=[(4,.int .i64 4)],tab:=[] })) none) none) none) none
 | _,_=>none
def Yj:fK:={ fr:=[(1,.bool),(6,.str),(7,.bool),(8,.int .i64),(13,.slc [.str]),(14,.int .i64),(15,.int .i64)],tab:=[] }
def Vb:List Leaf->(Ex->St->Option R)->Option R
 | [.b b1,.s s6,.b b7,.i i8,.r r13,.i i14,.i i15],K=>cond (bW 0 i8) (cond (Nat.ble s6.length uJ)
   (K (.exit 2) { fr:=[(1,.bool b1),(6,.str s6),(7,.bool (cond b7 true (!N.plain (s6.drop i8.toNat)))),(13,.slc [.str] r13),(14,.int .i64 i14),(15,.int .i64 i15)],tab:=[] }) none) none
 | _,_=>none
noncomputable def vV:Env:=env Tryz.prog [(117,L9),(116,Sz)] [(8,dO Yj Vb),(4,dO Yi Va)] [(4,[(0,[1,13,14,15]),(1,[]),(1000,[4])]),(8,[(0,[1,6,7,8,13,14,15]),(3,[1,6,7,13,14,15]),(1000,[4])])]
theorem aeS (s:Bytes) (pt:Bool):bV vV 43 ((bg gy (aT lC)).enc (s,pt)) ([]) some =
 cond (aU 64 (↑(List.length s):Int)) (some {v:=.int .i64 5,bx:=[]}) (cond (Nat.ble (List.length s) 1000000) (cond ((↑(List.length (List.map (fun n=>[V.str n]) (N.words s))):Int)==(↑(List.length (List.map (fun n=>[V.str n]) (N.words s))):Int)) (cond (Nat.ble (List.length (List.map (fun n=>[V.str n]) (N.words s))) 1000000000000) (cond (List.all (List.map (fun n=>[V.str n]) (N.words s)) fun r=>Nat.ble (List.length (V.toStr (r.getD 0 .undef))) 1000000) (cond (N.oI pt (List.drop 0 (List.map (fun r=>V.toStr (r.getD 0 .undef)) (List.map (fun n=>[V.str n]) (N.words s))))==0) (some {v:=.int .i64 0,bx:=[]}) (some {v:=.int .i64 4,bx:=[]})) none) none) none) none):=by kernel_rfl
theorem Ei (b1:Bool) (r13:List (List V)) (i14:Int) (i15:Int) (K:Ex->St->Option R):bI vV 43 4 { fr:=[(1,.bool b1),(13,.slc [.str] r13),(14,.int .i64 i14),(15,.int .i64 i15)],tab:=[] } K =
 cond (aU i15 i14) (cond (decide (0<=i15∧i15<(↑(List.length r13):Int))) (cond (Nat.ble (List.length (V.toStr (List.getD (List.getD r13 (Int.toNat i15) []) 0 V.undef))) 1000000) (cond (bif (↑(List.length (V.toStr (List.getD (List.getD r13 (Int.toNat i15) []) 0 V.undef))):Int)==0 then true else !N.plain (List.drop 0 (V.toStr (List.getD (List.getD r13 (Int.toNat i15) []) 0 V.undef)))) (cond (b1) (cond (V.toStr (List.getD (List.getD r13 (Int.toNat i15) []) 0 V.undef)==[(42:UInt8)]) (K .normal {fr:=[(1,.bool b1),(13,.slc [.str] r13),(14,.int .i64 i14),(15,.int .i64 (IntKind.wrap .i64 (i15+1)))],tab:=[]}) (cond (!V.toStr (List.getD (List.getD r13 (Int.toNat i15) []) 0 V.undef)==[(35:UInt8)]) (K .ret {fr:=[(4,.int .i64 4)],tab:=[]}) (K .normal {fr:=[(1,.bool b1),(13,.slc [.str] r13),(14,.int .i64 i14),(15,.int .i64 (IntKind.wrap .i64 (i15+1)))],tab:=[]}))) (K .ret {fr:=[(4,.int .i64 4)],tab:=[]})) (K .normal {fr:=[(1,.bool b1),(13,.slc [.str] r13),(14,.int .i64 i14),(15,.int .i64 (IntKind.wrap .i64 (i15+1)))],tab:=[]})) none) none) (K (.exit 0) {fr:=[],tab:=[]}):=by kernel_rfl
theorem MI (b1:Bool) (s6:Bytes) (b7:Bool) (i8:Int) (r13:List (List V)) (i14:Int) (i15:Int) (K:Ex->St->Option R):bI vV 43 8 { fr:=[(1,.bool b1),(6,.str s6),(7,.bool b7),(8,.int .i64 i8),(13,.slc [.str] r13),(14,.int .i64 i14),(15,.int .i64 i15)],tab:=[] } K =
 cond (aU i8 (↑(List.length s6):Int)) (cond (b7) (K .normal {fr:=[(1,.bool b1),(6,.str s6),(7,.bool true),(8,.int .i64 (IntKind.wrap .i64 (i8+1))),(13,.slc [.str] r13),(14,.int .i64 i14),(15,.int .i64 i15)],tab:=[]}) (cond (decide (0<=i8∧i8<(↑(List.length s6):Int))) (K .normal {fr:=[(1,.bool b1),(6,.str s6),(7,.bool !N.nR (↑(UInt8.toNat (List.getD s6 (Int.toNat i8) (0:UInt8))):Int)),(8,.int .i64 (IntKind.wrap .i64 (i8+1))),(13,.slc [.str] r13),(14,.int .i64 i14),(15,.int .i64 i15)],tab:=[]}) none)) (K (.exit 2) {fr:=[(1,.bool b1),(6,.str s6),(7,.bool b7),(13,.slc [.str] r13),(14,.int .i64 i14),(15,.int .i64 i15)],tab:=[]}):=by kernel_rfl
theorem aiu (b1:Bool) (s:Bytes) (r13:List (List V)) (i14 i15:Int) (hs:s.length<=1000000) (K:Ex->St->Option R) (q:R) (b:Bool) (i:Int) (hi:0<=i)
  (h:K (.exit 2) { fr:=[(1,.bool b1),(6,.str s),(7,.bool (cond b true (!N.plain (s.drop i.toNat)))),(13,.slc [.str] r13),(14,.int .i64 i14),(15,.int .i64 i15)],tab:=[] }=some q) :
  ∃ n,o9 vV 43 8 n { fr:=[(1,.bool b1),(6,.str s),(7,.bool b),(8,.int .i64 i),(13,.slc [.str] r13),(14,.int .i64 i14),(15,.int .i64 i15)],tab:=[] } K=some q:=by
 refine dN (E:=vV) (f:=43) (id:=8) (σ:=Bool × Int) (fun x=>{ fr:=[(1,.bool b1),(6,.str s),(7,.bool x.1),(8,.int .i64 x.2),(13,.slc [.str] r13),(14,.int .i64 i14),(15,.int .i64 i15)],tab:=[] })
  (fun x=>0<=x.2) (fun x=>s.length-x.2.toNat) (fun x K=>K (.exit 2) { fr:=[(1,.bool b1),(6,.str s),(7,.bool (cond x.1 true (!N.plain (s.drop x.2.toNat)))),(13,.slc [.str] r13),(14,.int .i64 i14),(15,.int .i64 i15)],tab:=[] }) ?_ (b,i) hi K q h
 rintro ⟨b,i⟩ hi
 simp only at hi ⊢
 by_cases hl:i<s.length
 .refine .inl ⟨(cond b true (!N.nR (s.getD i.toNat 0).toNat),i+1),by simp only; omega,by simp only; omega,fun K=>?_,fun K=>?_⟩
  .rw [MI]
   simp (disch:=omega) only [evs]
   cases b<;>rfl
  .rw [drop_byte (show i.toNat<s.length by omega),Eh,show (i+1).toNat=i.toNat+1 by omega]
   cases b<;>cases N.nR (s.getD i.toNat 0).toNat<;>rfl
 .refine .inr ⟨.exit 2,_,by simp,fun K=>?_,fun K=>rfl⟩
  rw [MI,List.drop_eq_nil_of_le (show s.length<=i.toNat by omega)]
  simp (disch:=omega) only [evs]
  cases b<;>rfl
theorem aiv (b1:Bool) (r13:List (List V)) (hr:r13.length<=1000000000000) (ha:∀ r∈r13,(jG r).length<=1000000) (K:Ex->St->Option R) (q:R) (i:Int) (hi:0<=i)
  (h:cond (N.oI b1 ((dK r13).drop i.toNat)==0) (K (.exit 0) { fr:=[],tab:=[] }) (K .ret { fr:=[(4,.int .i64 4)],tab:=[] })=some q) :
  ∃ n,o9 vV 43 4 n { fr:=[(1,.bool b1),(13,.slc [.str] r13),(14,.int .i64 r13.length),(15,.int .i64 i)],tab:=[] } K=some q:=by
 refine dN (E:=vV) (f:=43) (id:=4) (σ:=Int) (fun i=>{ fr:=[(1,.bool b1),(13,.slc [.str] r13),(14,.int .i64 r13.length),(15,.int .i64 i)],tab:=[] })
  (fun i=>0<=i) (fun i=>r13.length-i.toNat) (fun i K=>cond (N.oI b1 ((dK r13).drop i.toNat)==0) (K (.exit 0) { fr:=[],tab:=[] }) (K .ret { fr:=[(4,.int .i64 4)],tab:=[] })) ?_ i hi K q h
 intro i hi
 by_cases hl:i<r13.length
 .have hlt:i.toNat<r13.length:=by omega
  have hw:(jG (r13.getD i.toNat [])).length<=1000000:=ha _ (by rw [List.getD_eq_getElem?_getD,List.getElem?_eq_getElem hlt]; exact List.getElem_mem _)
  have hw' : (V.toStr (List.getD (List.getD r13 i.toNat []) 0 V.undef)).length<=1000000:=hw
  rw [Md hlt]
  have e:N.oI b1 (jG (r13.getD i.toNat [])::(dK r13).drop (i.toNat+1))=cond (cond (cond (((jG (r13.getD i.toNat [])).length:Int)==0) true (!N.plain (jG (r13.getD i.toNat [])))) (!cond b1 (cond (jG (r13.getD i.toNat [])==[42]) true (jG (r13.getD i.toNat [])==[35])) false) false) 4 (N.oI b1 ((dK r13).drop (i.toNat+1))):=rfl
  rw [e]
  cases hc:cond (cond (((jG (r13.getD i.toNat [])).length:Int)==0) true (!N.plain (jG (r13.getD i.toNat [])))) (!cond b1 (cond (jG (r13.getD i.toNat [])==[42]) true (jG (r13.getD i.toNat [])==[35])) false) false with
  | true =>
   refine .inr ⟨.ret,_,by simp,fun K=>?_,fun K=>rfl⟩
   rw [Ei]
   simp (disch:=omega) only [evs,List.drop_zero]
   revert hc
   unfold jG
   cases (((V.toStr (List.getD (List.getD r13 i.toNat []) 0 V.undef)).length:Int)==0)<;>cases N.plain (V.toStr (List.getD (List.getD r13 i.toNat []) 0 V.undef))<;>cases b1<;>cases V.toStr (List.getD (List.getD r13 i.toNat []) 0 V.undef)==[42]<;>cases V.toStr (List.getD (List.getD r13 i.toNat []) 0 V.undef)==[35]<;>intro hc<;>first | rfl | cases hc
  | false =>
   refine .inl ⟨i+1,by omega,by omega,fun K=>?_,fun K=>?_⟩
   .rw [Ei]
    simp (disch:=omega) only [evs,List.drop_zero]
    revert hc
    unfold jG
    cases (((V.toStr (List.getD (List.getD r13 i.toNat []) 0 V.undef)).length:Int)==0)<;>cases N.plain (V.toStr (List.getD (List.getD r13 i.toNat []) 0 V.undef))<;>cases b1<;>cases V.toStr (List.getD (List.getD r13 i.toNat []) 0 V.undef)==[42]<;>cases V.toStr (List.getD (List.getD r13 i.toNat []) 0 V.undef)==[35]<;>intro hc<;>first | rfl | cases hc
   .rw [cond_false,show (i+1).toNat=i.toNat+1 by omega]
 .refine .inr ⟨.exit 0,{ fr:=[],tab:=[] },by simp,fun K=>?_,fun K=>?_⟩
  .rw [Ei]
   simp (disch:=omega) only [evs]
  .rw [List.drop_eq_nil_of_le (by rw [jH]; omega)]; rfl
theorem AU:∀ (s:Bytes),(N.eP s).length<=s.length+1∧∀ w∈N.eP s,w.length<=s.length
 | []=>⟨Nat.le_refl _,fun w h=>by
  have h:w∈[[]]:=h
  rw [List.mem_singleton] at h; subst h; exact Nat.le_refl _⟩
 | c::r=>by
  obtain ⟨h1,h2⟩:=AU r
  unfold N.eP
  cases c==46 with
  | true =>
   refine ⟨by simpa using h1,fun w h=>?_⟩
   rcases List.mem_cons.1 h with rfl | h
   .exact Nat.zero_le _
   .have:=h2 w h; simp only [List.length_cons]; omega
  | false =>
   simp only [cond_false]
   cases hs:N.eP r with
   | nil=>exact absurd hs (vT _)
   | cons w ws =>
    rw [hs] at h1 h2
    refine ⟨by simp only [List.length_cons] at h1 ⊢; omega,fun v h=>?_⟩
    rcases List.mem_cons.1 h with rfl | h
    .have:=h2 w List.mem_cons_self; simp only [List.length_cons]; omega
    .have:=h2 v (List.mem_cons_of_mem _ h); simp only [List.length_cons]; omega
theorem vW (s:Bytes):(N.words s).length<=s.length+1∧∀ w∈N.words s,w.length<=s.length:=by
 unfold N.words
 cases s.isEmpty with
 | true=>exact ⟨Nat.zero_le _,fun w h=>by cases h⟩
 | false=>exact AU s
theorem MJ (b:Bool):∀ l,N.oI b l=0∨N.oI b l=4
 | []=>.inl rfl
 | w::r=>by
  unfold N.oI
  cases (cond (cond ((w.length:Int)==0) true (!N.plain w)) (!cond b (cond (w==[42]) true (w==[35])) false) false)
  .exact MJ b r
  .exact .inr rfl
theorem ab5:bH Tryz.prog 43 aaq:=by
 refine aN (aQ (((gu.nil _).cons Qb).cons U6)) (E:=vV) Tryz.func43 [4,8] (by kernel_rfl) (FH (bn rfl fun l K q h=>?_) (bn rfl fun l K q h=>?_)) fun a _ h=>?_
 .unfold Va at h
  split at h
  .rename_i b1 r13 i14 i15
   replace h:=Z4 h;obtain ⟨h1,h2,h3,h4,h⟩:=h
   have h1:=aZ h1
   subst h1
   exact aiv b1 r13 (aV h3) (fun r hr=>aV (List.all_eq_true.1 h4 r hr)) K q i15 (bK h2) (by assumption)
  .cases h
 .unfold Vb at h
  split at h
  .rename_i b1 s6 b7 i8 r13 i14 i15
   replace h:=cN2 h;obtain ⟨h1,h2,h⟩:=h
   exact aiu b1 s6 r13 i14 i15 (aV h2) K q b7 i8 (bK h1) h
  .cases h
 .obtain ⟨s,b⟩:=a
  refine (aeS s b).trans ?_
  show _=some (⟨.int .i64 (N.wY s b),[],[]⟩:aJ)
  unfold N.wY
  cases hl:aU 64 s.length with
  | true=>rfl
  | false =>
   have hl:=dP hl
   have h:s.length<=64:=by omega
   obtain ⟨w1,w2⟩:=vW s
   have hall:((N.words s).map (fun n=>[V.str n])).all (fun r=>Nat.ble (V.toStr (List.getD r 0 V.undef)).length 1000000)=true:=List.all_eq_true.2 fun r hr=>by
    obtain ⟨w,hw,rfl⟩:=List.mem_map.1 hr
    exact fA (show w.length<=1000000 from by have:=w2 w hw; omega)
   have e:((N.words s).map (fun n=>[V.str n])).map (fun r=>V.toStr (List.getD r 0 V.undef))=N.words s:=H7 _
   simp (disch:=omega) only [evs,hall,e,List.drop_zero]
   rcases MJ b (N.words s) with e | e<;>rw [e]<;>rfl
def Vd:fK:={ fr:=[(5,.slc [.str]),(6,.slc [.str]),(7,.int .i64),(8,.int .i64),(9,.int .i64),(10,.int .i64)],tab:=[] }
def Qd:List Leaf->(Ex->St->Option R)->Option R
 | [.r r5,.r r6,.i i7,.i i8,.i i9,.i i10],K=>cond (i7==0) (cond (i8==0) (cond (i9==-1) (cond (i10==0) (cond (Nat.ble r5.length (uJ+1)) (cond (Nat.ble r6.length (uJ+1))
   (cond (bW 0 (N.xR (dK r5) (dK r6) 0 0 (-1) 0 (N.wX (dK r5) (dK r6))))
    (K (.exit 0) { fr:=[(5,.slc [.str] r5),(7,.int .i64 (N.xR (dK r5) (dK r6) 0 0 (-1) 0 (N.wX (dK r5) (dK r6))))],tab:=[] }) (K .ret { fr:=[(4,.bool false)],tab:=[] })) none) none) none) none) none) none
 | _,_=>none
def SG:fK:={ fr:=[(5,.slc [.str]),(7,.int .i64)],tab:=[] }
def MK:List Leaf->(Ex->St->Option R)->Option R
 | [.r r5,.i i7],K=>cond (bW 0 i7) (cond (Nat.ble r5.length (uJ+1)) (K (.exit 3) { fr:=[(5,.slc [.str] r5),(7,.int .i64 (N.hashes (dK r5) (r5.length+1-i7.toNat) i7))],tab:=[] }) none) none
 | _,_=>none
noncomputable def sH:Env:=env Tryz.prog [(191,L9)] [(14,dO SG MK),(4,dO Vd Qd)] [(4,[(0,[5,6,7,8,9,10]),(1,[5,7]),(1000,[4])]),(14,[(0,[5,7]),(4,[5,7]),(1000,[4])])]
theorem ab6 (p k:Bytes):type_of% (by
  have h:bV sH 165 ((bg gy (aT gy)).enc (p,k)) ([]) some =(
   let z1:=(List.map (fun n=>[V.str n]) (N.words p));let z2:=(List.map (fun r=>V.toStr (r.getD 0 .undef)) z1);let z3:=(List.map (fun r=>V.toStr (r.getD 0 .undef)) (List.map (fun n=>[V.str n]) (N.words k)));let z0:=(N.xR z2 z3 0 0 (-1:Int) 0 (N.wX z2 z3));cond (Nat.ble (List.length p) 1000000) (cond (Nat.ble (List.length k) 1000000) (cond (Nat.ble (List.length z1) 1000001) (cond (Nat.ble (List.length (List.map (fun n=>[V.str n]) (N.words k))) 1000001) (cond (bW 0 z0) (cond (bW 0 z0) (cond (Nat.ble (List.length z1) 1000001) (some {v:=.bool (N.hashes z2 (List.length z1+1-Int.toNat z0) z0==(↑(List.length z1):Int)),bx:=[]}) none) none) (some {v:=.bool false,bx:=[]})) none) none) none) none):=by kernel_rfl
  dsimp only at h;exact h):=by kernel_rfl
theorem sJ (r5:List (List V)) (r6:List (List V)) (i7:Int) (i8:Int) (i9:Int) (i10:Int) (K:Ex->St->Option R):type_of% (by
  have h:bI sH 165 4 { fr:=[(5,.slc [.str] r5),(6,.slc [.str] r6),(7,.int .i64 i7),(8,.int .i64 i8),(9,.int .i64 i9),(10,.int .i64 i10)],tab:=[] } K =(
   let z3:=(decide (0<=i7∧i7<(↑(List.length r5):Int)));let z4:=(List.getD (List.getD r5 (Int.toNat i7) []) 0 V.undef);let z5:=(IntKind.wrap .i64 (i7+1));let z2:=(K .normal {fr:=[(5,.slc [.str] r5),(6,.slc [.str] r6),(7,.int .i64 z5),(8,.int .i64 (IntKind.wrap .i64 (i8+1))),(9,.int .i64 i9),(10,.int .i64 i10)],tab:=[]});let z1:=(cond (bW 0 i9) (K .normal {fr:=[(5,.slc [.str] r5),(6,.slc [.str] r6),(7,.int .i64 i9),(8,.int .i64 (IntKind.wrap .i64 (i10+1))),(9,.int .i64 i9),(10,.int .i64 (IntKind.wrap .i64 (i10+1)))],tab:=[]}) (K .ret {fr:=[(4,.bool false)],tab:=[]}));let z0:=(cond (aU i7 (↑(List.length r5):Int)) (cond z3 (cond (V.toStr z4==[(42:UInt8)]) z2 (cond z3 (cond (decide (0<=i8∧i8<(↑(List.length r6):Int))) (cond (V.toStr z4==V.toStr (List.getD (List.getD r6 (Int.toNat i8) []) 0 V.undef)) z2 z1) none) none)) none) z1);cond (aU i8 (↑(List.length r6):Int)) (cond (aU i7 (↑(List.length r5):Int)) (cond z3 (cond (V.toStr z4==[(35:UInt8)]) (K .normal {fr:=[(5,.slc [.str] r5),(6,.slc [.str] r6),(7,.int .i64 z5),(8,.int .i64 i8),(9,.int .i64 z5),(10,.int .i64 i8)],tab:=[]}) z0) none) z0) (K (.exit 0) {fr:=[(5,.slc [.str] r5),(7,.int .i64 i7)],tab:=[]})):=by kernel_rfl
  dsimp only at h;exact h):=by kernel_rfl
theorem zn (r5:List (List V)) (i7:Int) (K:Ex->St->Option R):bI sH 165 14 { fr:=[(5,.slc [.str] r5),(7,.int .i64 i7)],tab:=[] } K =
 cond (aU i7 (↑(List.length r5):Int)) (cond (decide (0<=i7∧i7<(↑(List.length r5):Int))) (cond (V.toStr (List.getD (List.getD r5 (Int.toNat i7) []) 0 V.undef)==[(35:UInt8)]) (K .normal {fr:=[(5,.slc [.str] r5),(7,.int .i64 (IntKind.wrap .i64 (i7+1)))],tab:=[]}) (K (.exit 3) {fr:=[(5,.slc [.str] r5),(7,.int .i64 i7)],tab:=[]})) none) (K (.exit 3) {fr:=[(5,.slc [.str] r5),(7,.int .i64 i7)],tab:=[]}):=by kernel_rfl
theorem ab7 (r5:List (List V)) (hr:r5.length<=1000001) (K:Ex->St->Option R) (q:R) (i:Int) (hi:0<=i) (h:K (.exit 3) { fr:=[(5,.slc [.str] r5),(7,.int .i64 (N.hashes (dK r5) (r5.length+1-i.toNat) i))],tab:=[] }=some q) :
  ∃ n,o9 sH 165 14 n { fr:=[(5,.slc [.str] r5),(7,.int .i64 i)],tab:=[] } K=some q:=by
 refine dN (E:=sH) (f:=165) (id:=14) (σ:=Int) (fun i=>{ fr:=[(5,.slc [.str] r5),(7,.int .i64 i)],tab:=[] })
  (fun i=>0<=i) (fun i=>r5.length-i.toNat) (fun i K=>K (.exit 3) { fr:=[(5,.slc [.str] r5),(7,.int .i64 (N.hashes (dK r5) (r5.length+1-i.toNat) i))],tab:=[] }) ?_ i hi K q h
 intro i hi
 have fz:∀ i:Int,(r5.length:Int)<=i->∀ f,N.hashes (dK r5) f i=i:=fun i hi f=>by
  cases f with
  | zero=>rfl
  | succ f=>unfold N.hashes; rw [jH,gZ hi]; rfl
 by_cases hl:i<r5.length
 .have e:r5.length+1-i.toNat=(r5.length+1-(i+1).toNat)+1:=by omega
  have e2:N.hashes (dK r5) (r5.length+1-i.toNat) i=cond (jG (r5.getD i.toNat [])==[35]) (N.hashes (dK r5) (r5.length+1-(i+1).toNat) (i+1)) i:=by
   rw [e]
   show cond (cond (aU i (dK r5).length) ((dK r5).getD i.toNat []==[35]) false) _ _=_
   rw [jH,eF hl,uM]; rfl
  rw [e2]
  cases hc:jG (r5.getD i.toNat [])==[35] with
  | true =>
   refine .inl ⟨i+1,by omega,by omega,fun K=>?_,fun K=>rfl⟩
   rw [zn]
   unfold jG at hc
   simp (disch:=omega) only [evs,hc]
  | false =>
   refine .inr ⟨.exit 3,_,by simp,fun K=>?_,fun K=>rfl⟩
   rw [zn]
   unfold jG at hc
   simp (disch:=omega) only [evs,hc]
 .refine .inr ⟨.exit 3,_,by simp,fun K=>?_,fun K=>rfl⟩
  rw [zn,fz i (by omega)]
  simp (disch:=omega) only [evs]
theorem aeT (r5 r6:List (List V)) (h5:r5.length<=1000001) (h6:r6.length<=1000001) (K:Ex->St->Option R) (q:R)
  (h:cond (bW 0 (N.xR (dK r5) (dK r6) 0 0 (-1) 0 (N.wX (dK r5) (dK r6))))
    (K (.exit 0) { fr:=[(5,.slc [.str] r5),(7,.int .i64 (N.xR (dK r5) (dK r6) 0 0 (-1) 0 (N.wX (dK r5) (dK r6))))],tab:=[] }) (K .ret { fr:=[(4,.bool false)],tab:=[] })=some q) :
  ∃ n,o9 sH 165 4 n { fr:=[(5,.slc [.str] r5),(6,.slc [.str] r6),(7,.int .i64 0),(8,.int .i64 0),(9,.int .i64 (-1)),(10,.int .i64 0)],tab:=[] } K=some q:=by
 have hv:Mc (dK r5) (dK r6) 0 0 (-1) 0:=⟨by omega,by omega,by omega,by omega,.inl ⟨rfl,rfl⟩⟩
 refine dN (E:=sH) (f:=165) (id:=4) (σ:=Nat × Int × Int × Int × Int)
  (fun x=>{ fr:=[(5,.slc [.str] r5),(6,.slc [.str] r6),(7,.int .i64 x.2.1),(8,.int .i64 x.2.2.1),(9,.int .i64 x.2.2.2.1),(10,.int .i64 x.2.2.2.2)],tab:=[] })
  (fun x=>Mc (dK r5) (dK r6) x.2.1 x.2.2.1 x.2.2.2.1 x.2.2.2.2∧uK (dK r5) (dK r6) x.2.1 x.2.2.2.2<x.1) (fun x=>x.1)
  (fun x K=>cond (bW 0 (N.xR (dK r5) (dK r6) x.2.1 x.2.2.1 x.2.2.2.1 x.2.2.2.2 x.1))
    (K (.exit 0) { fr:=[(5,.slc [.str] r5),(7,.int .i64 (N.xR (dK r5) (dK r6) x.2.1 x.2.2.1 x.2.2.2.1 x.2.2.2.2 x.1))],tab:=[] }) (K .ret { fr:=[(4,.bool false)],tab:=[] }))
  ?_ (N.wX (dK r5) (dK r6),0,0,-1,0) ⟨hv,by unfold uK N.wX; simp only [Int.toNat_zero,Nat.sub_zero]; omega⟩ K q h
 rintro ⟨f,i,j,b,fr⟩ ⟨hi,hm⟩
 simp only at hi hm ⊢
 cases f with
 | zero=>omega
 | succ f =>
 obtain ⟨s1,s2,s3⟩:(aU j (dK r6).length=true->_)∧(aU j (dK r6).length=true->_)∧(aU j (dK r6).length=true->_):=⟨fun hj=>(CS f hi hj).1,fun hj=>(CS f hi hj).2.1,fun hj=>(CS f hi hj).2.2⟩
 have b0:=hi.i0
 have b1:=hi.i1
 have b2:=hi.j0
 have b3:=hi.j1
 have b4:=hi.bk
 have b5 : -1<=b∧b<=i∧0<=fr∧fr<=j:=by rcases b4 with ⟨_,_⟩ | ⟨_,_,_,_,_⟩<;>omega
 rw [jH] at b1 b3
 have eq:N.xR (dK r5) (dK r6) i j b fr (f+1)=cond (aU j r6.length)
   (cond (cond (aU i r5.length) (jG (r5.getD i.toNat [])==[35]) false) (N.xR (dK r5) (dK r6) (i+1) j (i+1) j f)
    (cond (cond (aU i r5.length) (cond (jG (r5.getD i.toNat [])==[42]) true (jG (r5.getD i.toNat [])==jG (r6.getD j.toNat []))) false) (N.xR (dK r5) (dK r6) (i+1) (j+1) b fr f)
     (cond (bW 0 b) (N.xR (dK r5) (dK r6) b (fr+1) b (fr+1) f) (-1)))) i:=by
  unfold N.xR
  rw [N.OZ,jH,jH,uM,uM]
  cases aU j r6.length
  .rfl
  .cases cond (aU i r5.length) (jG (r5.getD i.toNat [])==[35]) false
   .cases cond (aU i r5.length) (cond (jG (r5.getD i.toNat [])==[42]) true (jG (r5.getD i.toNat [])==jG (r6.getD j.toNat []))) false
    .cases bW 0 b<;>rfl
    .rfl
   .rfl
 rw [eq]
 simp only [jH,uM] at s1 s2 s3
 cases hj:aU j r6.length with
 | false =>
  rw [cond_false,dY b0]
  refine .inr ⟨.exit 0,_,by simp,fun K=>?_,fun K=>rfl⟩
  rw [sJ,hj]; rfl
 | true =>
  have s1:=s1 hj
  have s2:=s2 hj
  have s3:=s3 hj
  have hj':=jv hj
  simp only [cond_true]
  cases hc:cond (aU i r5.length) (jG (r5.getD i.toNat [])==[35]) false with
  | true =>
   obtain ⟨g1,g2,_⟩:=s1 hc
   have hi' : i<r5.length:=by
    cases e:aU i r5.length with
    | true=>exact jv e
    | false=>rw [e] at hc; cases hc
   refine .inl ⟨(f,i+1,j,i+1,j),⟨g1,by simp only; omega⟩,by simp only; omega,fun K=>?_,fun K=>rfl⟩
   rw [sJ]
   rw [eF hi',cond_true] at hc
   unfold jG at hc
   simp (disch:=omega) only [evs,hc]
  | false =>
   simp only [cond_false]
   cases hd:cond (aU i r5.length) (cond (jG (r5.getD i.toNat [])==[42]) true (jG (r5.getD i.toNat [])==jG (r6.getD j.toNat []))) false with
   | true =>
    obtain ⟨g1,g2,_⟩:=s2 hc hd
    have hi' : i<r5.length:=by
     cases e:aU i r5.length with
     | true=>exact jv e
     | false=>rw [e] at hd; cases hd
    refine .inl ⟨(f,i+1,j+1,b,fr),⟨g1,by simp only; omega⟩,by simp only; omega,fun K=>?_,fun K=>rfl⟩
    rw [sJ]
    rw [eF hi',cond_true] at hc hd
    unfold jG at hc hd
    cases e42:V.toStr (List.getD (List.getD r5 i.toNat []) 0 V.undef)==[42] with
    | true=>simp (disch:=omega) only [evs,hc]
    | false=>rw [e42,cond_false] at hd; simp (disch:=omega) only [evs,hc,hd]
   | false =>
    simp only [cond_false]
    obtain ⟨t1,t2⟩:=s3 hc hd
    cases hb:bW 0 b with
    | true =>
     obtain ⟨g1,g2,_⟩:=t1 hb
     refine .inl ⟨(f,b,fr+1,b,fr+1),⟨g1,by simp only; omega⟩,by simp only; omega,fun K=>?_,fun K=>rfl⟩
     rw [sJ]
     by_cases hi' : i<r5.length
     .rw [eF hi',cond_true] at hc hd
      unfold jG at hc hd
      cases e42:V.toStr (List.getD (List.getD r5 i.toNat []) 0 V.undef)==[42] with
      | true=>rw [e42] at hd; cases hd
      | false=>rw [e42,cond_false] at hd; simp (disch:=omega) only [evs,hc,hd,hb]
     .simp (disch:=omega) only [evs,hb]
    | false =>
     refine .inr ⟨.ret,{ fr:=[(4,.bool false)],tab:=[] },by simp,fun K=>?_,fun K=>rfl⟩
     rw [sJ]
     by_cases hi' : i<r5.length
     .rw [eF hi',cond_true] at hc hd
      unfold jG at hc hd
      cases e42:V.toStr (List.getD (List.getD r5 i.toNat []) 0 V.undef)==[42] with
      | true=>rw [e42] at hd; cases hd
      | false=>rw [e42,cond_false] at hd; simp (disch:=omega) only [evs,hc,hd,hb]
     .simp (disch:=omega) only [evs,hb]
theorem ab8 {p k:List Bytes} {i:Int} (h:N.OZ p k (N.wX p k) 0 0 (-1) 0=some i):0<=i∧i<=p.length :=
 J4 _ ⟨by omega,by omega,by omega,by omega,.inl ⟨rfl,rfl⟩⟩ h
theorem Ja {p:List Bytes}:∀ (f g:Nat) (i:Int),0<=i->p.length<f+i.toNat->p.length<g+i.toNat->N.hashes p f i=N.hashes p g i
 | 0,0,i,_,_,_=>rfl
 | 0,g+1,i,h0,h1,_=>by unfold N.hashes; rw [gZ (by omega)]; rfl
 | f+1,0,i,h0,_,h1=>by unfold N.hashes; rw [gZ (by omega)]; rfl
 | f+1,g+1,i,h0,h1,h2=>by
  unfold N.hashes
  rw [Ja f g (i+1) (by omega) (by omega) (by omega)]
theorem Yk:bH Tryz.prog 165 U2:=by
 refine aN (aQ ((gu.nil _).cons U9)) (E:=sH) Tryz.func165 [4,14] (by kernel_rfl) (FH (bn rfl fun l K q h=>?_) (bn rfl fun l K q h=>?_)) fun a _ h=>?_
 .unfold Qd at h
  split at h
  .rename_i r5 r6 i7 i8 i9 i10
   replace h:=cN6 h;obtain ⟨h1,h2,h3,h4,h5,h6,h⟩:=h
   have e1:=aZ h1
   have e2:=aZ h2
   have e3:=aZ h3
   have e4:=aZ h4
   subst e1 e2 e3 e4
   exact aeT r5 r6 (aV h5) (aV h6) K q h
  .cases h
 .unfold MK at h
  split at h
  .rename_i r5 i7
   replace h:=cN2 h;obtain ⟨h1,h2,h⟩:=h
   exact ab7 r5 (aV h2) K q i7 (bK h1) h
  .cases h
 .obtain ⟨p,k⟩:=a
  have h1:=(aX h).1; replace h:=(aX h).2
  have h1:p.length<=1000000:=aV h1
  have h:k.length<=1000000:=aV h
  refine (ab6 p k).trans ?_
  show _=some (⟨.bool (N.Sv (N.words p) (N.words k)),[],[]⟩:aJ)
  have e:∀ l:List Bytes,(l.map (fun n=>[V.str n])).map (fun r=>V.toStr (List.getD r 0 V.undef))=l:=fun l=>H7 l
  have w1:=(vW p).1
  have w2:=(vW k).1
  generalize N.words p=p at *
  generalize N.words k=k at *
  simp (disch:=omega) only [evs,e]
  unfold N.xR N.Sv
  cases hg:N.OZ p k (N.wX p k) 0 0 (-1) 0 with
  | none=>rfl
  | some i =>
   obtain ⟨g1,g2⟩:=ab8 hg
   simp only [Option.getD_some]
   simp (disch:=omega) only [evs,Ja (p:=p) (p.length+1-i.toNat) (p.length+1) i g1 (by omega) (by omega)]
end Go.Ev

namespace Go.Ev
open Go Go.Proofs
set_option maxRecDepth 100000
def aeU:Den:=den aew dV (oV lC) (fun _ _=>true) fun _ _=>(true,())
noncomputable def aj7:Env:=env Tryz.prog [(168,Ya)] [] []
theorem alp (s:Bytes):bV aj7 112 ((aT gy).enc s) ([]) some =
 cond (s==[]) (some {v:=.int .i64 15,bx:=[]}) (cond (aU 16 (↑(List.length s):Int)) (some {v:=.int .i64 5,bx:=[]}) (cond (Nat.ble (List.length s) 1000000) (cond (!N.plain s) (some {v:=.int .i64 4,bx:=[]}) (some {v:=.int .i64 0,bx:=[]})) none)):=by kernel_rfl
theorem J6:bH Tryz.prog 112 FP:=by
 refine aN (aQ ((gu.nil _).cons U4)) (E:=aj7) Tryz.func112 [] (by kernel_rfl) none0 fun s _ h=>?_
 refine (alp s).trans ?_
 show _=some (⟨.int .i64 (N.name s),[],[]⟩:aJ)
 unfold N.name
 cases s==[] with
 | true=>rfl
 | false =>
  cases h:aU 16 s.length with
  | true=>rfl
  | false =>
   have h:=dP h
   simp (disch:=omega) only [evs]
   cases N.plain s<;>rfl
noncomputable def am4:Env:=env Tryz.prog [(165,U2),(112,FP)] [] []
theorem am5  : bV am4 108 [] [] some =
 some {v:=.bool true,bx:=[]}:=by kernel_rfl
theorem alq:bH Tryz.prog 108 aeU :=
 aN (aQ (((gu.nil _).cons J6).cons Yk)) (E:=am4) Tryz.func108 [] (by kernel_rfl) none0 fun _ _ _=>am5
theorem Yl {s:Bytes} {b:Bool} (h:(N.wY s b != 0)=false):s.length<=64:=by
 unfold N.wY at h
 cases e:aU 64 s.length with
 | true=>rw [e] at h; cases h
 | false=>have:=dP e; omega
end Go.Ev

namespace Go.Ev
open Go Go.Proofs
set_option maxRecDepth 100000
def aeV:fK:={ fr:=[(1,.slc [.str]),(13,.slc [.str]),(14,.int .i64),(15,.int .i64)],tab:=[] }
def aeW:List Leaf->(Ex->St->Option R)->Option R
 | [.r r1,.r r13,.i i14,.i i15],K=>cond (i14==r13.length) (cond (bW 0 i15) (cond (Nat.ble r13.length (uJ+1)) (cond (Nat.ble r1.length (uJ+1)) (cond (r13.all fun r=>Nat.ble (jG r).length uJ)
   (cond (N.FN (dK r1) ((dK r13).drop i15.toNat)==0) (K (.exit 0) { fr:=[],tab:=[] }) (K .ret { fr:=[(4,.int .i64 4)],tab:=[] })) none) none) none) none) none
 | _,_=>none
def aeX:fK:={ fr:=[(1,.slc [.str]),(6,.str),(13,.slc [.str]),(14,.int .i64),(15,.int .i64),(19,.slc [.str]),(20,.int .i64),(21,.int .i64)],tab:=[] }
def aeY:List Leaf->(Ex->St->Option R)->Option R
 | [.r r1,.s s6,.r r13,.i i14,.i i15,.r Ve,.i i20,.i i21],K=>cond (i20==Ve.length) (cond (bW 0 i21) (cond (Nat.ble Ve.length (uJ+1))
   (cond (((dK Ve).drop i21.toNat).any (s6==·)) (K (.exit 1) { fr:=[(1,.slc [.str] r1),(13,.slc [.str] r13),(14,.int .i64 i14),(15,.int .i64 i15)],tab:=[] })
    (K (.exit 2) { fr:=[(1,.slc [.str] r1),(6,.str s6),(13,.slc [.str] r13),(14,.int .i64 i14),(15,.int .i64 i15)],tab:=[] })) none) none) none
 | _,_=>none
noncomputable def ML:Env:=env Tryz.prog [(191,L9),(168,Ya)] [(7,dO aeX aeY),(4,dO aeV aeW)] [(4,[(0,[1,13,14,15]),(1,[]),(1000,[4])]),(7,[(0,[1,6,13,14,15,19,20,21]),(2,[1,13,14,15]),(3,[1,6,13,14,15]),(1000,[4])])]
theorem alr (s:Bytes) (l:List Bytes):bV ML 169 ((bg gy (aT (qw oH))).enc (s,l)) ([]) some =
 cond (aU 64 (↑(List.length s):Int)) (some {v:=.int .i64 5,bx:=[]}) (cond (Nat.ble (List.length s) 1000000) (cond ((↑(List.length (List.map (fun n=>[V.str n]) (N.words s))):Int)==(↑(List.length (List.map (fun n=>[V.str n]) (N.words s))):Int)) (cond (Nat.ble (List.length (List.map (fun n=>[V.str n]) (N.words s))) 1000001) (cond (Nat.ble (List.length (List.map (fun n=>[V.str n]) l)) 1000001) (cond (List.all (List.map (fun n=>[V.str n]) (N.words s)) fun r=>Nat.ble (List.length (V.toStr (r.getD 0 .undef))) 1000000) (cond (N.FN (List.map (fun r=>V.toStr (r.getD 0 .undef)) (List.map (fun n=>[V.str n]) l)) (List.drop 0 (List.map (fun r=>V.toStr (r.getD 0 .undef)) (List.map (fun n=>[V.str n]) (N.words s))))==0) (some {v:=.int .i64 0,bx:=[]}) (some {v:=.int .i64 4,bx:=[]})) none) none) none) none) none):=by kernel_rfl
theorem MN (r1:List (List V)) (r13:List (List V)) (i14:Int) (i15:Int) (K:Ex->St->Option R):bI ML 169 4 { fr:=[(1,.slc [.str] r1),(13,.slc [.str] r13),(14,.int .i64 i14),(15,.int .i64 i15)],tab:=[] } K =
 cond (aU i15 i14) (cond (decide (0<=i15∧i15<(↑(List.length r13):Int))) (cond ((↑(List.length r1):Int)==(↑(List.length r1):Int)) (cond (Nat.ble (List.length r1) 1000001) (cond (List.any (List.drop 0 (List.map (fun r=>V.toStr (r.getD 0 .undef)) r1)) fun x=>V.toStr (List.getD (List.getD r13 (Int.toNat i15) []) 0 V.undef)==x) (K .normal {fr:=[(1,.slc [.str] r1),(13,.slc [.str] r13),(14,.int .i64 i14),(15,.int .i64 (IntKind.wrap .i64 (i15+1)))],tab:=[]}) (cond (V.toStr (List.getD (List.getD r13 (Int.toNat i15) []) 0 V.undef)==[]) (K .ret {fr:=[(4,.int .i64 4)],tab:=[]}) (cond (Nat.ble (List.length (V.toStr (List.getD (List.getD r13 (Int.toNat i15) []) 0 V.undef))) 1000000) (cond (!N.plain (V.toStr (List.getD (List.getD r13 (Int.toNat i15) []) 0 V.undef))) (K .ret {fr:=[(4,.int .i64 4)],tab:=[]}) (K .normal {fr:=[(1,.slc [.str] r1),(13,.slc [.str] r13),(14,.int .i64 i14),(15,.int .i64 (IntKind.wrap .i64 (i15+1)))],tab:=[]})) none))) none) none) none) (K (.exit 0) {fr:=[],tab:=[]}):=by kernel_rfl
theorem MO (r1:List (List V)) (s6:Bytes) (r13:List (List V)) (i14:Int) (i15:Int) (Ve:List (List V)) (i20:Int) (i21:Int) (K:Ex->St->Option R):bI ML 169 7 { fr:=[(1,.slc [.str] r1),(6,.str s6),(13,.slc [.str] r13),(14,.int .i64 i14),(15,.int .i64 i15),(19,.slc [.str] Ve),(20,.int .i64 i20),(21,.int .i64 i21)],tab:=[] } K =
 cond (aU i21 i20) (cond (decide (0<=i21∧i21<(↑(List.length Ve):Int))) (cond (s6==V.toStr (List.getD (List.getD Ve (Int.toNat i21) []) 0 V.undef)) (K (.exit 1) {fr:=[(1,.slc [.str] r1),(13,.slc [.str] r13),(14,.int .i64 i14),(15,.int .i64 i15)],tab:=[]}) (K .normal {fr:=[(1,.slc [.str] r1),(6,.str s6),(13,.slc [.str] r13),(14,.int .i64 i14),(15,.int .i64 i15),(19,.slc [.str] Ve),(20,.int .i64 i20),(21,.int .i64 (IntKind.wrap .i64 (i21+1)))],tab:=[]})) none) (K (.exit 2) {fr:=[(1,.slc [.str] r1),(6,.str s6),(13,.slc [.str] r13),(14,.int .i64 i14),(15,.int .i64 i15)],tab:=[]}):=by kernel_rfl
theorem SH (b:List Bytes):∀ l,N.FN b l=0∨N.FN b l=4
 | []=>.inl rfl
 | w::r=>by
  unfold N.FN
  cases b.any (w==·)
  .cases (cond (w==[]) true (!N.plain w))
   .exact SH b r
   .exact .inr rfl
  .exact SH b r
theorem aiw:bH Tryz.prog 169 ajY:=by
 refine aN (aQ (((gu.nil _).cons U4).cons U9)) (E:=ML) Tryz.func169 [4,7] (by kernel_rfl) (FH (bn rfl fun l K q h=>?_) (bn rfl fun l K q h=>?_)) fun a _ h=>?_
 .unfold aeW at h
  split at h
  .rename_i r1 r13 n i
   replace h:=EY h;obtain ⟨h1,h2,h3,h4,h5,h⟩:=h
   have e1:=aZ h1
   subst e1
   have h3:r13.length<=1000001:=aV h3
   have h4:r1.length<=1000001:=aV h4
   refine dN (E:=ML) (f:=169) (id:=4) (σ:=Int) (fun i=>{ fr:=[(1,.slc [.str] r1),(13,.slc [.str] r13),(14,.int .i64 r13.length),(15,.int .i64 i)],tab:=[] })
    (fun i=>0<=i) (fun i=>r13.length-i.toNat) (fun i K=>cond (N.FN (dK r1) ((dK r13).drop i.toNat)==0) (K (.exit 0) { fr:=[],tab:=[] }) (K .ret { fr:=[(4,.int .i64 4)],tab:=[] })) (fun i hi=>?_) i (bK h2) K q (by assumption)
   by_cases hl:i<r13.length
   .have hlt:i.toNat<r13.length:=by omega
    have hw' : (V.toStr (List.getD (List.getD r13 i.toNat []) 0 V.undef)).length<=1000000:=aV (List.all_eq_true.1 h5 _ (by rw [List.getD_eq_getElem?_getD,List.getElem?_eq_getElem hlt]; exact List.getElem_mem _))
    rw [Md hlt]
    have e:N.FN (dK r1) (jG (r13.getD i.toNat [])::(dK r13).drop (i.toNat+1))=cond ((dK r1).any (jG (r13.getD i.toNat [])==·)) (N.FN (dK r1) ((dK r13).drop (i.toNat+1))) (cond (cond (jG (r13.getD i.toNat [])==[]) true (!N.plain (jG (r13.getD i.toNat [])))) 4 (N.FN (dK r1) ((dK r13).drop (i.toNat+1)))):=rfl
    rw [e]
    have aeZ:∀ K:Ex->St->Option R,(cond ((dK r1).any (jG (r13.getD i.toNat [])==·)) true (!cond (jG (r13.getD i.toNat [])==[]) true (!N.plain (jG (r13.getD i.toNat [])))))=true ->
      bI ML 169 4 { fr:=[(1,.slc [.str] r1),(13,.slc [.str] r13),(14,.int .i64 r13.length),(15,.int .i64 i)],tab:=[] } K=K .normal { fr:=[(1,.slc [.str] r1),(13,.slc [.str] r13),(14,.int .i64 r13.length),(15,.int .i64 (i+1))],tab:=[] }:=fun K hc=>by
     rw [MN]
     unfold dK jG at hc
     simp (disch:=omega) only [evs,List.drop_zero]
     revert hc
     cases List.any (List.map (fun r=>V.toStr (List.getD r 0 V.undef)) r1) (fun x=>V.toStr (List.getD (List.getD r13 i.toNat []) 0 V.undef)==x)<;>cases V.toStr (List.getD (List.getD r13 i.toNat []) 0 V.undef)==[]<;>cases N.plain (V.toStr (List.getD (List.getD r13 i.toNat []) 0 V.undef))<;>intro hc<;>first | rfl | cases hc
    cases h1:(dK r1).any (jG (r13.getD i.toNat [])==·) with
    | true =>
     refine .inl ⟨i+1,by omega,by omega,fun K=>aeZ K (by rw [h1]; rfl),fun K=>?_⟩
     rw [cond_true,show (i+1).toNat=i.toNat+1 by omega]
    | false =>
     cases h2:cond (jG (r13.getD i.toNat [])==[]) true (!N.plain (jG (r13.getD i.toNat []))) with
     | false =>
      refine .inl ⟨i+1,by omega,by omega,fun K=>aeZ K (by rw [h1,h2]; rfl),fun K=>?_⟩
      rw [cond_false,cond_false,show (i+1).toNat=i.toNat+1 by omega]
     | true =>
      refine .inr ⟨.ret,{ fr:=[(4,.int .i64 4)],tab:=[] },by simp,fun K=>?_,fun K=>rfl⟩
      rw [MN]
      unfold dK jG at h1
      simp (disch:=omega) only [evs,List.drop_zero]
      revert h1 h2
      unfold jG
      cases List.any (List.map (fun r=>V.toStr (List.getD r 0 V.undef)) r1) (fun x=>V.toStr (List.getD (List.getD r13 i.toNat []) 0 V.undef)==x)<;>cases V.toStr (List.getD (List.getD r13 i.toNat []) 0 V.undef)==[]<;>cases N.plain (V.toStr (List.getD (List.getD r13 i.toNat []) 0 V.undef))<;>intro h1 h2<;>first | rfl | (cases h1; done) | cases h2
   .refine .inr ⟨.exit 0,{ fr:=[],tab:=[] },by simp,fun K=>?_,fun K=>?_⟩
    .rw [MN]
     simp (disch:=omega) only [evs]
    .rw [List.drop_eq_nil_of_le (by rw [jH]; omega)]; rfl
  .cases h
 .unfold aeY at h
  split at h
  .rename_i r1 s r13 i14 i15 Ve n i
   replace h:=RH h;obtain ⟨h1,h2,h3,h⟩:=h
   have e1:=aZ h1
   subst e1
   have h3:Ve.length<=1000001:=aV h3
   refine dN (E:=ML) (f:=169) (id:=7) (σ:=Int) (fun i=>{ fr:=[(1,.slc [.str] r1),(6,.str s),(13,.slc [.str] r13),(14,.int .i64 i14),(15,.int .i64 i15),(19,.slc [.str] Ve),(20,.int .i64 Ve.length),(21,.int .i64 i)],tab:=[] })
    (fun i=>0<=i) (fun i=>Ve.length-i.toNat) (fun i K=>cond (((dK Ve).drop i.toNat).any (s==·)) (K (.exit 1) { fr:=[(1,.slc [.str] r1),(13,.slc [.str] r13),(14,.int .i64 i14),(15,.int .i64 i15)],tab:=[] })
    (K (.exit 2) { fr:=[(1,.slc [.str] r1),(6,.str s),(13,.slc [.str] r13),(14,.int .i64 i14),(15,.int .i64 i15)],tab:=[] })) (fun i hi=>?_) i (bK h2) K q (by assumption)
   by_cases hl:i<Ve.length
   .rw [Md (show i.toNat<Ve.length by omega),List.any_cons]
    cases hc:s==jG (Ve.getD i.toNat []) with
    | true =>
     refine .inr ⟨.exit 1,_,by simp,fun K=>?_,fun K=>rfl⟩
     rw [MO]
     unfold jG at hc
     simp (disch:=omega) only [evs,hc]
    | false =>
     refine .inl ⟨i+1,by omega,by omega,fun K=>?_,fun K=>?_⟩
     .rw [MO]
      unfold jG at hc
      simp (disch:=omega) only [evs,hc]
     .rw [Bool.false_or,show (i+1).toNat=i.toNat+1 by omega]
   .refine .inr ⟨.exit 2,{ fr:=[(1,.slc [.str] r1),(6,.str s),(13,.slc [.str] r13),(14,.int .i64 i14),(15,.int .i64 i15)],tab:=[] },by simp,fun K=>?_,fun K=>?_⟩
    .rw [MO]
     simp (disch:=omega) only [evs]
    .rw [List.drop_eq_nil_of_le (by rw [jH]; omega)]; rfl
  .cases h
 .obtain ⟨s,l⟩:=a
  have h:l.length<=1000000:=aV h
  refine (alr s l).trans ?_
  show _=some (⟨.int .i64 (N.key s l),[],[]⟩:aJ)
  unfold N.key
  cases hl:aU 64 s.length with
  | true=>rfl
  | false =>
   have hl:=dP hl
   obtain ⟨w1,w2⟩:=vW s
   have hall:((N.words s).map (fun n=>[V.str n])).all (fun r=>Nat.ble (V.toStr (List.getD r 0 V.undef)).length 1000000)=true:=List.all_eq_true.2 fun r hr=>by
    obtain ⟨w,hw,rfl⟩:=List.mem_map.1 hr
    exact fA (show w.length<=1000000 from by have:=w2 w hw; omega)
   have e:∀ l:List Bytes,(l.map (fun n=>[V.str n])).map (fun r=>V.toStr (List.getD r 0 V.undef))=l:=fun l=>H7 l
   simp (disch:=omega) only [evs,hall,e,List.drop_zero]
   rcases SH l (N.words s) with e | e<;>rw [e]<;>rfl
noncomputable def am6:Env:=env Tryz.prog [(169,ajY)] [] []
theorem am7 (s:Bytes):bV am6 119 ((aT gy).enc s) ([]) some =
 some {v:=.int .i64 (N.key s []),bx:=[]}:=by kernel_rfl
theorem als:bH Tryz.prog 119 amU:=aN (aQ ((gu.nil _).cons aiw)) (E:=am6) Tryz.func119 [] (by kernel_rfl) none0 fun s _ _=>am7 s
def Ym:fK:={ fr:=[(0,.str),(3,.int .i64)],tab:=[] }
def Vf:List Leaf->(Ex->St->Option R)->Option R
 | [.s s0,.i i3],K=>cond (bW 0 i3) (cond (Nat.ble s0.length uJ) (cond (N.plain (s0.drop i3.toNat)) (K (.exit 0) { fr:=[],tab:=[] }) (K .ret { fr:=[(2,.int .i64 4)],tab:=[] })) none) none
 | _,_=>none
noncomputable def FU:Env:=env Tryz.prog [(116,Sz)] [(6,dO Ym Vf)] [(6,[(0,[0,3]),(1,[]),(1000,[2])])]
theorem ab9 (s:Bytes):bV FU 42 ((aT gy).enc s) ([]) some =
 cond ((↑(List.length s):Int)==0) (some {v:=.int .i64 15,bx:=[]}) (cond (aU 16 (↑(List.length s):Int)) (some {v:=.int .i64 5,bx:=[]}) (cond (Nat.ble (List.length s) 1000000) (cond (N.plain (List.drop 0 s)) (some {v:=.int .i64 0,bx:=[]}) (some {v:=.int .i64 4,bx:=[]})) none)):=by kernel_rfl
theorem Ej (s0:Bytes) (i3:Int) (K:Ex->St->Option R):bI FU 42 6 { fr:=[(0,.str s0),(3,.int .i64 i3)],tab:=[] } K =
 cond (aU i3 (↑(List.length s0):Int)) (cond (decide (0<=i3∧i3<(↑(List.length s0):Int))) (cond (!N.nR (↑(UInt8.toNat (List.getD s0 (Int.toNat i3) (0:UInt8))):Int)) (K .ret {fr:=[(2,.int .i64 4)],tab:=[]}) (K .normal {fr:=[(0,.str s0),(3,.int .i64 (IntKind.wrap .i64 (i3+1)))],tab:=[]})) none) (K (.exit 0) {fr:=[],tab:=[]}):=by kernel_rfl
theorem Em:bH Tryz.prog 42 FP:=by
 refine aN (aQ ((gu.nil _).cons Qb)) (E:=FU) Tryz.func42 [6] (by kernel_rfl) (one1 (bn rfl fun l K q h=>?_)) fun s _ h=>?_
 .unfold Vf at h
  split at h
  .rename_i s i
   replace h:=cN2 h;obtain ⟨h1,h2,h⟩:=h
   have h2:s.length<=1000000:=aV h2
   refine dN (E:=FU) (f:=42) (id:=6) (fun i:Int=>{ fr:=[(0,.str s),(3,.int .i64 i)],tab:=[] }) (fun i=>0<=i) (fun i=>s.length-i.toNat)
    (fun i K=>cond (N.plain (s.drop i.toNat)) (K (.exit 0) { fr:=[],tab:=[] }) (K .ret { fr:=[(2,.int .i64 4)],tab:=[] })) (fun i hi=>?_) i (bK h1) K q h
   by_cases hl:i<s.length
   .rw [drop_byte (show i.toNat<s.length by omega),Eh]
    cases hc:N.nR (s.getD i.toNat 0).toNat with
    | true =>
     refine .inl ⟨i+1,by omega,by omega,fun K=>?_,fun K=>?_⟩
     .rw [Ej]
      simp (disch:=omega) only [evs,hc,Bool.not_true]
     .rw [cond_true,show (i+1).toNat=i.toNat+1 by omega]
    | false =>
     refine .inr ⟨.ret,{ fr:=[(2,.int .i64 4)],tab:=[] },by simp,fun K=>?_,fun K=>rfl⟩
     rw [Ej]
     simp (disch:=omega) only [evs,hc,Bool.not_false]
   .refine .inr ⟨.exit 0,{ fr:=[],tab:=[] },by simp,fun K=>?_,fun K=>?_⟩
    .rw [Ej]
     simp (disch:=omega) only [evs]
    .rw [List.drop_eq_nil_of_le (by omega)]; rfl
  .cases h
 .refine (ab9 s).trans ?_
  show _=some (⟨.int .i64 (N.name s),[],[]⟩:aJ)
  unfold N.name
  cases s with
  | nil=>rfl
  | cons c r =>
   generalize hs:c::r=s at *
   have h0:(s==[])=false:=by rw [<- hs]; rfl
   have h1:0<s.length:=by rw [<- hs]; simp
   rw [h0]
   cases h:aU 16 s.length with
   | true=>simp (disch:=omega) only [evs]
   | false =>
    have h:=dP h
    simp (disch:=omega) only [evs,List.drop_zero]
    cases N.plain s<;>rfl
theorem key_eq (s:Bytes):N.key s []=N.wY s false:=by
 have e:∀ l,N.FN [] l=N.oI false l:=fun l=>by
  induction l with
  | nil=>rfl
  | cons w r ih =>
   unfold N.FN N.oI
   rw [ih,List.any_nil]
   cases w with
   | nil=>rfl
   | cons c w=>simp only [cond_false,List.length_cons]; simp (disch:=omega) only [evs]; rw [show ((c::w)==[])=false from rfl]; cases N.plain (c::w)<;>rfl
 unfold N.key N.wY
 rw [e]
end Go.Ev

namespace Go.Ev
open Go
def Rl (s:Bytes) (i:dw) (q:bY):Prop:=q.s=s∧0<=q.at'∧q.at'<=s.length∧i.err=q.code∧i.s=cond (i.err==0) (s.drop q.at'.toNat) []
theorem ae0 (s:Bytes):Rl s ⟨s,0⟩ ⟨s,0,0⟩:=⟨rfl,Int.le_refl _,Int.natCast_nonneg _,rfl,rfl⟩
theorem uj {s:Bytes} {i:dw} {q:bY} (h:Rl s i q) (c:Int):Rl s (N.bP i c) (N.fF q c):=by
 obtain ⟨h0,h1,h2,h3,h4⟩:=h
 unfold N.bP N.fF
 rw [h3]
 cases e:q.code==0 with
 | false=>exact ⟨h0,h1,h2,h3,h4⟩
 | true =>
  have e' : q.code=0:=by simpa using e
  by_cases hc:c=0
  .subst hc
   exact ⟨h0,h1,h2,h3.trans e',h4⟩
  .have e1:(c != 0)=true:=by simpa using hc
   have e2:(c==0)=false:=by simpa using hc
   rw [e1]
   refine ⟨h0,h1,h2,rfl,?_⟩
   show []=cond (c==0) _ []
   rw [e2]; rfl
theorem SI {s:Bytes} {i:dw} {q:bY} (h:Rl s i q) (n:Int):(N.jB i n).1=(N.oZ q n).1∧Rl s (N.jB i n).2 (N.oZ q n).2:=by
 have hf:=uj h 3
 have h':=h
 obtain ⟨h0,h1,h2,h3,h4⟩:=h
 unfold N.jB N.oZ
 rw [h3]
 cases e:q.code==0 with
 | false =>
  rw [bne,e]
  exact ⟨rfl,h'⟩
 | true =>
  rw [bne,e]
  have hs:i.s=s.drop q.at'.toNat:=by rw [h4,h3,e]; rfl
  have hl:(i.s.length:Int)=q.s.length-q.at':=by rw [hs,List.length_drop,h0]; omega
  rw [hl]
  cases e2:bW n 0 with
  | true=>exact ⟨rfl,h'⟩
  | false =>
   cases e3:aU (q.s.length-q.at') n with
   | true=>exact ⟨rfl,hf⟩
   | false =>
    have e2:=nP e2
    have e3:=dP e3
    rw [h0] at e3
    refine ⟨?_,h0,?_,?_,rfl,?_⟩
    .show i.s.take n.toNat=(q.s.drop q.at'.toNat).take n.toNat
     rw [hs,h0]
    .show 0<=q.at' + n
     omega
    .show q.at' + n<=s.length
     omega
    .show i.s.drop n.toNat=cond (q.code==0) (s.drop (q.at' + n).toNat) []
     rw [e,hs,List.drop_drop,show (q.at' + n).toNat=q.at'.toNat+n.toNat by omega]; rfl
theorem ji {s:Bytes} {i:dw} {q:bY} (h:Rl s i q) (n:Int):(N.ay i n).1=(N.bD q n).1∧Rl s (N.ay i n).2 (N.bD q n).2 :=
 ⟨congrArg (fun x=>N.be x 0) (SI h (cond (aU 8 n) 8 n)).1,(SI h (cond (aU 8 n) 8 n)).2⟩
theorem acd {s:Bytes} {i:dw} {q:bY} (h:Rl s i q) (n m:Int):Rl s (cond (aU n m) (N.bP i 5) i) (cond (aU n m) (N.fF q 5) q):=by
 cases aU n m with
 | true=>exact uj h 5
 | false=>exact h
theorem qE {s:Bytes} {i:dw} {q:bY} (h:Rl s i q) (n:Int):(N.bM i n).1=(N.iC q n).1∧Rl s (N.bM i n).2 (N.iC q n).2:=by
 unfold N.bM N.iC
 rw [(ji h 2).1]
 exact SI (acd (ji h 2).2 _ _) _
theorem ae1 {s:Bytes} {i:dw} {q:bY} (h:Rl s i q) (key:Bytes) (kind:Int):(N.oneOf key kind i).1=(N.Me key kind q).1∧Rl s (N.oneOf key kind i).2 (N.Me key kind q).2:=by
 unfold N.oneOf N.Me
 rw [(ji h 8).1,(ji h 1).1,(qE h 64).1]
 cases kind==0 with
 | true=>exact ⟨rfl,(ji h 8).2⟩
 | false =>
  cases kind==1 with
  | true=>exact ⟨rfl,(qE h 64).2⟩
  | false =>
   cases kind==2 with
   | true=>exact ⟨rfl,(ji h 1).2⟩
   | false=>exact ⟨rfl,uj h 8⟩
theorem ae2 {s:Bytes} {i:dw} {q:bY} (h:Rl s i q):(N.one i).1=(N.xW q).1∧Rl s (N.one i).2 (N.xW q).2:=by
 unfold N.one N.xW
 rw [(qE h 16).1,(ji (qE h 16).2 1).1]
 exact ae1 (ji (qE h 16).2 1).2 _ _
theorem ae3 {s:Bytes} {i:dw} {q:bY} (h:Rl s i q) (p:aW) (acc:List aW):Rl s (N.bad p acc i) (N.MB p acc q):=by
 unfold N.bad N.MB
 rw [h.2.2.2.1]
 cases q.code==0 with
 | true=>exact uj h _
 | false=>exact h
theorem En {i:dw} (h:i.err ≠ 0) (c:Int):N.bP i c=i:=by
 unfold N.bP
 rw [show (i.err==0)=false by simpa using h]; rfl
theorem Ig {i:dw} (h:i.err ≠ 0) (n:Int):N.jB i n=([],i):=by
 unfold N.jB
 rw [show (i.err != 0)=true by simpa using h]; rfl
theorem qc {i:dw} (h:i.err ≠ 0) (n:Int):(N.ay i n).2=i:=by unfold N.ay; rw [Ig h]
theorem Eo {i:dw} (h:i.err ≠ 0) (n:Int):(N.bM i n).2=i:=by
 unfold N.bM
 rw [qc h,En h]
 cases aU n (IntKind.wrap .i64 (N.ay i 2).1)<;>exact congrArg Prod.snd (Ig h _)
theorem aix {i:dw} (h:i.err ≠ 0):(N.one i).2=i:=by
 unfold N.one
 rw [Eo h,qc h]
 unfold N.oneOf
 rw [qc h,qc h,Eo h,En h]
 cases IntKind.wrap .u8 (N.ay i 1).1==0<;>cases IntKind.wrap .u8 (N.ay i 1).1==1<;>cases IntKind.wrap .u8 (N.ay i 1).1==2<;>rfl
theorem aiy {i:dw} (h:i.err ≠ 0) (p:aW) (acc:List aW):N.bad p acc i=i:=by
 unfold N.bad
 rw [show (i.err==0)=false by simpa using h]; rfl
theorem O4 {q:bY} (h:q.code ≠ 0) (acc:List aW):∀ k,N.kM k q acc=(acc,q)
 | 0=>rfl
 | k+1=>by
  unfold N.kM
  rw [show (q.code==0)=false by simpa using h]; rfl
theorem aau {s:Bytes}:∀ (k:Nat) {i:dw} {q:bY} (acc:List aW),Rl s i q->(i.err=0∨acc=[]) ->
  (N.jh k i acc).1=cond ((N.kM k q acc).2.code != 0) [] (N.kM k q acc).1∧Rl s (N.jh k i acc).2 (N.kM k q acc).2
 | 0,i,q,acc,h,h1=>by
  refine ⟨?_,h⟩
  show acc=cond (q.code != 0) [] acc
  rw [<- h.2.2.2.1]
  rcases h1 with h1 | h1
  .rw [h1]; rfl
  .rw [h1]; cases i.err != 0<;>rfl
 | k+1,i,q,acc,h,h1=>by
  unfold N.jh N.kM
  have ho:=ae2 h
  have hb:=ae3 ho.2 (N.one i).1 acc
  by_cases hz:q.code=0
  .rw [show (q.code==0)=true by simpa using hz,<- ho.1,cond_true]
   by_cases hy:(N.bad (N.one i).1 acc (N.one i).2).err=0
   .rw [show ((N.bad (N.one i).1 acc (N.one i).2).err != 0)=false by simpa using hy,cond_false]
    exact aau k _ hb (.inl hy)
   .rw [show ((N.bad (N.one i).1 acc (N.one i).2).err != 0)=true by simpa using hy,cond_true]
    have hy' : (N.MB (N.one i).1 acc (N.xW q).2).code ≠ 0:=by rw [<- hb.2.2.2.1]; exact hy
    rw [O4 hy']
    refine ⟨?_,hb⟩
    show []=cond ((N.MB (N.one i).1 acc (N.xW q).2).code != 0) [] _
    rw [show ((N.MB (N.one i).1 acc (N.xW q).2).code != 0)=true by simpa using hy']; rfl
  .have hi:i.err ≠ 0:=by rw [h.2.2.2.1]; exact hz
   rw [aix hi,aiy hi,show (i.err != 0)=true by simpa using hi,show (q.code==0)=false by simpa using hz]
   refine ⟨?_,h⟩
   show []=cond (q.code != 0) [] acc
   rw [show (q.code != 0)=true by simpa using hz]; rfl
theorem aav {s:Bytes} {i:dw} {q:bY} (h:Rl s i q):(N.iH i).1=(N.vU q).1∧Rl s (N.iH i).2 (N.vU q).2:=by
 have e:(N.iH i).1=cond ((N.FT q).2.code != 0) [] (N.FT q).1∧Rl s (N.iH i).2 (N.FT q).2:=by
  unfold N.iH N.FT
  rw [(ji h 1).1]
  refine aau _ [] ?_ (.inr rfl)
  cases aU 8 (IntKind.wrap .i64 (N.bD q 1).1) with
  | true=>exact uj (ji h 1).2 6
  | false=>exact (ji h 1).2
 obtain ⟨e1,e2⟩:=e
 unfold N.vU
 cases hc:(N.FT q).2.code != 0 with
 | true=>rw [hc] at e1; exact ⟨e1,e2⟩
 | false=>rw [hc] at e1; exact ⟨e1,e2⟩
theorem FV:∀ (k:Nat) (i:dw) (acc:List aW),(N.jh k i acc).1.length<=acc.length+k
 | 0,_,acc=>Nat.le_refl _
 | k+1,i,acc=>by
  unfold N.jh
  cases (N.bad (N.one i).1 acc (N.one i).2).err != 0 with
  | true=>exact Nat.zero_le _
  | false =>
   have:=FV k (N.bad (N.one i).1 acc (N.one i).2) (acc++[(N.one i).1])
   rw [List.length_append] at this
   simp only [List.length_cons,List.length_nil] at this
   show (N.jh k _ _).1.length<=_
   omega
def ofR (q:bY):dw:=⟨cond (q.code==0) (q.s.drop q.at'.toNat) [],q.code⟩
theorem jy {q:bY} (h:N.bU q=true):Rl q.s (ofR q) q∧q.s.length<=uJ:=by
 obtain ⟨h1,h⟩:=aX h
 obtain ⟨h2,h3⟩:=aX h
 exact ⟨⟨rfl,bK h1,bK h2,rfl,rfl⟩,Nat.le_of_ble_eq_true h3⟩
theorem um {s:Bytes} {i:dw} {q:bY} (h:Rl s i q) (hs:s.length<=uJ):N.bU q=true:=by
 obtain ⟨h0,h1,h2,_,_⟩:=h
 unfold N.bU
 rw [h0,dY h1,dY h2,Nat.ble_eq_true_of_le hs]; rfl
theorem xX {q:bY} (h:N.bU q=true) (c:Int):N.bU (N.fF q c)=true:=um (uj (jy h).1 c) (jy h).2
theorem fG {q:bY} (h:N.bU q=true) (n:Int):N.bU (N.bD q n).2=true:=um (ji (jy h).1 n).2 (jy h).2
theorem qg {q:bY} (h:N.bU q=true) (n:Int):N.bU (N.iC q n).2=true:=um (qE (jy h).1 n).2 (jy h).2
theorem ae4 {q:bY} (h:N.bU q=true):N.bU (N.xW q).2=true:=um (ae2 (jy h).1).2 (jy h).2
theorem ae5 {q:bY} (h:N.bU q=true) (p:aW) (acc:List aW):N.bU (N.MB p acc q)=true:=um (ae3 (jy h).1 p acc) (jy h).2
end Go.Ev

namespace Go.Ev
open Go Go.Proofs
set_option maxRecDepth 100000
noncomputable def aj8:Env:=env Tryz.prog [] [] []
theorem alu (i:dw) (n:Int):bV aj8 78 ((bg (jL 0) (aT (dA .i64))).enc ((),n)) ((jr GZ).enc i) some =
 cond (dw.err i==0) (cond (n != 0) (some {v:=.jc [],bx:=[[V.str [],.int .i64 n]]}) (some {v:=.jc [],bx:=[[V.str i.s,.int .i64 i.err]]})) (some {v:=.jc [],bx:=[[V.str i.s,.int .i64 i.err]]}):=by kernel_rfl
theorem vX:bH Tryz.prog 78 FK:=by
 refine aN (aQ (gu.nil _)) (E:=aj8) Tryz.func78 [] (by kernel_rfl) none0 fun a i _=>?_
 refine (alu i a.2).trans ?_
 show _=some (⟨.jc [],[[.str (N.bP i a.2).s,.int .i64 (N.bP i a.2).err]],[]⟩:aJ)
 unfold N.bP
 cases i.err==0<;>cases a.2 != 0<;>rfl
noncomputable def am8:Env:=env Tryz.prog [(78,FK)] [] []
theorem am9 (i:dw) (n:Int):bV am8 146 ((bg (jL 0) (aT (dA .i64))).enc ((),n)) ((jr GZ).enc i) some =
 cond (dw.err i != 0) (cond (dw.err i != 0) (some {v:=.str [],bx:=[[V.str i.s,.int .i64 i.err]]}) (cond (aU (↑(List.length i.s):Int) n) (some {v:=.str [],bx:=[[V.str (dw.s (N.bP i 3)),.int .i64 (dw.err (N.bP i 3))]]}) (cond (decide (0<=n∧n<=(↑(List.length i.s):Int))) (cond (decide (0<=n∧n<=(↑(List.length i.s):Int))) (some {v:=.str (List.drop 0 (List.take (Int.toNat n) i.s)),bx:=[[V.str (List.drop (Int.toNat n) (List.take (List.length i.s) i.s)),.int .i64 i.err]]}) none) none))) (cond (bW n 0) (some {v:=.str [],bx:=[[V.str i.s,.int .i64 i.err]]}) (cond (aU (↑(List.length i.s):Int) n) (some {v:=.str [],bx:=[[V.str (dw.s (N.bP i 3)),.int .i64 (dw.err (N.bP i 3))]]}) (cond (decide (0<=n∧n<=(↑(List.length i.s):Int))) (cond (decide (0<=n∧n<=(↑(List.length i.s):Int))) (some {v:=.str (List.drop 0 (List.take (Int.toNat n) i.s)),bx:=[[V.str (List.drop (Int.toNat n) (List.take (List.length i.s) i.s)),.int .i64 i.err]]}) none) none))):=by kernel_rfl
theorem ae6 {n:Int} {l:Nat} (h1:bW n 0=false) (h2:aU (l:Int) n=false):decide ((0:Int)<=n∧n<=(l:Int))=true:=by
 rw [wI] at h1; rw [kN] at h2
 have h1:=of_decide_eq_false h1
 have h2:=of_decide_eq_false h2
 rw [decide_eq_true_iff]; omega
theorem ae7:bH Tryz.prog 146 alf:=by
 refine aN (aQ ((gu.nil _).cons vX)) (E:=am8) Tryz.func146 [] (by kernel_rfl) none0 fun a i _=>?_
 refine (am9 i a.2).trans ?_
 show _=some (⟨.str (N.jB i a.2).1,[[.str (N.jB i a.2).2.s,.int .i64 (N.jB i a.2).2.err]],[]⟩:aJ)
 unfold N.jB
 cases h1:(i.err != 0) with
 | true=>rfl
 | false =>
  cases h2:bW a.2 0 with
  | true=>rfl
  | false =>
   cases h3:aU (i.s.length:Int) a.2 with
   | true=>rfl
   | false =>
    simp only [cond_true,cond_false,ae6 h2 h3,List.drop_zero,List.take_length]
def alv:fK:={ fr:=[(5,.int .u64),(12,.slc [.int .u8]),(13,.int .i64),(14,.int .i64)],tab:=[(0,.var [.str,.int .i64])] }
def ana:List Leaf->(Ex->St->Option R)->Option R
 | [.i n,.r rows,.i len,.i k,.s s,.i e],K=>cond (decide (len=(rows.length:Int))) (cond (bW 0 k) (cond (Nat.ble rows.length 9223372036854775806)
   (K (.exit 0) { fr:=[(5,.int .u64 (N.beR (rows.drop k.toNat) n))],tab:=[(0,.var [.str s,.int .i64 e])] }) none) none) none
 | _,_=>none
noncomputable def ace:Env:=env Tryz.prog [(146,alf)] [(3,dO alv ana)] [(3,[(0,[5,12,13,14]),(1,[5]),(1000,[4])])]
theorem anb (i:dw) (n:Int):bV ace 74 ((bg (jL 0) (aT (dA .i64))).enc ((),n)) ((jr GZ).enc i) some =
 cond (decide ((↑(List.length (iy (Prod.fst (N.jB i (bif aU 8 n then 8 else n))))):Int)=(↑(List.length (iy (Prod.fst (N.jB i (bif aU 8 n then 8 else n))))):Int))) (cond (Nat.ble (List.length (iy (Prod.fst (N.jB i (bif aU 8 n then 8 else n))))) 9223372036854775806) (some {v:=.int .u64 (N.beR (List.drop 0 (iy (Prod.fst (N.jB i (bif aU 8 n then 8 else n))))) 0),bx:=[[V.str (dw.s (Prod.snd (N.jB i (bif aU 8 n then 8 else n)))),.int .i64 (dw.err (Prod.snd (N.jB i (bif aU 8 n then 8 else n))))]]}) none) none:=by kernel_rfl
theorem ae8 (rows:List (List V)) (n len k e:Int) (s:Bytes) (K:Ex->St->Option R):bI ace 74 3 { fr:=[(5,.int .u64 n),(12,.slc [.int .u8] rows),(13,.int .i64 len),(14,.int .i64 k)],tab:=[(0,.var [.str s,.int .i64 e])] } K =
 cond (aU k len) (cond (decide (0<=k∧k<(↑(List.length rows):Int))) (K .normal {fr:=[(5,.int .u64 (Ue BinOp.or .u64 (shl .u64 n 8) (IntKind.wrap .u64 (V.toInt (List.getD (List.getD rows (Int.toNat k) []) 0 V.undef))))),(12,.slc [.int .u8] rows),(13,.int .i64 len),(14,.int .i64 (IntKind.wrap .i64 (k+1)))],tab:=[(0,.var [V.str s,.int .i64 e])]}) none) (K (.exit 0) {fr:=[(5,.int .u64 n)],tab:=[(0,.var [V.str s,.int .i64 e])]}):=by kernel_rfl
theorem wrap_i64 {n:Int} (h1 : -9223372036854775808<=n) (h2:n<=9223372036854775807):IntKind.wrap .i64 n=n:=by
 simp only [IntKind.wrap,IntKind.signed,IntKind.bits]
 simp
 omega
theorem wrap_u64 {n:Int} (h1:0<=n) (h2:n<18446744073709551616):IntKind.wrap .u64 n=n:=by
 simp only [IntKind.wrap,IntKind.signed,IntKind.bits]
 simp
 omega
theorem aaw (rows:List (List V)) (len e:Int) (s:Bytes) (hlen:len=rows.length) (hb:rows.length<=9223372036854775806) (K:Ex->St->Option R) (q:R):∀ (d:Nat) (k n:Int),d=rows.length-k.toNat->0<=k ->
  K (.exit 0) { fr:=[(5,.int .u64 (N.beR (rows.drop k.toNat) n))],tab:=[(0,.var [.str s,.int .i64 e])] }=some q ->
  ∃ m,o9 ace 74 3 m { fr:=[(5,.int .u64 n),(12,.slc [.int .u8] rows),(13,.int .i64 len),(14,.int .i64 k)],tab:=[(0,.var [.str s,.int .i64 e])] } K=some q
 | 0,k,n,hd,hk,h=>by
  refine ⟨1,?_⟩
  show bI ace _ 3 _ _=some q
  rw [ae8]
  have h1:aU k len=false:=by rw [kN,decide_eq_false_iff_not]; omega
  rw [h1,cond_false]
  rw [List.drop_eq_nil_of_le (by omega)] at h
  exact h
 | d+1,k,n,hd,hk,h=>by
  have hlt:k.toNat<rows.length:=by omega
  have hdrop:rows.drop k.toNat=rows.getD k.toNat []::rows.drop (k+1).toNat:=by
   rw [List.drop_eq_getElem_cons hlt,show (k+1).toNat=k.toNat+1 by omega,List.getD_eq_getElem?_getD,List.getElem?_eq_getElem hlt]; rfl
  rw [hdrop] at h
  obtain ⟨m,hm⟩:=aaw rows len e s hlen hb K q d (k+1) _ (by omega) (by omega) h
  refine ⟨m+1,?_⟩
  show bI ace _ 3 _ _=some q
  rw [ae8]
  have h1:aU k len=true:=by rw [kN,decide_eq_true_iff]; omega
  have h2:decide ((0:Int)<=k∧k<(rows.length:Int))=true:=by rw [decide_eq_true_iff]; omega
  rw [h1,h2,cond_true,cond_true,wrap_i64 (by omega) (by omega)]
  exact hm
theorem AV:bH Tryz.prog 74 Sr:=by
 refine aN (aQ ((gu.nil _).cons ae7)) (E:=ace) Tryz.func74 [3] (by kernel_rfl) (one1 (bn rfl fun l K q h=>?_)) fun a i _=>?_
 .unfold ana at h
  split at h
  .rename_i n rows len k s e
   obtain ⟨h1,h⟩:=aK h
   obtain ⟨h2,h⟩:=aK h
   obtain ⟨h3,h⟩:=aK h
   rw [wI] at h2
   exact aaw rows len e s (of_decide_eq_true h1) (Nat.le_of_ble_eq_true h3) K q _ k n rfl (of_decide_eq_true h2) h
  .cases h
 .refine (anb i a.2).trans ?_
  have h8:(N.jB i (bif aU 8 a.2 then 8 else a.2)).1.length<=8:=N.CQ i _ 8 (by
   rw [kN]
   by_cases h:8<a.2
   .rw [decide_eq_true h]; exact Int.le_refl _
   .rw [decide_eq_false h]; simp only [cond_false]; omega)
  rw [decide_eq_true (rfl:(_:Int)=_),show Nat.ble (List.length (iy (N.jB i (bif aU 8 a.2 then 8 else a.2)).1)) 9223372036854775806=true from
   Nat.ble_eq_true_of_le (by rw [show (iy (N.jB i (bif aU 8 a.2 then 8 else a.2)).1).length=(N.jB i (bif aU 8 a.2 then 8 else a.2)).1.length by simp [iy]]; omega),cond_true,cond_true]
  rw [List.drop_zero,P8 _ 0 8 (by decide) h8 (by decide) (by decide)]
  try rfl
noncomputable def eNew:Env:=env Tryz.prog [] [] []
theorem anc (s:Bytes):bV eNew 73 ((aT gy).enc s) (dV.enc ()) some =
 some {v:=.ptr 1000 0 0 0,bx:=[],nb:=[Box.var [V.str s,.int .i64 0]]}:=by kernel_rfl
theorem ae9:bH Tryz.prog 73 dNew:=aN (aQ (gu.nil _)) (E:=eNew) Tryz.func73 [] (by kernel_rfl) none0 fun s _ _=>anc s
theorem afa (o:gV) (s:Bytes):bV eNew 100 ((bg (bJ cOut) (aT gy)).enc (o,s)) (dV.enc ()) some =
 cond (Nat.ble (List.length (gV.s o)+List.length s) 9223372036854775807) (some {v:=.agg [V.str (gV.s o++s),.int .i64 (gV.err o)],bx:=[]}) none:=by kernel_rfl
theorem CW:bH Tryz.prog 100 FM:=by
 refine aN (aQ (gu.nil _)) (E:=eNew) Tryz.func100 [] (by kernel_rfl) none0 fun a _ h=>?_
 refine (afa a.1 a.2).trans ?_
 rw [show Nat.ble (a.1.s.length+a.2.length) 9223372036854775807=true from h]
 try rfl
theorem Vg (o:gV):bV eNew 103 ((aT (bJ cOut)).enc o) (dV.enc ()) some =
 some {v:=.str (gV.s o),bx:=[]}:=by kernel_rfl
theorem qF:bH Tryz.prog 103 rF:=aN (aQ (gu.nil _)) (E:=eNew) Tryz.func103 [] (by kernel_rfl) none0 fun s _ _=>Vg s
noncomputable def aj9:Env:=env Tryz.prog [(100,FM),(95,fP)] [] []
theorem acf (o:gV) (s:Bytes):bV aj9 96 ((bg (bJ cOut) (aT gy)).enc (o,s)) (dV.enc ()) some =
 cond (aU 65535 (↑(List.length s):Int)) (cond (gV.err o==0) (some {v:=.agg [V.str (gV.s o),.int .i64 5],bx:=[]}) (some {v:=.agg [V.str (gV.s o),.int .i64 (gV.err o)],bx:=[]})) (cond (bif aU (IntKind.wrap .u64 (↑(List.length s):Int)) 18446744073709551616 then Nat.ble (List.length (gV.s o)) 9223372036854775799 else false) (cond (Nat.ble (List.length (gV.s (N.iO o (IntKind.wrap .u64 (↑(List.length s):Int)) 2))+List.length s) 9223372036854775807) (some {v:=.agg [V.str (gV.s (N.rE (N.iO o (IntKind.wrap .u64 (↑(List.length s):Int)) 2) s)),.int .i64 (gV.err (N.rE (N.iO o (IntKind.wrap .u64 (↑(List.length s):Int)) 2) s))],bx:=[]}) none) none):=by kernel_rfl
theorem zo (hN:bH Tryz.prog 95 fP):bH Tryz.prog 96 AO:=by
 refine aN (aQ (((gu.nil _).cons hN).cons CW)) (E:=aj9) Tryz.func96 [] (by kernel_rfl) none0 fun a _ h=>?_
 refine (acf a.1 a.2).trans ?_
 have h:a.1.s.length+a.2.length<=9223372036854775790:=Nat.le_of_ble_eq_true h
 show _=some (⟨.agg [.str (N.jO a.1 a.2).s,.int .i64 (N.jO a.1 a.2).err],[],[]⟩:aJ)
 unfold N.jO
 cases h1:aU 65535 (a.2.length:Int) with
 | true=>cases a.1.err==0<;>rfl
 | false =>
  rw [kN] at h1
  have h1:=of_decide_eq_false h1
  have hw:IntKind.wrap .u64 (a.2.length:Int)=a.2.length:=wrap_u64 (by omega) (by omega)
  rw [hw]
  have e1:aU (a.2.length:Int) 18446744073709551616=true:=by rw [kN,decide_eq_true_iff]; omega
  have e2:Nat.ble a.1.s.length 9223372036854775799=true:=Nat.ble_eq_true_of_le (by omega)
  have e3:Nat.ble ((N.iO a.1 (a.2.length:Int) 2).s.length+a.2.length) 9223372036854775807=true:=Nat.ble_eq_true_of_le (by
   have:(N.iO a.1 (a.2.length:Int) 2).s.length=a.1.s.length+2:=by
    show (a.1.s++N.bQ _ (N.clamp 2)).length=_
    rw [List.length_append,N.I9]; rfl
   omega)
  simp only [e1,e2,e3,cond_true,cond_false]
end Go.Ev

namespace Go.Ev
open Go Go.Proofs
set_option maxRecDepth 100000
noncomputable def ane:Env:=env Tryz.prog [(95,fP),(96,AO),(103,rF),(73,dNew),(74,Sr)] [] []
theorem anf  : bV ane 213 [] [] some =
 some {v:=.bool true,bx:=[]}:=by kernel_rfl
def mJ:Den:=den aew dV (oV lC) (fun _ _=>true) fun _ _=>(true,())
theorem alx (hN:bH Tryz.prog 95 fP):bH Tryz.prog 213 mJ :=
 aN (aQ ((((((gu.nil _).cons AV).cons ae9).cons qF).cons (zo hN)).cons hN)) (E:=ane) Tryz.func213 [] (by kernel_rfl) none0 fun _ _ _=>anf
noncomputable def akb : Env:=env Tryz.prog [(213,mJ)] [] []
theorem aly  : bV akb 208 [] [] some =
 some {v:=.bool true,bx:=[]}:=by kernel_rfl
theorem aiz (hN:bH Tryz.prog 95 fP):bH Tryz.prog 208 mJ :=
 aN (aQ ((gu.nil _).cons (alx hN))) (E:=akb) Tryz.func208 [] (by kernel_rfl) none0 fun _ _ _=>aly
end Go.Ev

namespace Go.Ev
open Go Go.Proofs
set_option maxRecDepth 100000
def alz:fK:={ fr:=[(0,.slc yP),(1,.slc yP),(12,.int .i64),(13,.int .i64)],tab:=[] }
def ang:List Leaf->(Ex->St->Option R)->Option R
 | [.r r0,.r r1,.i i12,.i i13],K=>cond (i12==r0.length) (cond (Nat.beq r0.length r1.length) (cond (bW 0 i13) (cond (Nat.ble r0.length (uJ+1)) (cond (N.kZ ((dS r0).drop i13.toNat) ((dS r1).drop i13.toNat)) (K (.exit 0) { fr:=[],tab:=[] }) (K .ret { fr:=[(4,.bool false)],tab:=[] })) none) none) none) none
 | _,_=>none
theorem MP:∀ a b:List aW,a.length ≠ b.length->N.kZ a b=false
 | [],[],h=>absurd rfl h
 | [],_::_,_=>rfl
 | _::_,[],_=>rfl
 | p::a,q::b,h=>by
  unfold N.kZ
  rw [MP a b (by simpa using h)]
  cases N.eqP p q<;>rfl
theorem Vh (p q:aW) (a b:List aW):N.kZ (p::a) (q::b)=cond (N.eqP p q) (N.kZ a b) false:=rfl
def Yn:fK:=alz
noncomputable def FW:Env:=env Tryz.prog [] [(4,dO Yn ang)] [(4,[(0,[0,1,12,13]),(1,[]),(1000,[4])])]
theorem acg (a b:List aW):type_of% (by
  have h:bV FW 72 ((bg (qw iw) (aT (qw iw))).enc (a,b)) ([]) some =(
   let z0:=(List.map yE a);let z1:=(List.map yE b);cond ((↑(List.length z0):Int) != (↑(List.length z1):Int)) (some {v:=.bool false,bx:=[]:aJ}) (cond ((↑(List.length z0):Int)==(↑(List.length z0):Int)) (cond (Nat.beq (List.length z0) (List.length z1)) (cond (Nat.ble (List.length z0) 1000001) (cond (N.kZ (List.drop 0 (List.map yD z0)) (List.drop 0 (List.map yD z1))) (some {v:=.bool true,bx:=[]:aJ}) (some {v:=.bool false,bx:=[]:aJ})) none) none) none)):=by kernel_rfl
  dsimp only at h;exact h):=by kernel_rfl
theorem Ep (r0:List (List V)) (r1:List (List V)) (i12:Int) (i13:Int) (K:Ex->St->Option R):bI FW 72 4 { fr:=[(0,.slc yP r0),(1,.slc yP r1),(12,.int .i64 i12),(13,.int .i64 i13)],tab:=[] } K =
 cond (aU i13 i12) (cond (decide (0<=i13∧i13<(↑(List.length r0):Int))) (cond (decide (0<=i13∧i13<(↑(List.length r1):Int))) (cond (!(V.toStr (List.getD (List.getD r0 (Int.toNat i13) []) 0 V.undef)==V.toStr (List.getD (List.getD r1 (Int.toNat i13) []) 0 V.undef) && (V.toInt (List.getD (List.getD r0 (Int.toNat i13) []) 1 V.undef)==V.toInt (List.getD (List.getD r1 (Int.toNat i13) []) 1 V.undef) && (V.toInt (List.getD (List.getD r0 (Int.toNat i13) []) 2 V.undef)==V.toInt (List.getD (List.getD r1 (Int.toNat i13) []) 2 V.undef) && (V.toStr (List.getD (List.getD r0 (Int.toNat i13) []) 3 V.undef)==V.toStr (List.getD (List.getD r1 (Int.toNat i13) []) 3 V.undef) && true))))) (K .ret {fr:=[(4,.bool false)],tab:=[]:St}) (K .normal {fr:=[(0,.slc yP r0),(1,.slc yP r1),(12,.int .i64 i12),(13,.int .i64 (IntKind.wrap .i64 (i13+1)))],tab:=[]:St})) none) none) (K (.exit 0) {fr:=[],tab:=[]:St}):=by kernel_rfl
theorem Yo:bH Tryz.prog 72 aeF:=by
 refine aN (aQ (gu.nil _)) (E:=FW) Tryz.func72 [4] (by kernel_rfl) (one1 (bn rfl fun l K q h=>?_)) fun a _ h=>?_
 .unfold ang at h
  split at h
  .rename_i r0 r1 n i
   replace h:=Z4 h;obtain ⟨h1,h2,h3,h4,h⟩:=h
   have e1:=aZ h1
   have h2:=Nat.eq_of_beq_eq_true h2
   subst e1
   have h4:r0.length<=1000001:=aV h4
   refine dN (E:=FW) (f:=72) (id:=4) (fun i:Int=>{ fr:=[(0,.slc yP r0),(1,.slc yP r1),(12,.int .i64 r0.length),(13,.int .i64 i)],tab:=[] }) (fun i=>0<=i) (fun i=>r0.length-i.toNat)
    (fun i K=>cond (N.kZ ((dS r0).drop i.toNat) ((dS r1).drop i.toNat)) (K (.exit 0) { fr:=[],tab:=[] }) (K .ret { fr:=[(4,.bool false)],tab:=[] })) (fun i hi=>?_) i (bK h3) K q (by assumption)
   by_cases hl:i<r0.length
   .rw [uD (show i.toNat<r0.length by omega),uD (show i.toNat<r1.length by omega),Vh]
    cases hc:N.eqP (rowP (r0.getD i.toNat [])) (rowP (r1.getD i.toNat [])) with
    | true =>
     refine .inl ⟨i+1,by omega,by omega,fun K=>?_,fun K=>?_⟩
     .rw [Ep]
      unfold N.eqP rowP at hc
      simp (disch:=omega) only [evs,hc,Bool.not_true]
     .rw [cond_true,show (i+1).toNat=i.toNat+1 by omega]
    | false =>
     refine .inr ⟨.ret,{ fr:=[(4,.bool false)],tab:=[] },by simp,fun K=>?_,fun K=>rfl⟩
     rw [Ep]
     unfold N.eqP rowP at hc
     simp (disch:=omega) only [evs,hc,Bool.not_false]
   .refine .inr ⟨.exit 0,{ fr:=[],tab:=[] },by simp,fun K=>?_,fun K=>?_⟩
    .rw [Ep]
     simp (disch:=omega) only [evs]
    .rw [List.drop_eq_nil_of_le (by rw [mV]; omega),List.drop_eq_nil_of_le (by rw [mV]; omega)]; rfl
  .cases h
 .obtain ⟨a,b⟩:=a
  have h:a.length<=1000000:=aV h
  refine (acg a b).trans ?_
  show _=some (⟨.bool (N.kZ a b),[],[]⟩:aJ)
  by_cases hl:a.length=b.length
  .simp (disch:=omega) only [evs,gB,hl,List.drop_zero]
   cases N.kZ a b<;>rfl
  .rw [MP a b hl]
   simp (disch:=omega) only [evs]
noncomputable def aax:Env:=env Tryz.prog [] [] []
theorem afb (p:aW) (key:Bytes):bV aax 202 ((bg (bJ iw) (aT (jL 0))).enc (p,())) ((jr oH).enc key) some =
 some {v:=.bool (aW.key p==key),bx:=[[V.str key]]:aJ}:=by kernel_rfl
theorem ach:bH Tryz.prog 202 aar:=aN (aQ (gu.nil _)) (E:=aax) Tryz.func202 [] (by kernel_rfl) none0 fun a key _=>afb a.1 key
def alA:fK:={ fr:=[(0,.slc yP),(1,.fn 202 [] [.ptr 0 0 0]),(7,.int .i64),(8,.int .i64)],tab:=[(0,.var [.str])] }
def anh:List Leaf->(Ex->St->Option R)->Option R
 | [.r r0,.i i7,.i i8,.s key],K=>cond (i7==r0.length) (cond (bW 0 i8) (cond (Nat.ble r0.length uJ)
   (cond (bW 0 (N.iP key ((dS r0).drop i8.toNat) i8)) (K .ret { fr:=[(4,.int .i64 (N.iP key ((dS r0).drop i8.toNat) i8))],tab:=[(0,.var [.str key])] }) (K (.exit 0) { fr:=[],tab:=[(0,.var [.str key])] })) none) none) none
 | _,_=>none
noncomputable def aiA:Env:=env Tryz.prog [(202,aar)] [(2,dO alA anh)] [(2,[(0,[0,1,7,8]),(1,[]),(1000,[4])])]
theorem ani (h:List aW) (key:Bytes):bV aiA 201 ((bg (qw iw) (aT (vFn 202 0))).enc (h,())) ((jr oH).enc key) some =
 cond ((↑(List.length (List.map yE h)):Int)==(↑(List.length (List.map yE h)):Int)) (cond (Nat.ble (List.length (List.map yE h)) 1000000) (cond (bW 0 (N.iP key (List.drop 0 (List.map yD (List.map yE h))) 0)) (some {v:=.int .i64 (N.iP key (List.drop 0 (List.map yD (List.map yE h))) 0),bx:=[[V.str key]]:aJ}) (some {v:=.int .i64 (-1:Int),bx:=[[V.str key]]:aJ})) none) none:=by kernel_rfl
theorem Yp (r0:List (List V)) (i7:Int) (i8:Int) (pU:Bytes) (K:Ex->St->Option R):bI aiA 201 2 { fr:=[(0,.slc yP r0),(1,.fn 202 [] [.ptr 0 0 0 0]),(7,.int .i64 i7),(8,.int .i64 i8)],tab:=[(0,.var [.str pU])] } K =
 cond (aU i8 i7) (cond (decide (0<=i8∧i8<(↑(List.length r0):Int))) (cond (V.toStr (List.getD (List.getD r0 (Int.toNat i8) []) 0 V.undef)==pU) (K .ret {fr:=[(4,.int .i64 i8)],tab:=[(0,.var [V.str pU])]:St}) (K .normal {fr:=[(0,.slc yP r0),(1,.fn 202 [] [V.ptr 0 0 0 0]),(7,.int .i64 i7),(8,.int .i64 (IntKind.wrap .i64 (i8+1)))],tab:=[(0,.var [V.str pU])]:St})) none) (K (.exit 0) {fr:=[],tab:=[(0,.var [V.str pU])]:St}):=by kernel_rfl
theorem alB:bH Tryz.prog 201 (U3 202):=by
 refine aN (aQ ((gu.nil _).cons ach)) (E:=aiA) Tryz.func201 [2] (by kernel_rfl) (one1 (bn rfl fun l K q h=>?_)) fun a key h=>?_
 .unfold anh at h
  split at h
  .rename_i r n i key
   replace h:=RH h;obtain ⟨h1,h2,h3,h⟩:=h
   have e1:=aZ h1
   subst e1
   have h3:r.length<=1000000:=aV h3
   refine dN (E:=aiA) (f:=201) (id:=2) (fun i:Int=>{ fr:=[(0,.slc yP r),(1,.fn 202 [] [.ptr 0 0 0 0]),(7,.int .i64 r.length),(8,.int .i64 i)],tab:=[(0,.var [.str key])] }) (fun i=>0<=i) (fun i=>r.length-i.toNat)
    (fun i8 K=>cond (bW 0 (N.iP key ((dS r).drop i8.toNat) i8)) (K .ret { fr:=[(4,.int .i64 (N.iP key ((dS r).drop i8.toNat) i8))],tab:=[(0,.var [.str key])] }) (K (.exit 0) { fr:=[],tab:=[(0,.var [.str key])] })) (fun i hi=>?_) i (bK h2) K q (by assumption)
   by_cases hl:i<r.length
   .rw [uD (show i.toNat<r.length by omega)]
    have e:N.iP key (rowP (r.getD i.toNat [])::(dS r).drop (i.toNat+1)) i=cond ((rowP (r.getD i.toNat [])).key==key) i (N.iP key ((dS r).drop (i.toNat+1)) (i+1)):=rfl
    rw [e]
    cases hc:(rowP (r.getD i.toNat [])).key==key with
    | true =>
     rw [cond_true,dY hi]
     refine .inr ⟨.ret,_,by simp,fun K=>?_,fun K=>rfl⟩
     rw [Yp]
     unfold rowP at hc
     simp (disch:=omega) only [evs,hc]
    | false =>
     refine .inl ⟨i+1,by omega,by omega,fun K=>?_,fun K=>?_⟩
     .rw [Yp]
      unfold rowP at hc
      simp (disch:=omega) only [evs,hc]
     .rw [cond_false,show (i+1).toNat=i.toNat+1 by omega]
   .refine .inr ⟨.exit 0,{ fr:=[],tab:=[(0,.var [.str key])] },by simp,fun K=>?_,fun K=>?_⟩
    .rw [Yp]
     simp (disch:=omega) only [evs]
    .rw [List.drop_eq_nil_of_le (by rw [mV]; omega)]; rfl
  .cases h
 .obtain ⟨l,u⟩:=a
  have h:l.length<=1000000:=aV h
  refine (ani l key).trans ?_
  show _=some (⟨.int .i64 (N.iP key l 0),[[.str key]],[]⟩:aJ)
  simp (disch:=omega) only [evs,gB,List.drop_zero]
  rcases Ia key l 0 (Int.le_refl _) with e | ⟨e,_⟩
  .rw [e]; rfl
  .rw [dY e]; rfl
noncomputable def akc:Env:=env Tryz.prog [(201,U3 202)] [] []
theorem alC (h:List aW) (key:Bytes):type_of% (by
  have h:bV akc 193 ((bg (qw iw) (aT gy)).enc (h,key)) ([]) some =(
   let z2:=(List.map yE h);let z0:=(List.map yD z2);let z1:=(List.getD z2 (Int.toNat (N.iP key z0 0)) []);cond (Nat.ble (List.length z0) 1000000) (cond (aU (N.iP key z0 0) 0) (some {v:=.jc [V.agg [V.str [],.int .u8 0,.int .i64 0,.str []],.bool false],bx:=[]:aJ}) (cond (decide (0<=N.iP key z0 0∧N.iP key z0 0<(↑(List.length z2):Int))) (some {v:=.jc [V.agg [V.str (V.toStr (z1.getD 0 .undef)),.int .u8 (V.toInt (z1.getD 1 .undef)),.int .i64 (V.toInt (z1.getD 2 .undef)),.str (V.toStr (z1.getD 3 .undef))],.bool true],bx:=[]:aJ}) none)) none):=by kernel_rfl
  dsimp only at h;exact h):=by kernel_rfl
theorem aiB:bH Tryz.prog 193 aj0:=by
 refine aN (aQ ((gu.nil _).cons alB)) (E:=akc) Tryz.func193 [] (by kernel_rfl) none0 fun a _ h=>?_
 obtain ⟨l,key⟩:=a
 have h:l.length<=1000000:=aV h
 refine (alC l key).trans ?_
 show _=some (⟨.jc [.agg [.str (N.find l key).1.key,.int .u8 (N.find l key).1.kind,.int .i64 (N.find l key).1.num,.str (N.find l key).1.text],.bool (N.find l key).2],[],[]⟩:aJ)
 unfold N.find
 simp (disch:=omega) only [evs,gB,ab4]
 rcases Ia key l 0 (Int.le_refl _) with e | ⟨e1,e2⟩
 .rw [e]; rfl
 .simp (disch:=omega) only [evs]
noncomputable def afc:Env:=env Tryz.prog [(112,FP),(193,aj0)] [] []
theorem aiC (p:aW) (l:List aW):type_of% (by
  have h:bV afc 170 ((bg (bJ iw) (aT (qw iw))).enc (p,l)) ([]) some =(
   let z3:=(some {v:=.int .i64 4,bx:=[]:aJ});let z2:=(List.map yD (List.map yE l));let z1:=(cond (Prod.snd (N.find z2 p.key)) (some {v:=.int .i64 9,bx:=[]:aJ}) (some {v:=.int .i64 0,bx:=[]:aJ}));let z0:=(cond (aW.kind p==1) (cond (aW.num p != 0) (cond (aW.num p != 0) z3 z1) (cond (aW.kind p != 1) (cond (!aW.text p==[]) z3 z1) z1)) (cond (aW.kind p != 1) (cond (!aW.text p==[]) z3 z1) z1));cond (N.name p.key != 0) (some {v:=.int .i64 (N.name p.key),bx:=[]:aJ}) (cond (Nat.ble (List.length z2) 1000000) (cond (aU 2 p.kind) (some {v:=.int .i64 8,bx:=[]:aJ}) (cond (aW.kind p==1) (cond (aU 64 (↑(List.length p.text):Int)) (some {v:=.int .i64 5,bx:=[]:aJ}) (cond (aW.kind p==2) (cond (aW.num p != 0) (cond (aW.num p != 1) (some {v:=.int .i64 7,bx:=[]:aJ}) z0) z0) z0)) (cond (aW.kind p==2) (cond (aW.num p != 0) (cond (aW.num p != 1) (some {v:=.int .i64 7,bx:=[]:aJ}) z0) z0) z0))) none)):=by kernel_rfl
  dsimp only at h;exact h):=by kernel_rfl
theorem Vj:bH Tryz.prog 170 H9:=by
 refine aN (aQ (((gu.nil _).cons aiB).cons J6)) (E:=afc) Tryz.func170 [] (by kernel_rfl) none0 fun a _ h=>?_
 obtain ⟨p,l⟩:=a
 have h:l.length<=1000000:=aV h
 refine (aiC p l).trans ?_
 show _=some (⟨.int .i64 (N.jC p l),[],[]⟩:aJ)
 unfold N.jC
 simp (disch:=omega) only [evs,gB,bne]
 cases N.name p.key==0 with
 | false=>rfl
 | true =>
  cases aU 2 p.kind with
  | true=>rfl
  | false =>
   cases h1:p.kind==1<;>cases aU 64 p.text.length<;>cases p.kind==2<;>cases p.num==0<;>cases p.num==1<;>cases p.text==[]<;>cases (N.find l p.key).2<;>rfl
def SK:fK:={ fr:=[(0,.slc yP),(9,.slc yP),(10,.int .i64),(11,.int .i64)],tab:=[] }
def MQ:List Leaf->(Ex->St->Option R)->Option R
 | [.r r0,.r r9,.i i10,.i i11],K=>cond (i10==r9.length) (cond (Nat.beq r0.length r9.length) (cond (bW 0 i11) (cond (Nat.ble r0.length uJ) (cond (N.kZ (dS r0) (dS r9))
   (cond (N.eu (dS r9) (r9.length-i11.toNat) i11 != 0) (K .ret { fr:=[(2,.int .i64 (N.eu (dS r9) (r9.length-i11.toNat) i11))],tab:=[] }) (K (.exit 0) { fr:=[],tab:=[] })) none) none) none) none) none
 | _,_=>none
noncomputable def zq:Env:=env Tryz.prog [(170,H9)] [(4,dO SK MQ)] [(4,[(0,[0,9,10,11]),(1,[]),(1000,[2])])]
theorem Vk (h:List aW):type_of% (by
  have h:bV zq 120 ((aT (qw iw)).enc h) ([]) some =(
   let z0:=(List.map yE h);let z1:=(List.map yD z0);cond (aU 8 (↑(List.length z0):Int)) (some {v:=.int .i64 6,bx:=[]:aJ}) (cond ((↑(List.length z0):Int)==(↑(List.length z0):Int)) (cond (Nat.beq (List.length z0) (List.length z0)) (cond (Nat.ble (List.length z0) 1000000) (cond (N.kZ z1 z1) (cond (N.eu z1 (List.length z0-0) (0 : Int) != 0) (some {v:=.int .i64 (N.eu z1 (List.length z0-0) 0),bx:=[]:aJ}) (some {v:=.int .i64 0,bx:=[]:aJ})) none) none) none) none)):=by kernel_rfl
  dsimp only at h;exact h):=by kernel_rfl
theorem zu (r0:List (List V)) (r9:List (List V)) (i11:Int) (K:Ex->St->Option R):type_of% (by
  have h:bI zq 120 4 { fr:=[(0,.slc yP r0),(9,.slc yP r9),(10,.int .i64 r9.length),(11,.int .i64 i11)],tab:=[] } K =(
   let z0:=(List.map yD (List.drop 0 (List.take (Int.toNat i11) r0)));let z1:=(List.getD r9 (Int.toNat i11) []);cond (aU i11 (↑(List.length r9):Int)) (cond (decide (0<=i11∧i11<(↑(List.length r9):Int))) (cond (decide (0<=i11∧i11<=(↑(List.length r0):Int))) (cond (Nat.ble (List.length z0) 1000000) (cond (N.jC {key:=V.toStr (z1.getD 0 .undef),kind:=V.toInt (z1.getD 1 .undef),num:=V.toInt (z1.getD 2 .undef),text:=V.toStr (z1.getD 3 .undef):aW} z0 != 0) (K .ret {fr:=[(2,.int .i64 (N.jC {key:=V.toStr (z1.getD 0 .undef),kind:=V.toInt (z1.getD 1 .undef),num:=V.toInt (z1.getD 2 .undef),text:=V.toStr (z1.getD 3 .undef):aW} z0))],tab:=[]:St}) (K .normal {fr:=[(0,.slc yP r0),(9,.slc yP r9),(10,.int .i64 (↑(List.length r9):Int)),(11,.int .i64 (IntKind.wrap .i64 (i11+1)))],tab:=[]:St})) none) none) none) (K (.exit 0) {fr:=[],tab:=[]:St})):=by kernel_rfl
  dsimp only at h;exact h):=by kernel_rfl
theorem vY:∀ l,N.kZ l l=true
 | []=>rfl
 | p::l=>by
  unfold N.kZ N.eqP
  rw [vY l]; simp
theorem alD {p q:aW} (h:N.eqP p q=true):p=q:=by
 unfold N.eqP at h
 simp only [Bool.and_eq_true,beq_iff_eq,and_true] at h
 cases p; cases q; simp_all
theorem Ih:∀ {a b:List aW},N.kZ a b=true->a=b
 | [],[],_=>rfl
 | [],_::_,h=>by cases h
 | _::_,[],h=>by cases h
 | p::a,q::b,h=>by
  unfold N.kZ at h
  cases e:N.eqP p q with
  | true=>rw [e,cond_true] at h; rw [alD e,Ih h]
  | false=>rw [e] at h; cases h
theorem FX:bH Tryz.prog 120 uO:=by
 refine aN (aQ ((gu.nil _).cons Vj)) (E:=zq) Tryz.func120 [4] (by kernel_rfl) (one1 (bn rfl fun l K q h=>?_)) fun h _ _=>?_
 .unfold MQ at h
  split at h
  .rename_i r0 r n i
   replace h:=EY h;obtain ⟨h1,h2,h3,h4,h5,h⟩:=h
   have e1:=aZ h1
   subst e1
   have h2:=Nat.eq_of_beq_eq_true h2
   have h4:r0.length<=1000000:=aV h4
   have h5:=Ih h5
   refine dN (E:=zq) (f:=120) (id:=4) (fun i:Int=>{ fr:=[(0,.slc yP r0),(9,.slc yP r),(10,.int .i64 r.length),(11,.int .i64 i)],tab:=[] }) (fun i=>0<=i) (fun i=>r.length-i.toNat)
    (fun i11 K=>cond (N.eu (dS r) (r.length-i11.toNat) i11 != 0) (K .ret { fr:=[(2,.int .i64 (N.eu (dS r) (r.length-i11.toNat) i11))],tab:=[] }) (K (.exit 0) { fr:=[],tab:=[] })) (fun i hi=>?_) i (bK h3) K q (by assumption)
   by_cases hl:i<r.length
   .have e:N.eu (dS r) (r.length-i.toNat) i=cond (N.jC (rowP (r.getD i.toNat [])) ((dS r).take i.toNat) != 0) (N.jC (rowP (r.getD i.toNat [])) ((dS r).take i.toNat)) (N.eu (dS r) (r.length-(i+1).toNat) (i+1)):=by
     rw [show r.length-i.toNat=(r.length-(i+1).toNat)+1 by omega,N.eu,zk]
    rw [e]
    have hm:List.map rowP (List.take i.toNat r0)=(dS r).take i.toNat:=by rw [<- h5,dS,List.map_take]
    unfold rowP at hm
    cases hc:N.jC (rowP (r.getD i.toNat [])) ((dS r).take i.toNat) != 0 with
    | true =>
     rw [cond_true,hc]
     refine .inr ⟨.ret,_,by simp,fun K=>?_,fun K=>rfl⟩
     rw [zu]
     unfold rowP at hc
     simp (disch:=omega) only [evs,hc,hm,List.length_take,List.drop_zero]
     try rfl
    | false =>
     refine .inl ⟨i+1,by omega,by omega,fun K=>?_,fun K=>?_⟩
     .rw [zu]
      unfold rowP at hc
      simp (disch:=omega) only [evs,hc,hm,List.length_take,List.drop_zero]
     .rw [cond_false]
   .refine .inr ⟨.exit 0,{ fr:=[],tab:=[] },by simp,fun K=>?_,fun K=>?_⟩
    .rw [zu]
     simp (disch:=omega) only [evs]
    .rw [show r.length-i.toNat=0 by omega]; rfl
  .cases h
 .refine (Vk h).trans ?_
  show _=some (⟨.int .i64 (N.cZ h),[],[]⟩:aJ)
  unfold N.cZ
  by_cases hl:8<h.length
  .simp (disch:=omega) only [evs]
  .simp (disch:=omega) only [evs,gB,vY,Nat.sub_zero]
   cases hc:N.eu h h.length 0 != 0 with
   | true=>rfl
   | false =>
    have:N.eu h h.length 0=0:=by simpa using hc
    rw [this]; rfl
def SL:fK:={ fr:=[(5,.ptr 10000 0 0),(18,.slc yP),(19,.int .i64),(20,.int .i64)],tab:=[(10000,.var [.str,.int .i64])] }
def MR:List Leaf->(Ex->St->Option R)->Option R
 | [.r r,.i n,.i i,.s s,.i e],K=>cond (n==r.length) (cond (e==0) (cond (bW 0 i) (cond (Nat.ble r.length 8) (cond ((dS r).all N.Ec) (cond (bW s.length (1+150*i))
   (K (.exit 0) { fr:=[(5,.ptr 10000 0 0 0)],tab:=[(10000,.var [.str (s++N.lS ((dS r).drop i.toNat)),.int .i64 0])] }) none) none) none) none) none) none
 | _,_=>none
noncomputable def zx:Env:=env Tryz.prog [(120,uO),(95,fP),(96,AO),(103,rF)] [(6,dO SL MR)] [(6,[(0,[5,18,19,20]),(1,[5]),(1000,[2,3])])]
theorem Vl (h:List aW):type_of% (by
  have h:bV zx 163 ((aT (qw iw)).enc h) ([]) some =(
   let z0:=(List.map yE h);let z1:=(List.map yD z0);let z2:=(↑(List.length z0):Int);cond (N.cZ z1 != 0) (some {v:=.jc [V.str [],.int .i64 (N.cZ z1)],bx:=[]:aJ}) (cond (bif aU (IntKind.wrap .u64 z2) 18446744073709551616 then true else false) (cond (z2==z2) (cond (Nat.ble (List.length z0) 8) (cond (List.all z1 N.Ec) (some {v:=.jc [V.str (gV.s (N.iO {s:=[],err:=0:gV} (IntKind.wrap .u64 z2) 1)++N.lS (List.drop 0 z1)),.int .i64 0],bx:=[]:aJ}) none) none) none) none)):=by kernel_rfl
  dsimp only at h;exact h):=by kernel_rfl
theorem FY (r:List (List V)) (i:Int) (s:Bytes) (K:Ex->St->Option R):type_of% (by
  have h:bI zx 163 6 { fr:=[(5,.ptr 10000 0 0 0),(18,.slc yP r),(19,.int .i64 r.length),(20,.int .i64 i)],tab:=[(10000,.var [.str s,.int .i64 0])] } K =(
   let z2:=(List.getD r (Int.toNat i) []);let z8:=(N.jO {s:=s,err:=0:gV} (V.toStr (z2.getD 0 .undef)));let z6:=(z2.getD 1 .undef);let z9:=(IntKind.wrap .u64 (V.toInt z6));let z0:=(N.iO z8 z9 1);let z1:=(IntKind.wrap .u64 (V.toInt (z2.getD 2 .undef)));let z3:=(bif bW 0 z1 then bif aU z1 18446744073709551616 then Nat.ble (List.length (gV.s z0)) 9223372036854775799 else false else false);let z4:=(↑(List.length r):Int);let z5:=(IntKind.wrap .i64 (i+1));let z7:=(V.toStr (z2.getD 3 .undef));cond (aU i z4) (cond (decide (0<=i∧i<z4)) (cond (Nat.ble (List.length s+List.length (V.toStr (z2.getD 0 .undef))) 9223372036854775790) (cond (bif bW 0 z9 then bif aU z9 18446744073709551616 then Nat.ble (List.length (gV.s z8)) 9223372036854775799 else false else false) (cond (V.toInt z6==0) (cond z3 (K .normal {fr:=[(5,.ptr 10000 0 0 0),(18,.slc yP r),(19,.int .i64 z4),(20,.int .i64 z5)],tab:=[(10000,.var [V.str (gV.s (N.iO z0 z1 8)),.int .i64 (gV.err (N.iO z0 z1 8))])]:St}) none) (cond (V.toInt z6==1) (cond (Nat.ble (List.length (gV.s z0)+List.length z7) 9223372036854775790) (K .normal {fr:=[(5,.ptr 10000 0 0 0),(18,.slc yP r),(19,.int .i64 z4),(20,.int .i64 z5)],tab:=[(10000,.var [V.str (gV.s (N.jO z0 z7)),.int .i64 (gV.err (N.jO z0 z7))])]:St}) none) (cond (V.toInt z6==2) (cond z3 (K .normal {fr:=[(5,.ptr 10000 0 0 0),(18,.slc yP r),(19,.int .i64 z4),(20,.int .i64 z5)],tab:=[(10000,.var [V.str (gV.s (N.iO z0 z1 1)),.int .i64 (gV.err (N.iO z0 z1 1))])]:St}) none) (K .normal {fr:=[(5,.ptr 10000 0 0 0),(18,.slc yP r),(19,.int .i64 z4),(20,.int .i64 z5)],tab:=[(10000,.var [V.str (gV.s z0),.int .i64 (gV.err z0)])]:St})))) none) none) none) (K (.exit 0) {fr:=[(5,.ptr 10000 0 0 0)],tab:=[(10000,.var [V.str s,.int .i64 0])]:St})):=by kernel_rfl
  dsimp only at h;exact h):=by kernel_rfl
theorem aci {p : aW} {l : List aW} (h : N.jC p l = 0) : N.Ec p = true := by
  unfold N.jC at h
  cases h1 : N.name p.key != 0 with
  | true => rw [h1, cond_true] at h; rw [h] at h1; cases h1
  | false =>
    have hk : p.key.length <= 16 := by
      unfold N.name at h1
      cases e1 : p.key == [] with
      | true => rw [e1] at h1; cases h1
      | false =>
        rw [e1] at h1
        cases e2 : aU 16 p.key.length with
        | true => rw [e2] at h1; cases h1
        | false => have := dP e2; omega
    rw [h1] at h
    simp only [cond_false, bne] at h
    have ht : p.text.length <= 64 := by
      cases h2 : aU 2 p.kind with
      | true => rw [h2] at h; cases h
      | false =>
        rw [h2] at h
        cases e1 : p.kind == 1 with
        | true =>
          rw [e1] at h
          cases e2 : aU 64 p.text.length with
          | true => rw [e2] at h; cases h
          | false => have := dP e2; omega
        | false =>
          rw [e1] at h
          cases e2 : p.text == [] with
          | true => have : p.text = [] := by simpa using e2
                    rw [this]; exact Nat.zero_le _
          | false =>
            rw [e2] at h
            simp only [cond_false, cond_true, Bool.not_false] at h
            revert h
            cases (cond (cond (p.kind == 2) (!p.num == 0) false) (!p.num == 1) false) <;> intro h <;> cases h
    show cond (Nat.ble p.key.length 64) (Nat.ble p.text.length 64) false = true
    rw [fA (by omega), fA ht]; rfl
theorem Dx (h:List aW):∀ (f:Nat) (i:Int),0<=i->N.eu h f i=0->∀ j:Nat,i<=j->(j:Int)<i+f->N.Ec (h.getD j jM)=true
 | 0,i,_,_,j,h1,h2=>by omega
 | f+1,i,h0,hc,j,h1,h2=>by
  unfold N.eu at hc
  cases e:N.jC (h.getD i.toNat jM) (h.take i.toNat) != 0 with
  | true=>rw [e,cond_true] at hc; rw [hc] at e; cases e
  | false =>
   rw [e] at hc
   by_cases hj:(j:Int)=i
   .have:j=i.toNat:=by omega
    rw [this]; exact aci (by simpa using e)
   .exact Dx h f (i+1) (by omega) hc j (by omega) (by omega)
theorem Ii {h:List aW} (hz:N.cZ h=0):h.length<=8∧h.all N.Ec=true:=by
 unfold N.cZ at hz
 cases e:aU 8 h.length with
 | true=>rw [e] at hz; cases hz
 | false =>
  have e':=dP e
  rw [e] at hz
  refine ⟨by omega,List.all_eq_true.2 fun p hp=>?_⟩
  obtain ⟨j,hj,rfl⟩:=List.getElem_of_mem hp
  have:=Dx h h.length 0 (Int.le_refl _) hz j (by omega) (by omega)
  rwa [List.getD_eq_getElem?_getD,List.getElem?_eq_getElem hj] at this
theorem wu64 (x:Int):0<=IntKind.wrap .u64 x∧IntKind.wrap .u64 x<18446744073709551616:=by
 simp only [IntKind.wrap,IntKind.signed,IntKind.bits]
 simp
 omega
theorem dU (n:Int):∀ k,(N.bQ n k).length=k
 | 0=>rfl
 | k+1=>by simp [N.bQ,dU n k]
theorem jP (s:Bytes):(N.dD s).length=2+s.length:=by unfold N.dD; rw [List.length_append,dU]
theorem zy {x s:Bytes} (h:s.length<=65535):N.jO ⟨x,0⟩ s=⟨x++N.dD s,0⟩:=by
 unfold N.jO
 rw [gZ (by omega)]
 show (⟨x++N.bQ s.length 2++s,0⟩:gV)=_
 unfold N.dD; rw [List.append_assoc]
theorem sK (x:Bytes) (n:Int):N.iO ⟨x,0⟩ n 1=⟨x++N.bQ n 1,0⟩:=rfl
theorem AX (x:Bytes) (n:Int):N.iO ⟨x,0⟩ n 8=⟨x++N.bQ n 8,0⟩:=rfl
theorem FZ (hN:bH Tryz.prog 95 fP):bH Tryz.prog 163 Ed:=by
 refine aN (aQ (((((gu.nil _).cons qF).cons (zo hN)).cons hN).cons FX)) (E:=zx) Tryz.func163 [6] (by kernel_rfl) (one1 (bn rfl fun l K q h=>?_)) fun h _ _=>?_
 .unfold MR at h
  split at h
  .rename_i r n i s e
   replace h:=cN6 h;obtain ⟨h1,h2,h3,h4,h5,h6,h⟩:=h
   have e1:=aZ h1
   have e2:=aZ h2
   subst e1 e2
   have h4:r.length<=8:=aV h4
   refine dN (E:=zx) (f:=163) (id:=6) (σ:=Int × Bytes) (fun x=>{ fr:=[(5,.ptr 10000 0 0 0),(18,.slc yP r),(19,.int .i64 r.length),(20,.int .i64 x.1)],tab:=[(10000,.var [.str x.2,.int .i64 0])] })
    (fun x=>0<=x.1∧(x.2.length:Int)<=1+150*x.1) (fun x=>r.length-x.1.toNat)
    (fun x K=>K (.exit 0) { fr:=[(5,.ptr 10000 0 0 0)],tab:=[(10000,.var [.str (x.2++N.lS ((dS r).drop x.1.toNat)),.int .i64 0])] }) ?_ (i,s) ⟨bK h3,bK h6⟩ K q (by assumption)
   rintro ⟨i,s⟩ ⟨hi,hs⟩
   simp only at hi hs ⊢
   by_cases hl:i<r.length
   .have hlt:i.toNat<r.length:=by omega
    have hfit:N.Ec (rowP (r.getD i.toNat []))=true:=List.all_eq_true.1 h5 _ (by
     rw [List.getD_eq_getElem?_getD,List.getElem?_eq_getElem hlt]; exact List.mem_map_of_mem (List.getElem_mem _))
    obtain ⟨f1,f2⟩:=aX hfit
    have f1:(V.toStr (List.getD (List.getD r i.toNat []) 0 V.undef)).length<=64:=aV f1
    have f2:(V.toStr (List.getD (List.getD r i.toNat []) 3 V.undef)).length<=64:=aV f2
    have u1:=wu64 (V.toInt (List.getD (List.getD r i.toNat []) 1 V.undef))
    have u2:=wu64 (V.toInt (List.getD (List.getD r i.toNat []) 2 V.undef))
    have o1:N.jO ⟨s,0⟩ (V.toStr (List.getD (List.getD r i.toNat []) 0 V.undef))=⟨s++N.dD (V.toStr (List.getD (List.getD r i.toNat []) 0 V.undef)),0⟩:=zy (by omega)
    have o2:∀ x:Bytes,N.jO ⟨x,0⟩ (V.toStr (List.getD (List.getD r i.toNat []) 3 V.undef))=⟨x++N.dD (V.toStr (List.getD (List.getD r i.toNat []) 3 V.undef)),0⟩:=fun x=>zy (by omega)
    rw [uD hlt]
    have e:N.lS (rowP (r.getD i.toNat [])::(dS r).drop (i.toNat+1))=N.uN (rowP (r.getD i.toNat []))++N.lS ((dS r).drop (i.toNat+1)):=rfl
    rw [e,<- List.append_assoc]
    have hlen:(N.uN (rowP (r.getD i.toNat []))).length<=150:=by
     unfold N.uN rowP
     simp only [List.length_append,jP,dU]
     cases V.toInt (List.getD (List.getD r i.toNat []) 1 V.undef)==0<;>cases V.toInt (List.getD (List.getD r i.toNat []) 1 V.undef)==1<;>cases V.toInt (List.getD (List.getD r i.toNat []) 1 V.undef)==2<;>simp only [cond_true,cond_false,dU,jP,List.length_nil]<;>omega
    refine .inl ⟨(i+1,s++N.uN (rowP (r.getD i.toNat []))),⟨by simp only; omega,by simp only [List.length_append]; omega⟩,by simp only; omega,fun K=>?_,fun K=>?_⟩
    .rw [FY]
     unfold N.uN rowP
     simp (disch:=omega) only [evs,o1,o2,sK,AX,jP,dU,<- List.append_assoc]
     cases V.toInt (List.getD (List.getD r i.toNat []) 1 V.undef)==0<;>cases V.toInt (List.getD (List.getD r i.toNat []) 1 V.undef)==1<;>cases V.toInt (List.getD (List.getD r i.toNat []) 1 V.undef)==2<;>simp only [cond_true,cond_false,List.append_nil]
    .rw [show (i+1).toNat=i.toNat+1 by omega]
   .refine .inr ⟨.exit 0,{ fr:=[(5,.ptr 10000 0 0 0)],tab:=[(10000,.var [.str s,.int .i64 0])] },by simp,fun K=>?_,fun K=>?_⟩
    .rw [FY]
     simp (disch:=omega) only [evs]
    .rw [List.drop_eq_nil_of_le (by rw [mV]; omega)]
     show K _ { fr:=_,tab:=[(10000,.var [.str (s++[]),.int .i64 0])] }=_
     rw [List.append_nil]
  .cases h
 .refine (Vl h).trans ?_
  show _=some (⟨.jc [.str (cond (N.cZ h != 0) (([]:Bytes),N.cZ h) (N.iU h,0)).1,.int .i64 (cond (N.cZ h != 0) (([]:Bytes),N.cZ h) (N.iU h,0)).2],[],[]⟩:aJ)
  cases hc:N.cZ h != 0 with
  | true =>
   simp (disch:=omega) only [evs,gB,hc]
  | false =>
   have hz:N.cZ h=0:=by simpa using hc
   obtain ⟨c1,c2⟩:=Ii hz
   have u:=wu64 (h.length:Int)
   have ul:IntKind.wrap .u64 (h.length:Int)=h.length:=wrap_u64 (by omega) (by omega)
   simp (disch:=omega) only [evs,gB,hc,ul,sK,c2,List.drop_zero,List.nil_append]
   try rfl
end Go.Ev

namespace Go.Ev
open Go Go.Proofs
set_option maxRecDepth 100000
noncomputable def aay:Env:=env Tryz.prog [(74,Sr),(78,FK),(146,alf)] [] []
theorem afd (i:dw) (n:Int):bV aay 147 ((bg (jL 0) (aT (dA .i64))).enc ((),n)) ((jr GZ).enc i) some =
 cond (aU n (IntKind.wrap .i64 (Prod.fst (N.ay i 2)))) (some {v:=.str (Prod.fst (N.jB (N.bP (Prod.snd (N.ay i 2)) 5) (IntKind.wrap .i64 (Prod.fst (N.ay i 2))))),bx:=[[V.str (dw.s (Prod.snd (N.jB (N.bP (Prod.snd (N.ay i 2)) 5) (IntKind.wrap .i64 (Prod.fst (N.ay i 2)))))),.int .i64 (dw.err (Prod.snd (N.jB (N.bP (Prod.snd (N.ay i 2)) 5) (IntKind.wrap .i64 (Prod.fst (N.ay i 2))))))]]:aJ}) (some {v:=.str (Prod.fst (N.jB (Prod.snd (N.ay i 2)) (IntKind.wrap .i64 (Prod.fst (N.ay i 2))))),bx:=[[V.str (dw.s (Prod.snd (N.jB (Prod.snd (N.ay i 2)) (IntKind.wrap .i64 (Prod.fst (N.ay i 2)))))),.int .i64 (dw.err (Prod.snd (N.jB (Prod.snd (N.ay i 2)) (IntKind.wrap .i64 (Prod.fst (N.ay i 2))))))]]:aJ}):=by kernel_rfl
theorem Ij:bH Tryz.prog 147 J5:=by
 refine aN (aQ ((((gu.nil _).cons ae7).cons vX).cons AV)) (E:=aay) Tryz.func147 [] (by kernel_rfl) none0 fun a i _=>?_
 refine (afd i a.2).trans ?_
 show _=some (⟨.str (N.bM i a.2).1,[[.str (N.bM i a.2).2.s,.int .i64 (N.bM i a.2).2.err]],[]⟩:aJ)
 unfold N.bM
 cases aU a.2 (IntKind.wrap .i64 (N.ay i 2).1)<;>rfl
noncomputable def SN:Env:=env Tryz.prog [] [] []
theorem aiD (i:dw):bV SN 75 ((aT (jL 0)).enc ()) ((jr GZ).enc i) some =
 some {v:=.int .i64 i.err,bx:=[[V.str i.s,.int .i64 i.err]]:aJ}:=by kernel_rfl
theorem xY:bH Tryz.prog 75 Ee:=aN (aQ (gu.nil _)) (E:=SN) Tryz.func75 [] (by kernel_rfl) none0 fun _ i _=>aiD i
theorem afe (i:dw):bV SN 150 ((aT (jL 0)).enc ()) ((jr GZ).enc i) some =
 some {v:=.int .i64 (↑(List.length i.s):Int),bx:=[[V.str i.s,.int .i64 i.err]]:aJ}:=by kernel_rfl
theorem acj:bH Tryz.prog 150 aas:=aN (aQ (gu.nil _)) (E:=SN) Tryz.func150 [] (by kernel_rfl) none0 fun _ i _=>afe i
noncomputable def aff:Env:=env Tryz.prog [(75,Ee),(150,aas)] [] []
theorem aiE (i:dw):bV aff 79 ((aT (jL 0)).enc ()) ((jr GZ).enc i) some =
 cond (dw.err i==0) (cond (aU 0 (N.Yd i)) (some {v:=.int .i64 4,bx:=[[V.str i.s,.int .i64 i.err]]:aJ}) (some {v:=.int .i64 i.err,bx:=[[V.str i.s,.int .i64 i.err]]:aJ})) (some {v:=.int .i64 i.err,bx:=[[V.str i.s,.int .i64 i.err]]:aJ}):=by kernel_rfl
theorem afg:bH Tryz.prog 79 aeG:=by
 refine aN (aQ (((gu.nil _).cons acj).cons xY)) (E:=aff) Tryz.func79 [] (by kernel_rfl) none0 fun _ i _=>?_
 refine (aiE i).trans ?_
 show _=some (⟨.int .i64 (cond (i.err==0) (cond (aU 0 i.s.length) 4 0) i.err),[[.str i.s,.int .i64 i.err]],[]⟩:aJ)
 unfold N.Yd
 cases h:i.err==0 with
 | false=>rfl
 | true =>
  have:i.err=0:=by simpa using h
  rw [this]
  cases aU 0 (i.s.length:Int)<;>rfl
noncomputable def anj:Env:=env Tryz.prog [(147,J5),(74,Sr),(78,FK)] [] []
theorem ank (i:dw):type_of% (by
  have h:bV anj 197 ((aT (jL 0)).enc ()) ((jr GZ).enc i) some =(
   let z0:=(N.ay (Prod.snd (N.bM i 16)) 1);let z1:=(Prod.fst (N.bM i 16));let z2:=(IntKind.wrap .u8 z0.1);let z3:=(N.bM z0.2 64);let z4:=(N.ay z0.2 8);let z5:=(N.ay z0.2 1);cond (IntKind.wrap .u8 z0.1==0) (some {v:=.agg [V.str z1,.int .u8 z2,.int .i64 (IntKind.wrap .i64 z4.1),.str []],bx:=[[V.str (dw.s z4.2),.int .i64 (dw.err z4.2)]]:aJ}) (cond (IntKind.wrap .u8 z0.1==1) (some {v:=.agg [V.str z1,.int .u8 z2,.int .i64 0,.str z3.1],bx:=[[V.str (dw.s z3.2),.int .i64 (dw.err z3.2)]]:aJ}) (cond (IntKind.wrap .u8 z0.1==2) (some {v:=.agg [V.str z1,.int .u8 z2,.int .i64 (IntKind.wrap .i64 z5.1),.str []],bx:=[[V.str (dw.s z5.2),.int .i64 (dw.err z5.2)]]:aJ}) (some {v:=.agg [V.str z1,.int .u8 z2,.int .i64 0,.str []],bx:=[[V.str (dw.s (N.bP z0.2 8)),.int .i64 (dw.err (N.bP z0.2 8))]]:aJ})))):=by kernel_rfl
  dsimp only at h;exact h):=by kernel_rfl
theorem ok_one:bH Tryz.prog 197 amY:=by
 refine aN (aQ ((((gu.nil _).cons vX).cons AV).cons Ij)) (E:=anj) Tryz.func197 [] (by kernel_rfl) none0 fun _ i _=>?_
 refine (ank i).trans ?_
 show _=some (⟨.agg [.str (N.one i).1.key,.int .u8 (N.one i).1.kind,.int .i64 (N.one i).1.num,.str (N.one i).1.text],[[.str (N.one i).2.s,.int .i64 (N.one i).2.err]],[]⟩:aJ)
 unfold N.one N.oneOf
 cases IntKind.wrap .u8 (N.ay (N.bM i 16).2 1).1==0<;>cases IntKind.wrap .u8 (N.ay (N.bM i 16).2 1).1==1<;>cases IntKind.wrap .u8 (N.ay (N.bM i 16).2 1).1==2<;>rfl
theorem Yq {α:Type} (l:List α) (i n:Nat):(l.take (i+n)).drop i=(l.drop i).take n:=by rw [List.drop_take,Nat.add_sub_cancel_left]
noncomputable def afh:Env:=env Tryz.prog [] [] []
theorem aiF (q:bY) (n:Int):bV afh 154 ((bg (jL 0) (aT (dA .i64))).enc ((),n)) ((jr wZ).enc q) some =
 cond (bY.code q==0) (some {v:=.jc [],bx:=[[V.str (bY.s q),.int .i64 (bY.at' q),.int .i64 n]]:aJ}) (some {v:=.jc [],bx:=[[V.str (bY.s q),.int .i64 (bY.at' q),.int .i64 (bY.code q)]]:aJ}):=by kernel_rfl
theorem AY:bH Tryz.prog 154 Ib:=by
 refine aN (aQ (gu.nil _)) (E:=afh) Tryz.func154 [] (by kernel_rfl) none0 fun a q _=>?_
 refine (aiF q a.2).trans ?_
 show _=some (⟨.jc [],[[.str (N.fF q a.2).s,.int .i64 (N.fF q a.2).at',.int .i64 (N.fF q a.2).code]],[]⟩:aJ)
 unfold N.fF
 cases q.code==0<;>rfl
theorem afi {q:bY} (h:N.bU q=true):0<=q.at'∧q.at'<=q.s.length∧q.s.length<=1000000:=by
 obtain ⟨h1,h⟩:=aX h
 obtain ⟨h2,h3⟩:=aX h
 exact ⟨bK h1,bK h2,aV h3⟩
noncomputable def afj:Env:=env Tryz.prog [(154,Ib)] [] []
theorem alE (q:bY) (n:Int):bV afj 151 ((bg (jL 0) (aT (dA .i64))).enc ((),n)) ((jr wZ).enc q) some =
 cond (bY.code q != 0) (some {v:=.str [],bx:=[[V.str (bY.s q),.int .i64 (bY.at' q),.int .i64 (bY.code q)]]:aJ}) (cond (bW n 0) (some {v:=.str [],bx:=[[V.str (bY.s q),.int .i64 (bY.at' q),.int .i64 (bY.code q)]]:aJ}) (cond (aU (IntKind.wrap .i64 ((↑(List.length (bY.s q)):Int)-bY.at' q)) n) (some {v:=.str [],bx:=[[V.str (bY.s (N.fF q 3)),.int .i64 (bY.at' (N.fF q 3)),.int .i64 (bY.code (N.fF q 3))]]:aJ}) (cond (decide (0<=IntKind.wrap .i64 (bY.at' q+n)∧IntKind.wrap .i64 (bY.at' q+n)<=(↑(List.length (bY.s q)):Int))) (cond (decide (0<=IntKind.wrap .i64 (IntKind.wrap .i64 (bY.at' q+n)-n)∧IntKind.wrap .i64 (IntKind.wrap .i64 (bY.at' q+n)-n)<=(↑(Int.toNat (IntKind.wrap .i64 (bY.at' q+n))):Int))) (some {v:=.str (List.drop (Int.toNat (IntKind.wrap .i64 (IntKind.wrap .i64 (bY.at' q+n)-n))) (List.take (Int.toNat (IntKind.wrap .i64 (bY.at' q+n))) (bY.s q))),bx:=[[V.str (bY.s q),.int .i64 (IntKind.wrap .i64 (bY.at' q+n)),.int .i64 (bY.code q)]]:aJ}) none) none))):=by kernel_rfl
theorem aaz:bH Tryz.prog 151 aeH:=by
 refine aN (aQ ((gu.nil _).cons AY)) (E:=afj) Tryz.func151 [] (by kernel_rfl) none0 fun a q h=>?_
 obtain ⟨h1,h2,h3⟩:=afi h
 refine (alE q a.2).trans ?_
 show _=some (⟨.str (N.oZ q a.2).1,[[.str (N.oZ q a.2).2.s,.int .i64 (N.oZ q a.2).2.at',.int .i64 (N.oZ q a.2).2.code]],[]⟩:aJ)
 unfold N.oZ
 simp (disch:=omega) only [evs,bne]
 cases e1:q.code==0 with
 | false=>rfl
 | true =>
  by_cases e2:a.2<=0
  .simp (disch:=omega) only [evs]
   try rfl
  .by_cases e3:q.s.length-q.at' < a.2
   .simp (disch:=omega) only [evs]
    try rfl
   .simp (disch:=omega) only [evs]
    rw [show q.at' + a.2-a.2=q.at' by omega,show (q.at' + a.2).toNat=q.at'.toNat+a.2.toNat by omega,Yq]
    try rfl
end Go.Ev

namespace Go.Ev
open Go Go.Proofs
set_option maxRecDepth 100000
namespace N
def hl:Nat->dw->List (List V)->Bool × List (List V) × dw
 | 0,i,rows=>(true,rows,i)
 | k+1,i,rows=>cond ((bad (one i).1 (dS rows) (one i).2).err != 0) (false,[],bad (one i).1 (dS rows) (one i).2) (hl k (bad (one i).1 (dS rows) (one i).2) (rows++[iw.enc (one i).1]))
def Vm:Nat->bY->List (List V)->List (List V) × bY
 | 0,q,rows=>(rows,q)
 | k+1,q,rows=>cond (q.code==0) (Vm k (MB (xW q).1 (dS rows) (xW q).2) (rows++[iw.enc (xW q).1])) (rows,q)
end N
def Vo:fK:={ fr:=[(0,.ptr 0 0 0),(4,.own 10000),(13,.int .i64),(14,.int .i64)],tab:=[(0,.var [.str,.int .i64]),(10000,.sl yP)] }
def Qe:List Leaf->(Ex->St->Option R)->Option R
 | [.i n,.i j,.s s,.i e,.r rows],K=>cond (bW 0 j) (cond (bW n 300) (cond (Nat.ble (rows.length+(n-j).toNat) uJ) (cond (N.hl (n-j).toNat ⟨s,e⟩ rows).1
   (K (.exit 0) { fr:=[(4,.own 10000 0)],tab:=[(0,.var [.str (N.hl (n-j).toNat ⟨s,e⟩ rows).2.2.s,.int .i64 (N.hl (n-j).toNat ⟨s,e⟩ rows).2.2.err]),(10000,.sl yP (N.hl (n-j).toNat ⟨s,e⟩ rows).2.1 0)] })
   (K .ret { fr:=[(2,.own 10000 0)],tab:=[(0,.var [.str (N.hl (n-j).toNat ⟨s,e⟩ rows).2.2.s,.int .i64 (N.hl (n-j).toNat ⟨s,e⟩ rows).2.2.err]),(10000,.sl yP [] 0)] })) none) none) none
 | _,_=>none
noncomputable def CX:Env:=env Tryz.prog [(74,Sr),(78,FK),(75,Ee),(197,amY),(170,H9)] [(6,dO Vo Qe)] [(6,[(0,[0,4,13,14]),(1,[4]),(1000,[2])])]
theorem Yr (i:dw):type_of% (by
  have h:bV CX 185 (((aT (jL 0)).enc ())) (((jr GZ).enc i)) some =(
   let z3:=(Prod.fst (N.ay i 1));let z0:=(Int.toNat (IntKind.wrap .i64 z3-0));let z1:=(Prod.snd (N.ay i 1));let z2:=(Prod.snd (N.hl z0 (N.bP z1 6) []));let z4:=(Prod.snd (Prod.snd (N.hl z0 z1 [])));let z5:=(Nat.ble (0+Int.toNat (IntKind.wrap .i64 z3-0)) 1000000);cond (aU 8 (IntKind.wrap .i64 z3)) (cond (bW (IntKind.wrap .i64 z3) 300) (cond z5 (cond (Prod.fst (N.hl z0 (N.bP z1 6) [])) (some {v:=.slc yP z2.1,bx:=[[V.str (dw.s z2.2),.int .i64 (dw.err z2.2)]]:aJ}) (some {v:=.slc yP [],bx:=[[V.str (dw.s z2.2),.int .i64 (dw.err z2.2)]]:aJ})) none) none) (cond (bW (IntKind.wrap .i64 z3) 300) (cond z5 (cond (Prod.fst (N.hl z0 z1 [])) (some {v:=.slc yP (Prod.fst (Prod.snd (N.hl z0 z1 []))),bx:=[[V.str z4.s,.int .i64 z4.err]]:aJ}) (some {v:=.slc yP [],bx:=[[V.str z4.s,.int .i64 z4.err]]:aJ})) none) none)):=by kernel_rfl
  dsimp only at h;exact h):=by kernel_rfl
theorem AZ (i13:Int) (i14:Int) (pU:Bytes) (l7:Int) (mG:List (List V)) (K:Ex->St->Option R):type_of% (by
  have h:bI CX 185 6 { fr:=[(0,.ptr 0 0 0 0),(4,.own 10000 0),(13,.int .i64 i13),(14,.int .i64 i14)],tab:=[(0,.var [.str pU,.int .i64 l7]),(10000,.sl yP mG 0)] } K =(
   let z1:=(N.one {s:=pU,err:=l7:dw});let z3:=(List.map yD mG);let z0:=(N.bP z1.2 (N.jC z1.1 z3));let z2:=(mG++[[V.str (aW.key z1.1),.int .u8 (aW.kind z1.1),.int .i64 (aW.num z1.1),.str (aW.text z1.1)]]);cond (aU i14 i13) (cond (dw.err z1.2==0) (cond (Nat.ble (List.length z3) 1000000) (cond (dw.err z0 != 0) (K .ret {fr:=[(2,.own 10000 0)],tab:=[(0,.var [V.str z0.s,.int .i64 z0.err]),(10000,.sl yP [] 0)]:St}) (cond (decide ((List.length mG+1)*48<=140737488355328)) (K .normal {fr:=[(0,.ptr 0 0 0 0),(4,.own 10000 0),(13,.int .i64 i13),(14,.int .i64 (IntKind.wrap .i64 (i14+1)))],tab:=[(0,.var [V.str z0.s,.int .i64 z0.err]),(10000,.sl yP z2 0)]:St}) none)) none) (cond (dw.err z1.2 != 0) (K .ret {fr:=[(2,.own 10000 0)],tab:=[(0,.var [V.str (dw.s z1.2),.int .i64 (dw.err z1.2)]),(10000,.sl yP [] 0)]:St}) (cond (decide ((List.length mG+1)*48<=140737488355328)) (K .normal {fr:=[(0,.ptr 0 0 0 0),(4,.own 10000 0),(13,.int .i64 i13),(14,.int .i64 (IntKind.wrap .i64 (i14+1)))],tab:=[(0,.var [V.str (dw.s z1.2),.int .i64 (dw.err z1.2)]),(10000,.sl yP z2 0)]:St}) none))) (K (.exit 0) {fr:=[(4,.own 10000 0)],tab:=[(0,.var [V.str pU,.int .i64 l7]),(10000,.sl yP mG 0)]:St})):=by kernel_rfl
  dsimp only at h;exact h):=by kernel_rfl
theorem Yt:∀ (k:Nat) (i:dw) (l:List aW),(N.hl k i (l.map iw.enc)).2=((N.jh k i l).1.map iw.enc,(N.jh k i l).2)
 | 0,_,_=>rfl
 | k+1,i,l=>by
  unfold N.hl N.jh
  rw [xU]
  cases (N.bad (N.one i).1 l (N.one i).2).err != 0 with
  | true=>rfl
  | false =>
   have:=Yt k (N.bad (N.one i).1 l (N.one i).2) (l++[(N.one i).1])
   rw [List.map_append] at this
   exact this
theorem SQ:∀ (k:Nat) (i:dw) (rows:List (List V)),(N.hl k i rows).1=false->(N.hl k i rows).2.1=[]
 | 0,_,_,h=>by cases h
 | k+1,i,rows,h=>by
  unfold N.hl at h ⊢
  cases hc:(N.bad (N.one i).1 (dS rows) (N.one i).2).err != 0 with
  | true=>rfl
  | false=>rw [hc] at h; exact SQ k _ _ h
theorem tC (i:dw):0<=(N.ay i 1).1∧(N.ay i 1).1<256:=by
 have h:=N.CQ i (bif aU 8 1 then (8:Int) else 1) 1 (Int.le_refl 1)
 unfold N.ay
 revert h
 cases (N.jB i (bif aU 8 1 then (8:Int) else 1)).1 with
 | nil=>intro _; exact ⟨Int.le_refl 0,(by decide:(0:Int)<256)⟩
 | cons c r =>
  intro h
  cases r with
  | nil =>
   have:=c.toNat_lt
   show 0<=(0*256+(c.toNat:Int))∧(0*256+(c.toNat:Int))<256
   omega
  | cons _ _=>simp at h
theorem Vp:bH Tryz.prog 185 Qa:=by
 refine aN (aQ ((((((gu.nil _).cons Vj).cons ok_one).cons xY).cons vX).cons AV)) (E:=CX) Tryz.func185 [6] (by kernel_rfl) (one1 (bn rfl fun l K q h=>?_)) fun _ i _=>?_
 .unfold Qe at h
  split at h
  .rename_i n j s e rows
   replace h:=RH h;obtain ⟨h1,h2,h3,h⟩:=h
   have h2:=bK h2
   have h3:rows.length+(n-j).toNat<=1000000:=aV h3
   refine dN (E:=CX) (f:=185) (id:=6) (σ:=Int × dw × List (List V)) (fun x=>{ fr:=[(0,.ptr 0 0 0 0),(4,.own 10000 0),(13,.int .i64 n),(14,.int .i64 x.1)],tab:=[(0,.var [.str x.2.1.s,.int .i64 x.2.1.err]),(10000,.sl yP x.2.2 0)] })
    (fun x=>0<=x.1∧x.2.2.length+(n-x.1).toNat<=1000000) (fun x=>(n-x.1).toNat)
    (fun x K=>cond (N.hl (n-x.1).toNat x.2.1 x.2.2).1
     (K (.exit 0) { fr:=[(4,.own 10000 0)],tab:=[(0,.var [.str (N.hl (n-x.1).toNat x.2.1 x.2.2).2.2.s,.int .i64 (N.hl (n-x.1).toNat x.2.1 x.2.2).2.2.err]),(10000,.sl yP (N.hl (n-x.1).toNat x.2.1 x.2.2).2.1 0)] })
     (K .ret { fr:=[(2,.own 10000 0)],tab:=[(0,.var [.str (N.hl (n-x.1).toNat x.2.1 x.2.2).2.2.s,.int .i64 (N.hl (n-x.1).toNat x.2.1 x.2.2).2.2.err]),(10000,.sl yP [] 0)] })) ?_ (j,⟨s,e⟩,rows) ⟨bK h1,h3⟩ K q (by assumption)
   rintro ⟨j,⟨s,e⟩,rows⟩ ⟨hj,hr⟩
   simp only at hj hr ⊢
   by_cases hl:j<n
   .rw [show (n-j).toNat=(n-(j+1)).toNat+1 by omega]
    simp only [N.hl]
    cases hc:((N.bad (N.one ⟨s,e⟩).1 (dS rows) (N.one ⟨s,e⟩).2).err != 0) with
    | true =>
     refine .inr ⟨.ret,{ fr:=[(2,.own 10000 0)],tab:=[(0,.var [.str (N.bad (N.one ⟨s,e⟩).1 (dS rows) (N.one ⟨s,e⟩).2).s,.int .i64 (N.bad (N.one ⟨s,e⟩).1 (dS rows) (N.one ⟨s,e⟩).2).err]),(10000,.sl yP [] 0)] },by simp,fun K=>?_,fun K=>rfl⟩
     rw [AZ]
     unfold N.bad dS rowP at hc ⊢
     cases hz:(N.one ⟨s,e⟩).2.err==0 with
     | true=>rw [hz,cond_true] at hc; simp (disch:=omega) only [evs,hc]
     | false=>rw [hz,cond_false] at hc; simp (disch:=omega) only [evs,hc]
    | false =>
     refine .inl ⟨(j+1,N.bad (N.one ⟨s,e⟩).1 (dS rows) (N.one ⟨s,e⟩).2,rows++[iw.enc (N.one ⟨s,e⟩).1]),⟨by simp only; omega,by simp only [List.length_append,List.length_cons,List.length_nil]; omega⟩,by simp only; omega,fun K=>?_,fun K=>rfl⟩
     rw [AZ]
     unfold N.bad dS rowP at hc ⊢
     cases hz:(N.one ⟨s,e⟩).2.err==0 with
     | true=>rw [hz,cond_true] at hc; simp (disch:=omega) only [evs,hc]; rfl
     | false=>rw [hz,cond_false] at hc; simp (disch:=omega) only [evs,hc]; rfl
   .refine .inr ⟨.exit 0,{ fr:=[(4,.own 10000 0)],tab:=[(0,.var [.str s,.int .i64 e]),(10000,.sl yP rows 0)] },by simp,fun K=>?_,fun K=>?_⟩
    .rw [AZ]
     simp (disch:=omega) only [evs]
    .rw [show (n-j).toNat=0 by omega]; rfl
  .cases h
 .refine (Yr i).trans ?_
  obtain ⟨b1,b2⟩:=tC i
  have w:IntKind.wrap .i64 (N.ay i 1).1=(N.ay i 1).1:=wrap_i64 (by omega) (by omega)
  show _=some (⟨.slc yP ((N.iH i).1.map iw.enc),[[.str (N.iH i).2.s,.int .i64 (N.iH i).2.err]],[]⟩:aJ)
  unfold N.iH
  rw [w]
  simp (disch:=omega) only [evs,Int.sub_zero,Nat.zero_add]
  cases aU 8 (N.ay i 1).1 with
  | true =>
   have e1:=Yt (N.ay i 1).1.toNat (N.bP (N.ay i 1).2 6) []
   have e2:=SQ (N.ay i 1).1.toNat (N.bP (N.ay i 1).2 6) []
   rw [List.map_nil] at e1
   cases hc:(N.hl (N.ay i 1).1.toNat (N.bP (N.ay i 1).2 6) []).1 with
   | true=>simp only [cond_true,e1]
   | false =>
    rw [e1] at e2
    have e3:(N.jh (N.ay i 1).1.toNat (N.bP (N.ay i 1).2 6) []).1.map iw.enc=[]:=e2 hc
    simp only [cond_true,cond_false,e1,e3]
  | false =>
   have e1:=Yt (N.ay i 1).1.toNat (N.ay i 1).2 []
   have e2:=SQ (N.ay i 1).1.toNat (N.ay i 1).2 []
   rw [List.map_nil] at e1
   cases hc:(N.hl (N.ay i 1).1.toNat (N.ay i 1).2 []).1 with
   | true=>simp only [cond_true,cond_false,e1]
   | false =>
    rw [e1] at e2
    have e3:(N.jh (N.ay i 1).1.toNat (N.ay i 1).2 []).1.map iw.enc=[]:=e2 hc
    simp only [cond_false,e1,e3]
def aiG:fK:={ fr:=[(5,.str),(6,.int .u64),(7,.int .i64)],tab:=[(0,.var [.str,.int .i64,.int .i64])] }
namespace N
def beW:Bytes->Int->Int
 | [],n=>n
 | c::r,n=>beW r (IntKind.wrap .u64 (IntKind.wrap .u64 (n*256)+IntKind.wrap .u64 c.toNat))
end N
def akd:List Leaf->(Ex->St->Option R)->Option R
 | [.s s5,.i i6,.i i7,.s pU,.i l7,.i gq],K=>cond (bW 0 i7) (cond (Nat.ble s5.length uJ) (K (.exit 0) { fr:=[(6,.int .u64 (N.beW (s5.drop i7.toNat) i6))],tab:=[(0,.var [.str pU,.int .i64 l7,.int .i64 gq])] }) none) none
 | _,_=>none
noncomputable def aaA:Env:=env Tryz.prog [(151,aeH)] [(6,dO aiG akd)] [(6,[(0,[5,6,7]),(1,[6]),(1000,[4])])]
theorem alG (q:bY) (n:Int):bV aaA 80 (((bg (jL 0) (aT (dA .i64))).enc ((),n))) (((jr wZ).enc q)) some =
 cond (aU 8 n) (cond (N.bU q) (cond (Nat.ble (List.length (Prod.fst (N.oZ q 8))) 1000000) (some {v:=.int .u64 (N.beW (List.drop 0 (Prod.fst (N.oZ q 8))) 0),bx:=[[V.str (bY.s (Prod.snd (N.oZ q 8))),.int .i64 (bY.at' (Prod.snd (N.oZ q 8))),.int .i64 (bY.code (Prod.snd (N.oZ q 8)))]]:aJ}) none) none) (cond (N.bU q) (cond (Nat.ble (List.length (Prod.fst (N.oZ q n))) 1000000) (some {v:=.int .u64 (N.beW (List.drop 0 (Prod.fst (N.oZ q n))) 0),bx:=[[V.str (bY.s (Prod.snd (N.oZ q n))),.int .i64 (bY.at' (Prod.snd (N.oZ q n))),.int .i64 (bY.code (Prod.snd (N.oZ q n)))]]:aJ}) none) none):=by kernel_rfl
theorem aaB (s5:Bytes) (i6:Int) (i7:Int) (pU:Bytes) (l7:Int) (gq:Int) (K:Ex->St->Option R):bI aaA 80 6 { fr:=[(5,.str s5),(6,.int .u64 i6),(7,.int .i64 i7)],tab:=[(0,.var [.str pU,.int .i64 l7,.int .i64 gq])] } K =
 cond (aU i7 (↑(List.length s5):Int)) (cond (decide (0<=i7∧i7<(↑(List.length s5):Int))) (K .normal {fr:=[(5,.str s5),(6,.int .u64 (IntKind.wrap .u64 (IntKind.wrap .u64 (i6*256)+IntKind.wrap .u64 (↑(UInt8.toNat (List.getD s5 (Int.toNat i7) (0:UInt8))):Int)))),(7,.int .i64 (IntKind.wrap .i64 (i7+1)))],tab:=[(0,.var [V.str pU,.int .i64 l7,.int .i64 gq])]:St}) none) (K (.exit 0) {fr:=[(6,.int .u64 i6)],tab:=[(0,.var [V.str pU,.int .i64 l7,.int .i64 gq])]:St}):=by kernel_rfl
theorem Yu:∀ (l:Bytes) (n:Int) (k:Nat),0<=n->l.length<=k->k<=8->n<((256 ^ (8-k):Nat):Int)->N.beW l n=N.be l n
 | [],n,k,_,_,_,_=>rfl
 | c::r,n,k,hn,hl,hk,h=>by
  have hc:c.toNat<256:=c.toNat_lt
  have hl' : r.length+1<=k:=hl
  have h7:n<72057594037927936:=by
   have h1:256 ^ (8-k)<=256 ^ 7:=Nat.pow_le_pow_right (by decide) (by omega)
   have e:(256:Nat) ^ 7=72057594037927936:=by decide
   rw [e] at h1
   omega
  show N.beW r (IntKind.wrap .u64 (IntKind.wrap .u64 (n*256)+IntKind.wrap .u64 ((c.toNat:Nat):Int)))=N.be r (n*256+c.toNat)
  rw [wrap_u64 (n:=n*256) (by omega) (by omega),wrap_u64 (n:=(c.toNat:Int)) (by omega) (by omega),wrap_u64 (by omega) (by omega)]
  refine Yu r _ (k-1) (by omega) (by omega) (by omega) ?_
  have:(256:Nat) ^ (8-(k-1))=256 ^ (8-k)*256:=by
   rw [show 8-(k-1)=(8-k)+1 by omega,Nat.pow_succ]
  rw [this]; omega
theorem Vq {q:bY} (h:N.bU q=true) (n:Int) (m:Nat) (hm:n<=m):(N.oZ q n).1.length<=m:=by
 rw [<- (SI (jy h).1 n).1]; exact N.CQ _ n m hm
theorem CY:bH Tryz.prog 80 MC:=by
 refine aN (aQ ((gu.nil _).cons aaz)) (E:=aaA) Tryz.func80 [6] (by kernel_rfl) (one1 (bn rfl fun l K q h=>?_)) fun a q h=>?_
 .unfold akd at h
  split at h
  .rename_i s n k x1 x2 x3
   replace h:=cN2 h;obtain ⟨h1,h2,h⟩:=h
   have h2:s.length<=1000000:=aV h2
   refine dN (E:=aaA) (f:=80) (id:=6) (σ:=Int × Int) (fun x=>{ fr:=[(5,.str s),(6,.int .u64 x.1),(7,.int .i64 x.2)],tab:=[(0,.var [.str x1,.int .i64 x2,.int .i64 x3])] })
    (fun x=>0<=x.2) (fun x=>s.length-x.2.toNat)
    (fun x K=>K (.exit 0) { fr:=[(6,.int .u64 (N.beW (s.drop x.2.toNat) x.1))],tab:=[(0,.var [.str x1,.int .i64 x2,.int .i64 x3])] }) ?_ (n,k) (bK h1) K q (by assumption)
   rintro ⟨n,k⟩ hk
   simp only at hk ⊢
   by_cases hl:k<s.length
   .rw [drop_byte (show k.toNat<s.length by omega)]
    refine .inl ⟨(IntKind.wrap .u64 (IntKind.wrap .u64 (n*256)+IntKind.wrap .u64 (s.getD k.toNat 0).toNat),k+1),by simp only; omega,by simp only; omega,fun K=>?_,fun K=>?_⟩
    .rw [aaB]
     simp (disch:=omega) only [evs]
    .rw [show (k+1).toNat=k.toNat+1 by omega]; rfl
   .refine .inr ⟨.exit 0,{ fr:=[(6,.int .u64 n)],tab:=[(0,.var [.str x1,.int .i64 x2,.int .i64 x3])] },by simp,fun K=>?_,fun K=>?_⟩
    .rw [aaB]
     simp (disch:=omega) only [evs]
    .rw [List.drop_eq_nil_of_le (by omega)]; rfl
  .cases h
 .refine (alG q a.2).trans ?_
  show _=some (⟨.int .u64 (N.bD q a.2).1,[[.str (N.bD q a.2).2.s,.int .i64 (N.bD q a.2).2.at',.int .i64 (N.bD q a.2).2.code]],[]⟩:aJ)
  unfold N.bD
  have h:N.bU q=true:=h
  by_cases e:8<a.2
  .have l:=Vq h 8 8 (Int.le_refl 8)
   have b:=Yu (N.oZ q 8).1 0 8 (by decide) l (by decide) (by decide)
   simp (disch:=omega) only [evs,h,List.drop_zero,b]
  .have l:=Vq h a.2 8 (by omega)
   have b:=Yu (N.oZ q a.2).1 0 8 (by decide) l (by decide) (by decide)
   simp (disch:=omega) only [evs,h,List.drop_zero,b]
noncomputable def afk:Env:=env Tryz.prog [(80,MC),(154,Ib),(151,aeH)] [] []
theorem aiH (q:bY) (n:Int):bV afk 152 ((bg (jL 0) (aT (dA .i64))).enc ((),n)) ((jr wZ).enc q) some =
 cond (N.bU q) (cond (aU n (IntKind.wrap .i64 (Prod.fst (N.bD q 2)))) (cond (N.bU (N.fF (Prod.snd (N.bD q 2)) 5)) (some {v:=.str (Prod.fst (N.oZ (N.fF (Prod.snd (N.bD q 2)) 5) (IntKind.wrap .i64 (Prod.fst (N.bD q 2))))),bx:=[[V.str (bY.s (Prod.snd (N.oZ (N.fF (Prod.snd (N.bD q 2)) 5) (IntKind.wrap .i64 (Prod.fst (N.bD q 2)))))),.int .i64 (bY.at' (Prod.snd (N.oZ (N.fF (Prod.snd (N.bD q 2)) 5) (IntKind.wrap .i64 (Prod.fst (N.bD q 2)))))),.int .i64 (bY.code (Prod.snd (N.oZ (N.fF (Prod.snd (N.bD q 2)) 5) (IntKind.wrap .i64 (Prod.fst (N.bD q 2))))))]]:aJ}) none) (cond (N.bU (Prod.snd (N.bD q 2))) (some {v:=.str (Prod.fst (N.oZ (Prod.snd (N.bD q 2)) (IntKind.wrap .i64 (Prod.fst (N.bD q 2))))),bx:=[[V.str (bY.s (Prod.snd (N.oZ (Prod.snd (N.bD q 2)) (IntKind.wrap .i64 (Prod.fst (N.bD q 2)))))),.int .i64 (bY.at' (Prod.snd (N.oZ (Prod.snd (N.bD q 2)) (IntKind.wrap .i64 (Prod.fst (N.bD q 2)))))),.int .i64 (bY.code (Prod.snd (N.oZ (Prod.snd (N.bD q 2)) (IntKind.wrap .i64 (Prod.fst (N.bD q 2))))))]]:aJ}) none)) none:=by kernel_rfl
theorem MS:bH Tryz.prog 152 SC:=by
 refine aN (aQ ((((gu.nil _).cons aaz).cons AY).cons CY)) (E:=afk) Tryz.func152 [] (by kernel_rfl) none0 fun a q h=>?_
 refine (aiH q a.2).trans ?_
 show _=some (⟨.str (N.iC q a.2).1,[[.str (N.iC q a.2).2.s,.int .i64 (N.iC q a.2).2.at',.int .i64 (N.iC q a.2).2.code]],[]⟩:aJ)
 unfold N.iC
 have h:N.bU q=true:=h
 have h1:=fG h 2
 have h2:=xX h1 5
 simp (disch:=omega) only [evs,h,h1,h2]
 cases aU a.2 (IntKind.wrap .i64 (N.bD q 2).1)<;>rfl
def Yv:fK:={ fr:=[(2,.ptr 10000 0 0),(57,.slc yP),(58,.int .i64),(59,.int .i64)],tab:=[(10000,.var [.str,.int .u8,.int .i64,.str])] }
def Vr:List Leaf->(Ex->St->Option R)->Option R
 | [.r vZ,.i i58,.i i59,.s pU,.i _,.i _,.s _],K=>cond (i58==vZ.length) (cond (bW 0 i59) (cond (Nat.ble vZ.length uJ)
   (cond (bW 0 (N.iP pU ((dS vZ).drop i59.toNat) i59)) (K .ret { fr:=[(4,.int .i64 9)],tab:=[] }) (K (.exit 0) { fr:=[],tab:=[] })) none) none) none
 | _,_=>none
noncomputable def F5:Env:=env Tryz.prog [(42,FP)] [(13,dO Yv Vr)] [(13,[(0,[2,57,58,59]),(1,[]),(1000,[4])])]
theorem acn (p:aW) (l:List aW):type_of% (by
  have h:bV F5 118 (((bg (bJ iw) (aT (qw iw))).enc (p,l))) ([]) some =(
   let z3:=(List.map yE l);let z0:=(cond ((↑(List.length z3):Int)==(↑(List.length z3):Int)) (cond (Nat.ble (List.length z3) 1000000) (cond (bW 0 (N.iP p.key (List.drop 0 (List.map yD z3)) 0)) (some {v:=.int .i64 9,bx:=[]:aJ}) (some {v:=.int .i64 0,bx:=[]:aJ})) none) none);let z1:=(some {v:=.int .i64 4,bx:=[]:aJ});let z2:=(some {v:=.int .i64 7,bx:=[]:aJ});cond (N.name p.key != 0) (some {v:=.int .i64 (N.name p.key),bx:=[]:aJ}) (cond (aU 2 p.kind) (some {v:=.int .i64 8,bx:=[]:aJ}) (cond (aW.kind p==1) (cond (aU 64 (↑(List.length p.text):Int)) (some {v:=.int .i64 5,bx:=[]:aJ}) (cond (aW.kind p==2) (cond (aU p.num 0) z2 (cond (aU 1 p.num) z2 (cond (aW.kind p==1) (cond (aW.num p != 0) z1 (cond (aW.kind p != 1) (cond (!aW.text p==[]) z1 z0) z0)) (cond (aW.kind p != 1) (cond (!aW.text p==[]) z1 z0) z0)))) (cond (aW.kind p==1) (cond (aW.num p != 0) z1 (cond (aW.kind p != 1) (cond (!aW.text p==[]) z1 z0) z0)) (cond (aW.kind p != 1) (cond (!aW.text p==[]) z1 z0) z0)))) (cond (aW.kind p==2) (cond (aU p.num 0) z2 (cond (aU 1 p.num) z2 (cond (aW.kind p==1) (cond (aW.num p != 0) z1 (cond (aW.kind p != 1) (cond (!aW.text p==[]) z1 z0) z0)) (cond (aW.kind p != 1) (cond (!aW.text p==[]) z1 z0) z0)))) (cond (aW.kind p==1) (cond (aW.num p != 0) z1 (cond (aW.kind p != 1) (cond (!aW.text p==[]) z1 z0) z0)) (cond (aW.kind p != 1) (cond (!aW.text p==[]) z1 z0) z0)))))):=by kernel_rfl
  dsimp only at h;exact h):=by kernel_rfl
theorem Es (vZ:List (List V)) (i58:Int) (i59:Int) (pU:Bytes) (l7:Int) (gq:Int) (wo:Bytes) (K:Ex->St->Option R):bI F5 118 13 { fr:=[(2,.ptr 10000 0 0 0),(57,.slc yP vZ),(58,.int .i64 i58),(59,.int .i64 i59)],tab:=[(10000,.var [.str pU,.int .u8 l7,.int .i64 gq,.str wo])] } K =
 cond (aU i59 i58) (cond (decide (0<=i59∧i59<(↑(List.length vZ):Int))) (cond (V.toStr (List.getD (List.getD vZ (Int.toNat i59) []) 0 V.undef)==pU) (K .ret {fr:=[(4,.int .i64 9)],tab:=[]:St}) (K .normal {fr:=[(2,.ptr 10000 0 0 0),(57,.slc yP vZ),(58,.int .i64 i58),(59,.int .i64 (IntKind.wrap .i64 (i59+1)))],tab:=[(10000,.var [V.str pU,.int .u8 l7,.int .i64 gq,.str wo])]:St})) none) (K (.exit 0) {fr:=[],tab:=[]:St}):=by kernel_rfl
theorem MV:bH Tryz.prog 118 H9:=by
 refine aN (aQ ((gu.nil _).cons Em)) (E:=F5) Tryz.func118 [13] (by kernel_rfl) (one1 (bn rfl fun l K q h=>?_)) fun a _ h=>?_
 .unfold Vr at h
  split at h
  .rename_i r n i key x1 x2 x3
   replace h:=RH h;obtain ⟨h1,h2,h3,h⟩:=h
   have e1:=aZ h1
   subst e1
   have h3:r.length<=1000000:=aV h3
   refine dN (E:=F5) (f:=118) (id:=13) (fun i:Int=>{ fr:=[(2,.ptr 10000 0 0 0),(57,.slc yP r),(58,.int .i64 r.length),(59,.int .i64 i)],tab:=[(10000,.var [.str key,.int .u8 x1,.int .i64 x2,.str x3])] }) (fun i=>0<=i) (fun i=>r.length-i.toNat)
    (fun i K=>cond (bW 0 (N.iP key ((dS r).drop i.toNat) i)) (K .ret { fr:=[(4,.int .i64 9)],tab:=[] }) (K (.exit 0) { fr:=[],tab:=[] })) (fun i hi=>?_) i (bK h2) K q (by assumption)
   by_cases hl:i<r.length
   .rw [uD (show i.toNat<r.length by omega)]
    have e:N.iP key (rowP (r.getD i.toNat [])::(dS r).drop (i.toNat+1)) i=cond ((rowP (r.getD i.toNat [])).key==key) i (N.iP key ((dS r).drop (i.toNat+1)) (i+1)):=rfl
    rw [e]
    cases hc:(rowP (r.getD i.toNat [])).key==key with
    | true =>
     rw [cond_true,dY hi]
     refine .inr ⟨.ret,{ fr:=[(4,.int .i64 9)],tab:=[] },by simp,fun K=>?_,fun K=>rfl⟩
     rw [Es]
     unfold rowP at hc
     simp (disch:=omega) only [evs,hc]
    | false =>
     refine .inl ⟨i+1,by omega,by omega,fun K=>?_,fun K=>?_⟩
     .rw [Es]
      unfold rowP at hc
      simp (disch:=omega) only [evs,hc]
     .rw [cond_false,show (i+1).toNat=i.toNat+1 by omega]
   .refine .inr ⟨.exit 0,{ fr:=[],tab:=[] },by simp,fun K=>?_,fun K=>?_⟩
    .rw [Es]
     simp (disch:=omega) only [evs]
    .rw [List.drop_eq_nil_of_le (by rw [mV]; omega)]; rfl
  .cases h
 .obtain ⟨p,l⟩:=a
  have h:l.length<=1000000:=aV h
  refine (acn p l).trans ?_
  show _=some (⟨.int .i64 (N.jC p l),[],[]⟩:aJ)
  unfold N.jC N.find
  have en:(cond (p.num != 0) (p.num != 1) false)=cond (aU p.num 0) true (aU 1 p.num):=by
   rcases (by omega:p.num<0∨p.num=0∨p.num=1∨1<p.num) with h | h | h | h
   .simp (disch:=omega) only [evs]
   .rw [h]; rfl
   .rw [h]; rfl
   .simp (disch:=omega) only [evs]
  have en' : cond (cond (p.kind==2) (p.num != 0) false) (p.num != 1) false=cond (p.kind==2) (cond (aU p.num 0) true (aU 1 p.num)) false:=by
   rw [<- en]; cases p.kind==2<;>rfl
  rw [en']
  have ef:(cond (aU (N.iP p.key l 0) 0) (jM,false) (l.getD (N.iP p.key l 0).toNat jM,true)).2=bW 0 (N.iP p.key l 0):=by
   by_cases h:N.iP p.key l 0<0
   .simp (disch:=omega) only [evs]
   .simp (disch:=omega) only [evs]
  rw [ef]
  simp (disch:=omega) only [evs,gB,List.drop_zero,bne]
  cases hn:N.name p.key==0 with
  | false=>rfl
  | true =>
   cases aU 2 p.kind with
   | true=>rfl
   | false =>
    cases p.kind==1<;>cases aU 64 p.text.length<;>cases p.kind==2<;>cases aU p.num 0<;>cases aU 1 p.num<;>cases p.num==0<;>cases p.text==[]<;>cases bW 0 (N.iP p.key l 0)<;>rfl
end Go.Ev

namespace Go.Ev
open Go Go.Proofs
set_option maxRecDepth 100000
def Vs:fK:={ fr:=[(0,.slc yP),(9,.slc yP),(10,.int .i64),(11,.int .i64)],tab:=[] }
def Qg:List Leaf->(Ex->St->Option R)->Option R
 | [.r r0,.r r9,.i i10,.i i11],K=>cond (i10==r9.length) (cond (Nat.beq r0.length r9.length) (cond (bW 0 i11) (cond (Nat.ble r0.length uJ) (cond (N.kZ (dS r0) (dS r9))
   (cond (N.eu (dS r9) (r9.length-i11.toNat) i11 != 0) (K .ret { fr:=[(2,.int .i64 (N.eu (dS r9) (r9.length-i11.toNat) i11))],tab:=[] }) (K (.exit 0) { fr:=[],tab:=[] })) none) none) none) none) none
 | _,_=>none
noncomputable def CZ:Env:=env Tryz.prog [(118,H9)] [(4,dO Vs Qg)] [(4,[(0,[0,9,10,11]),(1,[]),(1000,[2])])]
theorem Yw (h:List aW):type_of% (by
  have h:bV CZ 44 ((aT (qw iw)).enc h) ([]) some =(
   let z0:=(List.map yE h);let z1:=(List.map yD z0);cond (aU 8 (↑(List.length z0):Int)) (some {v:=.int .i64 6,bx:=[]:aJ}) (cond ((↑(List.length z0):Int)==(↑(List.length z0):Int)) (cond (Nat.beq (List.length z0) (List.length z0)) (cond (Nat.ble (List.length z0) 1000000) (cond (N.kZ z1 z1) (cond (N.eu z1 (List.length z0-0) (0 : Int) != 0) (some {v:=.int .i64 (N.eu z1 (List.length z0-0) 0),bx:=[]:aJ}) (some {v:=.int .i64 0,bx:=[]:aJ})) none) none) none) none)):=by kernel_rfl
  dsimp only at h;exact h):=by kernel_rfl
theorem A8 (r0:List (List V)) (r9:List (List V)) (i11:Int) (K:Ex->St->Option R):type_of% (by
  have h:bI CZ 44 4 { fr:=[(0,.slc yP r0),(9,.slc yP r9),(10,.int .i64 r9.length),(11,.int .i64 i11)],tab:=[] } K =(
   let z0:=(List.map yD (List.drop 0 (List.take (Int.toNat i11) r0)));let z1:=(List.getD r9 (Int.toNat i11) []);cond (aU i11 (↑(List.length r9):Int)) (cond (decide (0<=i11∧i11<(↑(List.length r9):Int))) (cond (decide (0<=i11∧i11<=(↑(List.length r0):Int))) (cond (Nat.ble (List.length z0) 1000000) (cond (N.jC {key:=V.toStr (z1.getD 0 .undef),kind:=V.toInt (z1.getD 1 .undef),num:=V.toInt (z1.getD 2 .undef),text:=V.toStr (z1.getD 3 .undef):aW} z0 != 0) (K .ret {fr:=[(2,.int .i64 (N.jC {key:=V.toStr (z1.getD 0 .undef),kind:=V.toInt (z1.getD 1 .undef),num:=V.toInt (z1.getD 2 .undef),text:=V.toStr (z1.getD 3 .undef):aW} z0))],tab:=[]:St}) (K .normal {fr:=[(0,.slc yP r0),(9,.slc yP r9),(10,.int .i64 (↑(List.length r9):Int)),(11,.int .i64 (IntKind.wrap .i64 (i11+1)))],tab:=[]:St})) none) none) none) (K (.exit 0) {fr:=[],tab:=[]:St})):=by kernel_rfl
  dsimp only at h;exact h):=by kernel_rfl
theorem Vt:bH Tryz.prog 44 uO:=by
 refine aN (aQ ((gu.nil _).cons MV)) (E:=CZ) Tryz.func44 [4] (by kernel_rfl) (one1 (bn rfl fun l K q h=>?_)) fun h _ _=>?_
 .unfold Qg at h
  split at h
  .rename_i r0 r n i
   replace h:=EY h;obtain ⟨h1,h2,h3,h4,h5,h⟩:=h
   have e1:=aZ h1
   subst e1
   have h2:=Nat.eq_of_beq_eq_true h2
   have h4:r0.length<=1000000:=aV h4
   have h5:=Ih h5
   refine dN (E:=CZ) (f:=44) (id:=4) (fun i:Int=>{ fr:=[(0,.slc yP r0),(9,.slc yP r),(10,.int .i64 r.length),(11,.int .i64 i)],tab:=[] }) (fun i=>0<=i) (fun i=>r.length-i.toNat)
    (fun i11 K=>cond (N.eu (dS r) (r.length-i11.toNat) i11 != 0) (K .ret { fr:=[(2,.int .i64 (N.eu (dS r) (r.length-i11.toNat) i11))],tab:=[] }) (K (.exit 0) { fr:=[],tab:=[] })) (fun i hi=>?_) i (bK h3) K q (by assumption)
   by_cases hl:i<r.length
   .have e:N.eu (dS r) (r.length-i.toNat) i=cond (N.jC (rowP (r.getD i.toNat [])) ((dS r).take i.toNat) != 0) (N.jC (rowP (r.getD i.toNat [])) ((dS r).take i.toNat)) (N.eu (dS r) (r.length-(i+1).toNat) (i+1)):=by
     rw [show r.length-i.toNat=(r.length-(i+1).toNat)+1 by omega,N.eu,zk]
    rw [e]
    have hm:List.map rowP (List.take i.toNat r0)=(dS r).take i.toNat:=by rw [<- h5,dS,List.map_take]
    unfold rowP at hm
    cases hc:N.jC (rowP (r.getD i.toNat [])) ((dS r).take i.toNat) != 0 with
    | true =>
     rw [cond_true,hc]
     refine .inr ⟨.ret,_,by simp,fun K=>?_,fun K=>rfl⟩
     rw [A8]
     unfold rowP at hc
     simp (disch:=omega) only [evs,hc,hm,List.length_take,List.drop_zero]
     try rfl
    | false =>
     refine .inl ⟨i+1,by omega,by omega,fun K=>?_,fun K=>?_⟩
     .rw [A8]
      unfold rowP at hc
      simp (disch:=omega) only [evs,hc,hm,List.length_take,List.drop_zero]
     .rw [cond_false]
   .refine .inr ⟨.exit 0,{ fr:=[],tab:=[] },by simp,fun K=>?_,fun K=>?_⟩
    .rw [A8]
     simp (disch:=omega) only [evs]
    .rw [show r.length-i.toNat=0 by omega]; rfl
  .cases h
 .refine (Yw h).trans ?_
  show _=some (⟨.int .i64 (N.cZ h),[],[]⟩:aJ)
  unfold N.cZ
  by_cases hl:8<h.length
  .simp (disch:=omega) only [evs]
  .simp (disch:=omega) only [evs,gB,vY,Nat.sub_zero]
   cases hc:N.eu h h.length 0 != 0 with
   | true=>rfl
   | false =>
    have:N.eu h h.length 0=0:=by simpa using hc
    rw [this]; rfl
end Go.Ev

namespace Go.Ev
open Go Go.Proofs
set_option maxRecDepth 100000
end Go.Ev

namespace Go.Ev
open Go Go.Proofs
set_option maxRecDepth 100000
def afl:fK:={ fr:=[(0,.ptr 0 0 0),(3,.int .i64),(4,.own 10000),(5,.int .i64)],tab:=[(0,.var [.str,.int .i64,.int .i64]),(10000,.sl yP)] }
def afm:List Leaf->(Ex->St->Option R)->Option R
 | [.i n,.i j,.s s,.i a,.i c,.r rows],K=>cond (bW 0 j) (cond (bW n 300) (cond (Nat.ble (rows.length+(n-j).toNat) uJ) (cond (N.bU ⟨s,a,c⟩)
   (K (.exit 0) { fr:=[(0,.ptr 0 0 0 0),(4,.own 10000 0)],tab:=[(0,.var [.str (N.Vm (n-j).toNat ⟨s,a,c⟩ rows).2.s,.int .i64 (N.Vm (n-j).toNat ⟨s,a,c⟩ rows).2.at',.int .i64 (N.Vm (n-j).toNat ⟨s,a,c⟩ rows).2.code]),(10000,.sl yP (N.Vm (n-j).toNat ⟨s,a,c⟩ rows).1 0)] }) none) none) none) none
 | _,_=>none
noncomputable def SS:Env:=env Tryz.prog [(80,MC),(154,Ib),(152,SC),(118,H9)] [(6,dO afl afm)] [(6,[(0,[0,3,4,5]),(1,[0,4]),(1000,[2])])]
theorem aiI (q:bY):type_of% (by
  have h:bV SS 186 (((aT (jL 0)).enc ())) (((jr wZ).enc q)) some =(
   let z4:=(Prod.fst (N.bD q 1));let z0:=(Int.toNat (IntKind.wrap .i64 z4-0));let z1:=(Prod.snd (N.bD q 1));let z2:=(Prod.snd (N.Vm z0 (N.fF z1 6) []));let z3:=(Prod.snd (N.Vm z0 z1 []));let z5:=(Nat.ble (0+Int.toNat (IntKind.wrap .i64 z4-0)) 1000000);cond (N.bU q) (cond (aU 8 (IntKind.wrap .i64 z4)) (cond (bW (IntKind.wrap .i64 z4) 300) (cond z5 (cond (N.bU (N.fF z1 6)) (cond (bY.code z2 != 0) (some {v:=.slc yP [],bx:=[[V.str (bY.s z2),.int .i64 (bY.at' z2),.int .i64 (bY.code z2)]]:aJ}) (some {v:=.slc yP (Prod.fst (N.Vm z0 (N.fF z1 6) [])),bx:=[[V.str (bY.s z2),.int .i64 (bY.at' z2),.int .i64 (bY.code z2)]]:aJ})) none) none) none) (cond (bW (IntKind.wrap .i64 z4) 300) (cond z5 (cond (N.bU z1) (cond (bY.code z3 != 0) (some {v:=.slc yP [],bx:=[[V.str (bY.s z3),.int .i64 (bY.at' z3),.int .i64 (bY.code z3)]]:aJ}) (some {v:=.slc yP (Prod.fst (N.Vm z0 z1 [])),bx:=[[V.str (bY.s z3),.int .i64 (bY.at' z3),.int .i64 (bY.code z3)]]:aJ})) none) none) none)) none):=by kernel_rfl
  dsimp only at h;exact h):=by kernel_rfl
theorem MW (i3:Int) (i5:Int) (pU:Bytes) (l7:Int) (gq:Int) (mG:List (List V)) (K:Ex->St->Option R):type_of% (by
  have h:bI SS 186 6 { fr:=[(0,.ptr 0 0 0 0),(3,.int .i64 i3),(4,.own 10000 0),(5,.int .i64 i5)],tab:=[(0,.var [.str pU,.int .i64 l7,.int .i64 gq]),(10000,.sl yP mG 0)] } K =(
   let z2:=(N.iC {s:=pU,at':=l7,code:=gq:bY} 16);let z0:=(N.bD z2.2 1);let z1:=(List.map yD mG);let z12:=(N.bD z0.2 8);let z3:=(N.fF z12.2 (N.jC {key:=Prod.fst z2,kind:=IntKind.wrap .u8 z0.1,num:=IntKind.wrap .i64 z12.1,text:=[]:aW} z1));let z13:=(N.bD z0.2 1);let z4:=(N.fF z13.2 (N.jC {key:=Prod.fst z2,kind:=IntKind.wrap .u8 z0.1,num:=IntKind.wrap .i64 z13.1,text:=[]:aW} z1));let z11:=(N.iC z0.2 64);let z5:=(N.fF z11.2 (N.jC {key:=Prod.fst z2,kind:=IntKind.wrap .u8 z0.1,num:=0,text:=Prod.fst z11:aW} z1));let z6:=(decide ((List.length mG+1)*48<=140737488355328));let z17:=(N.fF z0.2 8);let z7:=(N.fF z17 (N.jC {key:=Prod.fst z2,kind:=IntKind.wrap .u8 z0.1,num:=0,text:=[]:aW} z1));let z8:=(IntKind.wrap .i64 (i5+1));let z9:=(IntKind.wrap .u8 z0.1);let z10:=(K (.exit 0) {fr:=[(0,.ptr 0 0 0 0),(4,.own 10000 0)],tab:=[(0,.var [V.str pU,.int .i64 l7,.int .i64 gq]),(10000,.sl yP mG 0)]:St});let z14:=(mG++[[V.str z2.1,.int .u8 z9,.int .i64 (IntKind.wrap .i64 z12.1),.str []]]);let z15:=(mG++[[V.str z2.1,.int .u8 z9,.int .i64 (IntKind.wrap .i64 z13.1),.str []]]);let z16:=(Nat.ble (List.length z1) 1000000);let z18:=(mG++[[V.str z2.1,.int .u8 z9,.int .i64 0,.str z11.1]]);let z19:=(mG++[[V.str z2.1,.int .u8 z9,.int .i64 0,.str []]]);cond (aU i5 i3) (cond (gq==0) (cond (N.bU {s:=pU,at':=l7,code:=gq:bY}) (cond (N.bU z2.2) (cond (IntKind.wrap .u8 z0.1==0) (cond (N.bU z0.2) (cond (bY.code z12.2==0) (cond z16 (cond z6 (K .normal {fr:=[(0,.ptr 0 0 0 0),(3,.int .i64 i3),(4,.own 10000 0),(5,.int .i64 z8)],tab:=[(0,.var [V.str (bY.s z3),.int .i64 (bY.at' z3),.int .i64 (bY.code z3)]),(10000,.sl yP z14 0)]:St}) none) none) (cond z6 (K .normal {fr:=[(0,.ptr 0 0 0 0),(3,.int .i64 i3),(4,.own 10000 0),(5,.int .i64 z8)],tab:=[(0,.var [V.str (bY.s z12.2),.int .i64 (bY.at' z12.2),.int .i64 (bY.code z12.2)]),(10000,.sl yP z14 0)]:St}) none)) none) (cond (IntKind.wrap .u8 z0.1==1) (cond (N.bU z0.2) (cond (bY.code z11.2==0) (cond z16 (cond z6 (K .normal {fr:=[(0,.ptr 0 0 0 0),(3,.int .i64 i3),(4,.own 10000 0),(5,.int .i64 z8)],tab:=[(0,.var [V.str (bY.s z5),.int .i64 (bY.at' z5),.int .i64 (bY.code z5)]),(10000,.sl yP z18 0)]:St}) none) none) (cond z6 (K .normal {fr:=[(0,.ptr 0 0 0 0),(3,.int .i64 i3),(4,.own 10000 0),(5,.int .i64 z8)],tab:=[(0,.var [V.str (bY.s z11.2),.int .i64 (bY.at' z11.2),.int .i64 (bY.code z11.2)]),(10000,.sl yP z18 0)]:St}) none)) none) (cond (IntKind.wrap .u8 z0.1==2) (cond (N.bU z0.2) (cond (bY.code z13.2==0) (cond z16 (cond z6 (K .normal {fr:=[(0,.ptr 0 0 0 0),(3,.int .i64 i3),(4,.own 10000 0),(5,.int .i64 z8)],tab:=[(0,.var [V.str (bY.s z4),.int .i64 (bY.at' z4),.int .i64 (bY.code z4)]),(10000,.sl yP z15 0)]:St}) none) none) (cond z6 (K .normal {fr:=[(0,.ptr 0 0 0 0),(3,.int .i64 i3),(4,.own 10000 0),(5,.int .i64 z8)],tab:=[(0,.var [V.str (bY.s z13.2),.int .i64 (bY.at' z13.2),.int .i64 (bY.code z13.2)]),(10000,.sl yP z15 0)]:St}) none)) none) (cond (bY.code z17==0) (cond z16 (cond z6 (K .normal {fr:=[(0,.ptr 0 0 0 0),(3,.int .i64 i3),(4,.own 10000 0),(5,.int .i64 z8)],tab:=[(0,.var [V.str (bY.s z7),.int .i64 (bY.at' z7),.int .i64 (bY.code z7)]),(10000,.sl yP z19 0)]:St}) none) none) (cond z6 (K .normal {fr:=[(0,.ptr 0 0 0 0),(3,.int .i64 i3),(4,.own 10000 0),(5,.int .i64 z8)],tab:=[(0,.var [V.str (bY.s z17),.int .i64 (bY.at' z17),.int .i64 (bY.code z17)]),(10000,.sl yP z19 0)]:St}) none))))) none) none) z10) z10):=by kernel_rfl
  dsimp only at h;exact h):=by kernel_rfl
theorem SV:∀ (k:Nat) (q:bY) (l:List aW),N.Vm k q (l.map iw.enc)=((N.kM k q l).1.map iw.enc,(N.kM k q l).2)
 | 0,_,_=>rfl
 | k+1,q,l=>by
  unfold N.Vm N.kM
  rw [xU]
  cases q.code==0 with
  | false=>rfl
  | true =>
   have:=SV k (N.MB (N.xW q).1 l (N.xW q).2) (l++[(N.xW q).1])
   rw [List.map_append] at this
   exact this
theorem anp {q:bY} (h:N.bU q=true):0<=(N.bD q 1).1∧(N.bD q 1).1<256:=by
 rw [<- (ji (jy h).1 1).1]; exact tC _
theorem afn:bH Tryz.prog 186 aeI:=by
 refine aN (aQ (((((gu.nil _).cons MV).cons MS).cons AY).cons CY)) (E:=SS) Tryz.func186 [6] (by kernel_rfl) (one1 (bn rfl fun l K q h=>?_)) fun _ q h=>?_
 .unfold afm at h
  split at h
  .rename_i n j s a c rows
   replace h:=Z4 h;obtain ⟨h1,h2,h3,h4,h⟩:=h
   have h2:=bK h2
   have h3:rows.length+(n-j).toNat<=1000000:=aV h3
   refine dN (E:=SS) (f:=186) (id:=6) (σ:=Int × bY × List (List V)) (fun x=>{ fr:=[(0,.ptr 0 0 0 0),(3,.int .i64 n),(4,.own 10000 0),(5,.int .i64 x.1)],tab:=[(0,.var [.str x.2.1.s,.int .i64 x.2.1.at',.int .i64 x.2.1.code]),(10000,.sl yP x.2.2 0)] })
    (fun x=>0<=x.1∧x.2.2.length+(n-x.1).toNat<=1000000∧N.bU x.2.1=true) (fun x=>(n-x.1).toNat)
    (fun x K=>K (.exit 0) { fr:=[(0,.ptr 0 0 0 0),(4,.own 10000 0)],tab:=[(0,.var [.str (N.Vm (n-x.1).toNat x.2.1 x.2.2).2.s,.int .i64 (N.Vm (n-x.1).toNat x.2.1 x.2.2).2.at',.int .i64 (N.Vm (n-x.1).toNat x.2.1 x.2.2).2.code]),(10000,.sl yP (N.Vm (n-x.1).toNat x.2.1 x.2.2).1 0)] }) ?_ (j,⟨s,a,c⟩,rows) ⟨bK h1,h3,h4⟩ K q (by assumption)
   rintro ⟨j,⟨s,a,c⟩,rows⟩ ⟨hj,hr,h0⟩
   simp only at hj hr h0 ⊢
   by_cases hl:j<n
   .rw [show (n-j).toNat=(n-(j+1)).toNat+1 by omega]
    have h1:=qg h0 16
    have h2:=fG h1 1
    cases hz:c==0 with
    | true =>
     refine .inl ⟨(j+1,N.MB (N.xW ⟨s,a,c⟩).1 (dS rows) (N.xW ⟨s,a,c⟩).2,rows++[iw.enc (N.xW ⟨s,a,c⟩).1]),⟨by simp only; omega,by simp only [List.length_append,List.length_cons,List.length_nil]; omega,ae5 (ae4 h0) _ _⟩,by simp only; omega,fun K=>?_,fun K=>?_⟩
     .rw [MW]
      unfold N.MB N.xW N.Me dS rowP
      simp (disch:=omega) only [evs,h0,h1,h2,hz]
      generalize (N.iC ⟨s,a,c⟩ 16).1=key
      generalize hq:(N.bD (N.iC ⟨s,a,c⟩ 16).2 1)=kq at *
      obtain ⟨x,q⟩:=kq
      simp only
      generalize IntKind.wrap .u8 x=kind
      cases kind==0 with
      | true=>cases hc:(N.bD q 8).2.code==0<;>simp only [cond_true,cond_false,hc]<;>rfl
      | false =>
       cases kind==1 with
       | true=>cases hc:(N.iC q 64).2.code==0<;>simp only [cond_true,cond_false,hc]<;>rfl
       | false =>
        cases kind==2 with
        | true=>cases hc:(N.bD q 1).2.code==0<;>simp only [cond_true,cond_false,hc]<;>rfl
        | false=>cases hc:(N.fF q 8).code==0<;>simp only [cond_true,cond_false,hc]<;>rfl
     .simp only [N.Vm,hz,cond_true]
    | false =>
     refine .inr ⟨.exit 0,{ fr:=[(0,.ptr 0 0 0 0),(4,.own 10000 0)],tab:=[(0,.var [.str s,.int .i64 a,.int .i64 c]),(10000,.sl yP rows 0)] },by simp,fun K=>?_,fun K=>?_⟩
     .rw [MW]
      simp (disch:=omega) only [evs,hz]
     .simp only [N.Vm,hz,cond_false]
   .refine .inr ⟨.exit 0,{ fr:=[(0,.ptr 0 0 0 0),(4,.own 10000 0)],tab:=[(0,.var [.str s,.int .i64 a,.int .i64 c]),(10000,.sl yP rows 0)] },by simp,fun K=>?_,fun K=>?_⟩
    .rw [MW]
     simp (disch:=omega) only [evs]
    .rw [show (n-j).toNat=0 by omega]; rfl
  .cases h
 .refine (aiI q).trans ?_
  have h:N.bU q=true:=h
  obtain ⟨b1,b2⟩:=anp h
  have g1:=fG h 1
  have g2:=xX g1 6
  have w:IntKind.wrap .i64 (N.bD q 1).1=(N.bD q 1).1:=wrap_i64 (by omega) (by omega)
  show _=some (⟨.slc yP ((N.vU q).1.map iw.enc),[[.str (N.vU q).2.s,.int .i64 (N.vU q).2.at',.int .i64 (N.vU q).2.code]],[]⟩:aJ)
  unfold N.vU N.FT
  rw [w]
  simp (disch:=omega) only [evs,Int.sub_zero,Nat.zero_add,h,g1,g2]
  cases aU 8 (N.bD q 1).1 with
  | true =>
   have e1:=SV (N.bD q 1).1.toNat (N.fF (N.bD q 1).2 6) []
   rw [List.map_nil] at e1
   rw [e1]
   simp only [cond_true]
   cases (N.kM (N.bD q 1).1.toNat (N.fF (N.bD q 1).2 6) []).2.code != 0<;>rfl
  | false =>
   have e1:=SV (N.bD q 1).1.toNat (N.bD q 1).2 []
   rw [List.map_nil] at e1
   rw [e1]
   simp only [cond_false]
   cases (N.kM (N.bD q 1).1.toNat (N.bD q 1).2 []).2.code != 0<;>rfl
end Go.Ev

namespace Go.Ev
open Go Go.Proofs
set_option maxRecDepth 100000
noncomputable def ake : Env:=env Tryz.prog [(108,aeU)] [] []
theorem alI  : bV ake 35 [] [] some =
 some {v:=.bool true,bx:=[]:aJ}:=by kernel_rfl
theorem aaC : bH Tryz.prog 35 mJ:=aN (aQ ((gu.nil _).cons alq)) (E:=ake) Tryz.func35 [] (by kernel_rfl) none0 fun _ _ _=>alI
noncomputable def anq:Env:=env Tryz.prog [(163,Ed),(208,mJ),(35,mJ)] [] []
theorem anr  : bV anq 204 [] [] some =
 some {v:=.bool true,bx:=[]:aJ}:=by kernel_rfl
theorem alJ (hN:bH Tryz.prog 95 fP):bH Tryz.prog 204 mJ :=
 aN (aQ ((((gu.nil _).cons aaC).cons (aiz hN)).cons (FZ hN))) (E:=anq) Tryz.func204 [] (by kernel_rfl) none0 fun _ _ _=>anr
end Go.Ev
