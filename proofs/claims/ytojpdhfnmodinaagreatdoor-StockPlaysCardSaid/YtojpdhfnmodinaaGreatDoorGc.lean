/- What a claim needs: definitions and lemmas, no condition. -/
import Derived.Test.YtojpdhfnmodinaaGreatDoorGb
import Derived.ProofKit
import Derived.Test.YtojpdhfnmodinaaGreatDoorProg
import Derived.KernelRfl
import Derived.Lib.Bytealg
namespace Go.Ev
open Go Go.RowKit
section
variable {m:Nat} {S:St}
theorem EN:∀ (L:List (Nat × Box)) (c:Can) {K:Can->Option R} {q:R},wY S L c K=some q->∃ c',K c' = some q∧BD c c' ∧
  ∀ w₀ aI aJ ρ I a w,Rel m w₀ aI aJ ρ I S a w->∀ G Pn,rH S ρ w I c G Pn->(∀ d,d<BOX->(∃ cells,dU S.tab d=some (.var cells))->dU c.m d=some d) ->
   (∀ d,d∈Pn->d<BOX∧(∃ cells,dU S.tab d=some (.var cells))∧∃ p,p∈L∧p.1=d)->∃ G',Ext G G'∧rH S ρ w I c' G' []
 | [],c,K,q,h=>⟨c,h,fun _ _ h=>h,fun w₀ aI aJ ρ I a w hr G Pn hc _ hp=>by
   have:Pn=[]:=List.eq_nil_iff_forall_not_mem.2 fun d hd=>by obtain ⟨_,_,p,hp,_⟩:=hp d hd; cases hp
   subst this
   exact ⟨G,Ext.refl G,hc⟩⟩
 | (d,b₀)::r,c,K,q,h=>by
  have skip:(∀ e:Nat,(e<BOX∧(∃ cells,dU S.tab e=some (.var cells))∧dU c.tab e=none)->e ≠ d)->wY S r c K=some q->∃ c',K c' = some q∧BD c c' ∧
    ∀ w₀ aI aJ ρ I a w,Rel m w₀ aI aJ ρ I S a w->∀ G Pn,rH S ρ w I c G Pn->(∀ d,d<BOX->(∃ cells,dU S.tab d=some (.var cells))->dU c.m d=some d) ->
     (∀ e,e∈Pn->e<BOX∧(∃ cells,dU S.tab e=some (.var cells))∧∃ p,p∈(d,b₀)::r∧p.1=e)->∃ G',Ext G G'∧rH S ρ w I c' G' []:=fun hne h=>by
   obtain ⟨c',h1,h2,h3⟩:=EN r c h
   refine ⟨c',h1,h2,fun w₀ aI aJ ρ I a w hr G Pn hc hm hp=>h3 w₀ aI aJ ρ I a w hr G Pn hc hm fun e he=>?_⟩
   obtain ⟨p1,p2,p,p3,p4⟩:=hp e he
   refine ⟨p1,p2,p,(List.mem_cons.1 p3).resolve_left fun e2=>?_,p4⟩
   subst e2
   exact hne e ⟨p1,p2,(hc.pend e he).1⟩ p4.symm
  simp only [wY] at h
  rcases sN h with ⟨hb,h⟩ | ⟨hb,h⟩
  .have hb:d<BOX:=Nat.le_of_ble_eq_true hb
   split at h
   .rename_i bx ht
    exact skip (fun e he e2=>by rw [e2,ht] at he; exact absurd he.2.2 (by simp)) h
   .rename_i ht
    split at h
    .rename_i cells hs
     obtain ⟨cells',c₁,h1,h2,h3,h4⟩:=(aan (m:=m) (S:=S) 100).2 cells _ _ q h
     obtain ⟨c₂,k1,k2,k3⟩:=EN r _ h1
     refine ⟨c₂,k1,fun e d' he=>k2 e d' (h2 e d' he),fun w₀ aI aJ ρ I a w hr G Pn hc hm hp=>?_⟩
     obtain ⟨apb,e1,e2,e3⟩:=h4 w₀ aI aJ ρ I a w hr G Pn hc
     have hmd:=hm d hb ⟨cells,hs⟩
     obtain ⟨br,f1,_,f3⟩:=hc.NT d d hmd
     obtain ⟨gQ,g1,g2⟩:=hr.tab d _ hs
     rw [f1] at g1; cases g1
     obtain ⟨b,p,val,v1,v2,v3⟩:=DI g2
     have hdP:d∈Pn:=(hc.done d _ f3).resolve_right fun ⟨bx,hbx⟩=>by rw [ht] at hbx; cases hbx
     have hpop:=e2.pop (id:=d) hdP (Pn':=Pn.filter (· != d)) (fun e he=>by by_cases e' : e=d<;>simp [e',he]) (fun e he=>by simpa using he) (box:=.var cells') (br:=br.new) (e1 _ _ f3)
      (fun zU hG=>by
       obtain ⟨a1,a2,a3,a4,_⟩:=g2
       refine ⟨by rw [h3]; exact a1,a2,a3,rfl,b,p,v1,fun j hj=>⟨val j,v2 j (by omega),?_⟩⟩
       have:=(e3 _ v3 zU hG).2 j hj
       rwa [DJ val _ _ (by omega)] at this)
      (fun e he=>by
       have:=e2.inj e d _ he (h2 _ _ hmd)
       subst this
       exact .inr ⟨⟨_,hs⟩,_,rfl⟩)
     obtain ⟨aao,x1,x2⟩:=k3 w₀ aI aJ ρ I a w hr apb _ hpop (fun e he hv=>h2 _ _ (hm e he hv)) fun e he=>by
      simp only [List.mem_filter,bne_iff_ne] at he
      obtain ⟨p1,p2,p,p3,p4⟩:=hp e he.1
      exact ⟨p1,p2,p,(List.mem_cons.1 p3).resolve_left fun e2=>by subst e2; exact he.2 p4.symm,p4⟩
     exact ⟨aao,e1.trans x1,x2⟩
    .rename_i hs
     exact skip (fun e he e2=>by subst e2; obtain ⟨_,⟨cells,hc⟩,_⟩:=he; exact hs cells hc) h
  .have hb:¬ d<BOX:=fun h=>by rw [Nat.blt,Nat.ble_eq_true_of_le h] at hb; cases hb
   exact skip (fun e he e2=>by rw [e2] at he; exact hb he.1) h
theorem Xe:∀ (ts:List Nat) (c:Can) {K:List (Nat × V)->Can->Option R} {q:R},aco S ts c K=some q->∃ l c',K l c' = some q∧BD c c' ∧
  ∀ w₀ aI aJ ρ I a w,Rel m w₀ aI aJ ρ I S a w->∀ G Pn,rH S ρ w I c G Pn->∃ G',Ext G G'∧rH S ρ w I c' G' Pn ∧
   ∀ t v,dU l t=some v->∀ zU,Ext G' zU->Rv w I zU v (a.tmps.getD t Go.undef)
 | [],c,K,q,h=>⟨[],c,h,fun _ _ h=>h,fun w₀ aI aJ ρ I a w hr G Pn hc=>⟨G,Ext.refl G,hc,fun t v h=>by cases h⟩⟩
 | t::ts,c,K,q,h=>by
  simp only [aco] at h
  obtain ⟨v,c',h1,h2,h3⟩:=(aan (m:=m) (S:=S) 100).1 _ _ _ q h
  obtain ⟨l,c'',k1,k2,k3⟩:=Xe ts _ h1
  refine ⟨_,_,k1,fun e d' he=>k2 e d' (h2 e d' he),fun w₀ aI aJ ρ I a w hr G Pn hc=>?_⟩
  obtain ⟨G',e1,e2,e3⟩:=h3 w₀ aI aJ ρ I a w hr G Pn hc
  obtain ⟨aao,f1,f2,f3⟩:=k3 w₀ aI aJ ρ I a w hr G' Pn e2
  refine ⟨aao,e1.trans f1,f2,fun t' v' hv zU hG=>?_⟩
  rw [rJ] at hv
  split at hv
  .rename_i e; subst e; cases hv
   have hx:Rv w I ρ (S.get t') (a.tmps.getD t' Go.undef):=by
    unfold St.get
    rw [LH]
    cases e:dU S.fr t' with
    | none=>exact .undef _
    | some u=>exact hr.fr t' u e
   exact e3 _ hx zU (f1.trans hG)
  .exact f3 t' v' hv zU hG
theorem vO:∀ (L:List (Nat × Box)) (d d' : Nat),dU (lJ S L) d=some d'->d' = d∧d<BOX∧(∃ cells,dU S.tab d=some (.var cells))∧∃ p,p∈L∧p.1=d
 | [],_,_,h=>by cases h
 | (e,b)::L,d,d',h=>by
  have rest:dU (lJ S L) d=some d'->d' = d∧d<BOX∧(∃ cells,dU S.tab d=some (.var cells))∧∃ p,p∈(e,b)::L∧p.1=d:=fun h=>by
   obtain ⟨h1,h2,h3,p,h4,h5⟩:=vO L d d' h
   exact ⟨h1,h2,h3,p,List.mem_cons_of_mem _ h4,h5⟩
  simp only [lJ] at h
  cases hb:Nat.blt e BOX with
  | false=>rw [hb] at h; exact rest h
  | true =>
   rw [hb,cond_true] at h
   split at h
   .rename_i cells hs
    rw [rJ] at h
    split at h
    .rename_i e2; subst e2; cases h
     exact ⟨rfl,Nat.le_of_ble_eq_true hb,⟨cells,hs⟩,_,List.mem_cons_self,rfl⟩
    .exact rest h
   .exact rest h
theorem UW {α:Type}:∀ (L:List (Nat × α)) (d:Nat) (b:α),dU L d=some b->∃ p,p∈L∧p.1=d
 | [],_,_,h=>by cases h
 | (e,x)::L,d,b,h=>by
  rw [rJ] at h
  split at h
  .rename_i e2; exact ⟨_,List.mem_cons_self,e2.symm⟩
  .obtain ⟨p,h1,h2⟩:=UW L d b h; exact ⟨p,List.mem_cons_of_mem _ h1,h2⟩
theorem BG:∀ (L:List (Nat × Box)) (d:Nat),d<BOX->(∃ cells,dU S.tab d=some (.var cells))->(∃ p,p∈L∧p.1=d)->dU (lJ S L) d=some d
 | [],_,_,_,⟨p,h,_⟩=>by cases h
 | (e,b)::L,d,hd,hv,⟨p,hp,he⟩=>by
  have rest:e ≠ d->dU (lJ S L) d=some d:=fun hne=>BG L d hd hv ⟨p,(List.mem_cons.1 hp).resolve_left fun e2=>by subst e2; exact hne he,he⟩
  simp only [lJ]
  by_cases e2:e=d
  .subst e2
   obtain ⟨cells,hs⟩:=hv
   have hb:Nat.blt e BOX=true:=Nat.ble_eq_true_of_le hd
   rw [hb,cond_true,hs]
   simp only [rJ,if_true]
  .cases hb:Nat.blt e BOX with
   | false=>exact rest e2
   | true =>
    rw [cond_true]
    split
    .rw [rJ,if_neg (fun h=>e2 h.symm)]; exact rest e2
    .exact rest e2
theorem EO:∀ (L:List (Nat × Box)) (p:Nat × Nat),p∈lJ S L->p.1<BOX∧(∃ cells,dU S.tab p.1=some (.var cells))∧∃ p',p'∈L∧p'.1=p.1
 | [],_,h=>by cases h
 | (e,b)::L,p,h=>by
  have rest:p∈lJ S L->p.1<BOX∧(∃ cells,dU S.tab p.1=some (.var cells))∧∃ p',p'∈(e,b)::L∧p'.1=p.1:=fun h=>by
   obtain ⟨h1,h2,p',h3,h4⟩:=EO L p h
   exact ⟨h1,h2,p',List.mem_cons_of_mem _ h3,h4⟩
  simp only [lJ] at h
  cases hb:Nat.blt e BOX with
  | false=>rw [hb] at h; exact rest h
  | true =>
   rw [hb,cond_true] at h
   split at h
   .rename_i cells hs
    rcases List.mem_cons.1 h with rfl | h
    .exact ⟨Nat.le_of_ble_eq_true hb,⟨cells,hs⟩,_,List.mem_cons_self,rfl⟩
    .exact rest h
   .exact rest h
theorem aeH (keep:List Nat) (S:St) (K:St->Option R) (q:R) (h:Z5 keep S K=some q):∃ S',K S' = some q∧DF m S S':=by
 unfold Z5 at h
 obtain ⟨c₁,h,hm1,h1⟩:=EN (m:=m) S.tab _ h
 obtain ⟨fr,c₂,h,hm2,h2⟩:=Xe (m:=m) keep c₁ h
 refine ⟨_,h,fun w₀ hz aI aJ ρ I a w hr=>?_⟩
 -- the beginning
 let aeI:Nat->Option Real:=fun d=>match dU (lJ S S.tab) d with | some _=>(ρ d).map Real.new | none=>none
 have g₀:∀ d br,aeI d=some br->dU (lJ S S.tab) d=some d∧∃ gQ,ρ d=some gQ∧br=gQ.new:=fun d br hg=>by
  simp only [aeI] at hg
  split at hg
  .rename_i d' hd
   obtain ⟨rfl,_⟩:=vO _ _ _ hd
   cases e:ρ d' with
   | none=>rw [e] at hg; cases hg
   | some b=>rw [e] at hg; cases hg; exact ⟨hd,b,rfl,rfl⟩
  .cases hg
 have m₀:∀ d d',dU (lJ S S.tab) d=some d'->d' = d∧∃ br cells,ρ d=some br∧dU S.tab d=some (.var cells)∧aeI d=some br.new:=fun d d' hd=>by
  obtain ⟨rfl,_,⟨cells,hs⟩,_⟩:=vO _ _ _ hd
  obtain ⟨br,h1,_⟩:=hr.tab d' _ hs
  exact ⟨rfl,br,cells,h1,hs,by simp only [aeI]; rw [hd,h1]; rfl⟩
 have apc:rH S ρ w I { m:=lJ S S.tab,tab:=[],n:=0 } aeI ((lJ S S.tab).map Prod.fst):=by
  refine ⟨fun d d' hd=>?_,fun d e d' hd he=>?_,fun d br hg=>?_,fun d br hg=>?_,fun d bx hb=>(by cases hb),fun d d' bx _ hb=>(by cases hb),fun d br hg=>?_,fun d hd=>⟨rfl,?_⟩⟩
  .obtain ⟨rfl,br,cells,e1,e2,e3⟩:=m₀ d d' hd
   exact ⟨br,e1,⟨_,e2,by simp⟩,e3⟩
  .exact ((m₀ d d' hd).1.symm.trans (m₀ e d' he).1)
  .exact .inl ⟨d,(g₀ d br hg).1⟩
  .obtain ⟨_,h2,_⟩:=vO _ _ _ (g₀ d br hg).1
   unfold BOX at h2; unfold CAN; simp only; omega
  .obtain ⟨p,e1,e2⟩:=UW _ _ _ (g₀ d br hg).1
   exact .inl (List.mem_map.2 ⟨p,e1,e2⟩)
  .obtain ⟨p,hp,rfl⟩:=List.mem_map.1 hd
   have:=(EO _ _ hp).1
   unfold BOX at this; unfold CAN; simp only; omega
 obtain ⟨apb,x1,i1⟩:=h1 w₀ aI aJ ρ I a w hr aeI _ apc (fun d hd hv=>BG S.tab d hd hv (by obtain ⟨cells,hs⟩:=hv; exact UW _ _ _ hs)) (fun d hd=>by
  obtain ⟨p,hp,rfl⟩:=List.mem_map.1 hd
  exact EO _ _ hp)
 obtain ⟨G,x2,i2,f2⟩:=h2 w₀ aI aJ ρ I a w hr apb [] i1
 have real:∀ d' br b o,G d' = some br->br.has b o->∃ d gQ,dU c₂.m d=some d'∧ρ d=some gQ∧Live S d∧gQ.has b o:=fun d' br b o hg hh=>by
  rcases i2.dom d' br hg with ⟨d,hd⟩ | hb
  .obtain ⟨gQ,k1,k2,k3⟩:=i2.NT d d' hd
   rw [hg] at k3; cases k3
   exact ⟨d,gQ,hd,k1,k2,hh⟩
  .obtain ⟨o₀,k1,_⟩:=hh
   rw [hb] at k1; cases k1
 refine ⟨G,fun t v hv=>f2 t v hv G (Ext.refl G),hr.Z7,hr.size,fun d bx hb=>?_,fun d br hg=>?_,fun d d' br gQ b o _ _ hd hd' hh hh'=>?_,fun d br b o _ hd hh=>?_,fun d br b o _ hd hh=>?_,
  fun d sh rows gen br b o hb hd hh=>?_,fun d br b o _ hd hh=>?_,hr.aZ,hr.qO,hr.uV,hr.keeps,fun d br hl=>?_,(fun d br hl=>by rw [hz.1] at hl; cases hl),(by rw [hz.2]; exact fun _ _ hl=>nomatch hl)⟩
 .obtain ⟨br,k1,k2⟩:=i2.ahq d bx hb
  exact ⟨br,k1,k2 G (Ext.refl G)⟩
 .exact (i2.done d br hg).resolve_left (by simp)
 .obtain ⟨e,b1,k1,k2,k3,k4⟩:=real d br b o hd hh
  obtain ⟨e',b2,l1,l2,l3,l4⟩:=real d' gQ b o hd' hh'
  have:=hr.apart e e' b1 b2 b o k3 l3 k2 l2 k4 l4
  subst this
  rw [k1] at l1; cases l1; rfl
 .obtain ⟨e,b1,k1,k2,k3,k4⟩:=real d br b o hd hh
  exact hr.sF e b1 b o k3 k2 k4
 .obtain ⟨e,b1,k1,k2,k3,k4⟩:=real d br b o hd hh
  exact hr.org e b1 b o k3 k2 k4
 .obtain ⟨e,b1,k1,k2,k3,k4⟩:=real d br b o hd hh
  rcases i2.kind e d _ k1 hb with ⟨⟨sh',rows',g',ht⟩,_⟩ | ⟨_,_,hx⟩
  .exact hr.pY e sh' rows' g' b1 b o ht k2 k4
  .cases hx
 .obtain ⟨e,b1,k1,k2,k3,k4⟩:=real d br b o hd hh
  exact hr.alive e b1 b o k3 k2 k4
 .obtain ⟨hρ,cells,hs⟩:=hr.eF d br hl
  have aqS:=BG S.tab d (w₀.small d br hl) ⟨cells,hs⟩ (UW _ _ _ hs)
  have hm:=hm2 d d (hm1 d d aqS)
  obtain ⟨gQ,k1,_,k3⟩:=i2.NT d d hm
  rw [hρ] at k1; cases k1
  obtain ⟨atf,t1,t2⟩:=hr.tab d _ hs
  rw [hρ] at t1; cases t1
  have hg0:br.new=br:=by
   have:=t2.2.2.2.1
   cases br; simp only at this; subst this; rfl
  refine ⟨by rw [k3,hg0],?_⟩
  obtain ⟨bx,hb⟩:=(i2.done d _ k3).resolve_left (by simp)
  rcases i2.kind d d bx hm hb with ⟨⟨_,_,_,ht⟩,_⟩ | ⟨_,cells',rfl⟩
  .rw [hs] at ht; cases ht
  .exact ⟨cells',hb⟩
end
theorem BH (fk:Nat->Bool):∀ (j:Nat) (l:List V),(WG fk j l).length=l.length
 | _,[]=>rfl
 | j,v::r=>by cases v<;>simp [WG,BH fk (j+1) r]
theorem RH {w:World} {I:Nat->Nat->Prop} {ρ:Nat->Option Real} {x:Value} (fk:Nat->Bool):∀ (j:Nat) (l:List V) (i:Nat),Rv w I ρ (l.getD i .undef) x->Rv w I ρ ((WG fk j l).getD i .undef) x
 | _,[],i,h=>h
 | j,v::r,0,h=>by
  have h:Rv w I ρ v x:=by simpa using h
  cases v with
  | jO sh =>
   show Rv w I ρ (cond (fk j) (.jO sh) (.slc sh [])) x
   cases fk j with
   | true=>exact h
   | false=>exact h.vI
  | _=>exact h
 | j,v::r,i+1,h=>by
  have h:Rv w I ρ (r.getD i .undef) x:=by simpa using h
  have:=RH fk (j+1) r i h
  cases v<;>simpa [WG] using this
theorem zV (fk:Nat->Bool):∀ (T:List (Nat × Box)) (d:Nat),dU (Qz fk T) d=(dU T d).map (agQ fk)
 | [],d=>rfl
 | (e,b)::r,d=>by
  simp only [Qz,dU]
  cases Nat.beq d e with
  | true=>rfl
  | false=>exact zV fk r d
theorem ahr {fk:Nat->Bool} {b:Box}:agQ fk b ≠ .dead↔b ≠ .dead:=by cases b<;>simp [agQ]
theorem BI {fk:Nat->Bool} {S:St} {d:Nat} (h:Live (frz fk S) d):Live S d:=by
 obtain ⟨box,h1,h2⟩:=h
 have h1:dU (Qz fk S.tab) d=some box:=h1
 rw [zV] at h1
 cases e:dU S.tab d with
 | none=>rw [e] at h1; cases h1
 | some b =>
  rw [e] at h1
  cases h1
  exact ⟨b,e,ahr.1 h2⟩
theorem apd (fk:Nat->Bool) {m:Nat} {w₀:Base} {aI aJ I:Nat->Nat->Prop} {ρ:Nat->Option Real} {S:St} {a:Act} {w:World} (hr:Rel m w₀ aI aJ ρ I S a w):Rel m w₀ aI aJ ρ I (frz fk S) a w:=by
 refine ⟨hr.fr,hr.Z7,hr.size,fun d box hb=>?_,fun d br hd=>?_,fun d d' br gQ b o h1 h2=>hr.apart d d' br gQ b o (BI h1) (BI h2),fun d br b o h1=>hr.sF d br b o (BI h1),fun d br b o h1=>hr.org d br b o (BI h1),
  fun d sh rows gen br b o hb=>?_,fun d br b o h1=>hr.alive d br b o (BI h1),hr.aZ,hr.qO,hr.uV,hr.keeps,fun d br hl=>?_,fun d br hl=>?_,hr.Wq⟩
 .have hb:dU (Qz fk S.tab) d=some box:=hb
  rw [zV] at hb
  cases e:dU S.tab d with
  | none=>rw [e] at hb; cases hb
  | some b =>
   rw [e] at hb
   cases hb
   obtain ⟨br,h1,h2⟩:=hr.tab d b e
   refine ⟨br,h1,?_⟩
   cases b with
   | var cells =>
    obtain ⟨g1,g2,g3,g4,bb,oo,g5,g6⟩:=h2
    refine ⟨by rw [BH]; exact g1,g2,g3,g4,bb,oo,g5,fun j hj=>?_⟩
    rw [BH] at hj
    obtain ⟨x,k1,k2⟩:=g6 j hj
    exact ⟨x,k1,RH fk 0 cells j k2⟩
   | _=>exact h2
 .obtain ⟨box,h1⟩:=hr.dom d br hd
  exact ⟨agQ fk box,by show dU (Qz fk S.tab) d=_; rw [zV,h1]; rfl⟩
 .have hb:dU (Qz fk S.tab) d=some (.sl sh rows gen):=hb
  rw [zV] at hb
  cases e:dU S.tab d with
  | none=>rw [e] at hb; cases hb
  | some bx =>
   rw [e] at hb
   cases bx with
   | sl sh' rows' gen'=>cases hb; exact hr.pY d sh rows gen br b o e
   | _=>cases hb
 .obtain ⟨h1,cells,h2⟩:=hr.eF d br hl
  exact ⟨h1,WG fk 0 cells,by show dU (Qz fk S.tab) d=_; rw [zV,h2]; rfl⟩
 .obtain ⟨h1,h2⟩:=hr.hid d br hl
  exact ⟨h1,by show dU (Qz fk S.tab) d=_; rw [zV,h2]; rfl⟩
theorem acN:∀ (T:List (Nat × V)) (t:Nat) (v:V),dU (alE T) t=some v->∃ v',dU T t=some v'∧∀ {w:World} {I:Nat->Nat->Prop} {ρ:Nat->Option Real} {x:Value},Rv w I ρ v' x->Rv w I ρ v x
 | [],t,v,h=>by cases h
 | (s,u)::r,t,v,h=>by
  simp only [alE,dU] at h
  simp only [dU]
  cases hb:Nat.beq t s with
  | true =>
   rw [hb] at h
   cases h
   refine ⟨u,rfl,fun {w I ρ x} hx=>?_⟩
   cases u with
   | jO sh=>exact hx.vI
   | _=>exact hx
  | false =>
   rw [hb] at h
   exact acN r t v h
theorem alW {m:Nat} {w₀:Base} {aI aJ I:Nat->Nat->Prop} {ρ:Nat->Option Real} {S:St} {a:Act} {w:World} (hr:Rel m w₀ aI aJ ρ I S a w):Rel m w₀ aI aJ ρ I (aqA S) a w :=
 ⟨fun t v hv=>by
  obtain ⟨v',h1,h2⟩:=acN S.fr t v hv
  exact h2 (hr.fr t v' h1),hr.Z7,hr.size,hr.tab,hr.dom,hr.apart,hr.sF,hr.org,hr.pY,hr.alive,hr.aZ,hr.qO,hr.uV,hr.keeps,hr.eF,hr.hid,hr.Wq⟩
theorem Xf {m:Nat} (fz:Bool) (fk:Nat->Bool) (fy:Bool) (keep:List Nat) (S:St) (K:St->Option R) (q:R) (h:canon fz fk fy keep S K=some q):∃ S',K S' = some q∧DF m S S':=by
 unfold canon at h
 obtain ⟨S',h1,h2⟩:=aeH (m:=m) keep _ K q h
 refine ⟨S',h1,fun w₀ hz aI aJ ρ I a w hr=>h2 w₀ hz aI aJ ρ I a w ?_⟩
 have hf:Rel m w₀ aI aJ ρ I (cond fz (frz fk S) S) a w:=by
  cases fz with
  | false=>exact hr
  | true=>exact apd fk hr
 cases fy with
 | false=>exact hf
 | true=>exact alW hf
end Go.Ev

namespace Go.Ev
open Go Go.RowKit
theorem NU {E:Env} (hG:Qx E) {f:FuncId} {fn:Func} {c:Code} (hf:E.P.funcs[f]? = some fn) (hb:fn.body=some c)
  (hl : ∀ p ∈ gY c, yw E fn.ntmps p.1 p.2) (hnm : (fn.name == "runtime.NumGoroutine") = false) {D : Den} (h : ∀ args bx, D.pre args bx = true -> bM E f args bx some = some (D.res args bx)) : bH E.P f D :=
 alV hG hf hb (fun fz fk fy keep S K q hh=>Xf fz fk fy keep S K q hh) hl hnm h
theorem aap {E:Env} {m:Nat} (hG:Qx E) {id:Nat} {c:Code} (hl:∀ p∈gY c,yw E m p.1 p.2) (hd:oG m c=true)
  (h:∀ F,E.L id=some F->∀ S K q,F S K=some q->∃ n,JL E id c n S K=some q):yw E m id c :=
 ahp hG (fun fz fk fy keep S K q hh=>Xf fz fk fy keep S K q hh) hl hd h
end Go.Ev

namespace Go.Ev
open Go
section
variable {κ α β γ:Type} {A:(κ->Option R)->Prop}
theorem Gi.no:Gi A (fun _=>none):=fun K q h=>by cases h
theorem alN.go (a:α):alN (fun k=>k a):=fun _ _ _=>⟨_,⟨a,rfl⟩,fun _=>rfl⟩
theorem ag8.go (a:α) (b:β):ag8 (fun k=>k a b):=fun _ _ _=>⟨_,⟨a,b,rfl⟩,fun _=>rfl⟩
theorem alO.go (a:α) (b:β) (c:γ):alO (fun k=>k a b c):=fun _ _ _=>⟨_,⟨a,b,c,rfl⟩,fun _=>rfl⟩
theorem alN.bind {F:(α->Option R)->Option R} {G:α->κ->Option R} (hF:alN F) (hG:∀ a,Gi A (G a)):Gi A (fun k=>F fun a=>G a k):=fun K q h=>by
 obtain ⟨_,⟨a,rfl⟩,h1⟩:=hF _ q h
 have h:F (fun a=>G a K)=some q:=h
 rw [h1] at h
 obtain ⟨p,hp,h2⟩:=hG a K q h
 exact ⟨p,hp,fun K'=>(h1 _).trans (h2 K')⟩
theorem ag8.bind {F:(α->β->Option R)->Option R} {G:α->β->κ->Option R} (hF:ag8 F) (hG:∀ a b,Gi A (G a b)):Gi A (fun k=>F fun a b=>G a b k):=fun K q h=>by
 obtain ⟨_,⟨a,b,rfl⟩,h1⟩:=hF _ q h
 have h:F (fun a b=>G a b K)=some q:=h
 rw [h1] at h
 obtain ⟨p,hp,h2⟩:=hG a b K q h
 exact ⟨p,hp,fun K'=>(h1 _).trans (h2 K')⟩
theorem alO.bind {F:(α->β->γ->Option R)->Option R} {G:α->β->γ->κ->Option R} (hF:alO F) (hG:∀ a b c,Gi A (G a b c)):Gi A (fun k=>F fun a b c=>G a b c k):=fun K q h=>by
 obtain ⟨_,⟨a,b,c,rfl⟩,h1⟩:=hF _ q h
 have h:F (fun a b c=>G a b c K)=some q:=h
 rw [h1] at h
 obtain ⟨p,hp,h2⟩:=hG a b c K q h
 exact ⟨p,hp,fun K'=>(h1 _).trans (h2 K')⟩
theorem Gi.vf {v:V} {G:V->κ->Option R} (h:Gi A (G v)):Gi A (fun k=>Go.Ev.vf v fun v=>G v k):=by
 have e:(fun k=>Go.Ev.vf v fun v=>G v k)=fun k=>G v k:=by funext k; rw [Ws]
 rw [e]; exact h
end
section
variable {E:Env}
end
end Go.Ev

namespace Go.Ev
open Go Go.RowKit
end Go.Ev

namespace Go.Ev
open Go Go.RowKit
mutual
def Jg:V->Bool
 | .int k n=>(Lit.int k n).wf
 | .str s=>Nat.ble s.length 9223372036854775807
 | .slc sh rows=>cond (Nat.ble rows.length 9223372036854775807) (cond (dM sh rows) (zW rows) false) false
 | .bool _=>true
 | .jO _=>true
 | _=>false
def AY:List V->Bool
 | []=>true
 | v::r=>cond (Jg v) (AY r) false
def zW:List (List V)->Bool
 | []=>true
 | r::rs=>cond (AY r) (zW rs) false
end
theorem vZ:∀ (a b:List V),AY (a++b)=cond (AY a) (AY b) false
 | [],b=>by simp [AY]
 | v::r,b=>by
  simp only [List.cons_append,AY,vZ r b]
  cases Jg v<;>cases AY r<;>cases AY b<;>rfl
theorem Xg {α:Type} (dec:List V->α) (enc:α->List V) (sh:List Sh) (h:∀ r,iq sh r=true->AY r=true->AY (enc (dec r))=true):∀ rows,dM sh rows=true->zW rows=true->zW ((rows.map dec).map enc)=true
 | [],_,_=>rfl
 | r::rs,hf,hr=>by
  simp only [zW] at hr
  simp only [dM] at hf
  cases e:AY r with
  | false=>rw [e] at hr; cases hr
  | true =>
   cases e2:iq sh r with
   | false=>rw [e2] at hf; cases hf
   | true =>
    rw [e] at hr
    rw [e2] at hf
    simp only [List.map_cons,zW,h r e2 e,cond_true]
    exact Xg dec enc sh h rs hf hr
structure ah (α:Type) where
 sh:List Sh
 enc:α->List V
 dec:List V->α
 rf:Sh.rC sh sh=true
 fit:∀ a,iq sh (enc a)=true
 wf:∀ row,iq sh row=true->AY row=true->AY (enc (dec row))=true
 de:∀ a,dec (enc a)=a
 law:∀ (w:World) (I:Nat->Nat->Prop) (row:List V) (val:Nat->Value),iq sh row=true->(∀ j,j<sh.length->Dat w I (row.getD j .undef) (val j))->∀ j,j<sh.length->Dat w I ((enc (dec row)).getD j .undef) (val j)
theorem mO {sh:List Sh} {row:List V} (h:iq sh row=true):row.length=sh.length:=(lF sh row h).1
theorem fits_int {k:IntKind} {v:V} (h:fits (.int k) v=true):∃ n,v = .int k n:=by
 cases v<;>first | (cases h; done) | (simp only [fits,decide_eq_true_eq] at h; subst h; exact ⟨_,rfl⟩)
theorem fits_bool {v:V} (h:fits .bool v=true):∃ n,v = .bool n:=by cases v<;>first | (cases h; done) | exact ⟨_,rfl⟩
theorem Xh {v:V} (h:fits .str v=true):∃ n,v = .str n:=by cases v<;>first | (cases h; done) | exact ⟨_,rfl⟩
theorem Xi {c:List Sh} {v:V} (h:fits (.slc c) v=true):(∃ r,v = .slc c r)∨v = .jO c:=by
 cases v<;>first | (cases h; done) | (have:=Sh.pO _ _ h; subst this; first | exact .inl ⟨_,rfl⟩ | exact .inr rfl)
theorem qR {s:Sh} {row:List V} (h:iq [s] row=true):∃ v,row=[v]∧fits s v=true:=by
 match row,h with
 | [],h=>cases h
 | [v],h =>
  refine ⟨v,rfl,?_⟩
  simp only [iq] at h
  cases e:fits s v with
  | true=>rfl
  | false=>rw [e] at h; cases h
 | v::u::r,h =>
  simp only [iq] at h
  cases e:fits s v with
  | true=>rw [e] at h; cases h
  | false=>rw [e] at h; cases h
theorem zX:∀ (s t:List Sh) (x y:List V),iq s x=true->iq t y=true->iq (s++t) (x++y)=true
 | [],t,x,y,h,k=>by cases x with | nil=>exact k | cons _ _=>cases h
 | a::s,t,x,y,h,k=>by
  cases x with
  | nil=>cases h
  | cons v x =>
   simp only [iq] at h
   simp only [List.cons_append,iq]
   cases e:fits a v with
   | false=>rw [e] at h; cases h
   | true=>rw [e] at h; exact zX s t x y h k
theorem BJ:∀ (s t:List Sh) (z:List V),iq (s++t) z=true->iq s (z.take s.length)=true∧iq t (z.drop s.length)=true
 | [],t,z,h=>⟨rfl,by simpa using h⟩
 | a::s,t,z,h=>by
  cases z with
  | nil=>cases h
  | cons v z =>
   simp only [List.cons_append,iq] at h
   simp only [List.length_cons,List.take_succ_cons,List.drop_succ_cons,iq]
   cases e:fits a v with
   | false=>rw [e] at h; cases h
   | true=>rw [e] at h; exact BJ s t z h
theorem Sh.J5:∀ (a b c d:List Sh),Sh.rC a b=true->Sh.rC c d=true->Sh.rC (a++c) (b++d)=true
 | [],b,c,d,h,k=>by cases b with | nil=>exact k | cons _ _=>cases h
 | x::a,b,c,d,h,k=>by
  cases b with
  | nil=>cases h
  | cons y b =>
   simp only [Sh.rC] at h
   simp only [List.cons_append,Sh.rC]
   cases e:Sh.beq x y with
   | false=>rw [e] at h; cases h
   | true=>rw [e] at h; exact Sh.J5 a b c d h k
def rM (k:IntKind):ah Int where
 sh:=[.int k]; enc n:=[.int k n]; dec r:=(r.getD 0 .undef).toInt
 rf:=by simp [Sh.rC,Sh.beq]
 fit _:=by simp [iq,fits]
 de _:=rfl
 wf row h hw:=by
  obtain ⟨v,rfl,hf⟩:=qR h
  obtain ⟨n,rfl⟩:=fits_int hf
  exact hw
 law w I row val h hd j hj:=by
  obtain ⟨v,rfl,hf⟩:=qR h
  obtain ⟨n,rfl⟩:=fits_int hf
  have:j=0:=by simp at hj; exact hj
  subst this
  exact hd 0 (by simp)
def ahs:ah Bool where
 sh:=[.bool]; enc n:=[.bool n]; dec r:=(r.getD 0 .undef).toBool
 rf:=rfl
 fit _:=rfl
 de _:=rfl
 wf row h hw:=by
  obtain ⟨v,rfl,hf⟩:=qR h
  obtain ⟨n,rfl⟩:=fits_bool hf
  exact hw
 law w I row val h hd j hj:=by
  obtain ⟨v,rfl,hf⟩:=qR h
  obtain ⟨n,rfl⟩:=fits_bool hf
  have:j=0:=by simp at hj; exact hj
  subst this
  exact hd 0 (by simp)
def qA:ah (List UInt8) where
 sh:=[.str]; enc n:=[.str n]; dec r:=(r.getD 0 .undef).toStr
 rf:=rfl
 fit _:=rfl
 de _:=rfl
 wf row h hw:=by
  obtain ⟨v,rfl,hf⟩:=qR h
  obtain ⟨n,rfl⟩:=Xh hf
  exact hw
 law w I row val h hd j hj:=by
  obtain ⟨v,rfl,hf⟩:=qR h
  obtain ⟨n,rfl⟩:=Xh hf
  have:j=0:=by simp at hj; exact hj
  subst this
  exact hd 0 (by simp)
theorem Xj {α:Type} (c:ah α) {w:World} {I:Nat->Nat->Prop} {rows:List (List V)} {x:Value} (h:Dat w I (.slc c.sh rows) x):Dat w I (.slc c.sh ((rows.map c.dec).map c.enc)) x:=by
 cases h with
 | slc _ _ a cap val hcap hnil hfit ha hd =>
  have hlen:((rows.map c.dec).map c.enc).length=rows.length:=by simp
  have hget:∀ i,i<rows.length->((rows.map c.dec).map c.enc).getD i []=c.enc (c.dec (rows.getD i [])):=fun i hi=>by
   simp [List.getD_eq_getElem?_getD,hi]
  rw [<- hlen]
  refine .slc _ _ a cap val (by rw [hlen]; exact hcap) hnil (jW _ _ fun i hi=>?_) (fun hr=>?_) (fun i j hi hj=>?_)
  .rw [hlen] at hi; rw [hget i hi]; exact c.fit _
  .obtain ⟨b,o,h1,h2⟩:=ha (by intro e; subst e; exact hr rfl)
   exact ⟨b,o,h1,fun i j hi hj=>h2 i j (by rwa [hlen] at hi) hj⟩
  .rw [hlen] at hi
   unfold rowAt
   rw [hget i hi]
   exact c.law w I _ (val i) (gU _ _ hfit i hi) (fun j hj=>hd i j hi hj) j hj
def uZ {α:Type} (c:ah α):ah (List α) where
 sh:=[.slc c.sh]; enc l:=[.slc c.sh (l.map c.enc)]; dec r:=(r.getD 0 .undef).toRows.map c.dec
 rf:=by simp [Sh.rC,Sh.beq,c.rf]
 fit _:=by simp [iq,fits,c.rf]
 de l:=by simp [V.toRows,Function.comp_def,c.de]
 wf row h hw:=by
  obtain ⟨v,rfl,hf⟩:=qR h
  rcases Xi hf with ⟨r,rfl⟩ | rfl
  .simp only [AY,Jg] at hw ⊢
   cases e1:Nat.ble r.length 9223372036854775807 with
   | false=>simp only [e1,cond_false] at hw; cases hw
   | true =>
    cases e3:dM c.sh r with
    | false=>simp only [e1,e3,cond_true,cond_false] at hw; cases hw
    | true =>
     cases e2:zW r with
     | false=>simp only [e1,e2,e3,cond_true,cond_false] at hw; cases hw
     | true =>
      have g1:((r.map c.dec).map c.enc).length=r.length:=by simp
      have g2:dM c.sh ((r.map c.dec).map c.enc)=true:=jW _ _ fun i hi=>by
       rw [g1] at hi
       rw [show ((r.map c.dec).map c.enc).getD i []=c.enc (c.dec (r.getD i [])) by simp [List.getD_eq_getElem?_getD,hi]]
       exact c.fit _
      show (cond (cond (Nat.ble ((r.map c.dec).map c.enc).length 9223372036854775807) (cond (dM c.sh ((r.map c.dec).map c.enc)) (zW ((r.map c.dec).map c.enc)) false) false) true false)=true
      rw [g1,e1,g2,Xg c.dec c.enc c.sh c.wf r e3 e2]; rfl
  .rfl
 law w I row val h hd j hj:=by
  obtain ⟨v,rfl,hf⟩:=qR h
  have:j=0:=by simp at hj; exact hj
  subst this
  have h0:=hd 0 (by simp)
  rcases Xi hf with ⟨r,rfl⟩ | rfl
  .exact Xj c h0
  .exact Xj c (rows:=[]) h0.vI
def ah.and {α β:Type} (c:ah α) (d:ah β):ah (α × β) where
 sh:=c.sh++d.sh; enc p:=c.enc p.1++d.enc p.2; dec r:=(c.dec (r.take c.sh.length),d.dec (r.drop c.sh.length))
 rf:=Sh.J5 _ _ _ _ c.rf d.rf
 fit p:=zX _ _ _ _ (c.fit _) (d.fit _)
 de p:=by
  have l1:(c.enc p.1).length=c.sh.length:=mO (c.fit _)
  show (c.dec ((c.enc p.1++d.enc p.2).take c.sh.length),d.dec ((c.enc p.1++d.enc p.2).drop c.sh.length))=p
  rw [<- l1,List.take_left,List.drop_left,c.de,d.de]
 wf row h hw:=by
  obtain ⟨h1,h2⟩:=BJ _ _ _ h
  have e:row.take c.sh.length++row.drop c.sh.length=row:=List.take_append_drop _ _
  rw [<- e,vZ] at hw
  obtain ⟨w1,w2⟩:AY (row.take c.sh.length)=true∧AY (row.drop c.sh.length)=true:=by
   cases e1:AY (row.take c.sh.length) with
   | false=>rw [e1] at hw; cases hw
   | true=>rw [e1] at hw; exact ⟨rfl,hw⟩
  rw [vZ,c.wf _ h1 w1,d.wf _ h2 w2]; rfl
 law w I row val h hd j hj:=by
  obtain ⟨h1,h2⟩:=BJ _ _ _ h
  have l1:(c.enc (c.dec (row.take c.sh.length))).length=c.sh.length:=mO (c.fit _)
  have hl:=mO h
  simp only [List.length_append] at hj hl
  by_cases hjc:j<c.sh.length
  .have:=c.law w I _ val h1 (fun i hi=>by
    have:=hd i (by simp; omega)
    rwa [show (row.take c.sh.length).getD i .undef=row.getD i .undef by simp [List.getD_eq_getElem?_getD,hi]]) j hjc
   rwa [show (c.enc (c.dec (row.take c.sh.length))++d.enc (d.dec (row.drop c.sh.length))).getD j .undef=(c.enc (c.dec (row.take c.sh.length))).getD j .undef by
    simp [List.getD_eq_getElem?_getD,List.getElem?_append_left (show j<(c.enc (c.dec (row.take c.sh.length))).length by omega)]]
  .have:=d.law w I _ (fun i=>val (c.sh.length+i)) h2 (fun i hi=>by
    have:=hd (c.sh.length+i) (by simp; omega)
    rwa [show (row.drop c.sh.length).getD i .undef=row.getD (c.sh.length+i) .undef by simp [List.getD_eq_getElem?_getD]]) (j-c.sh.length) (by omega)
   rw [show c.sh.length+(j-c.sh.length)=j by omega] at this
   rwa [show (c.enc (c.dec (row.take c.sh.length))++d.enc (d.dec (row.drop c.sh.length))).getD j .undef=(d.enc (d.dec (row.drop c.sh.length))).getD (j-c.sh.length) .undef by
    simp [List.getD_eq_getElem?_getD,List.getElem?_append_right (show (c.enc (c.dec (row.take c.sh.length))).length<=j by omega),l1]]
def ah.iso {α β:Type} (c:ah α) (f:α->β) (g:β->α) (h:∀ a,g (f a)=a) (h2:∀ b,f (g b)=b):ah β where
 sh:=c.sh; enc b:=c.enc (g b); dec r:=f (c.dec r)
 rf:=c.rf
 fit b:=c.fit _
 de b:=by rw [c.de,h2]
 wf row hf hw:=by
  show AY (c.enc (g (f (c.dec row))))=true
  rw [h]; exact c.wf row hf hw
 law w I row val hf hd:=by
  show ∀ j,j<c.sh.length->Dat w I ((c.enc (g (f (c.dec row)))).getD j .undef) (val j)
  rw [h]
  exact c.law w I row val hf hd
structure EP (α:Type) where
 ok:V->Bool
 enc:α->V
 dec:V->α
 ed:∀ a,ok (enc a)=true∧dec (enc a)=a
 law:∀ (w:World) (I:Nat->Nat->Prop) (ρ:Nat->Option Real) (v:V) (x:Value),ok v=true->Rv w I ρ v x->Rv w I ρ (enc (dec v)) x
theorem Jh:∀ (sh:List Sh) (row:List V),iq sh row=true->∀ j,j<sh.length->wU (row.getD j .undef)=true:=fun sh row h j hj=>by
 have:=(lF sh row h).2 j hj
 generalize sh.getD j .ZW=s at this
 generalize row.getD j .undef=v at this
 cases s<;>cases v<;>first | rfl | cases this
def bg {α:Type} (c:ah α):EP α where
 ok:=fun | .agg cs=>iq c.sh cs | _=>false
 enc a:=.agg (c.enc a)
 dec:=fun | .agg cs=>c.dec cs | _=>c.dec []
 ed a:=⟨c.fit a,c.de a⟩
 law w I ρ v x h hx:=by
  cases v with
  | agg cs =>
   obtain ⟨xs,rfl,l,hh⟩:=hx.pK
   have hl:=mO h
   have hl' : (c.enc (c.dec cs)).length=c.sh.length:=mO (c.fit _)
   refine .agg _ xs (by simp only; omega) fun i hi=>?_
   simp only at hi ⊢
   exact .dat (c.law w I cs (fun j=>xs.getD j Go.undef) h (fun j hj=>jB (hh j (by omega)) (Jh _ _ h j hj)) i (by omega))
  | _=>cases h
def QE {α:Type} (c:ah α) (h1:c.sh.length=1):EP α where
 ok v:=iq c.sh [v]
 enc a:=(c.enc a).headD .undef
 dec v:=c.dec [v]
 ed a:=by
  have l1:(c.enc a).length=1:=(mO (c.fit _)).trans h1
  have e:[(c.enc a).headD .undef]=c.enc a:=by
   match hc:c.enc a,l1 with
   | [v],_=>rfl
   | [],h=>rw [hc] at l1; cases l1
   | _::_::_,h=>rw [hc] at l1; simp at l1
  rw [e]; exact ⟨c.fit a,c.de a⟩
 law w I ρ v x h hx:=by
  have hd:Dat w I v x:=jB hx (by simpa using Jh _ _ h 0 (by omega))
  have:=c.law w I [v] (fun _=>x) h (fun j hj=>by
   have h0:j=0:=by omega
   subst h0
   exact hd) 0 (by omega)
  have e:(c.enc (c.dec [v])).headD .undef=(c.enc (c.dec [v])).getD 0 .undef:=by cases c.enc (c.dec [v])<;>rfl
  rw [e]; exact .dat this
def cu (k:IntKind):EP Int:=QE (rM k) rfl
def iF:EP Bool:=QE ahs rfl
def fV:EP (List UInt8):=QE qA rfl
def jY {α:Type} (c:ah α):EP (List α):=QE (uZ c) rfl
def nY (n:Nat):EP Unit where
 ok:=fun | .ptr m 0 0 0=>Nat.beq n m | _=>false
 enc _:=.ptr n 0 0 0
 dec _:=()
 ed _:=⟨Nat.beq_refl n,rfl⟩
 law w I ρ v x h hx:=by
  split at h
  .have:=Nat.eq_of_beq_eq_true h; subst this; exact hx
  .cases h
structure NV (α:Type) where
 ok:List V->Bool
 enc:α->List V
 dec:List V->α
 ed:∀ a,ok (enc a)=true∧dec (enc a)=a
 law:∀ (w:World) (I:Nat->Nat->Prop) (ρ:Nat->Option Real) (vs:List V) (xs:List Value),ok vs=true->dI w I ρ vs xs->dI w I ρ (enc (dec vs)) xs
def alX:NV Unit where
 ok:=fun | []=>true | _=>false
 enc _:=[]
 dec _:=()
 ed _:=⟨rfl,rfl⟩
 law w I ρ vs xs h hx:=by cases vs with | nil=>exact hx | cons _ _=>cases h
def aW {α:Type} (c:EP α):NV α where
 ok:=fun | [v]=>c.ok v | _=>false
 enc a:=[c.enc a]
 dec vs:=c.dec (vs.headD .undef)
 ed a:=c.ed a
 law w I ρ vs xs h hx:=by
  match vs,h with
  | [v],h =>
   obtain ⟨x,rfl,hx1⟩:=hx.one
   refine ⟨rfl,fun i hi=>?_⟩
   have:i=0:=by simp at hi; exact hi
   subst this
   exact c.law w I ρ v x h hx1
  | [],h=>cases h
  | _::_::_,h=>cases h
def aO {α β:Type} (c:EP α) (r:NV β):NV (α × β) where
 ok:=fun | v::vs=>cond (c.ok v) (r.ok vs) false | []=>false
 enc p:=c.enc p.1::r.enc p.2
 dec vs:=(c.dec (vs.headD .undef),r.dec vs.tail)
 ed p:=by
  obtain ⟨h1,h2⟩:=c.ed p.1
  obtain ⟨h3,h4⟩:=r.ed p.2
  refine ⟨?_,?_⟩
  .show cond (c.ok (c.enc p.1)) (r.ok (r.enc p.2)) false=true
   rw [h1,h3]; rfl
  .show (c.dec (c.enc p.1),r.dec (r.enc p.2))=p
   rw [h2,h4]
 law w I ρ vs xs h hx:=by
  cases vs with
  | nil=>cases h
  | cons v vs =>
   obtain ⟨h1,h2⟩:c.ok v=true∧r.ok vs=true:=by
    simp only at h
    cases e:c.ok v with
    | true=>rw [e] at h; exact ⟨rfl,h⟩
    | false=>rw [e] at h; cases h
   obtain ⟨x,xs',rfl,hx1,hx2⟩:=hx.qK
   have g1:=c.law w I ρ v x h1 hx1
   have g2:=r.law w I ρ vs xs' h2 hx2
   refine ⟨by simp [g2.1],fun i hi=>?_⟩
   cases i with
   | zero=>exact g1
   | succ i=>exact g2.2 i (by simpa using hi)
structure UY (α:Type) where
 ok:List (List V)->Bool
 enc:α->List (List V)
 dec:List (List V)->α
 len:∀ bx,ok bx=true->(enc (dec bx)).length=bx.length
 law:∀ bx,ok bx=true->∀ (j:Nat) (cs cs' : List V),bx[j]? = some cs->(enc (dec bx))[j]? = some cs'->cs'.length=cs.length ∧
  ∀ (w:World) (J:Nat->Nat->Prop) (ρ:Nat->Option Real) (k:Nat) (y:Value),k<cs.length->Rv w J ρ (cs.getD k .undef) y->∀ val:Nat->Value,val k=y ->
   (∀ i,i<cs.length->Rv w J ρ (cs.getD i .undef) (val i))->Rv w J ρ (cs'.getD k .undef) y
def dw:UY Unit where
 ok:=fun | []=>true | _=>false
 enc _:=[]
 dec _:=()
 len bx h:=by cases bx with | nil=>rfl | cons _ _=>cases h
 law bx h j cs cs' hj:=by cases bx with | nil=>cases hj | cons _ _=>cases h
theorem ahu {α:Type} (c:ah α) {cs:List V} (h:iq c.sh cs=true):(c.enc (c.dec cs)).length=cs.length ∧
  ∀ (w:World) (J:Nat->Nat->Prop) (ρ:Nat->Option Real) (k:Nat) (y:Value),k<cs.length->Rv w J ρ (cs.getD k .undef) y->∀ val:Nat->Value,val k=y ->
   (∀ i,i<cs.length->Rv w J ρ (cs.getD i .undef) (val i))->Rv w J ρ ((c.enc (c.dec cs)).getD k .undef) y:=by
 have hl:=mO h
 have hl' : (c.enc (c.dec cs)).length=c.sh.length:=mO (c.fit _)
 refine ⟨by omega,fun w J ρ k y hk hy val hv hall=>?_⟩
 have:=c.law w J cs val h (fun j hj=>jB (hall j (by omega)) (Jh _ _ h j hj)) k (by omega)
 rw [hv] at this
 exact .dat this
def nC {α:Type} (c:ah α):UY α where
 ok:=fun | [cs]=>iq c.sh cs | _=>false
 enc a:=[c.enc a]
 dec bx:=c.dec (bx.headD [])
 len bx h:=by
  match bx,h with
  | [cs],h=>rfl
  | [],h=>cases h
  | _::_::_,h=>cases h
 law bx h j cs cs' hj hj':=by
  match bx,h with
  | [c₀],h =>
   have:j=0:=by
    have:=(List.getElem?_eq_some_iff.1 hj).1
    simp at this; exact this
   subst this
   cases hj; cases hj'
   exact ahu c h
  | [],h=>cases h
  | _::_::_,h=>cases h
structure Out where
 v:V
 nb:List Box:=[]
def den {α β γ:Type} (A:NV α) (B:UY β) (O:γ->Out) (p:α->β->Bool) (f:α->β->γ × β):Den where
 pre vs bx:=cond (A.ok vs) (cond (B.ok bx) (p (A.dec vs) (B.dec bx)) false) false
 res vs bx:={ v:=(O (f (A.dec vs) (B.dec bx)).1).v,bx:=B.enc (f (A.dec vs) (B.dec bx)).2,nb:=(O (f (A.dec vs) (B.dec bx)).1).nb }
def oV {α:Type} (c:EP α) (a:α):Out:={ v:=c.enc a }
def nP {α:Type} (c:NV α) (a:α):Out:={ v:=.fE (c.enc a) }
def asv {α:Type} (c:ah α) (a:α):Out:={ v:=.ptr NEW 0 0 0,nb:=[.var (c.enc a)] }
def ape {α:Type} (c:ah α) (l:List α):Out:={ v:=.own NEW 0,nb:=[.sl c.sh (l.map c.enc) 0] }
theorem bH.at {P:Program} {f:FuncId} {args:List V} {bx:List (List V)} {r:aH} (h:bH P f { pre:=fun a b=>@decide (a=args∧b=bx) (Classical.propDecidable _),res:=fun _ _=>r }) {A' : List V} {B' : List (List V)}
  (hB:bx.length=B'.length) (hlen:∀ (j:Nat) (cs cs' : List V),B'[j]? = some cs->bx[j]? = some cs'->cs'.length=cs.length ∧
   ∀ (w:World) (J:Nat->Nat->Prop) (ρ:Nat->Option Real) (k:Nat) (y:Value),k<cs.length->Rv w J ρ (cs.getD k .undef) y->∀ val:Nat->Value,val k=y ->
   (∀ i,i<cs.length->Rv w J ρ (cs.getD i .undef) (val i))->Rv w J ρ (cs'.getD k .undef) y)
  (hA:∀ (w:World) (I:Nat->Nat->Prop) (ρ:Nat->Option Real) (xs:List Value),dI w I ρ A' xs->dI w I ρ args xs) :
  bH P f { pre:=fun a b=>@decide (a=A'∧b=B') (Classical.propDecidable _),res:=fun _ _=>r }:=by
 intro a b hpre w J gq xs hl hJ hx hc hdis hgl
 have hpre' : a=A'∧b=B':=by simpa using hpre
 obtain ⟨rfl,rfl⟩:=hpre'
 have get:∀ (j:Nat) (cs' : List V),bx[j]? = some cs'->∃ cs,b[j]? = some cs:=fun j cs' hj=>by
  have:=(List.getElem?_eq_some_iff.1 hj).1
  exact ⟨b[j]'(by omega),by simp⟩
 have hloc:jL gq bx=jL gq b:=by
  funext j
  unfold jL
  cases hlj:gq[j]? with
  | none=>rfl
  | some p =>
   cases hbj:bx[j]? with
   | none =>
    have:b[j]? = none:=by rw [List.getElem?_eq_none_iff] at hbj ⊢; omega
    rw [this]
   | some cs' =>
    obtain ⟨cs,hcs⟩:=get j cs' hbj
    rw [hcs]
    simp only [Option.some.injEq,Real.mk.injEq,true_and,and_true]
    exact (hlen j cs cs' hcs hbj).1
 have hhas:∀ r o,Bq gq bx r o↔Bq gq b r o:=fun r o=>by
  constructor
  .rintro ⟨j,p,cs',h1,h2,h3,h4,h5⟩
   obtain ⟨cs,hcs⟩:=get j cs' h2
   exact ⟨j,p,cs,h1,hcs,h3,h4,by rw [<- (hlen j cs cs' hcs h2).1]; exact h5⟩
  .rintro ⟨j,p,cs,h1,h2,h3,h4,h5⟩
   have hj:=(List.getElem?_eq_some_iff.1 h2).1
   have h2' : bx[j]? = some (bx[j]'(by omega)):=by simp
   exact ⟨j,p,_,h1,h2',h3,h4,by rw [(hlen j cs _ h2 h2').1]; exact h5⟩
 have main:=h args bx (by simp) w J gq xs (by omega) hJ (hloc ▸ hA w J _ xs hx) (fun j p cs' h1 h2 k hk=>by
   obtain ⟨cs,hcs⟩:=get j cs' h2
   obtain ⟨e1,e2⟩:=hlen j cs cs' hcs h2
   obtain ⟨⟨y,g1,g2⟩,g3,g4⟩:=hc j p cs h1 hcs k (by omega)
   have ex:∀ i,∃ z,i<cs.length->w.cell? ⟨p.1,p.2+i,none⟩=some z∧Rv w J nH (cs.getD i .undef) z:=fun i=>by
    by_cases hi:i<cs.length
    .obtain ⟨⟨z,q1,q2⟩,_⟩:=hc j p cs h1 hcs i hi; exact ⟨z,fun _=>⟨q1,q2⟩⟩
    .exact ⟨Go.undef,fun h=>absurd h hi⟩
   have hv:=fun i=>Classical.choose_spec (ex i)
   refine ⟨⟨y,g1,e2 w J nH k y (by omega) g2 (fun i=>Classical.choose (ex i)) ?_ (fun i hi=>(hv i hi).2)⟩,g3,g4⟩
   exact (Option.some.inj (g1.symm.trans (hv k (by omega)).1)).symm)
  (fun j j' p p' cs cs' r o h1 h2 h3 h4 h5 h6 h7 h8 h9 h10=>by
   obtain ⟨c,hc1⟩:=get j cs h3
   obtain ⟨c',hc2⟩:=get j' cs' h4
   exact hdis j j' p p' c c' r o h1 h2 hc1 hc2 h5 h6 (by rw [<- (hlen j c cs hc1 h3).1]; exact h7) h8 h9 (by rw [<- (hlen j' c' cs' hc2 h4).1]; exact h10)) hgl
 have conv:∀ v w',(∃ J',Es w w' J gq bx r v J')->∃ J',Es w w' J gq b r v J':=fun v w' ⟨J',hR⟩ =>
  ⟨J',⟨hR.keeps.mono fun r o _ h=>(hhas r o).1 h,hR.mono,hR.lt,hR.old,hR.len.trans hB,fun j cs cs' p h1 h2 h3=>by
   have hj:=(List.getElem?_eq_some_iff.1 h1).1
   have h2' : bx[j]? = some (bx[j]'(by omega)):=by simp
   have e:=hR.bx j _ cs' p h2' h2 h3
   exact ⟨e.1.trans (hlen j cs _ h1 h2').1,e.2⟩,hR.val⟩⟩
 rcases main with ⟨h1,h2⟩ | ⟨v,w',h1,h2⟩
 .exact .inl ⟨h1,h2.mono fun e w' ⟨v,hv,hr⟩=>⟨v,hv,conv v w' hr⟩⟩
 .exact .inr ⟨v,w',h1,conv v w' h2⟩
theorem UZ {P:Program} {f:FuncId} {α β γ:Type} {A:NV α} {B:UY β} {O:γ->Out} {p:α->β->Bool} {g:α->β->γ × β}
  (h:∀ a b,p a b=true->bH P f { pre:=fun x y=>@decide (x=A.enc a∧y=B.enc b) (Classical.propDecidable _),res:=fun _ _=>{ v:=(O (g a b).1).v,bx:=B.enc (g a b).2,nb:=(O (g a b).1).nb } }):bH P f (den A B O p g):=by
 intro args bx hpre
 obtain ⟨h1,hpre⟩:A.ok args=true∧cond (B.ok bx) (p (A.dec args) (B.dec bx)) false=true:=by
  simp only [den] at hpre
  cases e:A.ok args with
  | true=>rw [e] at hpre; exact ⟨rfl,hpre⟩
  | false=>rw [e] at hpre; cases hpre
 obtain ⟨h2,h3⟩:B.ok bx=true∧p (A.dec args) (B.dec bx)=true:=by
  cases e:B.ok bx with
  | true=>rw [e] at hpre; exact ⟨rfl,hpre⟩
  | false=>rw [e] at hpre; cases hpre
 exact ((h _ _ h3).at (A':=args) (B':=bx) (B.len bx h2) (B.law bx h2) (fun w I ρ xs hx=>A.law w I ρ args xs h1 hx)) args bx (by simp)
theorem apf {E:Env} (hG:Qx E) {f:FuncId} {fn:Func} {c:Code} (hf:E.P.funcs[f]? = some fn) (hb:fn.body=some c)
  (hl : ∀ q ∈ gY c, yw E fn.ntmps q.1 q.2) (hnm : (fn.name == "runtime.NumGoroutine") = false) {α β γ : Type} {A : NV α} {B : UY β} {O : γ -> Out} {p : α -> β -> Bool} {g : α -> β -> γ × β}
  (h:∀ a b,p a b=true->bM E f (A.enc a) (B.enc b) some=some { v:=(O (g a b).1).v,bx:=B.enc (g a b).2,nb:=(O (g a b).1).nb }):bH E.P f (den A B O p g):=by
 intro args bx hpre
 obtain ⟨h1,hpre⟩:A.ok args=true∧cond (B.ok bx) (p (A.dec args) (B.dec bx)) false=true:=by
  simp only [den] at hpre
  cases e:A.ok args with
  | true=>rw [e] at hpre; exact ⟨rfl,hpre⟩
  | false=>rw [e] at hpre; cases hpre
 obtain ⟨h2,h3⟩:B.ok bx=true∧p (A.dec args) (B.dec bx)=true:=by
  cases e:B.ok bx with
  | true=>rw [e] at hpre; exact ⟨rfl,hpre⟩
  | false=>rw [e] at hpre; cases hpre
 have hE:=NU hG hf hb hl hnm (D:={ pre:=fun a b=>@decide (a=A.enc (A.dec args)∧b=B.enc (B.dec bx)) (Classical.propDecidable _),res:=fun _ _=>(den A B O p g).res args bx }) (fun a b hab=>by
  have hab:a=A.enc (A.dec args)∧b=B.enc (B.dec bx):=by simpa using hab
  obtain ⟨rfl,rfl⟩:=hab
  exact h _ _ h3)
 exact (hE.at (A':=args) (B':=bx) (B.len bx h2) (B.law bx h2) (fun w I ρ xs hx=>A.law w I ρ args xs h1 hx)) args bx (by simp)
end Go.Ev

namespace Go.Ev
open Go Go.RowKit
def fK (P:Program) (T:List (Nat × Den)):Prop:=∀ f D,dU T f=some D->bH P f D
theorem fK.nil (P:Program):fK P []:=fun f D h=>by cases h
theorem fK.cons {P:Program} {T:List (Nat × Den)} {f:Nat} {D:Den} (h:bH P f D) (hT:fK P T):fK P ((f,D)::T):=fun g D' hg=>by
 simp only [dU] at hg
 cases e:Nat.beq g f with
 | true =>
  rw [e] at hg
  have:=Nat.eq_of_beq_eq_true e
  subst this
  cases hg; exact h
 | false=>rw [e] at hg; exact hT g D' hg
abbrev aob:=St->(Ex->St->Option R)->Option R
def env (P:Program) (T:List (Nat × Den)) (L:List (Nat × aob)) (kt:List (Nat × List (Nat × List Nat))) (ow:List Nat:=[]):Env :=
 { P:=P,G:=dU T,L:=dU L,keep:=fun id e=>lk [] (lk [] kt id) e,ow:=fun f=>oO f ow }
def qB (E:Env) (f:FuncId) (id:Nat):Nat->St->(Ex->St->Option R)->Option R
 | 0,_,_=>none
 | n+1,S,K=>bI E f id S fun e S=>match e with
  | .normal=>qB E f id n S K
  | e=>K e S
def dB (E:Env) (f:FuncId) (id:Nat):Prop:=∀ F,E.L id=some F->∀ S K q,F S K=some q->∃ n,qB E f id n S K=some q
def NW:List (Nat × Code)->Bool
 | []=>true
 | p::r=>cond (r.all fun q=>!Nat.beq p.1 q.1) (NW r) false
theorem U0:∀ (l:List (Nat × Code)),NW l=true->∀ i c,(i,c)∈l->dU l i=some c
 | [],_,i,c,h=>by cases h
 | (j,d)::r,hn,i,c,h=>by
  simp only [NW] at hn
  cases ha:r.all fun q=>!Nat.beq j q.1 with
  | false=>simp only [ha] at hn; cases hn
  | true =>
   simp only [ha,cond_true] at hn
   simp only [dU]
   rcases List.mem_cons.1 h with e | h
   .cases e; simp
   .have:=List.all_eq_true.1 ha (i,c) h
    have e:Nat.beq i j=false:=by
     rw [Bool.eq_false_iff]
     intro e
     have:=Nat.eq_of_beq_eq_true e
     subst this
     simp at *
    rw [e]
    exact U0 r hn i c h
theorem U1 {E:Env} {f:FuncId} {fn:Func} {c:Code} (hf:E.P.funcs[f]? = some fn) (hb:fn.body=some c) {id:Nat} {b:Code} (hl:dU (gY c) id=some b) :
  ∀ n S K,qB E f id n S K=JL E id b n S K
 | 0,S,K=>rfl
 | n+1,S,K=>by
  have ih:=U1 (E:=E) hf hb hl n
  have e:∀ K',bI E f id S K' = Uz E id b S K':=fun K'=>by
   unfold bI; rw [hf]; simp only [hb,hl]
  unfold qB JL
  rw [e]
  congr 1
  funext e S
  cases e with
  | normal=>exact ih S K
  | _=>rfl
theorem lq {E:Env} {m:Nat} (hG:Qx E):∀ (c:Code),oG m c=true ->
  (∀ p∈gY c,∀ F,E.L p.1=some F->∀ S K q,F S K=some q->∃ n,JL E p.1 p.2 n S K=some q)->∀ p∈gY c,yw E m p.1 p.2
 | .seq a b,hd,h,p,hp=>by
  obtain ⟨d1,d2⟩:=eG hd
  rcases List.mem_append.1 hp with hp | hp
  .exact lq hG a d1 (fun q hq=>h q (List.mem_append_left _ hq)) p hp
  .exact lq hG b d2 (fun q hq=>h q (List.mem_append_right _ hq)) p hp
 | .cond x a b,hd,h,p,hp=>by
  obtain ⟨d1,d2⟩:=eG hd
  rcases List.mem_append.1 hp with hp | hp
  .exact lq hG a d1 (fun q hq=>h q (List.mem_append_left _ hq)) p hp
  .exact lq hG b d2 (fun q hq=>h q (List.mem_append_right _ hq)) p hp
 | .block id c,hd,h,p,hp=>lq hG c hd h p hp
 | .scope c,hd,h,p,hp=>lq hG c hd h p hp
 | .loop c,hd,h,p,hp=>by
  have hd' : oG m c=true:=hd
  unfold gY at hp h
  cases hr:kZ c with
  | none =>
   rw [hr] at hp h
   exact lq hG c hd' h p hp
  | some j =>
   rw [hr] at hp h
   have inner:=lq hG c hd' (fun q hq=>h q (List.mem_cons_of_mem _ hq))
   rcases List.mem_cons.1 hp with rfl | hp
   .exact aap hG inner hd' (h (j,c) List.mem_cons_self)
   .exact inner p hp
 | .skip,hd,h,p,hp=>by cases hp
 | .region ..,hd,h,p,hp=>by cases hp
 | .exit ..,hd,h,p,hp=>by cases hp
 | .label ..,hd,h,p,hp=>by cases hp
 | .ret,hd,h,p,hp=>by cases hp
 | .goto ..,hd,h,p,hp=>by cases hp
 | .refuse ..,hd,h,p,hp=>by cases hp
 | .rangeFunc ..,hd,h,p,hp=>by cases hp
theorem alY {E:Env} (hG:Qx E) {f:FuncId} {fn:Func} {c:Code} (hf:E.P.funcs[f]? = some fn) (hb:fn.body=some c)
  (hd : oG fn.ntmps c = true) (hn : NW (gY c) = true) (hl : ∀ q ∈ gY c, dB E f q.1) (hnm : (fn.name == "runtime.NumGoroutine") = false) {α β γ : Type} {A : NV α} {B : UY β} {O : γ -> Out} {p : α -> β -> Bool} {g : α -> β -> γ × β}
  (h:∀ a b,p a b=true->bM E f (A.enc a) (B.enc b) some=some { v:=(O (g a b).1).v,bx:=B.enc (g a b).2,nb:=(O (g a b).1).nb }):bH E.P f (den A B O p g) :=
 apf hG hf hb (lq hG c hd fun q hq F hF S K r hr=>by
  obtain ⟨n,hn'⟩:=hl q hq F hF S K r hr
  exact ⟨n,by rw [<- U1 hf hb (U0 _ hn q.1 q.2 hq)]; exact hn'⟩) hnm h
theorem alZ {s:Sh} {v:V} (h:agR s v=true):eta s v=v:=by
 cases s with
 | bool=>cases v<;>first | rfl | cases h
 | int k =>
  cases v with
  | int k' n=>have:k=k':=of_decide_eq_true h; subst this; rfl
  | _=>cases h
 | str=>cases v<;>first | rfl | cases h
 | slc c =>
  cases v with
  | slc c' r=>have:=Sh.pO _ _ h; subst this; rfl
  | _=>cases h
 | ZW=>cases v<;>cases h
theorem ER:∀ (sh:List Sh) (pre vs:List V),ED sh vs=true->aB sh pre.length (pre++vs)=vs
 | [],pre,[],_=>rfl
 | [],_,_::_,h=>by cases h
 | _::_,_,[],h=>by cases h
 | s::ss,pre,v::vs,h=>by
  simp only [ED] at h
  cases hf:agR s v with
  | false=>rw [hf] at h; cases h
  | true =>
   rw [hf] at h
   have ih:=ER ss (pre++[v]) vs h
   rw [List.append_assoc,List.singleton_append,List.length_append] at ih
   show eta s ((pre++v::vs).getD pre.length .undef)::aB ss (pre.length+1) (pre++v::vs)=_
   rw [show aB ss (pre.length+1) (pre++v::vs)=vs from ih,show (pre++v::vs).getD pre.length .undef=v by simp [List.getD_eq_getElem?_getD],alZ hf]
mutual
theorem oM.get_put:∀ (s:oM) (v:V) (x:List Leaf),oM.get s v=some x->∀ r,oM.put s (x++r)=(v,r)
 | .undef,v,x,h,r=>by cases v<;>simp [oM.get] at h<;>subst h<;>rfl
 | .bool,v,x,h,r=>by cases v<;>simp [oM.get] at h<;>subst h<;>rfl
 | .int k,v,x,h,r=>by
  cases v<;>simp only [oM.get,reduceCtorEq] at h
  rename_i k' n
  by_cases e:k=k'
  .subst e; simp at h; subst h; rfl
  .simp [e] at h
 | .str,v,x,h,r=>by cases v<;>simp [oM.get] at h<;>subst h<;>rfl
 | .oD,v,x,h,r=>by cases v<;>simp [oM.get] at h<;>subst h<;>rfl
 | .ru,v,x,h,r=>by cases v<;>simp [oM.get] at h<;>subst h<;>rfl
 | .xW,v,x,h,r=>by cases v<;>simp [oM.get] at h<;>subst h<;>rfl
 | .ptr d a o,v,x,h,r=>by
  cases v<;>simp only [oM.get,reduceCtorEq] at h
  rename_i d' a' o' g
  cases e1:Nat.beq d d'<;>cases e2:Nat.beq a a'<;>cases e3:Nat.beq o o'<;>cases e4:Nat.beq g 0<;>simp only [e1,e2,e3,e4,cond_true,cond_false,reduceCtorEq] at h
  cases h
  have:=Nat.eq_of_beq_eq_true e1; have:=Nat.eq_of_beq_eq_true e2; have:=Nat.eq_of_beq_eq_true e3; have:=Nat.eq_of_beq_eq_true e4
  subst_vars; rfl
 | .own d,v,x,h,r=>by
  cases v<;>simp only [oM.get,reduceCtorEq] at h
  rename_i d' g
  cases e1:Nat.beq d d'<;>cases e4:Nat.beq g 0<;>simp only [e1,e4,cond_true,cond_false,reduceCtorEq] at h
  cases h
  have:=Nat.eq_of_beq_eq_true e1; have:=Nat.eq_of_beq_eq_true e4
  subst_vars; rfl
 | .slc sh,v,x,h,r=>by
  cases v<;>simp only [oM.get,reduceCtorEq] at h
  rename_i sh' rows
  cases e1:Sh.rC sh sh'<;>simp only [e1,cond_true,cond_false,reduceCtorEq] at h
  cases h
  have:=Sh.pO _ _ e1
  subst this; rfl
 | .agg cs,v,x,h,r=>by
  cases v<;>simp only [oM.get,reduceCtorEq] at h
  simp only [oM.put,oM.wo cs _ x h r]
 | .gB cs,v,x,h,r=>by
  cases v<;>simp only [oM.get,reduceCtorEq] at h
  simp only [oM.put,oM.wo cs _ x h r]
 | .rowA sh,v,x,h,r=>by
  cases v<;>simp only [oM.get,reduceCtorEq] at h
  rename_i vs
  cases e:ED sh vs with
  | false=>rw [e] at h; cases h
  | true =>
   rw [e] at h; cases h
   show (V.agg (aB sh 0 vs),r)=_
   rw [show aB sh 0 vs=vs from ER sh [] vs e]
 | .fn f a b,v,x,h,r=>by
  cases v<;>simp only [oM.get,reduceCtorEq] at h
  rename_i f' a' b'
  cases e1:Nat.beq f f' with
  | false=>simp only [e1,cond_false,reduceCtorEq] at h
  | true =>
   simp only [e1,cond_true] at h
   have:=Nat.eq_of_beq_eq_true e1
   subst this
   split at h
   .rename_i y hy
    split at h
    .rename_i z hz
     cases h
     simp only [oM.put,List.append_assoc,oM.wo a _ y hy,oM.wo b _ z hz]
    .cases h
   .cases h
theorem oM.wo:∀ (s:List oM) (v:List V) (x:List Leaf),oM.MN s v=some x->∀ r,oM.UA s (x++r)=(v,r)
 | [],v,x,h,r=>by cases v<;>simp [oM.MN] at h; subst h; rfl
 | s::ss,v,x,h,r=>by
  cases v with
  | nil=>simp [oM.MN] at h
  | cons v vs =>
   simp only [oM.MN] at h
   split at h
   .rename_i y hy
    split at h
    .rename_i z hz
     cases h
     simp only [oM.UA,List.append_assoc,oM.get_put s _ y hy,oM.wo ss _ z hz]
    .cases h
   .cases h
end
theorem yY.get_put (s:yY) (v:Box) (x:List Leaf) (h:yY.get s v=some x) (r:List Leaf):yY.put s (x++r)=(v,r):=by
 cases s with
 | var cs =>
  cases v<;>simp only [yY.get,reduceCtorEq] at h
  simp only [yY.put,oM.wo cs _ x h r]
 | sl sh =>
  cases v<;>simp only [yY.get,reduceCtorEq] at h
  rename_i sh' rows g
  cases e1:Sh.rC sh sh'<;>cases e4:Nat.beq g 0<;>simp only [e1,e4,cond_true,cond_false,reduceCtorEq] at h
  cases h
  have:=Sh.pO _ _ e1; have:=Nat.eq_of_beq_eq_true e4
  subst_vars; rfl
 | row cs sh =>
  cases v<;>simp only [yY.get,reduceCtorEq] at h
  rename_i vs
  split at h
  .rename_i y hy
   cases e:ED sh (vs.drop cs.length) with
   | false=>rw [e] at h; cases h
   | true =>
    rw [e] at h; cases h
    have h1:=oM.wo cs _ y hy (.c (vs.drop cs.length)::r)
    have h2:aB sh 0 (vs.drop cs.length)=vs.drop cs.length:=ER sh [] _ e
    simp only [yY.put,List.append_assoc,List.singleton_append,h1,h2,List.take_append_drop]
  .cases h
theorem RI:∀ (s:List (Nat × oM)) (v:List (Nat × V)) (x:List Leaf),Rj s v=some x->∀ r,acp s (x++r)=(v,r)
 | [],v,x,h,r=>by cases v<;>simp [Rj] at h; subst h; rfl
 | (i,s)::ss,v,x,h,r=>by
  cases v with
  | nil=>simp [Rj] at h
  | cons v vs =>
   obtain ⟨j,v⟩:=v
   simp only [Rj] at h
   cases e:Nat.beq i j with
   | false=>simp only [e,cond_false,reduceCtorEq] at h
   | true =>
    have:=Nat.eq_of_beq_eq_true e
    subst this
    simp only [e,cond_true] at h
    split at h
    .rename_i y hy
     split at h
     .rename_i z hz
      cases h
      simp only [acp,List.append_assoc,oM.get_put s _ y hy,RI ss _ z hz]
     .cases h
    .cases h
theorem NY:∀ (s:List (Nat × yY)) (v:List (Nat × Box)) (x:List Leaf),I4 s v=some x->∀ r,nO s (x++r)=(v,r)
 | [],v,x,h,r=>by cases v<;>simp [I4] at h; subst h; rfl
 | (i,s)::ss,v,x,h,r=>by
  cases v with
  | nil=>simp [I4] at h
  | cons v vs =>
   obtain ⟨j,v⟩:=v
   simp only [I4] at h
   cases e:Nat.beq i j with
   | false=>simp only [e,cond_false,reduceCtorEq] at h
   | true =>
    have:=Nat.eq_of_beq_eq_true e
    subst this
    simp only [e,cond_true] at h
    split at h
    .rename_i y hy
     split at h
     .rename_i z hz
      cases h
      simp only [nO,List.append_assoc,yY.get_put s _ y hy,NY ss _ z hz]
     .cases h
    .cases h
theorem fP.get_put (c:fP) (S:St) (x:List Leaf) (h:c.get S=some x):S=c.put x:=by
 unfold fP.get at h
 split at h
 .rename_i y hy
  split at h
  .rename_i z hz
   cases h
   have e:=NY c.tab _ z hz []
   rw [List.append_nil] at e
   simp only [fP.put,RI c.fr _ y hy,e]
  .cases h
 .cases h
def dJ (c:fP) (G:List Leaf->(Ex->St->Option R)->Option R):aob:=fun S K=>match c.get S with | some l=>G l K | none=>none
theorem bf {E:Env} {f:FuncId} {id:Nat} {c:fP} {G:List Leaf->(Ex->St->Option R)->Option R} (hL:E.L id=some (dJ c G))
  (h:∀ l K q,G l K=some q->∃ n,qB E f id n (c.put l) K=some q):dB E f id:=fun F hF S K q hq=>by
 rw [hL] at hF
 cases hF
 unfold dJ at hq
 split at hq
 .rename_i l hl
  have:=fP.get_put c S l hl
  subst this
  exact h l K q hq
 .cases hq
theorem J6 {E:Env} {f:FuncId} {id:Nat} (hL:E.L id=some fun _ _=>none):dB E f id:=fun F hF S K q hq=>by rw [hL] at hF; cases hF; cases hq
theorem dD {E:Env} {f:FuncId} {id:Nat} {σ:Type} (enc:σ->St) (inv:σ->Prop) (μ:σ->Nat) (res:σ->(Ex->St->Option R)->Option R)
  (h:∀ s,inv s->(∃ s',inv s'∧μ s' < μ s∧(∀ K,bI E f id (enc s) K=K .normal (enc s'))∧∀ K,res s K=res s' K) ∨
   ∃ e S,e ≠ .normal∧(∀ K,bI E f id (enc s) K=K e S)∧∀ K,res s K=K e S) (s:σ) (hs:inv s) (K:Ex->St->Option R) (q:R) (hq:res s K=some q):∃ n,qB E f id n (enc s) K=some q:=by
 have main:∀ (d:Nat) (s:σ),μ s<=d->inv s->res s K=some q->∃ n,qB E f id n (enc s) K=some q:=by
  intro d
  induction d with
  | zero =>
   intro s hd hs hq
   rcases h s hs with ⟨s',_,h2,_,_⟩ | ⟨e,S,he,h1,h2⟩
   .omega
   .refine ⟨1,?_⟩
    unfold qB
    rw [h1]
    rw [h2] at hq
    cases e with
    | normal=>exact absurd rfl he
    | exit j=>exact hq
    | ret=>exact hq
  | succ d ih =>
   intro s hd hs hq
   rcases h s hs with ⟨s',hi,h2,h3,h4⟩ | ⟨e,S,he,h1,h2⟩
   .obtain ⟨n,hn⟩:=ih s' (by omega) hi (by rw [<- h4]; exact hq)
    refine ⟨n+1,?_⟩
    unfold qB
    rw [h3]; exact hn
   .refine ⟨1,?_⟩
    unfold qB
    rw [h1]
    rw [h2] at hq
    cases e with
    | normal=>exact absurd rfl he
    | exit j=>exact hq
    | ret=>exact hq
 exact main (μ s) s (Nat.le_refl _) hs hq
theorem dK {x y:Int} (h:x<y):aZ x y=true:=by rw [lD]; exact decide_eq_true h
theorem iG {x y:Int} (h:y<=x):aZ x y=false:=by rw [lD]; exact decide_eq_false (by omega)
theorem dX {x y:Int} (h:x<=y):bU x y=true:=by rw [xX]; exact decide_eq_true h
theorem BK {x y:Int} (h:y<x):bU x y=false:=by rw [xX]; exact decide_eq_false (by omega)
theorem dN {x y:Nat} (h:x<=y):Nat.ble x y=true:=Nat.ble_eq_true_of_le h
theorem apg {x y:Nat} (h:x=y):Nat.beq x y=true:=by subst h; exact Nat.beq_refl x
theorem Gw {x y:Int} (h:x=y):(x==y)=true:=beq_iff_eq.2 h
theorem AO {x y:Int} (h:x ≠ y):(x==y)=false:=beq_eq_false_iff_ne.2 h
theorem Xk {x y:Int} (h:x ≠ y):(x != y)=true:=by rw [bne,AO h]; rfl
theorem Xl {x y:Int} (h:x=y):(x != y)=false:=by rw [bne,Gw h]; rfl
theorem bQ {x y:Int} (h:bU x y=true):x<=y:=by rw [xX] at h; exact of_decide_eq_true h
theorem lW {x y:Int} (h:bU x y=false):y<x:=by rw [xX] at h; have:=of_decide_eq_false h; omega
theorem jZ {x y:Int} (h:aZ x y=true):x<y:=by rw [lD] at h; exact of_decide_eq_true h
theorem fD {x y:Int} (h:aZ x y=false):y<=x:=by rw [lD] at h; have:=of_decide_eq_false h; omega
theorem aY {x y:Int} (h:(x==y)=true):x=y:=beq_iff_eq.1 h
theorem aX {x y:Nat} (h:Nat.ble x y=true):x<=y:=Nat.le_of_ble_eq_true h
theorem dY {n:Int} (h1 : -9223372036854775808<=n) (h2:n<=9223372036854775807):IntKind.wrap .i64 n=n:=by
 simp only [IntKind.wrap,IntKind.signed,IntKind.bits]
 simp
 omega
theorem evs:(∀ {x y:Int},x<y->aZ x y=true)∧(∀ {x y:Int},y<=x->aZ x y=false)∧(∀ {x y:Int},x<=y->bU x y=true)∧(∀ {x y:Int},y<x->bU x y=false) ∧
  (∀ {x y:Nat},x<=y->Nat.ble x y=true)∧(∀ {x y:Nat},x=y->Nat.beq x y=true)∧(∀ {x y:Int},x=y->(x==y)=true)∧(∀ {x y:Int},x ≠ y->(x==y)=false) ∧
  (∀ {x y:Int},x ≠ y->(x != y)=true)∧(∀ {x y:Int},x=y->(x != y)=false)∧(∀ {p:Prop} [Decidable p],p->decide p=true) ∧
  (∀ {n:Int},-9223372036854775808<=n->n<=9223372036854775807->IntKind.wrap .i64 n=n)∧(∀ {α:Type} (a b:α),cond true a b=a)∧(∀ {α:Type} (a b:α),cond false a b=b) ∧
  (∀ {α β:Type} (l:List α) (f:α->β),(l.map f).length=l.length)∧(∀ {α:Type} (n:Nat) (a:α),(List.replicate n a).length=n)∧(∀ {α:Type} (l:List α) (i:Nat) (a:α),(l.set i a).length=l.length) ∧
  (∀ {α:Type} (l m:List α),(l++m).length=l.length+m.length)∧Int.toNat 0=0∧(∀ p:Prop,(True∧p)=p)∧(∀ p:Prop,(p∧True)=p) :=
 ⟨dK,iG,dX,BK,dN,apg,Gw,AO,Xk,Xl,fun h=>decide_eq_true h,dY,fun _ _=>rfl,fun _ _=>rfl,fun _ _=>List.length_map ..,fun _ _=>List.length_replicate,fun _ _ _=>List.length_set,fun _ _=>List.length_append,rfl,true_and,and_true⟩
def ES (fn:Func):Code:=fn.body.getD .skip
def U2:List Nat->List Nat->Bool
 | [],[]=>true | a::x,b::y=>cond (Nat.beq a b) (U2 x y) false
 | _,_=>false
def chk (fn:Func) (ids:List Nat):Bool :=
 cond fn.body.isSome (cond (oG fn.ntmps (ES fn)) (cond (NW (gY (ES fn))) (cond (U2 ((gY (ES fn)).map (·.1)) ids) (!(fn.name == "runtime.NumGoroutine")) false) false) false) false
theorem Ji:∀ (a b:List Nat),U2 a b=true->a=b
 | [],b,h=>by cases b<;>first | rfl | cases h
 | a::x,b,h=>by
  cases b with
  | nil=>cases h
  | cons c y =>
   simp only [U2] at h
   cases e:Nat.beq a c with
   | false=>rw [e] at h; cases h
   | true =>
    rw [e] at h
    rw [Nat.eq_of_beq_eq_true e,Ji x y h]
theorem aP {a b:Bool} (h:cond a b false=true):a=true∧b=true:=by cases a<;>cases b<;>simp at *
theorem aK {E:Env} (hG:Qx E) {f:FuncId} {fn:Func} (hf:E.P.funcs[f]? = some fn) (ids:List Nat) (hk:chk fn ids=true) (hl:∀ id∈ids,dB E f id)
  {α β γ:Type} {A:NV α} {B:UY β} {O:γ->Out} {p:α->β->Bool} {g:α->β->γ × β}
  (h:∀ a b,p a b=true->bM E f (A.enc a) (B.enc b) some=some { v:=(O (g a b).1).v,bx:=B.enc (g a b).2,nb:=(O (g a b).1).nb }):bH E.P f (den A B O p g):=by
 unfold chk at hk
 obtain ⟨h1,hk⟩:=aP hk
 obtain ⟨h2,hk⟩:=aP hk
 obtain ⟨h3,hk⟩:=aP hk
 obtain ⟨h4,hk⟩:=aP hk
 have e:=Ji _ _ h4
 obtain ⟨c,hc⟩:=Option.isSome_iff_exists.1 h1
 have hb:ES fn=c:=by unfold ES; rw [hc]; rfl
 rw [hb] at h2 h3 e
 exact alY hG hf hc h2 h3 (fun q hq=>hl q.1 (by rw [<- e]; exact List.mem_map_of_mem hq)) (by simpa using hk) h
theorem none0 {p:Nat->Prop}:∀ id∈([]:List Nat),p id:=fun _ h=>by cases h
theorem one1 {p:Nat->Prop} {a:Nat} (h:p a):∀ id∈[a],p id:=fun id hi=>by
 have:=List.mem_singleton.1 hi; subst this; exact h
theorem Lp {p:Nat->Prop} {a b:Nat} (h:p a) (k:p b):∀ id∈[a,b],p id:=fun id hi=>by
 rcases List.mem_cons.1 hi with rfl | hi
 .exact h
 .exact one1 k id hi
theorem ahv {p:Nat->Prop} {a b c:Nat} (h:p a) (k:p b) (l:p c):∀ id∈[a,b,c],p id:=fun id hi=>by
 rcases List.mem_cons.1 hi with rfl | hi
 .exact h
 .exact Lp k l id hi
theorem aT {E:Env} {T:List (Nat × Den)} (h:fK E.P T) (hT:E.G=dU T:=by rfl) (hM:E.M=(fun _=>none):=by rfl) (hX:E.X=(fun _=>none):=by rfl):Qx E :=
 ⟨fun f D hf=>h f D (by rw [<- hT]; exact hf),(fun f F hf=>by rw [hM] at hf; cases hf),fun f F hf=>by rw [hX] at hf; cases hf⟩
abbrev MF:=agE
abbrev XF:=List V->List (Nat × Box)->(V->List (Nat × Box)->Option R)->Option R
def MOk (P:Program) (T:List (Nat × MF)):Prop:=∀ f F,dU T f=some F->acE P f F
theorem MOk.nil (P:Program):MOk P []:=fun f F h=>by cases h
theorem MOk.cons {P:Program} {T:List (Nat × MF)} {f:Nat} {F:MF} (h:acE P f F) (hT:MOk P T):MOk P ((f,F)::T):=fun g F' hg=>by
 simp only [dU] at hg
 cases e:Nat.beq g f with
 | true =>
  rw [e] at hg
  obtain rfl:=Nat.eq_of_beq_eq_true e
  cases hg; exact h
 | false=>rw [e] at hg; exact hT g F' hg
def XOk (P:Program) (T:List (Nat × XF)):Prop:=∀ f F,dU T f=some F->ag9 P f F
theorem XOk.nil (P:Program):XOk P []:=fun f F h=>by cases h
theorem XOk.cons {P:Program} {T:List (Nat × XF)} {f:Nat} {F:XF} (h:ag9 P f F) (hT:XOk P T):XOk P ((f,F)::T):=fun g F' hg=>by
 simp only [dU] at hg
 cases e:Nat.beq g f with
 | true =>
  rw [e] at hg
  obtain rfl:=Nat.eq_of_beq_eq_true e
  cases hg; exact h
 | false=>rw [e] at hg; exact hT g F' hg
theorem aph {E:Env} (hG:Qx E) {f:FuncId} {fn:Func} (hf:E.P.funcs[f]? = some fn) (ids:List Nat) (hk:chk fn ids=true) (hl:∀ id∈ids,dB E f id) (args:List V) (bx:List (List V)) (r:aH)
  (h:bM E f args bx some=some r):bH E.P f { pre:=fun a b=>@decide (a=args∧b=bx) (Classical.propDecidable _),res:=fun _ _=>r }:=by
 unfold chk at hk
 obtain ⟨h1,hk⟩:=aP hk
 obtain ⟨h2,hk⟩:=aP hk
 obtain ⟨h3,hk⟩:=aP hk
 obtain ⟨h4,hk⟩:=aP hk
 have e:=Ji _ _ h4
 obtain ⟨c,hc⟩:=Option.isSome_iff_exists.1 h1
 have hb:ES fn=c:=by unfold ES; rw [hc]; rfl
 rw [hb] at h2 h3 e
 exact NU hG hf hc (lq hG c h2 fun q hq F hF S K r hr=>by
  obtain ⟨n,hn'⟩:=hl q.1 (by rw [<- e]; exact List.mem_map_of_mem hq) F hF S K r hr
  exact ⟨n,by rw [<- U1 hf hc (U0 _ h3 q.1 q.2 hq)]; exact hn'⟩) (by simpa using hk) (fun a b hab=>by
  have hab:a=args∧b=bx:=by simpa using hab
  obtain ⟨rfl,rfl⟩:=hab
  exact h)
theorem bH.empty {P:Program} {f:FuncId} {sh:List Sh} {r:aH} (h1:bH P f { pre:=fun a b=>@decide (a=[.jO sh]∧b=[]) (Classical.propDecidable _),res:=fun _ _=>r })
  (h2:bH P f { pre:=fun a b=>@decide (a=[.nn sh]∧b=[]) (Classical.propDecidable _),res:=fun _ _=>r }):bH P f { pre:=fun a b=>@decide (a=[.slc sh []]∧b=[]) (Classical.propDecidable _),res:=fun _ _=>r }:=by
 intro a b hpre w J gq xs hl hJ hx hc hdis hgl
 have hpre:a=[.slc sh []]∧b=[]:=by simpa using hpre
 obtain ⟨rfl,rfl⟩:=hpre
 obtain ⟨x,rfl,hx1⟩:=hx.one
 have one:∀ v,Rv w J (jL gq []) v x->dI w J (jL gq []) [v] [x]:=fun v hv=>⟨rfl,fun i hi=>by
  have:i=0:=by simp at hi; exact hi
  subst this; exact hv⟩
 cases hx1 with
 | dat h =>
  cases h with
  | slc _ _ al cap val hcap hnil hfit ha hd =>
   cases al with
   | none =>
    obtain rfl:=hnil rfl
    exact h1 [.jO sh] [] (by simp) w J gq _ hl hJ (one _ (.dat (.jO sh))) hc hdis hgl
   | some q=>exact h2 [.nn sh] [] (by simp) w J gq _ hl hJ (one _ (.nn sh q cap)) hc hdis hgl
end Go.Ev

namespace Go.Ev
open Go Go.RowKit Go.ChangeShapes Go.WideShapes
def aaq (lay:TypeId->Bool) (sh:TypeId->List Sh) (P:Program):Nat->List Field->Option Nat
 | o,[]=>some o
 | o,f::r=>cond (cond (Nat.beq f.offset o) (cond (lay f.type) (Nat.beq (sh f.type).length (P.cellsOf f.type)) false) false) (aaq lay sh P (o+P.cellsOf f.type) r) none
def aeJ (P:Program):Nat->TypeId->Bool
 | 0,_=>false
 | n+1,t=>match P.underlying t with
  | some .bool=>true | some (.int _)=>true | some .string=>true
  | some (.slice e)=>cond (aeJ P n e) (cond (Nat.blt 0 (P.cellsOf e)) (cond (Nat.beq (iD P n e).length (P.cellsOf e)) (Sh.rC (iD P n e) (iD P n e)) false) false) false
  | some (.struct fs)=>match aaq (aeJ P n) (iD P n) P 0 fs.toList with
   | some o=>Nat.beq o (P.cellsOf t)
   | none=>false
  | _=>false
def QF (w:World):Nat->Nat->Prop:=fun b _=>b<w.heap.size
section
variable {H:Type} {enc:TypeId × Value->H} {P:Program} {w:World} {base:Nat} {spare:Nat->Bool} {held:Bool}
def Gx (w:World) (sh:List Sh) (cs:List Value) (row:List V):Prop :=
 iq sh row=true∧AY row=true∧row.length=cs.length∧∀ j,j<row.length->Dat w (QF w) (row.getD j .undef) (cs.getD j Go.undef)
theorem Gx.append {s t:List Sh} {cs ds:List Value} {r q:List V} (h:Gx w s cs r) (k:Gx w t ds q):Gx w (s++t) (cs++ds) (r++q):=by
 obtain ⟨h1,h2,h3,h4⟩:=h
 obtain ⟨k1,k2,k3,k4⟩:=k
 refine ⟨zX _ _ _ _ h1 k1,by rw [vZ,h2,k2]; rfl,by simp [h3,k3],fun j hj=>?_⟩
 by_cases hl:j<r.length
 .have:=h4 j hl
  rwa [show (r++q).getD j .undef=r.getD j .undef by simp [List.getD_eq_getElem?_getD,List.getElem?_append_left hl],
   show (cs++ds).getD j Go.undef=cs.getD j Go.undef by simp [List.getD_eq_getElem?_getD,List.getElem?_append_left (show j<cs.length by omega)]]
 .have:=k4 (j-r.length) (by simp at hj; omega)
  rwa [show (r++q).getD j .undef=q.getD (j-r.length) .undef by simp [List.getD_eq_getElem?_getD,List.getElem?_append_right (show r.length<=j by omega)],
   show (cs++ds).getD j Go.undef=ds.getD (j-r.length) Go.undef by simp [List.getD_eq_getElem?_getD,List.getElem?_append_right (show cs.length<=j by omega),h3]]
theorem RJ {lay:TypeId->Bool} {sh:TypeId->List Sh}:∀ (fs:List Field) (o n:Nat) (cs:List Value),aaq lay sh P o fs=some n->n<=o+cs.length ->
  (∀ f∈fs,lay f.type=true->o<=f.offset->∃ row,Gx w (sh f.type) ((cs.drop (f.offset-o)).take (P.cellsOf f.type)) row)->∃ row,Gx w ((fs.map fun f=>sh f.type).flatten) (cs.take (n-o)) row
 | [],o,n,cs,h,_,_=>by
  cases h
  exact ⟨[],rfl,rfl,by simp,fun j hj=>by cases hj⟩
 | f::r,o,n,cs,h,hn,hf=>by
  unfold aaq at h
  cases h1:Nat.beq f.offset o with
  | false=>simp only [h1,cond_false,reduceCtorEq] at h
  | true =>
   cases h2:lay f.type with
   | false=>simp only [h1,h2,cond_true,cond_false,reduceCtorEq] at h
   | true =>
    cases h3:Nat.beq (sh f.type).length (P.cellsOf f.type) with
    | false=>simp only [h1,h2,h3,cond_true,cond_false,reduceCtorEq] at h
    | true =>
     simp only [h1,h2,h3,cond_true] at h
     have e1:=Nat.eq_of_beq_eq_true h1
     have e3:=Nat.eq_of_beq_eq_true h3
     have mono:∀ (l:List Field) (a b:Nat),aaq lay sh P a l=some b->a<=b:=by
      intro l
      induction l with
      | nil=>intro a b hh; cases hh; exact Nat.le_refl _
      | cons g l ih =>
       intro a b hh
       unfold aaq at hh
       cases hc:(cond (Nat.beq g.offset a) (cond (lay g.type) (Nat.beq (sh g.type).length (P.cellsOf g.type)) false) false) with
       | false=>rw [hc] at hh; cases hh
       | true=>rw [hc] at hh; have:=ih _ _ hh; omega
     have hm:=mono _ _ _ h
     obtain ⟨r1,k1⟩:=hf f List.mem_cons_self h2 (by omega)
     rw [show f.offset-o=0 by omega,List.drop_zero] at k1
     obtain ⟨r2,k2⟩:=RJ r (o+P.cellsOf f.type) n (cs.drop (P.cellsOf f.type)) h (by simp; omega) fun g hg hl ho=>by
      obtain ⟨row,hr⟩:=hf g (List.mem_cons_of_mem _ hg) hl (by omega)
      refine ⟨row,?_⟩
      rwa [List.drop_drop,show P.cellsOf f.type+(g.offset-(o+P.cellsOf f.type))=g.offset-o by omega]
     have:=k1.append k2
     refine ⟨r1++r2,?_⟩
     rw [show cs.take (n-o)=cs.take (P.cellsOf f.type)++(cs.drop (P.cellsOf f.type)).take (n-(o+P.cellsOf f.type)) by
      rw [<- List.take_add]; congr 1; omega]
     exact this
theorem NZ:∀ (fuel n:Nat) (t:TypeId) (cs:List Value) (x:DataW H × List MemPlace),DataW.trod enc P w base spare held fuel t cs=some x->aeJ P n t=true->∃ row,Gx w (iD P n t) cs row
 | 0,_,_,_,_,h,_=>by cases h
 | _+1,0,_,_,_,_,hl=>by cases hl
 | fuel+1,n+1,t,cs,x,h,hl=>by
  have one:∀ (s:Sh) (v:V) (y:Value),fits s v=true->Jg v=true->Dat w (QF w) v y->Gx w [s] [y] [v]:=fun s v y h1 h2 h3 =>
   ⟨by simp [iq,h1],by simp [AY,h2],rfl,fun j hj=>by
    have:j=0:=by simp at hj; exact hj
    subst this; exact h3⟩
  unfold aeJ at hl
  unfold iD
  cases hu:P.underlying t with
  | none=>rw [hu] at hl; cases hl
  | some d =>
   rw [hu] at hl
   cases d with
   | bool =>
    obtain ⟨b,rfl,_⟩:=DataW.trod_bool hu h
    exact ⟨_,one _ (.bool b) _ rfl rfl (.bool b)⟩
   | int k =>
    obtain ⟨m,rfl,_,hw⟩:=DataW.trod_int hu h
    exact ⟨_,one _ (.int k m) _ (by simp [fits]) hw (.int k m)⟩
   | string =>
    obtain ⟨s,rfl,_,hw⟩:=DataW.trod_string hu h
    refine ⟨_,one _ (.str s.data.toList) _ rfl (Nat.ble_eq_true_of_le ?_) ?_⟩
    .have:s.data.toList.length=s.size:=Array.length_toList
     unfold maxLen at hw
     omega
    .have:s=⟨s.data.toList.toArray⟩:=by cases s; simp
     conv=>rhs; rw [this]
     exact .str _
   | slice e =>
    obtain ⟨hl1,hl⟩:=aP hl
    obtain ⟨hpos,hl⟩:=aP hl
    obtain ⟨hlen,hrf⟩:=aP hl
    have hpos:0<P.cellsOf e:=Nat.le_of_ble_eq_true hpos
    have hlen:=Nat.eq_of_beq_eq_true hlen
    rcases DataW.trod_slice hu h with ⟨rfl,_⟩ | ⟨a,len,cap,elems,rest,m,hm,rfl,_,hb,hle,hmx,hel,hget,_,_⟩
    .exact ⟨_,one _ (.slc (iD P n e) []) _ hrf rfl (.slc _ [] _ 0 (fun _ _=>Go.undef) (Nat.le_refl _) (fun _=>rfl) rfl (fun h=>absurd rfl h) (fun i j hi=>by cases hi))⟩
    .cases hm
     have hrow:∀ i,∃ row vals,i<len->w.cells? base (a.add (i*P.cellsOf e)) (P.cellsOf e)=some vals∧Gx w (iD P n e) vals row:=fun i=>by
      by_cases hi:i<len
      .have:=hget i hi
       have hi' : i<elems.length:=by omega
       rw [List.getElem?_eq_getElem hi',Option.bind_eq_some_iff] at this
       obtain ⟨vals,h1,h2⟩:=this
       obtain ⟨row,h3⟩:=NZ fuel n e vals _ h2 hl1
       exact ⟨row,vals,fun _=>⟨h1,h3⟩⟩
      .exact ⟨[],[],fun h=>absurd h hi⟩
     obtain ⟨row,hv⟩:=Classical.axiomOfChoice hrow
     obtain ⟨vals,hh⟩:=Classical.axiomOfChoice hv
     have hg:∀ i,i<len->((List.range len).map row).getD i []=row i:=fun i hi=>by simp [List.getD_eq_getElem?_getD,hi]
     have hfit:dM (iD P n e) ((List.range len).map row)=true:=jW _ _ fun i hi=>by
      have hi:i<len:=by simpa using hi
      rw [hg i hi]; exact (hh i hi).2.1
     have hwf:zW ((List.range len).map row)=true:=by
      have:∀ l:List Nat,(∀ i∈l,i<len)->zW (l.map row)=true:=by
       intro l
       induction l with
       | nil=>intro _; rfl
       | cons i l ih =>
        intro hl
        simp only [List.map_cons,zW,(hh i (hl i List.mem_cons_self)).2.2.1,cond_true]
        exact ih fun k hk=>hl k (List.mem_cons_of_mem _ hk)
      exact this _ fun i hi=>List.mem_range.1 hi
     have hle' : len<=9223372036854775807:=by unfold maxLen at hmx; omega
     refine ⟨_,one _ (.slc (iD P n e) ((List.range len).map row)) _ hrf (by
      show cond (Nat.ble ((List.range len).map row).length 9223372036854775807) (cond (dM (iD P n e) ((List.range len).map row)) (zW ((List.range len).map row)) false) false=true
      rw [hfit,hwf,Nat.ble_eq_true_of_le (by simpa using hle')]; rfl) ?_⟩
     have hcell:∀ i,i<len->∀ j,j<P.cellsOf e->w.cell? ((a.add (i*P.cellsOf e)).add j)=some ((vals i).getD j Go.undef):=fun i hi j hj=>by
      have:=(World.cells?_some (hh i hi).1).2.2 j hj
      rw [this,List.getD_eq_getElem?_getD]
      have hl2:j<(vals i).length:=by rw [(World.cells?_some (hh i hi).1).2.1]; exact hj
      rw [List.getElem?_eq_getElem hl2]; rfl
     have key:Dat w (QF w) (.slc (iD P n e) ((List.range len).map row)) (.slice (some a) ((List.range len).map row).length cap):=by
      refine .slc _ _ (some a) cap (fun i j=>(vals i).getD j Go.undef) (by simpa using hle) (fun h=>by cases h) hfit (fun hr=>?_) (fun i j hi hj=>?_)
      .have hpos' : 0<len:=by
        rcases Nat.eq_zero_or_pos len with h0 | h0
        .subst h0; exact absurd rfl hr
        .exact h0
       have hc0:=hcell 0 hpos' 0 hpos
       have hsp:a.spot=none:=by
        simp only [Nat.zero_mul,Addr.add,if_true] at hc0
        unfold World.cell? at hc0
        split at hc0
        .cases hs:a.spot with
         | none=>rfl
         | some q=>rw [hs] at hc0; simp at hc0
        .cases hc0
       obtain ⟨b,o,sp⟩:=a
       simp only at hsp
       subst hsp
       refine ⟨b,o,rfl,fun i j hi hj=>?_⟩
       have hi:i<len:=by simpa using hi
       have:=hcell i hi j (by omega)
       rw [oJ,oJ,Nat.add_assoc] at this
       rw [hlen]
       exact ⟨this,lt_of_cell this⟩
      .have hi:i<len:=by simpa using hi
       unfold rowAt
       rw [hg i hi]
       have h4:=(hh i hi).2
       have hl3:(row i).length=(iD P n e).length:=mO h4.1
       exact h4.2.2.2 j (by omega)
     have e1:((List.range len).map row).length=len:=by simp
     rw [e1] at key
     exact key
   | struct fs =>
    obtain ⟨xs,m,hm,_,hcs,hxl,hget⟩:=DataW.trod_struct hu h
    cases hm
    simp only at hl
    cases ho:aaq (aeJ P n) (iD P n) P 0 fs.toList with
    | none=>rw [ho] at hl; cases hl
    | some o =>
     rw [ho] at hl
     have ho':=Nat.eq_of_beq_eq_true hl
     obtain ⟨row,hr⟩:=RJ (w:=w) (P:=P) fs.toList 0 o cs ho (by omega) fun f hf asw _=>by
      obtain ⟨i,hi⟩:=List.getElem?_of_mem hf
      have hi2:fs[i]? = some f:=by simpa using hi
      have hlt:=(Array.getElem?_eq_some_iff.1 hi2).1
      have:=hget i f hi2
      rw [List.getElem?_eq_getElem (by omega)] at this
      exact NZ fuel n f.type _ _ this asw
     refine ⟨row,?_⟩
     rwa [Nat.sub_zero,ho',<- hcs,List.take_length] at hr
   | _=>cases hl
theorem Gy {α:Type} (c:ah α) (hc1:c.sh.length=1) {n:Nat} {t:TypeId} {r:Reach} {b0:Nat} {v:Value} {d:DataW H} {ps:List MemPlace} (ht:mG P t=false) (hs:Sh.rC (iD P n t) c.sh=true) (hl:aeJ P n t=true)
  (hval:Value.okWide P w r b0 t v) (h:DataW.Trod enc P w base spare held t v d ps):∃ a:α,AY (c.enc a)=true∧Rv w (QF w) nH ((QE c hc1).enc a) v:=by
 obtain ⟨fuel,h⟩:=h
 obtain ⟨row,h1,h2,h3,h4⟩:=NZ fuel n t _ _ h hl
 rw [Sh.pO _ _ hs] at h1
 have hcs:v.cells.toList=[v]:=by
  unfold Value.okWide at hval
  cases v with
  | agg cs =>
   exfalso
   unfold mG at ht
   cases hu:P.underlying t with
   | none=>rw [hu] at hval; simp [Cell.okWide,hu,Cell.ok] at hval
   | some dd =>
    rw [hu] at hval ht
    cases dd<;>first | (cases ht; done) | (simp [Cell.okWide,hu,Cell.ok] at hval; done)
  | _=>rfl
 rw [hcs] at h3 h4
 have hl1:=mO h1
 have hl2:(c.enc (c.dec row)).length=c.sh.length:=mO (c.fit _)
 refine ⟨c.dec row,c.wf row h1 h2,?_⟩
 have:=c.law w (QF w) row (fun j=>[v].getD j Go.undef) h1 (fun j hj=>h4 j (by omega)) 0 (by omega)
 have e:(QE c hc1).enc (c.dec row)=(c.enc (c.dec row)).getD 0 .undef:=by
  show (c.enc (c.dec row)).headD .undef=_
  cases c.enc (c.dec row)<;>rfl
 rw [e]; exact .dat this
end
def apj (P:Program):Bool:=P.globals.toList.all fun g=>(MO g.name).isEmpty
theorem al0 {P:Program} {J:Nat->Nat->Prop} {w:World} (h:apj P=true):Held P J w:=fun b o x hx=>by
 unfold GLv at hx
 split at hx
 .rename_i g hg
  have:=List.all_eq_true.1 h g (by have:=Array.mem_of_getElem? hg; simpa using this)
  have e:MO g.name=[]:=List.isEmpty_iff.1 this
  rw [e] at hx
  simp at hx
 .cases hx
theorem aeK {P : Program} {f : FuncId} {fn : Func} (hf : P.funcs[f]? = some fn) (hb : fn.body.isSome = true) (hnm : (fn.name == "runtime.NumGoroutine") = false) {α : Type} {A : NV α} {p : α -> Unit -> Bool} {g : α -> Unit -> Bool × Unit}
  (h:bH P f (den A dw (oV iF) p g)) (a:α) (hp:p a ()=true) (hg:(g a ()).1=true) {W:World} {xs:List Value} (hx:dI W (QF W) nH (A.enc a) xs) (hgl:Held P (QF W) W) :
  Calls P f xs.toArray W fun e W'=>e = .returned (.bool true)∧Below W.heap.size W W':=by
 obtain ⟨h1,h2⟩:=A.ed a
 have hpre:(den A dw (oV iF) p g).pre (A.enc a) []=true:=by
  show cond (A.ok (A.enc a)) (cond true (p (A.dec (A.enc a)) ()) false) false=true
  rw [h1,h2,hp]; rfl
 have hloc:jL [] []=nH:=by funext j; rfl
 have main:=h (A.enc a) [] hpre W (QF W) [] xs rfl (fun b o hb=>hb) (hloc ▸ hx) (fun j p cs hj=>by cases hj) (fun j j' p p' cs cs' b o hj=>by cases hj) hgl
 have fin:∀ v W',(∃ J',Es W W' (QF W) [] [] ((den A dw (oV iF) p g).res (A.enc a) []) v J')->v = .bool true∧Below W.heap.size W W':=fun v W' ⟨J',hR⟩=>by
  refine ⟨?_,(hR.keeps.mono fun b o _ hh=>?_).below⟩
  .have e:((den A dw (oV iF) p g).res (A.enc a) []).v = .bool true:=by
    show V.bool (g (A.dec (A.enc a)) ()).1 = .bool true
    rw [h2,hg]
   rcases hR.val with ⟨_,hv⟩ | ⟨_,_,hn,_⟩
   .rw [e] at hv; exact hv.qy
   .cases hn
  .obtain ⟨j,p,cs,h1,_⟩:=hh
   cases h1
 rcases main with ⟨_,h4⟩ | ⟨v,W',h3,_⟩
 .exact h4.mono fun e W' ⟨v,he,hr⟩=>by
   obtain ⟨e1,e2⟩:=fin v W' hr
   exact ⟨by rw [he,e1],e2⟩
 .exfalso
  obtain ⟨c,hc⟩:=Option.isSome_iff_exists.1 hb
  have hnm' : ¬ fn.name = "runtime.NumGoroutine" := fun e => by rw [e] at hnm; cases hnm
  have:(callFunc f xs.toArray).run P W = .ok (.enter f xs.toArray) W:=by simp [callFunc,hf,hnm',hc]
  rw [this] at h3
  cases h3
end Go.Ev

namespace Go.Ev
open Go
abbrev Bytes:=List UInt8
structure iK where
 s:Bytes
 err:Int
structure eH where
 s:Bytes
 err:Int
def cOut:ah iK:=(qA.and (rM .i64)).iso (fun p=>⟨p.1,p.2⟩) (fun o=>(o.s,o.err)) (fun _=>rfl) fun _=>rfl
def IW:ah eH:=(qA.and (rM .i64)).iso (fun p=>⟨p.1,p.2⟩) (fun o=>(o.s,o.err)) (fun _=>rfl) fun _=>rfl
namespace N
def bV (i:eH) (code:Int):eH:=bif i.err==0 then (bif code != 0 then ⟨[],code⟩ else i) else i
def lu (i:eH) (n:Int):Bytes × eH :=
 bif i.err != 0 then ([],i) else bif bU n 0 then ([],i) else bif aZ i.s.length n then ([],bV i 3) else (i.s.take n.toNat,⟨i.s.drop n.toNat,i.err⟩)
def be:Bytes->Int->Int
 | [],n=>n
 | c::r,n=>be r (n*256+c.toNat)
def beR:List (List V)->Int->Int
 | [],n=>n
 | r::rs,n=>beR rs (Wu .or .u64 (shl .u64 n 8) (IntKind.wrap .u64 (V.toInt (r.getD 0 .undef))))
def aN (i:eH) (n:Int):Int × eH:=(be (lu i (bif aZ 8 n then 8 else n)).1 0,(lu i (bif aZ 8 n then 8 else n)).2)
def bW (n:Int):Nat->Bytes
 | 0=>[]
 | k+1=>UInt8.ofNat ((n / 2 ^ (8*k)) % 256).toNat::bW n k
def clamp (bytes:Int):Nat:=(bif aZ 0 bytes then (bif aZ 8 bytes then 8 else bytes) else 0).toNat
def jl (o:iK) (n bytes:Int):iK:=⟨o.s++bW n (clamp bytes),o.err⟩
def sZ (o:iK) (s:Bytes):iK:=⟨o.s++s,o.err⟩
def kE (o:iK) (s:Bytes):iK:=bif aZ 65535 s.length then ⟨o.s,bif o.err==0 then 5 else o.err⟩ else sZ (jl o s.length 2) s
end N
theorem apk (n:Int) (b:Nat) (hn:0<=n) (h:n<72057594037927936) (hb:b<256):Wu .or .u64 (shl .u64 n 8) (IntKind.wrap .u64 (b:Int))=n*256+b:=by
 obtain ⟨m,rfl⟩:=Int.eq_ofNat_of_zero_le hn
 have hm:m<72057594037927936:=by omega
 have w:∀ x:Nat,x<18446744073709551616->IntKind.wrap .u64 (x:Int)=x:=fun x hx=>by
  simp only [IntKind.wrap,IntKind.signed,IntKind.bits]
  simp
  omega
 have e1:shl .u64 (m:Int) 8=((m*256:Nat):Int):=by
  have:=w (m*256) (by omega)
  unfold shl
  rw [show (m:Int)*2 ^ (min (Int.toNat 8) (IntKind.bits .u64))=((m*256:Nat):Int) by simp [IntKind.bits]]
  exact this
 rw [e1,w b (by omega)]
 have e2:∀ x:Nat,x<18446744073709551616->(BitVec.ofInt 64 (x:Int)).toNat=x:=fun x hx=>by
  simp; omega
 show IntKind.wrap .u64 (((BitVec.ofInt 64 ((m*256:Nat):Int) ||| BitVec.ofInt 64 (b:Int):BitVec 64).toNat:Nat):Int)=_
 rw [BitVec.toNat_or,e2 _ (by omega),e2 _ (by omega)]
 have e3:m*256 ||| b=m*256+b:=by
  have:=Nat.shiftLeft_add_eq_or_of_lt (i:=8) (b:=b) (by omega) m
  rw [Nat.shiftLeft_eq,show (2:Nat) ^ 8=256 by decide] at this
  exact this.symm
 rw [e3,w _ (by omega)]
 rw [Int.natCast_add,Int.natCast_mul]; rfl
theorem RN:∀ (l:Bytes) (n:Int) (k:Nat),0<=n->l.length<=k->k<=8->n<((256 ^ (8-k):Nat):Int)->N.beR (jd l) n=N.be l n
 | [],n,k,_,_,_,_=>rfl
 | c::r,n,k,hn,hl,hk,h=>by
  have hc:c.toNat<256:=c.toNat_lt
  have hl' : r.length+1<=k:=hl
  have hk1:1<=k:=by omega
  have h7:n<72057594037927936:=by
   have h1:256 ^ (8-k)<=256 ^ 7:=Nat.pow_le_pow_right (by decide) (by omega)
   have e:(256:Nat) ^ 7=72057594037927936:=by decide
   rw [e] at h1
   omega
  show N.beR (jd r) (Wu .or .u64 (shl .u64 n 8) (IntKind.wrap .u64 ((c.toNat:Nat):Int)))=N.be r (n*256+c.toNat)
  rw [apk n c.toNat hn h7 hc]
  refine RN r _ (k-1) (by omega) (by omega) (by omega) ?_
  have:(256:Nat) ^ (8-(k-1))=256 ^ (8-k)*256:=by
   rw [show 8-(k-1)=(8-k)+1 by omega,Nat.pow_succ]
  rw [this]; omega
theorem N.Jj (i:eH) (n:Int) (m:Nat) (h:n<=m):(N.lu i n).1.length<=m:=by
 unfold N.lu
 cases i.err != 0<;>cases bU n 0<;>cases aZ (i.s.length:Int) n<;>simp<;>omega
theorem N.J7 (n:Int):∀ k,(N.bW n k).length=k
 | 0=>rfl
 | k+1=>by simp [N.bW,N.J7 n k]
def Gz:Den:=den (aO (nY 0) (aW (cu .i64))) (nC IW) (nP alX) (fun _ _=>true) fun a i=>((),N.bV i a.2)
def apl:Den:=den (aO (nY 0) (aW (cu .i64))) (nC IW) (oV fV) (fun _ _=>true) fun a i=>N.lu i a.2
def U3:Den:=den (aO (nY 0) (aW (cu .i64))) (nC IW) (oV (cu .u64)) (fun _ _=>true) fun a i=>N.aN i a.2
def dNew:Den:=den (aW fV) dw (asv IW) (fun _ _=>true) fun s _=>(⟨s,0⟩,())
def fZ:Den:=den (aO (bg cOut) (aO (cu .u64) (aW (cu .i64)))) dw (oV (bg cOut)) (fun a _=>cond (bU 0 a.2.1) (cond (aZ a.2.1 18446744073709551616) (Nat.ble a.1.s.length 9223372036854775799) false) false) fun a _=>(N.jl a.1 a.2.1 a.2.2,())
def GH:Den:=den (aO (bg cOut) (aW fV)) dw (oV (bg cOut)) (fun a _=>Nat.ble (a.1.s.length+a.2.length) 9223372036854775807) fun a _=>(N.sZ a.1 a.2,())
def BL:Den:=den (aO (bg cOut) (aW fV)) dw (oV (bg cOut)) (fun a _=>Nat.ble (a.1.s.length+a.2.length) 9223372036854775790) fun a _=>(N.kE a.1 a.2,())
def tq:Den:=den (aW (bg cOut)) dw (oV fV) (fun _ _=>true) fun o _=>(o.s,())
end Go.Ev

namespace Go.Ev
open Go
namespace N
def fQ:Bytes->List Bytes
 | []=>[[]]
 | c::r=>cond (c==46) ([]::fQ r) (match fQ r with | []=>[[c]] | w::ws=>(c::w)::ws)
def words (s:Bytes):List Bytes:=cond s.isEmpty [] (fQ s)
def oK (c:Int):Bool:=cond (cond (bU 97 c) (bU c 122) false) true (cond (cond (bU 48 c) (bU c 57) false) true (cond (c==45) true (c==95)))
def letter (c:UInt8):Bool:=oK c.toNat
def plain (s:Bytes):Bool:=s.all letter
def QG (p k:List Bytes):Nat->Int->Int->Int->Int->Option Int
 | 0,_,_,_,_=>none
 | f+1,i,j,b,fr=>cond (aZ j k.length)
   (cond (cond (aZ i p.length) (p.getD i.toNat []==[35]) false) (QG p k f (i+1) j (i+1) j)
    (cond (cond (aZ i p.length) (cond (p.getD i.toNat []==[42]) true (p.getD i.toNat []==k.getD j.toNat [])) false) (QG p k f (i+1) (j+1) b fr)
     (cond (bU 0 b) (QG p k f b (fr+1) b (fr+1)) none)))
   (some i)
def hashes (p:List Bytes):Nat->Int->Int
 | 0,i=>i
 | f+1,i=>cond (cond (aZ i p.length) (p.getD i.toNat []==[35]) false) (hashes p f (i+1)) i
def yA (p k:List Bytes):Nat:=(k.length+1)*(p.length+1)+p.length+2
def U4 (p k:List Bytes):Bool:=match QG p k (yA p k) 0 0 (-1) 0 with
 | some i=>hashes p (p.length+1) i==p.length
 | none=>false
def GI (besides:List Bytes):List Bytes->Int
 | []=>0
 | w::r=>cond (besides.any (w==·)) (GI besides r) (cond (cond (w==[]) true (!plain w)) 4 (GI besides r))
def key (s:Bytes) (besides:List Bytes):Int:=cond (aZ 64 s.length) 5 (GI besides (words s))
def name (s:Bytes):Int:=cond (s==[]) 15 (cond (aZ 16 s.length) 5 (cond (!plain s) 4 0))
def pR (pattern:Bool):List Bytes->Int
 | []=>0
 | w::r=>cond (cond (cond ((w.length:Int)==0) true (!plain w)) (!cond pattern (cond (w==[42]) true (w==[35])) false) false) 4 (pR pattern r)
def yB (s:Bytes) (pattern:Bool):Int:=cond (aZ 64 s.length) 5 (pR pattern (words s))
def dot:Bytes->Int
 | []=>-1
 | c::r=>cond (c==46) 0 (cond (dot r==-1) (-1) (dot r+1))
def dots (s:Bytes):Int:=s.count 46
end N
def wV:Nat:=1000000
def BIG:Nat:=1000000000000
def U5:Den:=den (aW (cu .u8)) dw (oV iF) (fun _ _=>true) fun c _=>(N.oK c,())
def aar:Den:=den (aW fV) dw (oV iF) (fun s _=>Nat.ble s.length wV) fun s _=>(N.plain s,())
def N7:Den:=den (aW fV) dw (oV (jY qA)) (fun s _=>Nat.ble s.length wV) fun s _=>(N.words s,())
def acO:Den:=den (aO fV (aW (cu .u8))) dw (oV (cu .i64)) (fun a _=>a.2==46) fun a _=>(N.dot a.1,())
def al1:Den:=den (aO fV (aW fV)) dw (oV (cu .i64)) (fun a _=>a.2==[46]) fun a _=>(N.dot a.1,())
def ahw:Den:=den (aO fV (aW (cu .u8))) dw (oV (cu .i64)) (fun a _=>a.2==46) fun a _=>(N.dots a.1,())
def aoc:Den:=den (aO fV (aW fV)) dw (oV (cu .i64)) (fun a _=>a.2==[46]) fun a _=>(N.dots a.1,())
def ahx:Den:=den (aO fV (aW fV)) dw (oV (jY qA)) (fun a _=>cond (a.2==[46]) (Nat.ble a.1.length wV) false) fun a _=>(N.fQ a.1,())
def RP:Den:=den (aO fV (aO fV (aO (cu .i64) (aW (cu .i64))))) dw (oV (jY qA)) (fun a _=>cond (a.2.1==[46]) (cond (a.2.2.1==0) (cond (a.2.2.2==-1) (Nat.ble a.1.length wV) false) false) false) fun a _=>(N.fQ a.1,())
def small (l:List Bytes):Bool:=Nat.ble l.length wV
def Xm:Den:=den (aO fV (aW fV)) dw (oV iF) (fun a _=>cond (Nat.ble a.1.length wV) (Nat.ble a.2.length wV) false) fun a _=>(N.U4 (N.words a.1) (N.words a.2),())
def acP:Den:=den (aO fV (aW iF)) dw (oV (cu .i64)) (fun _ _=>true) fun a _=>(N.yB a.1 a.2,())
def aod:Den:=den (aO fV (aW (jY qA))) dw (oV (cu .i64)) (fun a _=>small a.2) fun a _=>(N.key a.1 a.2,())
def aqV:Den:=den (aW fV) dw (oV (cu .i64)) (fun _ _=>true) fun s _=>(N.key s [],())
def GK:Den:=den (aW fV) dw (oV (cu .i64)) (fun _ _=>true) fun s _=>(N.name s,())
end Go.Ev

namespace Go.Ev
open Go
abbrev hash:Bytes:=[35]
abbrev star:Bytes:=[42]
inductive M:List Bytes->List Bytes->Prop
 | nil:M [] []
 | skip {p k:List Bytes}:M p k->M (hash::p) k
 | eat {p k:List Bytes} {x:Bytes}:M (hash::p) k->M (hash::p) (x::k)
 | one {w x:Bytes} {p k:List Bytes}:w ≠ hash->(w=star∨w=x)->M p k->M (w::p) (x::k)
theorem aqW {k:List Bytes}:M [] k↔k=[]:=⟨fun h=>by cases h; rfl,fun h=>by subst h; exact .nil⟩
theorem aqX {w:Bytes} {p k:List Bytes} (hw:w ≠ hash):M (w::p) k↔∃ x k',k=x::k'∧(w=star∨w=x)∧M p k':=by
 constructor
 .intro h
  cases h with
  | skip=>exact absurd rfl hw
  | eat=>exact absurd rfl hw
  | one _ h1 h2=>exact ⟨_,_,rfl,h1,h2⟩
 .rintro ⟨x,k',rfl,h1,h2⟩; exact .one hw h1 h2
theorem ahy {p k:List Bytes}:M (hash::p) k↔M p k∨∃ x k',k=x::k'∧M (hash::p) k':=by
 constructor
 .intro h
  cases h with
  | skip h=>exact .inl h
  | eat h=>exact .inr ⟨_,_,rfl,h⟩
  | one h=>exact absurd rfl h
 .rintro (h | ⟨x,k',rfl,h⟩)
  .exact .skip h
  .exact .eat h
theorem BM {p:List Bytes}:∀ {k:List Bytes},M (hash::p) k↔∃ n,n<=k.length∧M p (k.drop n)
 | []=>by
  rw [ahy]
  constructor
  .rintro (h | ⟨_,_,h,_⟩)
   .exact ⟨0,Nat.le_refl _,h⟩
   .cases h
  .rintro ⟨n,_,h⟩; exact .inl (by simpa using h)
 | x::k=>by
  rw [ahy]
  constructor
  .rintro (h | ⟨y,k',e,h⟩)
   .exact ⟨0,Nat.zero_le _,h⟩
   .cases e
    obtain ⟨n,h1,h2⟩:=BM.1 h
    exact ⟨n+1,by simpa using h1,h2⟩
  .rintro ⟨n,h1,h2⟩
   cases n with
   | zero=>exact .inl h2
   | succ n=>exact .inr ⟨x,k,rfl,BM.2 ⟨n,by simpa using h1,h2⟩⟩
def want (w:Bytes) (k:List Bytes) (may:List Bool) (j:Nat):Prop :=
 if w=hash then ∃ i,i<=j∧may.getD i false=true else 0<j∧may.getD (j-1) false=true∧(w=star∨w=k.getD (j-1) [])
section
variable {p k:List Bytes}
def Mx (p k:List Bytes) (i j:Nat):Prop:=M (p.drop i) (k.drop j)
theorem getD_at {l:List Bytes} {i:Nat} (h:i<l.length):l.drop i=l.getD i []::l.drop (i+1):=by
 rw [List.drop_eq_getElem_cons h,List.getD_eq_getElem?_getD,List.getElem?_eq_getElem h]; rfl
theorem U6 {i j:Nat} (hi:i<p.length) (hh:p.getD i []=hash) (hj:j<=k.length):Mx p k i j↔∃ t,j<=t∧t<=k.length∧Mx p k (i+1) t:=by
 unfold Mx
 rw [getD_at hi,hh,BM]
 constructor
 .rintro ⟨n,h1,h2⟩
  rw [List.length_drop] at h1
  rw [List.drop_drop] at h2
  exact ⟨j+n,by omega,by omega,h2⟩
 .rintro ⟨t,h1,h2,h3⟩
  refine ⟨t-j,by rw [List.length_drop]; omega,?_⟩
  rw [List.drop_drop,show j+(t-j)=t by omega]; exact h3
theorem aas {i j:Nat} (hi:i<p.length) (hh:p.getD i [] ≠ hash):Mx p k i j↔j<k.length∧(p.getD i []=star∨p.getD i []=k.getD j [])∧Mx p k (i+1) (j+1):=by
 unfold Mx
 rw [getD_at hi,aqX hh]
 constructor
 .rintro ⟨x,k',e,h1,h2⟩
  have hj:j<k.length:=by
   have:=congrArg List.length e
   rw [List.length_drop] at this; simp at this; omega
  rw [getD_at hj] at e
  cases e
  exact ⟨hj,h1,h2⟩
 .rintro ⟨hj,h1,h2⟩
  exact ⟨_,_,getD_at hj,h1,h2⟩
theorem apm {j:Nat} (hj:j<=k.length):Mx p k p.length j↔j=k.length:=by
 unfold Mx
 rw [List.drop_length,aqW,List.drop_eq_nil_iff]; omega
theorem al2 {i j j' : Nat} (hi:i<p.length) (hh:p.getD i []=hash) (h1:j<=j') (h2:j'<=k.length) (h:Mx p k i j'):Mx p k i j:=by
 rw [U6 hi hh (by omega)] at *
 obtain ⟨t,g1,g2,g3⟩:=h
 exact ⟨t,by omega,g2,g3⟩
theorem ahz:∀ (d b t:Nat),b+d<=p.length->(∀ x,b<=x->x<b+d->p.getD x [] ≠ hash)->t<=k.length->Mx p k b t->t+d<=k.length∧Mx p k (b+d) (t+d)
 | 0,b,t,_,_,ht,h=>⟨ht,h⟩
 | d+1,b,t,hb,hn,ht,h=>by
  obtain ⟨h1,_,h3⟩:=(aas (by omega) (hn b (Nat.le_refl _) (by omega))).1 h
  obtain ⟨g1,g2⟩:=ahz d (b+1) (t+1) (by omega) (fun x hx hx2=>hn x (by omega) (by omega)) (by omega) h3
  exact ⟨by omega,by rw [show b+(d+1)=b+1+d by omega,show t+(d+1)=t+1+d by omega]; exact g2⟩
structure N8 (p k:List Bytes) (i j b fr:Int):Prop where
 i0:0<=i
 i1:i<=p.length
 j0:0<=j
 j1:j<=k.length
 bk:b = -1∧fr=0∨0<=b∧b<=i∧0<=fr∧i-b=j-fr∧∀ x:Nat,b<=x->(x:Int)<i->p.getD x [] ≠ hash
def wu (p k:List Bytes) (i fr:Int):Nat:=(k.length+1-fr.toNat)*(p.length+1)+(p.length-i.toNat)
def Said (p k:List Bytes) (i j b fr:Int):Prop:=Mx p k i.toNat j.toNat∨(0<=b∧∃ t,fr.toNat<t∧t<=k.length∧Mx p k b.toNat t)
theorem DL (_:Nat) {i j b fr:Int} (h:N8 p k i j b fr) (hj:aZ j k.length=true) :
  (cond (aZ i p.length) (p.getD i.toNat []==[35]) false=true->N8 p k (i+1) j (i+1) j∧wu p k (i+1) j<wu p k i fr∧(Said p k (i+1) j (i+1) j↔Said p k i j b fr)) ∧
  (cond (aZ i p.length) (p.getD i.toNat []==[35]) false=false->cond (aZ i p.length) (cond (p.getD i.toNat []==[42]) true (p.getD i.toNat []==k.getD j.toNat [])) false=true ->
   N8 p k (i+1) (j+1) b fr∧wu p k (i+1) fr<wu p k i fr∧(Said p k (i+1) (j+1) b fr↔Said p k i j b fr)) ∧
  (cond (aZ i p.length) (p.getD i.toNat []==[35]) false=false->cond (aZ i p.length) (cond (p.getD i.toNat []==[42]) true (p.getD i.toNat []==k.getD j.toNat [])) false=false ->
   (bU 0 b=true->N8 p k b (fr+1) b (fr+1)∧wu p k b (fr+1)<wu p k i fr∧(Said p k b (fr+1) b (fr+1)↔Said p k i j b fr))∧(bU 0 b=false->¬ Said p k i j b fr)):=by
 obtain ⟨i0,i1,j0,j1,bk⟩:=h
 rw [lD] at hj
 have hj:=of_decide_eq_true hj
 have hfr:0<=fr∧fr<=j:=by omega
 refine ⟨fun hc=>?_,fun hc hm=>?_,fun hc hm=>?_⟩
 .have hi:i<p.length:=by
   rw [lD] at hc
   by_cases e:i<p.length
   .exact e
   .rw [decide_eq_false e] at hc; cases hc
  rw [lD,decide_eq_true hi,cond_true] at hc
  have hh:p.getD i.toNat []=hash:=by simpa using hc
  refine ⟨⟨by omega,by omega,j0,j1,.inr ⟨by omega,by omega,j0,by omega,fun x h1 h2=>by omega⟩⟩,?_,?_⟩
  .unfold wu
   have:(k.length+1-j.toNat)*(p.length+1)<=(k.length+1-fr.toNat)*(p.length+1):=Nat.mul_le_mul_right _ (by omega)
   omega
  .have e1:(i+1).toNat=i.toNat+1:=by omega
   have hi' : i.toNat<p.length:=by omega
   have hj' : j.toNat<=k.length:=by omega
   unfold Said
   rw [e1]
   constructor
   .intro h
    refine .inl ((U6 hi' hh hj').2 ?_)
    rcases h with h | ⟨_,t,h1,h2,h3⟩
    .exact ⟨j.toNat,Nat.le_refl _,by omega,h⟩
    .exact ⟨t,by omega,h2,h3⟩
   .intro h
    have:Mx p k i.toNat j.toNat:=by
     rcases h with h | ⟨hb,t,h1,h2,h3⟩
     .exact h
     .rcases bk with ⟨e,_⟩ | ⟨c0,c1,c2,c3,c4⟩
      .omega
      .obtain ⟨g1,g2⟩:=ahz (i.toNat-b.toNat) b.toNat t (by omega) (fun x hx hx2=>c4 x (by omega) (by omega)) h2 h3
       rw [show b.toNat+(i.toNat-b.toNat)=i.toNat by omega] at g2
       exact al2 (by omega) hh (by omega) g1 g2
    obtain ⟨t,g1,g2,g3⟩:=(U6 hi' hh hj').1 this
    by_cases e:t=j.toNat
    .subst e; exact .inl g3
    .exact .inr ⟨by omega,t,by omega,g2,g3⟩
 .have hi:i<p.length:=by
   rw [lD] at hm
   by_cases e:i<p.length
   .exact e
   .rw [decide_eq_false e] at hm; cases hm
  rw [lD,decide_eq_true hi,cond_true] at hc hm
  have hh:p.getD i.toNat [] ≠ hash:=by simpa using hc
  have hw:p.getD i.toNat []=star∨p.getD i.toNat []=k.getD j.toNat []:=by
   cases e:(p.getD i.toNat []==[42]) with
   | true=>exact .inl (by simpa using e)
   | false=>rw [e,cond_false] at hm; exact .inr (by simpa using hm)
  refine ⟨⟨by omega,by omega,by omega,by omega,?_⟩,?_,?_⟩
  .rcases bk with h | ⟨c0,c1,c2,c3,c4⟩
   .exact .inl h
   .refine .inr ⟨c0,by omega,c2,by omega,fun x h1 h2=>?_⟩
    by_cases e:(x:Int)=i
    .rw [show x=i.toNat by omega]; exact hh
    .exact c4 x h1 (by omega)
  .unfold wu; omega
  .unfold Said
   rw [show (i+1).toNat=i.toNat+1 by omega,show (j+1).toNat=j.toNat+1 by omega]
   rw [aas (i:=i.toNat) (j:=j.toNat) (by omega) hh]
   have:j.toNat<k.length:=by omega
   simp only [this,hw,true_and]
 .have hno:¬ Mx p k i.toNat j.toNat:=by
   by_cases hi:i<p.length
   .rw [lD,decide_eq_true hi,cond_true] at hc hm
    have hh:p.getD i.toNat [] ≠ hash:=by simpa using hc
    rw [aas (by omega) hh]
    rintro ⟨_,h,_⟩
    rcases h with h | h
    .rw [h] at hm; cases hm
    .have:(p.getD i.toNat []==k.getD j.toNat [])=true:=by simpa using h
     rw [this] at hm
     cases e:(p.getD i.toNat []==[42])<;>rw [e] at hm<;>cases hm
   .rw [show i.toNat=p.length by omega,apm (by omega)]; omega
  refine ⟨fun hb=>?_,fun hb=>?_⟩
  .rw [xX] at hb
   have hb:=of_decide_eq_true hb
   rcases bk with ⟨e,_⟩ | ⟨c0,c1,c2,c3,c4⟩
   .omega
   .refine ⟨⟨c0,by omega,by omega,by omega,.inr ⟨c0,Int.le_refl _,by omega,by omega,fun x h1 h2=>by omega⟩⟩,?_,?_⟩
    .unfold wu
     have e:k.length+1-fr.toNat=(k.length+1-(fr+1).toNat)+1:=by omega
     rw [e,Nat.add_mul]
     omega
    .unfold Said
     rw [show (fr+1).toNat=fr.toNat+1 by omega]
     constructor
     .rintro (h | ⟨_,t,h1,h2,h3⟩)
      .exact .inr ⟨hb,fr.toNat+1,by omega,by omega,h⟩
      .exact .inr ⟨hb,t,by omega,h2,h3⟩
     .rintro (h | ⟨_,t,h1,h2,h3⟩)
      .exact absurd h hno
      .by_cases e:t=fr.toNat+1
       .subst e; exact .inl h3
       .exact .inr ⟨hb,t,by omega,h2,h3⟩
  .rw [xX] at hb
   have hb:=of_decide_eq_false hb
   rintro (h | ⟨h,_⟩)
   .exact hno h
   .exact hb h
theorem LV:∀ (f:Nat) {i j b fr i' : Int},N8 p k i j b fr->N.QG p k f i j b fr=some i'->0<=i'∧i'<=p.length
 | 0,i,j,b,fr,i',_,h=>by cases h
 | f+1,i,j,b,fr,i',h,he=>by
  unfold N.QG at he
  cases hj:aZ j k.length with
  | false =>
   rw [hj,cond_false,Option.some.injEq] at he
   subst he; exact ⟨h.i0,h.i1⟩
  | true =>
   obtain ⟨s1,s2,s3⟩:=DL f h hj
   rw [hj,cond_true] at he
   cases hc:cond (aZ i p.length) (p.getD i.toNat []==[35]) false with
   | true=>rw [hc,cond_true] at he; exact LV f (s1 hc).1 he
   | false =>
    rw [hc,cond_false] at he
    cases hm:cond (aZ i p.length) (cond (p.getD i.toNat []==[42]) true (p.getD i.toNat []==k.getD j.toNat [])) false with
    | true=>rw [hm,cond_true] at he; exact LV f (s2 hc hm).1 he
    | false =>
     rw [hm,cond_false] at he
     cases hb:bU 0 b with
     | true=>rw [hb,cond_true] at he; exact LV f ((s3 hc hm).1 hb).1 he
     | false=>rw [hb] at he; cases he
end
end Go.Ev

namespace Go.Ev
open Go
def jS (r:List V):Bytes:=(r.getD 0 .undef).toStr
def rowB (r:List V):Bool:=(r.getD 0 .undef).toBool
def eu (r:List (List V)):List Bytes:=r.map jS
def lQ (r:List (List V)):List Bool:=r.map rowB
theorem wz (r:List (List V)) (i:Nat):(eu r).getD i []=jS (r.getD i []):=by
 unfold eu; simp only [List.getD_eq_getElem?_getD,List.getElem?_map]; cases r[i]?<;>rfl
theorem jT (r:List (List V)):(eu r).length=r.length:=List.length_map ..
theorem Jk (l:List Bytes):eu (l.map qA.enc)=l:=by
 unfold eu; rw [List.map_map]; exact List.map_id' l
theorem N9 {r:List (List V)} {i:Nat} (h:i<r.length):(eu r).drop i=jS (r.getD i [])::(eu r).drop (i+1):=by
 rw [<- wz]; exact getD_at (by rw [jT]; exact h)
theorem drop_byte {s:Bytes} {k:Nat} (h:k<s.length):s.drop k=s.getD k 0::s.drop (k+1):=by
 rw [List.drop_eq_getElem_cons h,List.getD_eq_getElem?_getD,List.getElem?_eq_getElem h]; rfl
namespace N
def spl (s:Bytes):Nat->Int->Int->List (List V)->Int × List (List V)
 | 0,_,from',rows=>(from',rows)
 | f+1,i,from',rows=>cond (((s.getD i.toNat 0).toNat:Int)==46) (spl s f (i+1) (i+1) (rows++[[.str ((s.take i.toNat).drop from'.toNat)]])) (spl s f (i+1) from' rows)
def gen:Nat->Bytes->Int->List (List V)->Bytes × Int × List (List V)
 | 0,s,i,rows=>(s,i,rows)
 | f+1,s,i,rows=>cond (aZ (dot s) 0) (s,i,rows) (gen f (s.drop (dot s+1).toNat) (i+1) (rows.set i.toNat [.str (s.take (dot s).toNat)]))
def zh (p k:List Bytes) (i j b fr:Int):Nat->Int:=fun f=>(QG p k f i j b fr).getD (-1)
end N
theorem xB:∀ s,N.fQ s ≠ []
 | []=>by simp [N.fQ]
 | c::r=>by
  unfold N.fQ
  cases c==46 with
  | true=>simp
  | false =>
   simp only [cond_false]
   split<;>simp
def aqY (u:Bytes):List Bytes->List Bytes
 | []=>[] | w::ws=>(u++w)::ws
theorem al3 (c:UInt8):(((c.toNat:Int)==46))=(c==46):=by
 rw [Bool.eq_iff_iff,beq_iff_eq,beq_iff_eq]
 constructor
 .intro h
  have:c.toNat=(46:UInt8).toNat:=by show c.toNat=46; omega
  exact UInt8.toNat_inj.1 this
 .intro h; subst h; rfl
theorem aat (s:Bytes):∀ (f:Nat) (i fr:Int) (rows:List (List V)),0<=fr->fr<=i->i+f=s.length ->
  0<=(N.spl s f i fr rows).1∧(N.spl s f i fr rows).1<=s.length∧(N.spl s f i fr rows).2++[[.str (s.drop (N.spl s f i fr rows).1.toNat)]]=rows++(aqY ((s.take i.toNat).drop fr.toNat) (N.fQ (s.drop i.toNat))).map qA.enc
 | 0,i,fr,rows,h0,h1,h2=>by
  have hi:i.toNat=s.length:=by omega
  refine ⟨h0,?_,?_⟩
  .show fr<=_; omega
  .show rows++[[.str (s.drop fr.toNat)]]=_
   rw [hi,List.take_length,List.drop_length]
   show _=rows++[[V.str (s.drop fr.toNat++[])]]
   rw [List.append_nil]
 | f+1,i,fr,rows,h0,h1,h2=>by
  have hlt:i.toNat<s.length:=by omega
  have e1:(i+1).toNat=i.toNat+1:=by omega
  unfold N.spl
  rw [drop_byte hlt]
  unfold N.fQ
  rw [al3]
  cases hc:s.getD i.toNat 0==46 with
  | true =>
   obtain ⟨g1,g2,g3⟩:=aat s f (i+1) (i+1) (rows++[[.str ((s.take i.toNat).drop fr.toNat)]]) (by omega) (Int.le_refl _) (by omega)
   simp only [cond_true]
   refine ⟨g1,g2,g3.trans ?_⟩
   rw [e1]
   have:(s.take (i.toNat+1)).drop (i.toNat+1)=[]:=by rw [List.drop_take]; simp
   rw [this]
   show _=rows++[V.str ((s.take i.toNat).drop fr.toNat++[])]::(N.fQ (s.drop (i.toNat+1))).map qA.enc
   rw [List.append_nil,List.append_assoc]
   congr 1
   cases h:N.fQ (s.drop (i.toNat+1)) with
   | nil=>exact absurd h (xB _)
   | cons w ws=>rfl
  | false =>
   obtain ⟨g1,g2,g3⟩:=aat s f (i+1) fr rows h0 (by omega) (by omega)
   simp only [cond_false]
   refine ⟨g1,g2,g3.trans ?_⟩
   rw [e1]
   congr 2
   cases h:N.fQ (s.drop (i.toNat+1)) with
   | nil=>exact absurd h (xB _)
   | cons w ws =>
    show ((s.take (i.toNat+1)).drop fr.toNat++w)::ws=((s.take i.toNat).drop fr.toNat++s.getD i.toNat 0::w)::ws
    have:s.take (i.toNat+1)=s.take i.toNat++[s.getD i.toNat 0]:=by
     rw [List.take_add_one,List.getD_eq_getElem?_getD,List.getElem?_eq_getElem hlt]; rfl
    rw [this,List.drop_append_of_le_length (by rw [List.length_take]; omega),List.append_assoc]; rfl
theorem U7 (s:Bytes):∀ (f:Nat) (i fr:Int) (rows:List (List V)),(N.spl s f i fr rows).2.length<=rows.length+f
 | 0,i,fr,rows=>Nat.le_refl _
 | f+1,i,fr,rows=>by
  unfold N.spl
  cases (((s.getD i.toNat 0).toNat:Int)==46) with
  | true =>
   have:=U7 s f (i+1) (i+1) (rows++[[.str ((s.take i.toNat).drop fr.toNat)]])
   simp only [List.length_append,List.length_cons,List.length_nil] at this
   simp only [cond_true]; omega
  | false =>
   have:=U7 s f (i+1) fr rows
   simp only [cond_false]; omega
theorem zY:∀ s,(N.dot s = -1∧N.fQ s=[s]∧N.dots s=0)∨(0<=N.dot s∧N.dot s<s.length∧N.fQ s=s.take (N.dot s).toNat::N.fQ (s.drop (N.dot s+1).toNat)∧N.dots s=N.dots (s.drop (N.dot s+1).toNat)+1)
 | []=>.inl ⟨rfl,rfl,rfl⟩
 | c::r=>by
  have hd:N.dots (c::r)=N.dots r+(if c==46 then 1 else 0):=by
   unfold N.dots; rw [List.count_cons]; split<;>simp
  have hs:N.fQ (c::r)=cond (c==46) ([]::N.fQ r) (match N.fQ r with | []=>[[c]] | w::ws=>(c::w)::ws):=rfl
  have ht:N.dot (c::r)=cond (c==46) 0 (cond (N.dot r==-1) (-1) (N.dot r+1)):=rfl
  rw [hs,ht]
  cases hc:c==46 with
  | true =>
   rw [hc,if_pos rfl] at hd
   simp only [cond_true]
   refine .inr ⟨by decide,by simp only [List.length_cons]; omega,?_,?_⟩
   .rfl
   .rw [hd]; rfl
  | false =>
   rw [hc] at hd
   simp only [cond_false]
   rcases zY r with ⟨h1,h2,h3⟩ | ⟨h1,h2,h3,h4⟩
   .rw [h1,h2]
    exact .inl ⟨rfl,rfl,by rw [hd,h3]; rfl⟩
   .have hne:(N.dot r==-1)=false:=by rw [beq_eq_false_iff_ne]; omega
    rw [hne,cond_false]
    have e1:(N.dot r+1+1).toNat=(N.dot r+1).toNat+1:=by omega
    have e2:(N.dot r+1).toNat=(N.dot r).toNat+1:=by omega
    refine .inr ⟨by omega,by simp only [List.length_cons]; omega,?_,?_⟩
    .rw [h3,e1,List.drop_succ_cons,e2,List.take_succ_cons]
    .rw [hd,h4,e1,List.drop_succ_cons]; simp
theorem ahA:∀ (f:Nat) (s:Bytes) (i:Int) (rows:List (List V)),0<=i->(f:Int)=N.dots s->(rows.length:Int)=i+f+1 ->
  0<=(N.gen f s i rows).2.1∧(N.gen f s i rows).2.1<rows.length∧(N.gen f s i rows).2.2.length=rows.length ∧
  ((N.gen f s i rows).2.2.set (N.gen f s i rows).2.1.toNat [.str (N.gen f s i rows).1]).take ((N.gen f s i rows).2.1+1).toNat=rows.take i.toNat++(N.fQ s).map qA.enc
 | f,s,i,rows,h0,hf,hl=>by
  have stop:N.fQ s=[s]->(rows.set i.toNat [.str s]).take (i+1).toNat=rows.take i.toNat++(N.fQ s).map qA.enc:=fun e=>by
   have hi:i.toNat<rows.length:=by omega
   rw [e,show (i+1).toNat=i.toNat+1 by omega,List.take_add_one,List.getElem?_set_self hi,List.take_set_of_le (Nat.le_refl _)]; rfl
  rcases zY s with ⟨h1,h2,h3⟩ | ⟨h1,h2,h3,h4⟩
  .have:f=0:=by omega
   subst this
   exact ⟨h0,by show i<_; omega,rfl,stop h2⟩
  .cases f with
   | zero =>
    have:0<=N.dots (s.drop (N.dot s+1).toNat):=Int.natCast_nonneg _
    omega
   | succ f =>
    have hn:aZ (N.dot s) 0=false:=by rw [lD,decide_eq_false_iff_not]; omega
    unfold N.gen
    rw [hn,cond_false]
    obtain ⟨g1,g2,g3,g4⟩:=ahA f (s.drop (N.dot s+1).toNat) (i+1) (rows.set i.toNat [.str (s.take (N.dot s).toNat)]) (by omega) (by omega) (by rw [List.length_set]; omega)
    rw [List.length_set] at g2 g3
    refine ⟨g1,g2,g3,g4.trans ?_⟩
    have hi:i.toNat<rows.length:=by omega
    rw [h3,show (i+1).toNat=i.toNat+1 by omega,List.take_add_one,List.getElem?_set_self hi,List.take_set_of_le (Nat.le_refl _),List.append_assoc]; rfl
end Go.Ev

namespace Go.Ev
open Go
structure bG where
 key:Bytes
 kind:Int
 num:Int
 text:Bytes
def _root_.Go.Ev.ah.spelt {α:Type} (c:ah α) (sh:List Sh) (enc:α->List V) (dec:List V->α) (hs:c.sh=sh) (he:∀ a,c.enc a=enc a) (hd:∀ r,c.dec r=dec r):ah α where
 sh:=sh; enc:=enc; dec:=dec
 rf:=by rw [<- hs]; exact c.rf
 fit a:=by rw [<- hs,<- he]; exact c.fit a
 wf row h hw:=by rw [<- hd,<- he]; exact c.wf row (by rw [hs]; exact h) hw
 de a:=by rw [<- hd,<- he]; exact c.de a
 law w I row val h hr j hj:=by rw [<- hd,<- he]; exact c.law w I row val (by rw [hs]; exact h) (fun k hk=>hr k (by rw [<- hs]; exact hk)) j (by rw [hs]; exact hj)
theorem ou {r:List V}:(r.take 1).getD 0 .undef=r.getD 0 .undef:=by cases r<;>rfl
theorem uh {r:List V} (i:Nat):(r.drop 1).getD i .undef=r.getD (i+1) .undef:=by cases r<;>rfl
def rowP (r:List V):bG:=⟨(r.getD 0 .undef).toStr,(r.getD 1 .undef).toInt,(r.getD 2 .undef).toInt,(r.getD 3 .undef).toStr⟩
def gG:ah bG:=((qA.and ((rM .u8).and ((rM .i64).and qA))).iso (fun p=>(⟨p.1,p.2.1,p.2.2.1,p.2.2.2⟩:bG)) (fun o=>(o.key,o.kind,o.num,o.text)) (fun _=>rfl) fun _=>rfl).spelt
 yP (fun p=>[.str p.key,.int .u8 p.kind,.int .i64 p.num,.str p.text]) rowP rfl (fun _=>rfl) fun r=>by
  show (⟨((r.take 1).getD 0 .undef).toStr,(((r.drop 1).take 1).getD 0 .undef).toInt,((((r.drop 1).drop 1).take 1).getD 0 .undef).toInt,(((r.drop 1).drop 1).drop 1 |>.getD 0 .undef).toStr⟩:bG)=rowP r
  simp only [ou,uh]; rfl
def eX (r:List (List V)):List bG:=r.map rowP
def ku:bG:=⟨[],0,0,[]⟩
theorem zZ (r:List (List V)) (i:Nat):(eX r).getD i ku=rowP (r.getD i []):=by
 unfold eX; simp only [List.getD_eq_getElem?_getD,List.getElem?_map]; cases r[i]?<;>rfl
theorem jU (r:List (List V)):(eX r).length=r.length:=List.length_map ..
theorem DN (l:List bG):eX (l.map gG.enc)=l:=by
 unfold eX; rw [List.map_map]; exact List.map_id' l
theorem getD_drop {α:Type} {l:List α} {i:Nat} (d:α) (h:i<l.length):l.drop i=l.getD i d::l.drop (i+1):=by
 rw [List.drop_eq_getElem_cons h,List.getD_eq_getElem?_getD,List.getElem?_eq_getElem h]; rfl
theorem pU {r:List (List V)} {i:Nat} (h:i<r.length):(eX r).drop i=rowP (r.getD i [])::(eX r).drop (i+1):=by
 rw [<- zZ]; exact getD_drop ku (by rw [jU]; exact h)
theorem fO:∀ l:List bG,(l.map (fun p=>[V.str p.key,V.int .u8 p.kind,V.int .i64 p.num,V.str p.text])).map (fun r=>({ key:=V.toStr (List.getD r 0 .undef),kind:=V.toInt (List.getD r 1 .undef),num:=V.toInt (List.getD r 2 .undef),text:=V.toStr (List.getD r 3 .undef) }:bG))=l:=fun l=>DN l
theorem GL (l:List bG) (i:Nat):rowP ((l.map (fun p=>[V.str p.key,V.int .u8 p.kind,V.int .i64 p.num,V.str p.text])).getD i [])=l.getD i ku:=by
 rw [<- zZ]; exact congrArg (fun x=>x.getD i ku) (DN l)
theorem aeL:(∀ (l:List bG) (i:Nat),V.toStr (List.getD (List.getD (l.map (fun p=>[V.str p.key,V.int .u8 p.kind,V.int .i64 p.num,V.str p.text])) i []) 0 .undef)=(l.getD i ku).key) ∧
  (∀ (l:List bG) (i:Nat),V.toInt (List.getD (List.getD (l.map (fun p=>[V.str p.key,V.int .u8 p.kind,V.int .i64 p.num,V.str p.text])) i []) 1 .undef)=(l.getD i ku).kind) ∧
  (∀ (l:List bG) (i:Nat),V.toInt (List.getD (List.getD (l.map (fun p=>[V.str p.key,V.int .u8 p.kind,V.int .i64 p.num,V.str p.text])) i []) 2 .undef)=(l.getD i ku).num) ∧
  (∀ (l:List bG) (i:Nat),V.toStr (List.getD (List.getD (l.map (fun p=>[V.str p.key,V.int .u8 p.kind,V.int .i64 p.num,V.str p.text])) i []) 3 .undef)=(l.getD i ku).text) :=
 ⟨fun l i=>congrArg bG.key (GL l i),fun l i=>congrArg bG.kind (GL l i),fun l i=>congrArg bG.num (GL l i),fun l i=>congrArg bG.text (GL l i)⟩
def vFn (f:FuncId) (n:Nat):EP Unit where
 ok:=fun | .fn g [] [.ptr m 0 0 0]=>cond (Nat.beq f g) (Nat.beq n m) false | _=>false
 enc _:=.fn f [] [.ptr n 0 0 0]
 dec _:=()
 ed _:=⟨by show cond (Nat.beq f f) (Nat.beq n n) false=true; rw [Nat.beq_refl,Nat.beq_refl]; rfl,rfl⟩
 law w I ρ v x h hx:=by
  split at h
  .obtain ⟨h1,h2⟩:=aP h
   have:=Nat.eq_of_beq_eq_true h1; subst this
   have:=Nat.eq_of_beq_eq_true h2; subst this
   exact hx
  .cases h
namespace N
def eqP (p q:bG):Bool:=p.key==q.key && (p.kind==q.kind && (p.num==q.num && (p.text==q.text && true)))
def jy:List bG->List bG->Bool
 | [],[]=>true | p::a,q::b=>cond (eqP p q) (jy a b) false | _,_=>false
def BN (p:bG):Bool:=cond (aZ 40 p.key.length) false (!aZ 100 p.text.length)
def light (h:List bG):Bool:=cond (aZ 12 h.length) false (h.all BN)
def jm (key:Bytes):List bG->Int->Int
 | [],_=>-1 | p::r,i=>cond (p.key==key) i (jm key r (i+1))
def find (h:List bG) (key:Bytes):bG × Bool:=cond (aZ (jm key h 0) 0) (ku,false) (h.getD (jm key h 0).toNat ku,true)
def lC (p:bG) (ahead:List bG):Int :=
 cond (name p.key != 0) (name p.key) (cond (aZ 2 p.kind) 8 (cond (cond (p.kind==1) (aZ 64 p.text.length) false) 5 (cond (cond (cond (p.kind==2) (p.num != 0) false) (p.num != 1) false) 7
  (cond (cond (cond (p.kind==1) (p.num != 0) false) true (cond (p.kind != 1) (!(p.text==[])) false)) 4 (cond (find ahead p.key).2 9 0)))))
def fG (h:List bG):Nat->Int->Int
 | 0,_=>0 | f+1,i=>cond (lC (h.getD i.toNat ku) (h.take i.toNat) != 0) (lC (h.getD i.toNat ku) (h.take i.toNat)) (fG h f (i+1))
def dF (h:List bG):Int:=cond (aZ 8 h.length) 6 (fG h h.length 0)
def dS (s:Bytes):Bytes:=bW s.length 2++s
def wB (p:bG):Bytes:=dS p.key++bW (IntKind.wrap .u64 p.kind) 1++cond (p.kind==0) (bW (IntKind.wrap .u64 p.num) 8) (cond (p.kind==1) (dS p.text) (cond (p.kind==2) (bW (IntKind.wrap .u64 p.num) 1) []))
def mP:List bG->Bytes
 | []=>[] | p::r=>wB p++mP r
def ET (p:bG):Bool:=cond (Nat.ble p.key.length 64) (Nat.ble p.text.length 64) false
def jr (h:List bG):Bytes:=bW h.length 1++mP h
end N
def Jl (h:List bG):Bool:=Nat.ble h.length wV
def Jm:Den:=den (aO (jY gG) (aW (jY gG))) dw (oV iF) (fun a _=>Jl a.1) fun a _=>(N.jy a.1 a.2,())
def ahB:Den:=den (aW (jY gG)) dw (oV iF) (fun _ _=>true) fun h _=>(N.light h,())
def acR:Den:=den (aO (bg gG) (aW (nY 0))) (nC qA) (oV iF) (fun _ _=>true) fun a key=>(a.1.key==key,key)
def Xn (f:FuncId):Den:=den (aO (jY gG) (aW (vFn f 0))) (nC qA) (oV (cu .i64)) (fun a _=>Jl a.1) fun a key=>(N.jm key a.1 0,key)
def aoe:Den:=den (aO (jY gG) (aW fV)) dw (nP (aO (bg gG) (aW iF))) (fun a _=>Jl a.1) fun a _=>(N.find a.1 a.2,())
def Oa:Den:=den (aO (bg gG) (aW (jY gG))) dw (oV (cu .i64)) (fun a _=>Jl a.2) fun a _=>(N.lC a.1 a.2,())
def wC:Den:=den (aW (jY gG)) dw (oV (cu .i64)) (fun _ _=>true) fun h _=>(N.dF h,())
def EU:Den:=den (aW (jY gG)) dw (nP (aO fV (aW (cu .i64)))) (fun _ _=>true) fun h _=>(cond (N.dF h != 0) ([],N.dF h) (N.jr h,0),())
theorem Jo (key:Bytes):∀ (h:List bG) (i:Int),0<=i->N.jm key h i = -1∨(i<=N.jm key h i∧N.jm key h i<i+h.length)
 | [],i,_=>.inl rfl
 | p::r,i,h0=>by
  unfold N.jm
  cases p.key==key with
  | true=>exact .inr ⟨Int.le_refl _,by simp only [List.length_cons,cond_true]; omega⟩
  | false =>
   rcases Jo key r (i+1) (by omega) with h | ⟨h1,h2⟩
   .exact .inl h
   .exact .inr ⟨by simp only [cond_false]; omega,by simp only [List.length_cons,cond_false]; omega⟩
abbrev yE (p:bG):List V:=[V.str p.key,V.int .u8 p.kind,V.int .i64 p.num,V.str p.text]
abbrev yD (r:List V):bG:={key:=V.toStr (r.getD 0 .undef),kind:=V.toInt (r.getD 1 .undef),num:=V.toInt (r.getD 2 .undef),text:=V.toStr (r.getD 3 .undef)}
end Go.Ev

namespace Go.Ev
open Go
namespace N
def cO (i:eH) (n:Int):Bytes × eH :=
 lu (cond (aZ n (IntKind.wrap .i64 (aN i 2).1)) (bV (aN i 2).2 5) (aN i 2).2) (IntKind.wrap .i64 (aN i 2).1)
def aau (i:eH):Int:=i.s.length
def oneOf (key:Bytes) (kind:Int) (i:eH):bG × eH :=
 cond (kind==0) (⟨key,kind,IntKind.wrap .i64 (aN i 8).1,[]⟩,(aN i 8).2) (cond (kind==1) (⟨key,kind,0,(cO i 64).1⟩,(cO i 64).2)
  (cond (kind==2) (⟨key,kind,IntKind.wrap .i64 (aN i 1).1,[]⟩,(aN i 1).2) (⟨key,kind,0,[]⟩,bV i 8)))
def one (i:eH):bG × eH:=oneOf (cO i 16).1 (IntKind.wrap .u8 (aN (cO i 16).2 1).1) (aN (cO i 16).2 1).2
def bad (p:bG) (acc:List bG) (i:eH):eH:=cond (i.err==0) (bV i (lC p acc)) i
def kP:Nat->eH->List bG->List bG × eH
 | 0,i,acc=>(acc,i)
 | k+1,i,acc=>cond ((bad (one i).1 acc (one i).2).err != 0) ([],bad (one i).1 acc (one i).2) (kP k (bad (one i).1 acc (one i).2) (acc++[(one i).1]))
def kQ (i:eH):List bG × eH :=
 kP (IntKind.wrap .i64 (aN i 1).1).toNat (cond (aZ 8 (IntKind.wrap .i64 (aN i 1).1)) (bV (aN i 1).2 6) (aN i 1).2) []
end N
def LW:Den:=den (aO (nY 0) (aW (cu .i64))) (nC IW) (oV fV) (fun _ _=>true) fun a i=>N.cO i a.2
def EW:Den:=den (aW (nY 0)) (nC IW) (oV (cu .i64)) (fun _ _=>true) fun _ i=>(i.err,i)
def acS:Den:=den (aW (nY 0)) (nC IW) (oV (cu .i64)) (fun _ _=>true) fun _ i=>(N.aau i,i)
def ahC:Den:=den (aW (nY 0)) (nC IW) (oV (cu .i64)) (fun _ _=>true) fun _ i=>(cond (i.err==0) (cond (aZ 0 i.s.length) 4 0) i.err,i)
def aqZ:Den:=den (aW (nY 0)) (nC IW) (oV (bg gG)) (fun _ _=>true) fun _ i=>N.one i
def RQ:Den:=den (aW (nY 0)) (nC IW) (oV (jY gG)) (fun _ _=>true) fun _ i=>N.kQ i
end Go.Ev

namespace Go.Ev
open Go
structure ay where
 id:Int
 bT:Bytes
 key:Bytes
 head:List bG
 body:Bytes
 due:Int
 hops:Int
def aav (r:List V):ay:=⟨(r.getD 0 .undef).toInt,(r.getD 1 .undef).toStr,(r.getD 2 .undef).toStr,eX (r.getD 3 .undef).toRows,(r.getD 4 .undef).toStr,(r.getD 5 .undef).toInt,(r.getD 6 .undef).toInt⟩
def ak:ah ay:=(((rM .u64).and (qA.and (qA.and ((uZ gG).and (qA.and ((rM .u64).and (rM .u8))))))).iso (fun p=>(⟨p.1,p.2.1,p.2.2.1,p.2.2.2.1,p.2.2.2.2.1,p.2.2.2.2.2.1,p.2.2.2.2.2.2⟩:ay)) (fun o=>(o.id,o.bT,o.key,o.head,o.body,o.due,o.hops)) (fun _=>rfl) fun _=>rfl).spelt
 yM
 (fun m=>[.int .u64 m.id,.str m.bT,.str m.key,.slc yP (m.head.map fun p=>[V.str p.key,V.int .u8 p.kind,V.int .i64 p.num,V.str p.text]),.str m.body,.int .u64 m.due,.int .u8 m.hops]) aav rfl (fun _=>rfl) fun r=>by
  show (⟨((r.take 1).getD 0 .undef).toInt,(((r.drop 1).take 1).getD 0 .undef).toStr,((((r.drop 1).drop 1).take 1).getD 0 .undef).toStr,(((((r.drop 1).drop 1).drop 1).take 1).getD 0 .undef).toRows.map gG.dec,
   ((((((r.drop 1).drop 1).drop 1).drop 1).take 1).getD 0 .undef).toStr,(((((((r.drop 1).drop 1).drop 1).drop 1).drop 1).take 1).getD 0 .undef).toInt,((((((r.drop 1).drop 1).drop 1).drop 1).drop 1).drop 1 |>.getD 0 .undef).toInt⟩:ay)=aav r
  simp only [ou,uh]; rfl
def gJ:ay:=⟨0,[],[],[],[],0,0⟩
namespace N
def aV (m:ay):Int:=cond (name m.bT != 0) (name m.bT) (cond (key m.key [] != 0) (key m.key []) (cond (dF m.head != 0) (dF m.head) (cond (aZ 256 m.body.length) 5 (cond (aZ 4 m.hops) 7 0))))
def mQ (m:ay):Bytes:=bW m.id 8++dS m.bT++dS m.key++jr m.head++dS m.body++bW m.due 8++bW (IntKind.wrap .u64 m.hops) 1
def bJ (m:ay):Int:=cond (aV m != 0) 0 (mQ m).length
def iP (a b:ay):Bool:=cond (a.id==b.id) (cond (a.bT==b.bT) (cond (a.key==b.key) (cond (jy a.head b.head) (cond (a.body==b.body) (cond (a.due==b.due) (a.hops==b.hops) false) false) false) false) false) false
def DR (m:ay) (i:eH):ay × eH :=
 cond ((cond (i.err==0) (bV i (aV m)) i).err != 0) (gJ,cond (i.err==0) (bV i (aV m)) i) (m,cond (i.err==0) (bV i (aV m)) i)
def dL (i:eH):ay × eH :=
 let a:=aN i 8
 let b:=cO a.2 16
 let c:=cO b.2 64
 let d:=kQ c.2
 let e:=cO d.2 256
 let f:=aN e.2 8
 let g:=aN f.2 1
 DR ⟨a.1,b.1,c.1,d.1,e.1,f.1,IntKind.wrap .u8 g.1⟩ g.2
def Aa (m:ay):Bool:=cond (bU m.bT.length 40) (cond (bU m.key.length 100) (cond (light m.head) (bU m.body.length 300) false) false) false
def vC (m:ay):Bool:=cond (cond (bU 0 m.id) (aZ m.id 18446744073709551616) false) (cond (cond (bU 0 m.due) (aZ m.due 18446744073709551616) false) (cond (bU 0 m.hops) (aZ m.hops 256) false) false) false
end N
def N.Ob (p:bG):Bool:=cond (bU 0 p.kind) (cond (aZ p.kind 256) (cond (bU (-9223372036854775808) p.num) (bU p.num 9223372036854775807) false) false) false
def dA (m:ay):Bool:=Jl m.head
def ahD:Den:=den (aW (jY gG)) dw (oV (jY gG)) (fun l _=>Jl l) fun l _=>(l,())
def vV:Den:=den (aW (bg ak)) dw (oV (bg ak)) (fun m _=>dA m) fun m _=>(m,())
def lG:Den:=den (aW (bg ak)) dw (oV (cu .i64)) (fun _ _=>true) fun m _=>(N.aV m,())
def qU:Den:=den (aO (bg ak) (aW (bg ak))) dw (oV iF) (fun a _=>dA a.1) fun a _=>(N.iP a.1 a.2,())
def wE:Den:=den (aW (bg ak)) dw (nP (aO fV (aW (cu .i64)))) (fun m _=>N.vC m) fun m _=>(cond (N.aV m != 0) ([],N.aV m) (N.mQ m,0),())
def DT:Den:=den (aW (bg ak)) dw (oV (cu .i64)) (fun m _=>N.vC m) fun m _=>(N.bJ m,())
def EX:Den:=den (aW (bg ak)) dw (oV (cu .i64)) (fun m _=>cond (N.vC m) (m.head.all N.Ob) false) fun m _=>(N.bJ m,())
def Jp:Den:=den (aW (nY 0)) (nC IW) (oV (bg ak)) (fun _ _=>true) fun _ i=>N.dL i
def acT:Den:=den (aW (bg ak)) dw (oV iF) (fun _ _=>true) fun m _=>(N.Aa m,())
end Go.Ev

namespace Go.Ev
open Go
structure aq0 where
 sort:Int
 key:Bytes
 want:List bG
 all:Bool
namespace N
def asy (h:List bG) (p:bG):Bool:=cond (find h p.key).2 (eqP (find h p.key).1 p) false
def aaw (h:List bG) (all:Bool):List bG->Bool
 | []=>all
 | p::r=>cond (asy h p) (cond all (aaw h all r) true) (cond all false (aaw h all r))
def goes (r:aq0) (k:Bytes) (h:List bG):Bool:=cond (r.sort==0) (k==r.key) (cond (r.sort==2) (U4 (words r.key) (words k)) (cond (r.sort==3) (aaw h r.all r.want) true))
end N
end Go.Ev

namespace Go.Ev
open Go
theorem jP {r:List (List V)} {i:Nat} (h:i<r.length):r.drop i=r.getD i []::r.drop (i+1):=by
 rw [List.drop_eq_getElem_cons h,List.getD_eq_getElem?_getD,List.getElem?_eq_getElem h]; rfl
theorem dh {E:Env} {f:FuncId} {id:Nat} {A:Type} (r:List (List V)) (enc:A->Int->St) (inv:A->Nat->Prop) (res:A->List (List V)->(Ex->St->Option R)->Option R)
  (step:∀ (a:A) (i:Nat),inv a i->i<r.length->(∃ a',inv a' (i+1)∧(∀ K,bI E f id (enc a i) K=K .normal (enc a' ((i:Int)+1)))∧∀ K,res a (r.getD i []::r.drop (i+1)) K=res a' (r.drop (i+1)) K) ∨
   ∃ e S,e ≠ .normal∧(∀ K,bI E f id (enc a i) K=K e S)∧∀ K,res a (r.getD i []::r.drop (i+1)) K=K e S)
  (fin:∀ a,inv a r.length->∃ e S,e ≠ .normal∧(∀ K,bI E f id (enc a r.length) K=K e S)∧∀ K,res a [] K=K e S)
  (a:A) (i:Int) (h0:0<=i) (h1:i<=r.length) (ha:inv a i.toNat) (K:Ex->St->Option R) (q:R) (hq:res a (r.drop i.toNat) K=some q):∃ n,qB E f id n (enc a i) K=some q:=by
 refine dD (σ:=A × Nat) (fun s=>enc s.1 s.2) (fun s=>inv s.1 s.2∧s.2<=r.length) (fun s=>r.length-s.2) (fun s K=>res s.1 (r.drop s.2) K) (fun s ⟨hs,hl⟩=>?_) (a,i.toNat) ⟨ha,by simp only; omega⟩ K q hq |>.imp fun n h=>by
  simpa only [Int.toNat_of_nonneg h0] using h
 obtain ⟨a,i⟩:=s
 simp only at hs hl ⊢
 by_cases hi:i<r.length
 .rw [jP hi]
  rcases step a i hs hi with ⟨a',g1,g2,g3⟩ | ⟨e,S,g1,g2,g3⟩
  .exact .inl ⟨(a',i+1),⟨g1,hi⟩,by simp only; omega,fun K=>by rw [g2]; rfl,fun K=>g3 K⟩
  .exact .inr ⟨e,S,g1,g2,g3⟩
 .obtain rfl:i=r.length:=by omega
  rw [List.drop_eq_nil_of_le (Nat.le_refl _)]
  obtain ⟨e,S,g1,g2,g3⟩:=fin a hs
  exact .inr ⟨e,S,g1,g2,g3⟩
end Go.Ev

namespace Go.Ev
open Go Go.Proofs
set_option maxRecDepth 100000
noncomputable def acU:Env:=env Tryz.prog [] [] []
theorem ahE (c:Int):bM acU 116 ((aW (cu .u8)).enc c) ([]) some =
 cond (bU 97 c) (cond (bU c 122) (some {v:=.bool true,bx:=[]}) (cond (bU 48 c) (cond (bU c 57) (some {v:=.bool true,bx:=[]}) (cond (c==45) (some {v:=.bool true,bx:=[]}) (some {v:=.bool (c==95),bx:=[]}))) (cond (c==45) (some {v:=.bool true,bx:=[]}) (some {v:=.bool (c==95),bx:=[]})))) (cond (bU 48 c) (cond (bU c 57) (some {v:=.bool true,bx:=[]}) (cond (c==45) (some {v:=.bool true,bx:=[]}) (some {v:=.bool (c==95),bx:=[]}))) (cond (c==45) (some {v:=.bool true,bx:=[]}) (some {v:=.bool (c==95),bx:=[]}))):=by kernel_rfl
theorem RS:bH Tryz.prog 116 U5:=by
 refine aK (aT (fK.nil _)) (E:=acU) Tryz.func116 [] (by kernel_rfl) none0 fun c _ _=>?_
 refine (ahE c).trans ?_
 show _=some (⟨.bool (N.oK c),[],[]⟩:aH)
 unfold N.oK
 cases bU 97 c<;>cases bU c 122<;>cases bU 48 c<;>cases bU c 57<;>cases c==45<;>rfl
theorem EY (c:UInt8) (r:Bytes):N.plain (c::r)=cond (N.oK c.toNat) (N.plain r) false:=by
 show (N.letter c && N.plain r)=_
 unfold N.letter
 cases N.oK c.toNat<;>rfl
def ahF:fP:={ fr:=[(0,.str),(6,.int .i64),(7,.int .i64)],tab:=[] }
def ahG:List Leaf->(Ex->St->Option R)->Option R
 | [.s s0,.i i6,.i i7],K=>cond (i6==s0.length) (cond (bU 0 i7) (cond (Nat.ble s0.length wV) (cond (N.plain (s0.drop i7.toNat)) (K (.exit 0) { fr:=[],tab:=[] }) (K .ret { fr:=[(2,.bool false)],tab:=[] })) none) none) none
 | _,_=>none
noncomputable def U8:Env:=env Tryz.prog [] [(2,dJ ahF ahG)] [(2,[(0,[0,6,7]),(1,[]),(1000,[2])])]
theorem al4 (s:Bytes):bM U8 168 ((aW fV).enc s) ([]) some =
 cond ((↑(List.length s):Int)==(↑(List.length s):Int)) (cond (Nat.ble (List.length s) 1000000) (cond (N.plain (List.drop 0 s)) (some {v:=.bool true,bx:=[]}) (some {v:=.bool false,bx:=[]})) none) none:=by kernel_rfl
theorem Oc (s0:Bytes) (i6:Int) (i7:Int) (K:Ex->St->Option R):type_of% (by
  have h:bI U8 168 2 { fr:=[(0,.str s0),(6,.int .i64 i6),(7,.int .i64 i7)],tab:=[] } K =(
   let z1:=(↑(UInt8.toNat (List.getD s0 (Int.toNat i7) (0:UInt8))):Int);let z3:=(K .normal {fr:=[(0,.str s0),(6,.int .i64 i6),(7,.int .i64 (IntKind.wrap .i64 (i7+1)))],tab:=[]});let z4:=(K .ret {fr:=[(2,.bool false)],tab:=[]});let z0:=(cond (z1==45) (cond (z1==45) z3 z4) (cond (z1==95) z3 z4));let z2:=(cond (bU 48 z1) (cond (bU z1 57) (cond (bU z1 57) z3 z4) z0) z0);cond (aZ i7 i6) (cond (decide (0<=i7∧i7<(↑(List.length s0):Int))) (cond (bU 97 z1) (cond (bU z1 122) (cond (bU z1 122) z3 z4) z2) z2) none) (K (.exit 0) {fr:=[],tab:=[]})):=by kernel_rfl
  dsimp only at h;exact h):=by kernel_rfl
theorem Xo:bH Tryz.prog 168 aar:=by
 refine aK (aT (fK.nil _)) (E:=U8) Tryz.func168 [2] (by kernel_rfl) (one1 (bf rfl fun l K q h=>?_)) fun s _ h=>?_
 .unfold ahG at h
  split at h
  .rename_i s n i
   replace h:=Lm h;obtain ⟨h1,h2,h3,h⟩:=h
   have h1:=aY h1
   subst h1
   have h3:s.length<=1000000:=aX h3
   refine dD (E:=U8) (f:=168) (id:=2) (fun i:Int=>{ fr:=[(0,.str s),(6,.int .i64 s.length),(7,.int .i64 i)],tab:=[] }) (fun i=>0<=i) (fun i=>s.length-i.toNat)
    (fun i K=>cond (N.plain (s.drop i.toNat)) (K (.exit 0) { fr:=[],tab:=[] }) (K .ret { fr:=[(2,.bool false)],tab:=[] })) (fun i hi=>?_) i (bQ h2) K q h
   by_cases hl:i<s.length
   .rw [drop_byte (show i.toNat<s.length by omega),EY]
    cases hc:N.oK (s.getD i.toNat 0).toNat with
    | true =>
     refine .inl ⟨i+1,by omega,by omega,fun K=>?_,fun K=>?_⟩
     .rw [Oc]
      simp (disch:=omega) only [evs]
      revert hc
      unfold N.oK
      cases bU 97 (s.getD i.toNat 0).toNat<;>cases bU (s.getD i.toNat 0).toNat 122<;>cases bU 48 (s.getD i.toNat 0).toNat<;>cases bU (s.getD i.toNat 0).toNat 57<;>cases ((s.getD i.toNat 0).toNat:Int)==45<;>cases ((s.getD i.toNat 0).toNat:Int)==95<;>intro hc<;>first | rfl | cases hc
     .rw [cond_true,show (i+1).toNat=i.toNat+1 by omega]
    | false =>
     refine .inr ⟨.ret,_,by simp,fun K=>?_,fun K=>rfl⟩
     rw [Oc]
     simp (disch:=omega) only [evs]
     revert hc
     unfold N.oK
     cases bU 97 (s.getD i.toNat 0).toNat<;>cases bU (s.getD i.toNat 0).toNat 122<;>cases bU 48 (s.getD i.toNat 0).toNat<;>cases bU (s.getD i.toNat 0).toNat 57<;>cases ((s.getD i.toNat 0).toNat:Int)==45<;>cases ((s.getD i.toNat 0).toNat:Int)==95<;>intro hc<;>first | rfl | cases hc
   .refine .inr ⟨.exit 0,{ fr:=[],tab:=[] },by simp,fun K=>?_,fun K=>?_⟩
    .rw [Oc]
     simp (disch:=omega) only [evs]
    .rw [List.drop_eq_nil_of_le (by omega)]; rfl
  .cases h
 .refine (al4 s).trans ?_
  have h:s.length<=1000000:=aX h
  show _=some (⟨.bool (N.plain s),[],[]⟩:aH)
  simp (disch:=omega) only [evs,List.drop_zero]
  cases N.plain s<;>rfl
def Xp:fP:={ fr:=[(0,.str),(3,.own 10000),(4,.int .i64),(5,.int .i64)],tab:=[(10000,.sl [.str])] }
def RU:List Leaf->(Ex->St->Option R)->Option R
 | [.s s0,.i i4,.i i5,.r oW],K=>cond (Nat.ble s0.length wV) (cond (bU 0 i4) (cond (bU i4 i5) (cond (bU i5 s0.length) (cond (Nat.ble (oW.length+(s0.length-i5.toNat)) (wV+1))
   (K (.exit 0) { fr:=[(0,.str s0),(3,.own 10000 0),(4,.int .i64 (N.spl s0 (s0.length-i5.toNat) i5 i4 oW).1)],tab:=[(10000,.sl [.str] (N.spl s0 (s0.length-i5.toNat) i5 i4 oW).2 0)] }) none) none) none) none) none
 | _,_=>none
noncomputable def DU:Env:=env Tryz.prog [] [(6,dJ Xp RU)] [(6,[(0,[0,3,4,5]),(1,[0,3,4]),(1000,[2])])]
theorem aax (s:Bytes):bM DU 117 ((aW fV).enc s) ([]) some =
 cond ((↑(List.length s):Int)==0) (some {v:=.slc [.str] [],bx:=[]}) (cond (Nat.ble (List.length s) 1000000) (cond (Nat.ble (0+(List.length s-0)) 1000001) (cond (decide (0<=Prod.fst (N.spl s (List.length s-0) 0 0 [])∧Prod.fst (N.spl s (List.length s-0) 0 0 [])<=(↑(List.length s):Int))) (cond (decide ((List.length (Prod.snd (N.spl s (List.length s-0) 0 0 []))+1)*16<=140737488355328)) (some {v:=.slc [.str] (Prod.snd (N.spl s (List.length s-0) 0 0 [])++[[V.str (List.drop (Int.toNat (Prod.fst (N.spl s (List.length s-0) 0 0 []))) (List.take (List.length s) s))]]),bx:=[]}) none) none) none) none):=by kernel_rfl
theorem BO (s0:Bytes) (i4:Int) (i5:Int) (oW:List (List V)) (K:Ex->St->Option R):bI DU 117 6 { fr:=[(0,.str s0),(3,.own 10000 0),(4,.int .i64 i4),(5,.int .i64 i5)],tab:=[(10000,.sl [.str] oW 0)] } K =
 cond (aZ i5 (↑(List.length s0):Int)) (cond (decide (0<=i5∧i5<(↑(List.length s0):Int))) (cond ((↑(UInt8.toNat (List.getD s0 (Int.toNat i5) (0:UInt8))):Int)==46) (cond (decide (0<=i5∧i5<=(↑(List.length s0):Int))) (cond (decide (0<=i4∧i4<=(↑(Int.toNat i5):Int))) (cond (decide ((List.length oW+1)*16<=140737488355328)) (K .normal {fr:=[(0,.str s0),(3,.own 10000 0),(4,.int .i64 (IntKind.wrap .i64 (i5+1))),(5,.int .i64 (IntKind.wrap .i64 (i5+1)))],tab:=[(10000,.sl [.str] (oW++[[V.str (List.drop (Int.toNat i4) (List.take (Int.toNat i5) s0))]]) 0)]}) none) none) none) (K .normal {fr:=[(0,.str s0),(3,.own 10000 0),(4,.int .i64 i4),(5,.int .i64 (IntKind.wrap .i64 (i5+1)))],tab:=[(10000,.sl [.str] oW 0)]})) none) (K (.exit 0) {fr:=[(0,.str s0),(3,.own 10000 0),(4,.int .i64 i4)],tab:=[(10000,.sl [.str] oW 0)]}):=by kernel_rfl
theorem Xq:bH Tryz.prog 117 N7:=by
 refine aK (aT (fK.nil _)) (E:=DU) Tryz.func117 [6] (by kernel_rfl) (one1 (bf rfl fun l K q h=>?_)) fun s _ h=>?_
 .unfold RU at h
  split at h
  .rename_i s fr i rows
   replace h:=Ed h;obtain ⟨h1,h2,h3,h4,h5,h⟩:=h
   have h1:s.length<=1000000:=aX h1
   have h5:rows.length+(s.length-i.toNat)<=1000001:=aX h5
   refine dD (E:=DU) (f:=117) (id:=6) (σ:=Int × Int × List (List V)) (fun x=>{ fr:=[(0,.str s),(3,.own 10000 0),(4,.int .i64 x.1),(5,.int .i64 x.2.1)],tab:=[(10000,.sl [.str] x.2.2 0)] })
    (fun x=>0<=x.1∧x.1<=x.2.1∧x.2.1<=s.length∧x.2.2.length+(s.length-x.2.1.toNat)<=1000001) (fun x=>s.length-x.2.1.toNat)
    (fun x K=>K (.exit 0) { fr:=[(0,.str s),(3,.own 10000 0),(4,.int .i64 (N.spl s (s.length-x.2.1.toNat) x.2.1 x.1 x.2.2).1)],tab:=[(10000,.sl [.str] (N.spl s (s.length-x.2.1.toNat) x.2.1 x.1 x.2.2).2 0)] }) ?_ (fr,i,rows)
    ⟨bQ h2,bQ h3,bQ h4,h5⟩ K q h
   rintro ⟨fr,i,rows⟩ ⟨h2,h3,h4,h5⟩
   simp only at h2 h3 h4 h5 ⊢
   by_cases hl:i<s.length
   .have e:s.length-i.toNat=(s.length-(i+1).toNat)+1:=by omega
    rw [e]
    simp only [N.spl]
    cases hc:(((s.getD i.toNat 0).toNat:Int)==46) with
    | true =>
     refine .inl ⟨(i+1,i+1,rows++[[.str ((s.take i.toNat).drop fr.toNat)]]),⟨by simp only; omega,by simp only; omega,by simp only; omega,by simp only [List.length_append,List.length_cons,List.length_nil]; omega⟩,by simp only; omega,fun K=>?_,fun K=>rfl⟩
     rw [BO]
     simp (disch:=omega) only [evs,hc]
    | false =>
     refine .inl ⟨(fr,i+1,rows),⟨by simp only; omega,by simp only; omega,by simp only; omega,by simp only; omega⟩,by simp only; omega,fun K=>?_,fun K=>rfl⟩
     rw [BO]
     simp (disch:=omega) only [evs,hc]
   .refine .inr ⟨.exit 0,_,by simp,fun K=>?_,fun K=>rfl⟩
    rw [BO,show s.length-i.toNat=0 by omega]
    simp (disch:=omega) only [evs,N.spl]
  .cases h
 .refine (aax s).trans ?_
  have h:s.length<=1000000:=aX h
  show _=some (⟨.slc [.str] ((N.words s).map qA.enc),[],[]⟩:aH)
  cases s with
  | nil=>rfl
  | cons c r =>
   generalize hs:c::r=s at *
   have hpos:0<s.length:=by rw [<- hs]; simp
   have hw:N.words s=N.fQ s:=by rw [<- hs]; rfl
   obtain ⟨g1,g2,g3⟩:=aat s s.length 0 0 [] (by omega) (by omega) (by omega)
   have g4:=U7 s s.length 0 0 []
   simp only [List.length_nil,Nat.zero_add] at g4
   simp (disch:=omega) only [evs,Nat.sub_zero,Nat.zero_add]
   rw [List.take_length,g3,hw]
   simp only [Int.toNat_zero,List.drop_zero,List.take_zero,List.nil_append]
   cases h:N.fQ s with
   | nil=>exact absurd h (xB _)
   | cons w ws=>rfl
noncomputable def aof:Env:=env Tryz.prog [(219,acO)] [] []
theorem apn (s:Bytes):bM aof 215 ((aO fV (aW (cu .u8))).enc (s,46)) ([]) some =
 some {v:=.int .i64 (N.dot s),bx:=[]}:=by kernel_rfl
theorem apo (s:Bytes):Lib.indexByte s 46=N.dot s:=by
 induction s with
 | nil=>rfl
 | cons c r ih =>
  unfold Lib.indexByte N.dot
  rw [ih]
  cases c==46<;>cases N.dot r==-1<;>rfl
theorem Xr {P:Program} {f:FuncId} {vs:List V} {D:Den} (v:V) (x:Value) (hv:∀ w I ρ,Rv w I ρ v x) (xs:List Value) (hx:∀ w I ρ ys,dI w I ρ vs ys->ys=xs) (hD:∀ a b,D.pre a b=true->a=vs∧b=[]∧D.res a b=⟨v,[],[]⟩)
  (h:∀ w,(callFunc f xs.toArray).run P w = .ok (.value x) w):bH P f D:=fun a b hp w J gq ys hl hJ hr _ _ _=>by
 obtain ⟨rfl,rfl,e⟩:=hD a b hp
 obtain rfl:=hx _ _ _ _ hr
 refine .inr ⟨x,w,h w,J,?_⟩
 rw [e]
 exact ⟨Keeps.refl _ _,fun _ _ h=>h,hJ,fun _ _ h _=>h,rfl,fun j cs cs' p h1=>by simp at h1,.inl ⟨rfl,hv _ _ _⟩⟩
theorem Xt {s:Bytes} {w:World} {I:Nat->Nat->Prop} {ρ:Nat->Option Real} {ys:List Value} (h:dI w I ρ [.str s,.int .u8 46] ys):ys=[.string ⟨s.toArray⟩,.int .u8 46]:=by
 obtain ⟨x,xs,rfl,h1,h2⟩:=h.qK
 obtain ⟨y,rfl,h3⟩:=h2.one
 rw [h1.rE,h3.iE]
theorem al5:bH Tryz.prog 219 acO:=by
 refine UZ fun a u h=>?_
 obtain ⟨s,c⟩:=a
 have h:c=46:=aY h
 subst h
 refine Xr (vs:=[.str s,.int .u8 46]) (.int .i64 (N.dot s)) (.int .i64 (N.dot s)) (fun _ _ _=>.dat (.int _ _)) [.string ⟨s.toArray⟩,.int .u8 46] (fun _ _ _ _ h=>Xt h) (fun a b h=>?_) fun w=>?_
 .have h:a=(aO fV (aW (cu .u8))).enc (s,46)∧b=dw.enc u:=by simpa using h
  exact ⟨h.1,h.2,rfl⟩
 .rw [run_callFunc_extern Tryz.func219 (by kernel_rfl) (by kernel_rfl) (by kernel_rfl) (e:=Extern.BytealgIndexByte.indexByte) (by kernel_rfl),Lib.run_indexByteString]
  simp only [Result.andThen]
  have:Lib.indexByte (ByteArray.mk s.toArray).data.toList (Int.toNat 46).toUInt8=N.dot s:=apo s
  rw [this]
theorem ahH:bH Tryz.prog 211 ahw:=by
 refine UZ fun a u h=>?_
 obtain ⟨s,c⟩:=a
 have h:c=46:=aY h
 subst h
 refine Xr (vs:=[.str s,.int .u8 46]) (.int .i64 (N.dots s)) (.int .i64 (N.dots s)) (fun _ _ _=>.dat (.int _ _)) [.string ⟨s.toArray⟩,.int .u8 46] (fun _ _ _ _ h=>Xt h) (fun a b h=>?_) fun w=>?_
 .have h:a=(aO fV (aW (cu .u8))).enc (s,46)∧b=dw.enc u:=by simpa using h
  exact ⟨h.1,h.2,rfl⟩
 .rw [run_callFunc_extern Tryz.func211 (by kernel_rfl) (by kernel_rfl) (by kernel_rfl) (e:=Extern.BytealgCount.count) (by kernel_rfl),Lib.run_countString]
  try rfl
theorem al6:bH Tryz.prog 215 acO:=by
 refine aK (aT ((fK.nil _).cons al5)) (E:=aof) Tryz.func215 [] (by kernel_rfl) none0 fun a _ h=>?_
 obtain ⟨s,c⟩:=a
 have h:c=46:=aY h
 subst h
 exact apn s
noncomputable def aog:Env:=env Tryz.prog [(215,acO)] [(15,fun _ _=>none)] []
theorem apq (s:Bytes):bM aog 212 ((aO fV (aW fV)).enc (s,[46])) ([]) some =
 cond ([(46:UInt8)]==s) (some {v:=.int .i64 0,bx:=[]}) (some {v:=.int .i64 (N.dot s),bx:=[]}):=by kernel_rfl
theorem al7:bH Tryz.prog 212 al1:=by
 refine aK (aT ((fK.nil _).cons al6)) (E:=aog) Tryz.func212 [15] (by kernel_rfl) (one1 (J6 rfl)) fun a _ h=>?_
 obtain ⟨s,c⟩:=a
 have h:c=[46]:=by simpa using h
 subst h
 refine (apq s).trans ?_
 cases e:([46]==s) with
 | true =>
  have e:[46]=s:=by simpa using e
  subst e; rfl
 | false=>rfl
noncomputable def aq1:Env:=env Tryz.prog [(212,al1)] [] []
theorem aq2 (s:Bytes):bM aq1 207 ((aO fV (aW fV)).enc (s,[46])) ([]) some =
 some {v:=.int .i64 (N.dot s),bx:=[]}:=by kernel_rfl
theorem apr:bH Tryz.prog 207 al1:=by
 refine aK (aT ((fK.nil _).cons al7)) (E:=aq1) Tryz.func207 [] (by kernel_rfl) none0 fun a _ h=>?_
 obtain ⟨s,c⟩:=a
 have h:c=[46]:=by simpa using h
 subst h
 exact aq2 s
noncomputable def aoh:Env:=env Tryz.prog [(211,ahw)] [(6,fun _ _=>none)] []
theorem aps (s:Bytes):bM aoh 206 ((aO fV (aW fV)).enc (s,[46])) ([]) some =
 some {v:=.int .i64 (N.dots s),bx:=[]}:=by kernel_rfl
theorem al8:bH Tryz.prog 206 aoc:=by
 refine aK (aT ((fK.nil _).cons ahH)) (E:=aoh) Tryz.func206 [6] (by kernel_rfl) (one1 (J6 rfl)) fun a _ h=>?_
 obtain ⟨s,c⟩:=a
 have h:c=[46]:=by simpa using h
 subst h
 exact aps s
def apt:fP:={ fr:=[(0,.str),(1,.str),(2,.int .i64),(3,.int .i64),(9,.own 10000),(10,.int .i64)],tab:=[(10000,.sl [.str])] }
def aq3:List Leaf->(Ex->St->Option R)->Option R
 | [.s s0,.s s1,.i i2,.i i3,.i i10,.r oW],K=>cond (s1==[46]) (cond (i2==0) (cond (bU 0 i10) (cond (bU i10 i3) (cond (i3+1==oW.length) (cond (Nat.ble s0.length wV) (cond (Nat.ble oW.length (wV+1))
   (K (.exit 0) { fr:=[(0,.str (N.gen (i3-i10).toNat s0 i10 oW).1),(9,.own 10000 0),(10,.int .i64 (N.gen (i3-i10).toNat s0 i10 oW).2.1)],tab:=[(10000,.sl [.str] (N.gen (i3-i10).toNat s0 i10 oW).2.2 0)] }) none) none) none) none) none) none) none
 | _,_=>none
noncomputable def al9:Env:=env Tryz.prog [(206,aoc),(207,al1)] [(11,dJ apt aq3)] [(11,[(0,[0,1,2,3,9,10]),(1,[0,9,10]),(1000,[8])])]
theorem aq4 (s:Bytes):type_of% (by
  have h:bM al9 203 ((aO fV (aO fV (aO (cu .i64) (aW (cu .i64))))).enc (s,[46],0,-1)) ([]) some =(
   let z2:=((↑(List.length s):Int)+1);let z6:=(IntKind.wrap .i64 (N.dots s+1));let z0:=(bif aZ (IntKind.wrap .i64 z2) z6 then IntKind.wrap .i64 z2 else IntKind.wrap .i64 (N.dots s+1));let z1:=(N.gen (Int.toNat (IntKind.wrap .i64 (z0-1)-0)) s 0 (List.replicate (Int.toNat z0) [V.str []]));let z3:=(List.set (Prod.snd z1.2) (Int.toNat (Prod.fst z1.2)) [V.str z1.1]);let z4:=(Prod.fst z1.2+1);let z5:=(List.length (List.replicate (Int.toNat z0) [V.str []]));cond (decide ((0<=bif aZ (IntKind.wrap .i64 z2) z6 then IntKind.wrap .i64 z2 else IntKind.wrap .i64 (N.dots s+1))∧(z0=bif aZ (IntKind.wrap .i64 z2) z6 then IntKind.wrap .i64 z2 else IntKind.wrap .i64 (N.dots s+1))∧z0*(↑(16:Nat):Int)<=140737488355328∧z0<=140737488355328)) (cond (bU 0 (IntKind.wrap .i64 (z0-1))) (cond (IntKind.wrap .i64 (z0-1)+1==(↑z5:Int)) (cond (Nat.ble (List.length s) 1000000) (cond (Nat.ble z5 1000001) (cond (decide (0<=Prod.fst z1.2∧Prod.fst z1.2<(↑(List.length (Prod.snd z1.2)):Int))) (cond (decide (0<=IntKind.wrap .i64 z4∧IntKind.wrap .i64 z4<=(↑(List.length z3):Int))) (some {v:=.slc [.str] (List.drop 0 (List.take (Int.toNat (IntKind.wrap .i64 z4)) z3)),bx:=[]}) none) none) none) none) none) none) none):=by kernel_rfl
  dsimp only at h;exact h):=by kernel_rfl
theorem aay (s0:Bytes) (i3:Int) (i10:Int) (oW:List (List V)) (K:Ex->St->Option R):bI al9 203 11 { fr:=[(0,.str s0),(1,.str [46]),(2,.int .i64 0),(3,.int .i64 i3),(9,.own 10000 0),(10,.int .i64 i10)],tab:=[(10000,.sl [.str] oW 0)] } K =
 cond (aZ i10 i3) (cond (aZ (N.dot s0) 0) (K (.exit 0) {fr:=[(0,.str s0),(9,.own 10000 0),(10,.int .i64 i10)],tab:=[(10000,.sl [.str] oW 0)]}) (cond (decide (0<=IntKind.wrap .i64 (N.dot s0+0)∧IntKind.wrap .i64 (N.dot s0+0)<=(↑(List.length s0):Int))) (cond (decide (0<=i10∧i10<(↑(List.length oW):Int))) (cond (decide (0<=IntKind.wrap .i64 (N.dot s0+(↑(1:Nat):Int))∧IntKind.wrap .i64 (N.dot s0+(↑(1:Nat):Int))<=(↑(List.length s0):Int))) (K .normal {fr:=[(0,.str (List.drop (Int.toNat (IntKind.wrap .i64 (N.dot s0+(↑(1:Nat):Int)))) (List.take (List.length s0) s0))),(1,.str [(46:UInt8)]),(2,.int .i64 0),(3,.int .i64 i3),(9,.own 10000 0),(10,.int .i64 (IntKind.wrap .i64 (i10+1)))],tab:=[(10000,.sl [.str] (List.set oW (Int.toNat i10) [V.str (List.drop 0 (List.take (Int.toNat (IntKind.wrap .i64 (N.dot s0+0))) s0))]) 0)]}) none) none) none)) (K (.exit 0) {fr:=[(0,.str s0),(9,.own 10000 0),(10,.int .i64 i10)],tab:=[(10000,.sl [.str] oW 0)]}):=by kernel_rfl
theorem ama (s:Bytes):N.dots s<=s.length:=by unfold N.dots; have:=List.count_le_length (a:=(46:UInt8)) (l:=s); omega
theorem apu:bH Tryz.prog 203 RP:=by
 refine aK (aT (((fK.nil _).cons apr).cons al8)) (E:=al9) Tryz.func203 [11] (by kernel_rfl) (one1 (bf rfl fun l K q h=>?_)) fun a _ h=>?_
 .unfold aq3 at h
  split at h
  .rename_i s c z n i rows
   replace h:=cN7 h;obtain ⟨h1,h2,h3,h4,h5,h6,h7,h⟩:=h
   have h7:rows.length<=1000001:=aX h7
   have h1:c=[46]:=by simpa using h1
   have h2:=aY h2
   subst h1 h2
   have h5:=aY h5
   have h6:s.length<=1000000:=aX h6
   have h3:=bQ h3
   have h4:=bQ h4
   refine dD (E:=al9) (f:=203) (id:=11) (σ:=Bytes × Int × List (List V)) (fun x=>{ fr:=[(0,.str x.1),(1,.str [46]),(2,.int .i64 0),(3,.int .i64 n),(9,.own 10000 0),(10,.int .i64 x.2.1)],tab:=[(10000,.sl [.str] x.2.2 0)] })
    (fun x=>x.1.length<=1000000∧0<=x.2.1∧x.2.1<=n∧n+1=x.2.2.length∧x.2.2.length<=1000001) (fun x=>(n-x.2.1).toNat)
    (fun x K=>K (.exit 0) { fr:=[(0,.str (N.gen (n-x.2.1).toNat x.1 x.2.1 x.2.2).1),(9,.own 10000 0),(10,.int .i64 (N.gen (n-x.2.1).toNat x.1 x.2.1 x.2.2).2.1)],tab:=[(10000,.sl [.str] (N.gen (n-x.2.1).toNat x.1 x.2.1 x.2.2).2.2 0)] }) ?_ (s,i,rows)
    ⟨h6,h3,h4,h5,h7⟩ K q h
   rintro ⟨s,i,rows⟩ ⟨h6,h3,h4,h5,h7⟩
   simp only at h6 h3 h4 h5 h7 ⊢
   by_cases hl:i<n
   .have e:(n-i).toNat=(n-(i+1)).toNat+1:=by omega
    rw [e]
    simp only [N.gen]
    rcases zY s with ⟨g1,_,_⟩ | ⟨g1,g2,_,_⟩
    .have hd:aZ (N.dot s) 0=true:=by rw [g1]; rfl
     rw [hd]
     refine .inr ⟨.exit 0,_,by simp,fun K=>?_,fun K=>rfl⟩
     rw [aay]
     simp (disch:=omega) only [evs]
    .have hd:aZ (N.dot s) 0=false:=iG (by omega)
     rw [hd]
     refine .inl ⟨(s.drop (N.dot s+1).toNat,i+1,rows.set i.toNat [.str (s.take (N.dot s).toNat)]),⟨by simp only [List.length_drop]; omega,by simp only; omega,by simp only; omega,by simp only [List.length_set]; omega,by simp only [List.length_set]; omega⟩,by simp only; omega,fun K=>?_,fun K=>rfl⟩
     rw [aay]
     simp (disch:=omega) only [evs,List.take_length,Int.add_zero,List.drop_zero]
     try rfl
   .refine .inr ⟨.exit 0,_,by simp,fun K=>?_,fun K=>rfl⟩
    rw [aay,show (n-i).toNat=0 by omega]
    simp (disch:=omega) only [evs,N.gen]
  .cases h
 .obtain ⟨s,c,z,n⟩:=a
  have h1:=(aP h).1; replace h:=(aP h).2; have h2:=(aP h).1; replace h:=(aP h).2; have h3:=(aP h).1; replace h:=(aP h).2
  have e1:c=[46]:=by simpa using h1
  have e2:z=0:=aY h2
  have e3:n = -1:=aY h3
  subst e1 e2 e3
  have h:s.length<=1000000:=aX h
  refine (aq4 s).trans ?_
  show _=some (⟨.slc [.str] ((N.fQ s).map qA.enc),[],[]⟩:aH)
  have hd:=ama s
  have hd0:0<=N.dots s:=Int.natCast_nonneg _
  obtain ⟨g1,g2,g3,g4⟩:=ahA (N.dots s).toNat s 0 (List.replicate (N.dots s+1).toNat [V.str []]) (by omega) (by omega) (by rw [List.length_replicate]; omega)
  rw [List.length_replicate] at g2 g3
  simp (disch:=omega) only [evs,show N.dots s+1-1-0=N.dots s by omega,g3]
  rw [g4]
  try rfl
noncomputable def ahI:Env:=env Tryz.prog [(203,RP)] [] []
theorem amb (s:Bytes):bM ahI 199 ((aO fV (aW fV)).enc (s,[46])) ([]) some =
 cond (Nat.ble (List.length s) 1000000) (some {v:=.slc [.str] (List.map (fun n=>[V.str n]) (N.fQ s)),bx:=[]}) none:=by kernel_rfl
theorem ahJ:bH Tryz.prog 199 ahx:=by
 refine aK (aT ((fK.nil _).cons apu)) (E:=ahI) Tryz.func199 [] (by kernel_rfl) none0 fun a _ h=>?_
 obtain ⟨s,c⟩:=a
 obtain ⟨h1,h⟩:=aP h
 have h1:c=[46]:=by simpa using h1
 subst h1
 have h:s.length<=1000000:=aX h
 refine (amb s).trans ?_
 simp (disch:=omega) only [evs]
 try rfl
noncomputable def ahK:Env:=env Tryz.prog [(199,ahx)] [] []
theorem amc (s:Bytes):bM ahK 191 ((aW fV).enc s) ([]) some =
 cond (s==[]) (some {v:=.slc [.str] [],bx:=[]}) (cond (Nat.ble (List.length s) 1000000) (some {v:=.slc [.str] (List.map (fun n=>[V.str n]) (N.fQ s)),bx:=[]}) none):=by kernel_rfl
theorem Xu:bH Tryz.prog 191 N7:=by
 refine aK (aT ((fK.nil _).cons ahJ)) (E:=ahK) Tryz.func191 [] (by kernel_rfl) none0 fun s _ h=>?_
 have h:s.length<=1000000:=aX h
 refine (amc s).trans ?_
 show _=some (⟨.slc [.str] ((N.words s).map qA.enc),[],[]⟩:aH)
 simp (disch:=omega) only [evs]
 cases s with
 | nil=>rfl
 | cons c r=>rfl
def aaz:fP:={ fr:=[(1,.bool),(13,.slc [.str]),(14,.int .i64),(15,.int .i64)],tab:=[] }
def Xv:List Leaf->(Ex->St->Option R)->Option R
 | [.b b1,.r r13,.i i14,.i i15],K=>cond (i14==r13.length) (cond (bU 0 i15) (cond (Nat.ble r13.length BIG) (cond (r13.all fun r=>Nat.ble (jS r).length wV)
   (cond (N.pR b1 ((eu r13).drop i15.toNat)==0) (K (.exit 0) { fr:=[],tab:=[] }) (K .ret { fr:=[(4,.int .i64 4)],tab:=[] })) none) none) none) none
 | _,_=>none
def aaA:fP:={ fr:=[(1,.bool),(6,.str),(7,.bool),(8,.int .i64),(13,.slc [.str]),(14,.int .i64),(15,.int .i64)],tab:=[] }
def Xw:List Leaf->(Ex->St->Option R)->Option R
 | [.b b1,.s s6,.b b7,.i i8,.r r13,.i i14,.i i15],K=>cond (bU 0 i8) (cond (Nat.ble s6.length wV)
   (K (.exit 2) { fr:=[(1,.bool b1),(6,.str s6),(7,.bool (cond b7 true (!N.plain (s6.drop i8.toNat)))),(13,.slc [.str] r13),(14,.int .i64 i14),(15,.int .i64 i15)],tab:=[] }) none) none
 | _,_=>none
noncomputable def xC:Env:=env Tryz.prog [(117,N7),(116,U5)] [(8,dJ aaA Xw),(4,dJ aaz Xv)] [(4,[(0,[1,13,14,15]),(1,[]),(1000,[4])]),(8,[(0,[1,6,7,8,13,14,15]),(3,[1,6,7,13,14,15]),(1000,[4])])]
theorem ahL (s:Bytes) (pt:Bool):bM xC 43 ((aO fV (aW iF)).enc (s,pt)) ([]) some =
 cond (aZ 64 (↑(List.length s):Int)) (some {v:=.int .i64 5,bx:=[]}) (cond (Nat.ble (List.length s) 1000000) (cond ((↑(List.length (List.map (fun n=>[V.str n]) (N.words s))):Int)==(↑(List.length (List.map (fun n=>[V.str n]) (N.words s))):Int)) (cond (Nat.ble (List.length (List.map (fun n=>[V.str n]) (N.words s))) 1000000000000) (cond (List.all (List.map (fun n=>[V.str n]) (N.words s)) fun r=>Nat.ble (List.length (V.toStr (r.getD 0 .undef))) 1000000) (cond (N.pR pt (List.drop 0 (List.map (fun r=>V.toStr (r.getD 0 .undef)) (List.map (fun n=>[V.str n]) (N.words s))))==0) (some {v:=.int .i64 0,bx:=[]}) (some {v:=.int .i64 4,bx:=[]})) none) none) none) none):=by kernel_rfl
theorem EZ (b1:Bool) (r13:List (List V)) (i14:Int) (i15:Int) (K:Ex->St->Option R):bI xC 43 4 { fr:=[(1,.bool b1),(13,.slc [.str] r13),(14,.int .i64 i14),(15,.int .i64 i15)],tab:=[] } K =
 cond (aZ i15 i14) (cond (decide (0<=i15∧i15<(↑(List.length r13):Int))) (cond (Nat.ble (List.length (V.toStr (List.getD (List.getD r13 (Int.toNat i15) []) 0 V.undef))) 1000000) (cond (bif (↑(List.length (V.toStr (List.getD (List.getD r13 (Int.toNat i15) []) 0 V.undef))):Int)==0 then true else !N.plain (List.drop 0 (V.toStr (List.getD (List.getD r13 (Int.toNat i15) []) 0 V.undef)))) (cond (b1) (cond (V.toStr (List.getD (List.getD r13 (Int.toNat i15) []) 0 V.undef)==[(42:UInt8)]) (K .normal {fr:=[(1,.bool b1),(13,.slc [.str] r13),(14,.int .i64 i14),(15,.int .i64 (IntKind.wrap .i64 (i15+1)))],tab:=[]}) (cond (!V.toStr (List.getD (List.getD r13 (Int.toNat i15) []) 0 V.undef)==[(35:UInt8)]) (K .ret {fr:=[(4,.int .i64 4)],tab:=[]}) (K .normal {fr:=[(1,.bool b1),(13,.slc [.str] r13),(14,.int .i64 i14),(15,.int .i64 (IntKind.wrap .i64 (i15+1)))],tab:=[]}))) (K .ret {fr:=[(4,.int .i64 4)],tab:=[]})) (K .normal {fr:=[(1,.bool b1),(13,.slc [.str] r13),(14,.int .i64 i14),(15,.int .i64 (IntKind.wrap .i64 (i15+1)))],tab:=[]})) none) none) (K (.exit 0) {fr:=[],tab:=[]}):=by kernel_rfl
theorem Oe (b1:Bool) (s6:Bytes) (b7:Bool) (i8:Int) (r13:List (List V)) (i14:Int) (i15:Int) (K:Ex->St->Option R):bI xC 43 8 { fr:=[(1,.bool b1),(6,.str s6),(7,.bool b7),(8,.int .i64 i8),(13,.slc [.str] r13),(14,.int .i64 i14),(15,.int .i64 i15)],tab:=[] } K =
 cond (aZ i8 (↑(List.length s6):Int)) (cond (b7) (K .normal {fr:=[(1,.bool b1),(6,.str s6),(7,.bool true),(8,.int .i64 (IntKind.wrap .i64 (i8+1))),(13,.slc [.str] r13),(14,.int .i64 i14),(15,.int .i64 i15)],tab:=[]}) (cond (decide (0<=i8∧i8<(↑(List.length s6):Int))) (K .normal {fr:=[(1,.bool b1),(6,.str s6),(7,.bool !N.oK (↑(UInt8.toNat (List.getD s6 (Int.toNat i8) (0:UInt8))):Int)),(8,.int .i64 (IntKind.wrap .i64 (i8+1))),(13,.slc [.str] r13),(14,.int .i64 i14),(15,.int .i64 i15)],tab:=[]}) none)) (K (.exit 2) {fr:=[(1,.bool b1),(6,.str s6),(7,.bool b7),(13,.slc [.str] r13),(14,.int .i64 i14),(15,.int .i64 i15)],tab:=[]}):=by kernel_rfl
theorem amd (b1:Bool) (s:Bytes) (r13:List (List V)) (i14 i15:Int) (hs:s.length<=1000000) (K:Ex->St->Option R) (q:R) (b:Bool) (i:Int) (hi:0<=i)
  (h:K (.exit 2) { fr:=[(1,.bool b1),(6,.str s),(7,.bool (cond b true (!N.plain (s.drop i.toNat)))),(13,.slc [.str] r13),(14,.int .i64 i14),(15,.int .i64 i15)],tab:=[] }=some q) :
  ∃ n,qB xC 43 8 n { fr:=[(1,.bool b1),(6,.str s),(7,.bool b),(8,.int .i64 i),(13,.slc [.str] r13),(14,.int .i64 i14),(15,.int .i64 i15)],tab:=[] } K=some q:=by
 refine dD (E:=xC) (f:=43) (id:=8) (σ:=Bool × Int) (fun x=>{ fr:=[(1,.bool b1),(6,.str s),(7,.bool x.1),(8,.int .i64 x.2),(13,.slc [.str] r13),(14,.int .i64 i14),(15,.int .i64 i15)],tab:=[] })
  (fun x=>0<=x.2) (fun x=>s.length-x.2.toNat) (fun x K=>K (.exit 2) { fr:=[(1,.bool b1),(6,.str s),(7,.bool (cond x.1 true (!N.plain (s.drop x.2.toNat)))),(13,.slc [.str] r13),(14,.int .i64 i14),(15,.int .i64 i15)],tab:=[] }) ?_ (b,i) hi K q h
 rintro ⟨b,i⟩ hi
 simp only at hi ⊢
 by_cases hl:i<s.length
 .refine .inl ⟨(cond b true (!N.oK (s.getD i.toNat 0).toNat),i+1),by simp only; omega,by simp only; omega,fun K=>?_,fun K=>?_⟩
  .rw [Oe]
   simp (disch:=omega) only [evs]
   cases b<;>rfl
  .rw [drop_byte (show i.toNat<s.length by omega),EY,show (i+1).toNat=i.toNat+1 by omega]
   cases b<;>cases N.oK (s.getD i.toNat 0).toNat<;>rfl
 .refine .inr ⟨.exit 2,_,by simp,fun K=>?_,fun K=>rfl⟩
  rw [Oe,List.drop_eq_nil_of_le (show s.length<=i.toNat by omega)]
  simp (disch:=omega) only [evs]
  cases b<;>rfl
theorem ame (b1:Bool) (r13:List (List V)) (hr:r13.length<=1000000000000) (ha:∀ r∈r13,(jS r).length<=1000000) (K:Ex->St->Option R) (q:R) (i:Int) (hi:0<=i)
  (h:cond (N.pR b1 ((eu r13).drop i.toNat)==0) (K (.exit 0) { fr:=[],tab:=[] }) (K .ret { fr:=[(4,.int .i64 4)],tab:=[] })=some q) :
  ∃ n,qB xC 43 4 n { fr:=[(1,.bool b1),(13,.slc [.str] r13),(14,.int .i64 r13.length),(15,.int .i64 i)],tab:=[] } K=some q:=by
 refine dD (E:=xC) (f:=43) (id:=4) (σ:=Int) (fun i=>{ fr:=[(1,.bool b1),(13,.slc [.str] r13),(14,.int .i64 r13.length),(15,.int .i64 i)],tab:=[] })
  (fun i=>0<=i) (fun i=>r13.length-i.toNat) (fun i K=>cond (N.pR b1 ((eu r13).drop i.toNat)==0) (K (.exit 0) { fr:=[],tab:=[] }) (K .ret { fr:=[(4,.int .i64 4)],tab:=[] })) ?_ i hi K q h
 intro i hi
 by_cases hl:i<r13.length
 .have hlt:i.toNat<r13.length:=by omega
  have hw:(jS (r13.getD i.toNat [])).length<=1000000:=ha _ (by rw [List.getD_eq_getElem?_getD,List.getElem?_eq_getElem hlt]; exact List.getElem_mem _)
  have hw' : (V.toStr (List.getD (List.getD r13 i.toNat []) 0 V.undef)).length<=1000000:=hw
  rw [N9 hlt]
  have e:N.pR b1 (jS (r13.getD i.toNat [])::(eu r13).drop (i.toNat+1))=cond (cond (cond (((jS (r13.getD i.toNat [])).length:Int)==0) true (!N.plain (jS (r13.getD i.toNat [])))) (!cond b1 (cond (jS (r13.getD i.toNat [])==[42]) true (jS (r13.getD i.toNat [])==[35])) false) false) 4 (N.pR b1 ((eu r13).drop (i.toNat+1))):=rfl
  rw [e]
  cases hc:cond (cond (((jS (r13.getD i.toNat [])).length:Int)==0) true (!N.plain (jS (r13.getD i.toNat [])))) (!cond b1 (cond (jS (r13.getD i.toNat [])==[42]) true (jS (r13.getD i.toNat [])==[35])) false) false with
  | true =>
   refine .inr ⟨.ret,_,by simp,fun K=>?_,fun K=>rfl⟩
   rw [EZ]
   simp (disch:=omega) only [evs,List.drop_zero]
   revert hc
   unfold jS
   cases (((V.toStr (List.getD (List.getD r13 i.toNat []) 0 V.undef)).length:Int)==0)<;>cases N.plain (V.toStr (List.getD (List.getD r13 i.toNat []) 0 V.undef))<;>cases b1<;>cases V.toStr (List.getD (List.getD r13 i.toNat []) 0 V.undef)==[42]<;>cases V.toStr (List.getD (List.getD r13 i.toNat []) 0 V.undef)==[35]<;>intro hc<;>first | rfl | cases hc
  | false =>
   refine .inl ⟨i+1,by omega,by omega,fun K=>?_,fun K=>?_⟩
   .rw [EZ]
    simp (disch:=omega) only [evs,List.drop_zero]
    revert hc
    unfold jS
    cases (((V.toStr (List.getD (List.getD r13 i.toNat []) 0 V.undef)).length:Int)==0)<;>cases N.plain (V.toStr (List.getD (List.getD r13 i.toNat []) 0 V.undef))<;>cases b1<;>cases V.toStr (List.getD (List.getD r13 i.toNat []) 0 V.undef)==[42]<;>cases V.toStr (List.getD (List.getD r13 i.toNat []) 0 V.undef)==[35]<;>intro hc<;>first | rfl | cases hc
   .rw [cond_false,show (i+1).toNat=i.toNat+1 by omega]
 .refine .inr ⟨.exit 0,{ fr:=[],tab:=[] },by simp,fun K=>?_,fun K=>?_⟩
  .rw [EZ]
   simp (disch:=omega) only [evs]
  .rw [List.drop_eq_nil_of_le (by rw [jT]; omega)]; rfl
theorem BP:∀ (s:Bytes),(N.fQ s).length<=s.length+1∧∀ w∈N.fQ s,w.length<=s.length
 | []=>⟨Nat.le_refl _,fun w h=>by
  have h:w∈[[]]:=h
  rw [List.mem_singleton] at h; subst h; exact Nat.le_refl _⟩
 | c::r=>by
  obtain ⟨h1,h2⟩:=BP r
  unfold N.fQ
  cases c==46 with
  | true =>
   refine ⟨by simpa using h1,fun w h=>?_⟩
   rcases List.mem_cons.1 h with rfl | h
   .exact Nat.zero_le _
   .have:=h2 w h; simp only [List.length_cons]; omega
  | false =>
   simp only [cond_false]
   cases hs:N.fQ r with
   | nil=>exact absurd hs (xB _)
   | cons w ws =>
    rw [hs] at h1 h2
    refine ⟨by simp only [List.length_cons] at h1 ⊢; omega,fun v h=>?_⟩
    rcases List.mem_cons.1 h with rfl | h
    .have:=h2 w List.mem_cons_self; simp only [List.length_cons]; omega
    .have:=h2 v (List.mem_cons_of_mem _ h); simp only [List.length_cons]; omega
theorem xE (s:Bytes):(N.words s).length<=s.length+1∧∀ w∈N.words s,w.length<=s.length:=by
 unfold N.words
 cases s.isEmpty with
 | true=>exact ⟨Nat.zero_le _,fun w h=>by cases h⟩
 | false=>exact BP s
theorem Og (b:Bool):∀ l,N.pR b l=0∨N.pR b l=4
 | []=>.inl rfl
 | w::r=>by
  unfold N.pR
  cases (cond (cond ((w.length:Int)==0) true (!N.plain w)) (!cond b (cond (w==[42]) true (w==[35])) false) false)
  .exact Og b r
  .exact .inr rfl
theorem aeM:bH Tryz.prog 43 acP:=by
 refine aK (aT (((fK.nil _).cons RS).cons Xq)) (E:=xC) Tryz.func43 [4,8] (by kernel_rfl) (Lp (bf rfl fun l K q h=>?_) (bf rfl fun l K q h=>?_)) fun a _ h=>?_
 .unfold Xv at h
  split at h
  .rename_i b1 r13 i14 i15
   replace h:=UG h;obtain ⟨h1,h2,h3,h4,h⟩:=h
   have h1:=aY h1
   subst h1
   exact ame b1 r13 (aX h3) (fun r hr=>aX (List.all_eq_true.1 h4 r hr)) K q i15 (bQ h2) (by assumption)
  .cases h
 .unfold Xw at h
  split at h
  .rename_i b1 s6 b7 i8 r13 i14 i15
   replace h:=cN2 h;obtain ⟨h1,h2,h⟩:=h
   exact amd b1 s6 r13 i14 i15 (aX h2) K q b7 i8 (bQ h1) h
  .cases h
 .obtain ⟨s,b⟩:=a
  refine (ahL s b).trans ?_
  show _=some (⟨.int .i64 (N.yB s b),[],[]⟩:aH)
  unfold N.yB
  cases hl:aZ 64 s.length with
  | true=>rfl
  | false =>
   have hl:=fD hl
   have h:s.length<=64:=by omega
   obtain ⟨w1,w2⟩:=xE s
   have hall:((N.words s).map (fun n=>[V.str n])).all (fun r=>Nat.ble (V.toStr (List.getD r 0 V.undef)).length 1000000)=true:=List.all_eq_true.2 fun r hr=>by
    obtain ⟨w,hw,rfl⟩:=List.mem_map.1 hr
    exact dN (show w.length<=1000000 from by have:=w2 w hw; omega)
   have e:((N.words s).map (fun n=>[V.str n])).map (fun r=>V.toStr (List.getD r 0 V.undef))=N.words s:=Jk _
   simp (disch:=omega) only [evs,hall,e,List.drop_zero]
   rcases Og b (N.words s) with e | e<;>rw [e]<;>rfl
def Xx:fP:={ fr:=[(5,.slc [.str]),(6,.slc [.str]),(7,.int .i64),(8,.int .i64),(9,.int .i64),(10,.int .i64)],tab:=[] }
def RV:List Leaf->(Ex->St->Option R)->Option R
 | [.r r5,.r r6,.i i7,.i i8,.i i9,.i i10],K=>cond (i7==0) (cond (i8==0) (cond (i9==-1) (cond (i10==0) (cond (Nat.ble r5.length (wV+1)) (cond (Nat.ble r6.length (wV+1))
   (cond (bU 0 (N.zh (eu r5) (eu r6) 0 0 (-1) 0 (N.yA (eu r5) (eu r6))))
    (K (.exit 0) { fr:=[(5,.slc [.str] r5),(7,.int .i64 (N.zh (eu r5) (eu r6) 0 0 (-1) 0 (N.yA (eu r5) (eu r6))))],tab:=[] }) (K .ret { fr:=[(4,.bool false)],tab:=[] })) none) none) none) none) none) none
 | _,_=>none
def U9:fP:={ fr:=[(5,.slc [.str]),(7,.int .i64)],tab:=[] }
def Oh:List Leaf->(Ex->St->Option R)->Option R
 | [.r r5,.i i7],K=>cond (bU 0 i7) (cond (Nat.ble r5.length (wV+1)) (K (.exit 3) { fr:=[(5,.slc [.str] r5),(7,.int .i64 (N.hashes (eu r5) (r5.length+1-i7.toNat) i7))],tab:=[] }) none) none
 | _,_=>none
noncomputable def uJ:Env:=env Tryz.prog [(191,N7)] [(14,dJ U9 Oh),(4,dJ Xx RV)] [(4,[(0,[5,6,7,8,9,10]),(1,[5,7]),(1000,[4])]),(14,[(0,[5,7]),(4,[5,7]),(1000,[4])])]
theorem aeN (p k:Bytes):type_of% (by
  have h:bM uJ 165 ((aO fV (aW fV)).enc (p,k)) ([]) some =(
   let z1:=(List.map (fun n=>[V.str n]) (N.words p));let z2:=(List.map (fun r=>V.toStr (r.getD 0 .undef)) z1);let z3:=(List.map (fun r=>V.toStr (r.getD 0 .undef)) (List.map (fun n=>[V.str n]) (N.words k)));let z0:=(N.zh z2 z3 0 0 (-1:Int) 0 (N.yA z2 z3));cond (Nat.ble (List.length p) 1000000) (cond (Nat.ble (List.length k) 1000000) (cond (Nat.ble (List.length z1) 1000001) (cond (Nat.ble (List.length (List.map (fun n=>[V.str n]) (N.words k))) 1000001) (cond (bU 0 z0) (cond (bU 0 z0) (cond (Nat.ble (List.length z1) 1000001) (some {v:=.bool (N.hashes z2 (List.length z1+1-Int.toNat z0) z0==(↑(List.length z1):Int)),bx:=[]}) none) none) (some {v:=.bool false,bx:=[]})) none) none) none) none):=by kernel_rfl
  dsimp only at h;exact h):=by kernel_rfl
theorem uK (r5:List (List V)) (r6:List (List V)) (i7:Int) (i8:Int) (i9:Int) (i10:Int) (K:Ex->St->Option R):type_of% (by
  have h:bI uJ 165 4 { fr:=[(5,.slc [.str] r5),(6,.slc [.str] r6),(7,.int .i64 i7),(8,.int .i64 i8),(9,.int .i64 i9),(10,.int .i64 i10)],tab:=[] } K =(
   let z3:=(decide (0<=i7∧i7<(↑(List.length r5):Int)));let z4:=(List.getD (List.getD r5 (Int.toNat i7) []) 0 V.undef);let z5:=(IntKind.wrap .i64 (i7+1));let z2:=(K .normal {fr:=[(5,.slc [.str] r5),(6,.slc [.str] r6),(7,.int .i64 z5),(8,.int .i64 (IntKind.wrap .i64 (i8+1))),(9,.int .i64 i9),(10,.int .i64 i10)],tab:=[]});let z1:=(cond (bU 0 i9) (K .normal {fr:=[(5,.slc [.str] r5),(6,.slc [.str] r6),(7,.int .i64 i9),(8,.int .i64 (IntKind.wrap .i64 (i10+1))),(9,.int .i64 i9),(10,.int .i64 (IntKind.wrap .i64 (i10+1)))],tab:=[]}) (K .ret {fr:=[(4,.bool false)],tab:=[]}));let z0:=(cond (aZ i7 (↑(List.length r5):Int)) (cond z3 (cond (V.toStr z4==[(42:UInt8)]) z2 (cond z3 (cond (decide (0<=i8∧i8<(↑(List.length r6):Int))) (cond (V.toStr z4==V.toStr (List.getD (List.getD r6 (Int.toNat i8) []) 0 V.undef)) z2 z1) none) none)) none) z1);cond (aZ i8 (↑(List.length r6):Int)) (cond (aZ i7 (↑(List.length r5):Int)) (cond z3 (cond (V.toStr z4==[(35:UInt8)]) (K .normal {fr:=[(5,.slc [.str] r5),(6,.slc [.str] r6),(7,.int .i64 z5),(8,.int .i64 i8),(9,.int .i64 z5),(10,.int .i64 i8)],tab:=[]}) z0) none) z0) (K (.exit 0) {fr:=[(5,.slc [.str] r5),(7,.int .i64 i7)],tab:=[]})):=by kernel_rfl
  dsimp only at h;exact h):=by kernel_rfl
theorem Ac (r5:List (List V)) (i7:Int) (K:Ex->St->Option R):bI uJ 165 14 { fr:=[(5,.slc [.str] r5),(7,.int .i64 i7)],tab:=[] } K =
 cond (aZ i7 (↑(List.length r5):Int)) (cond (decide (0<=i7∧i7<(↑(List.length r5):Int))) (cond (V.toStr (List.getD (List.getD r5 (Int.toNat i7) []) 0 V.undef)==[(35:UInt8)]) (K .normal {fr:=[(5,.slc [.str] r5),(7,.int .i64 (IntKind.wrap .i64 (i7+1)))],tab:=[]}) (K (.exit 3) {fr:=[(5,.slc [.str] r5),(7,.int .i64 i7)],tab:=[]})) none) (K (.exit 3) {fr:=[(5,.slc [.str] r5),(7,.int .i64 i7)],tab:=[]}):=by kernel_rfl
theorem aeO (r5:List (List V)) (hr:r5.length<=1000001) (K:Ex->St->Option R) (q:R) (i:Int) (hi:0<=i) (h:K (.exit 3) { fr:=[(5,.slc [.str] r5),(7,.int .i64 (N.hashes (eu r5) (r5.length+1-i.toNat) i))],tab:=[] }=some q) :
  ∃ n,qB uJ 165 14 n { fr:=[(5,.slc [.str] r5),(7,.int .i64 i)],tab:=[] } K=some q:=by
 refine dD (E:=uJ) (f:=165) (id:=14) (σ:=Int) (fun i=>{ fr:=[(5,.slc [.str] r5),(7,.int .i64 i)],tab:=[] })
  (fun i=>0<=i) (fun i=>r5.length-i.toNat) (fun i K=>K (.exit 3) { fr:=[(5,.slc [.str] r5),(7,.int .i64 (N.hashes (eu r5) (r5.length+1-i.toNat) i))],tab:=[] }) ?_ i hi K q h
 intro i hi
 have fz:∀ i:Int,(r5.length:Int)<=i->∀ f,N.hashes (eu r5) f i=i:=fun i hi f=>by
  cases f with
  | zero=>rfl
  | succ f=>unfold N.hashes; rw [jT,iG hi]; rfl
 by_cases hl:i<r5.length
 .have e:r5.length+1-i.toNat=(r5.length+1-(i+1).toNat)+1:=by omega
  have e2:N.hashes (eu r5) (r5.length+1-i.toNat) i=cond (jS (r5.getD i.toNat [])==[35]) (N.hashes (eu r5) (r5.length+1-(i+1).toNat) (i+1)) i:=by
   rw [e]
   show cond (cond (aZ i (eu r5).length) ((eu r5).getD i.toNat []==[35]) false) _ _=_
   rw [jT,dK hl,wz]; rfl
  rw [e2]
  cases hc:jS (r5.getD i.toNat [])==[35] with
  | true =>
   refine .inl ⟨i+1,by omega,by omega,fun K=>?_,fun K=>rfl⟩
   rw [Ac]
   unfold jS at hc
   simp (disch:=omega) only [evs,hc]
  | false =>
   refine .inr ⟨.exit 3,_,by simp,fun K=>?_,fun K=>rfl⟩
   rw [Ac]
   unfold jS at hc
   simp (disch:=omega) only [evs,hc]
 .refine .inr ⟨.exit 3,_,by simp,fun K=>?_,fun K=>rfl⟩
  rw [Ac,fz i (by omega)]
  simp (disch:=omega) only [evs]
theorem ahM (r5 r6:List (List V)) (h5:r5.length<=1000001) (h6:r6.length<=1000001) (K:Ex->St->Option R) (q:R)
  (h:cond (bU 0 (N.zh (eu r5) (eu r6) 0 0 (-1) 0 (N.yA (eu r5) (eu r6))))
    (K (.exit 0) { fr:=[(5,.slc [.str] r5),(7,.int .i64 (N.zh (eu r5) (eu r6) 0 0 (-1) 0 (N.yA (eu r5) (eu r6))))],tab:=[] }) (K .ret { fr:=[(4,.bool false)],tab:=[] })=some q) :
  ∃ n,qB uJ 165 4 n { fr:=[(5,.slc [.str] r5),(6,.slc [.str] r6),(7,.int .i64 0),(8,.int .i64 0),(9,.int .i64 (-1)),(10,.int .i64 0)],tab:=[] } K=some q:=by
 have hv:N8 (eu r5) (eu r6) 0 0 (-1) 0:=⟨by omega,by omega,by omega,by omega,.inl ⟨rfl,rfl⟩⟩
 refine dD (E:=uJ) (f:=165) (id:=4) (σ:=Nat × Int × Int × Int × Int)
  (fun x=>{ fr:=[(5,.slc [.str] r5),(6,.slc [.str] r6),(7,.int .i64 x.2.1),(8,.int .i64 x.2.2.1),(9,.int .i64 x.2.2.2.1),(10,.int .i64 x.2.2.2.2)],tab:=[] })
  (fun x=>N8 (eu r5) (eu r6) x.2.1 x.2.2.1 x.2.2.2.1 x.2.2.2.2∧wu (eu r5) (eu r6) x.2.1 x.2.2.2.2<x.1) (fun x=>x.1)
  (fun x K=>cond (bU 0 (N.zh (eu r5) (eu r6) x.2.1 x.2.2.1 x.2.2.2.1 x.2.2.2.2 x.1))
    (K (.exit 0) { fr:=[(5,.slc [.str] r5),(7,.int .i64 (N.zh (eu r5) (eu r6) x.2.1 x.2.2.1 x.2.2.2.1 x.2.2.2.2 x.1))],tab:=[] }) (K .ret { fr:=[(4,.bool false)],tab:=[] }))
  ?_ (N.yA (eu r5) (eu r6),0,0,-1,0) ⟨hv,by unfold wu N.yA; simp only [Int.toNat_zero,Nat.sub_zero]; omega⟩ K q h
 rintro ⟨f,i,j,b,fr⟩ ⟨hi,hm⟩
 simp only at hi hm ⊢
 cases f with
 | zero=>omega
 | succ f =>
 obtain ⟨s1,s2,s3⟩:(aZ j (eu r6).length=true->_)∧(aZ j (eu r6).length=true->_)∧(aZ j (eu r6).length=true->_):=⟨fun hj=>(DL f hi hj).1,fun hj=>(DL f hi hj).2.1,fun hj=>(DL f hi hj).2.2⟩
 have b0:=hi.i0
 have b1:=hi.i1
 have b2:=hi.j0
 have b3:=hi.j1
 have b4:=hi.bk
 have b5 : -1<=b∧b<=i∧0<=fr∧fr<=j:=by rcases b4 with ⟨_,_⟩ | ⟨_,_,_,_,_⟩<;>omega
 rw [jT] at b1 b3
 have eq:N.zh (eu r5) (eu r6) i j b fr (f+1)=cond (aZ j r6.length)
   (cond (cond (aZ i r5.length) (jS (r5.getD i.toNat [])==[35]) false) (N.zh (eu r5) (eu r6) (i+1) j (i+1) j f)
    (cond (cond (aZ i r5.length) (cond (jS (r5.getD i.toNat [])==[42]) true (jS (r5.getD i.toNat [])==jS (r6.getD j.toNat []))) false) (N.zh (eu r5) (eu r6) (i+1) (j+1) b fr f)
     (cond (bU 0 b) (N.zh (eu r5) (eu r6) b (fr+1) b (fr+1) f) (-1)))) i:=by
  unfold N.zh
  rw [N.QG,jT,jT,wz,wz]
  cases aZ j r6.length
  .rfl
  .cases cond (aZ i r5.length) (jS (r5.getD i.toNat [])==[35]) false
   .cases cond (aZ i r5.length) (cond (jS (r5.getD i.toNat [])==[42]) true (jS (r5.getD i.toNat [])==jS (r6.getD j.toNat []))) false
    .cases bU 0 b<;>rfl
    .rfl
   .rfl
 rw [eq]
 simp only [jT,wz] at s1 s2 s3
 cases hj:aZ j r6.length with
 | false =>
  rw [cond_false,dX b0]
  refine .inr ⟨.exit 0,_,by simp,fun K=>?_,fun K=>rfl⟩
  rw [uK,hj]; rfl
 | true =>
  have s1:=s1 hj
  have s2:=s2 hj
  have s3:=s3 hj
  have hj':=jZ hj
  simp only [cond_true]
  cases hc:cond (aZ i r5.length) (jS (r5.getD i.toNat [])==[35]) false with
  | true =>
   obtain ⟨g1,g2,_⟩:=s1 hc
   have hi' : i<r5.length:=by
    cases e:aZ i r5.length with
    | true=>exact jZ e
    | false=>rw [e] at hc; cases hc
   refine .inl ⟨(f,i+1,j,i+1,j),⟨g1,by simp only; omega⟩,by simp only; omega,fun K=>?_,fun K=>rfl⟩
   rw [uK]
   rw [dK hi',cond_true] at hc
   unfold jS at hc
   simp (disch:=omega) only [evs,hc]
  | false =>
   simp only [cond_false]
   cases hd:cond (aZ i r5.length) (cond (jS (r5.getD i.toNat [])==[42]) true (jS (r5.getD i.toNat [])==jS (r6.getD j.toNat []))) false with
   | true =>
    obtain ⟨g1,g2,_⟩:=s2 hc hd
    have hi' : i<r5.length:=by
     cases e:aZ i r5.length with
     | true=>exact jZ e
     | false=>rw [e] at hd; cases hd
    refine .inl ⟨(f,i+1,j+1,b,fr),⟨g1,by simp only; omega⟩,by simp only; omega,fun K=>?_,fun K=>rfl⟩
    rw [uK]
    rw [dK hi',cond_true] at hc hd
    unfold jS at hc hd
    cases e42:V.toStr (List.getD (List.getD r5 i.toNat []) 0 V.undef)==[42] with
    | true=>simp (disch:=omega) only [evs,hc]
    | false=>rw [e42,cond_false] at hd; simp (disch:=omega) only [evs,hc,hd]
   | false =>
    simp only [cond_false]
    obtain ⟨t1,t2⟩:=s3 hc hd
    cases hb:bU 0 b with
    | true =>
     obtain ⟨g1,g2,_⟩:=t1 hb
     refine .inl ⟨(f,b,fr+1,b,fr+1),⟨g1,by simp only; omega⟩,by simp only; omega,fun K=>?_,fun K=>rfl⟩
     rw [uK]
     by_cases hi' : i<r5.length
     .rw [dK hi',cond_true] at hc hd
      unfold jS at hc hd
      cases e42:V.toStr (List.getD (List.getD r5 i.toNat []) 0 V.undef)==[42] with
      | true=>rw [e42] at hd; cases hd
      | false=>rw [e42,cond_false] at hd; simp (disch:=omega) only [evs,hc,hd,hb]
     .simp (disch:=omega) only [evs,hb]
    | false =>
     refine .inr ⟨.ret,{ fr:=[(4,.bool false)],tab:=[] },by simp,fun K=>?_,fun K=>rfl⟩
     rw [uK]
     by_cases hi' : i<r5.length
     .rw [dK hi',cond_true] at hc hd
      unfold jS at hc hd
      cases e42:V.toStr (List.getD (List.getD r5 i.toNat []) 0 V.undef)==[42] with
      | true=>rw [e42] at hd; cases hd
      | false=>rw [e42,cond_false] at hd; simp (disch:=omega) only [evs,hc,hd,hb]
     .simp (disch:=omega) only [evs,hb]
theorem aeP {p k:List Bytes} {i:Int} (h:N.QG p k (N.yA p k) 0 0 (-1) 0=some i):0<=i∧i<=p.length :=
 LV _ ⟨by omega,by omega,by omega,by omega,.inl ⟨rfl,rfl⟩⟩ h
theorem J8 {p:List Bytes}:∀ (f g:Nat) (i:Int),0<=i->p.length<f+i.toNat->p.length<g+i.toNat->N.hashes p f i=N.hashes p g i
 | 0,0,i,_,_,_=>rfl
 | 0,g+1,i,h0,h1,_=>by unfold N.hashes; rw [iG (by omega)]; rfl
 | f+1,0,i,h0,_,h1=>by unfold N.hashes; rw [iG (by omega)]; rfl
 | f+1,g+1,i,h0,h1,h2=>by
  unfold N.hashes
  rw [J8 f g (i+1) (by omega) (by omega) (by omega)]
theorem aaB:bH Tryz.prog 165 Xm:=by
 refine aK (aT ((fK.nil _).cons Xu)) (E:=uJ) Tryz.func165 [4,14] (by kernel_rfl) (Lp (bf rfl fun l K q h=>?_) (bf rfl fun l K q h=>?_)) fun a _ h=>?_
 .unfold RV at h
  split at h
  .rename_i r5 r6 i7 i8 i9 i10
   replace h:=cN6 h;obtain ⟨h1,h2,h3,h4,h5,h6,h⟩:=h
   have e1:=aY h1
   have e2:=aY h2
   have e3:=aY h3
   have e4:=aY h4
   subst e1 e2 e3 e4
   exact ahM r5 r6 (aX h5) (aX h6) K q h
  .cases h
 .unfold Oh at h
  split at h
  .rename_i r5 i7
   replace h:=cN2 h;obtain ⟨h1,h2,h⟩:=h
   exact aeO r5 (aX h2) K q i7 (bQ h1) h
  .cases h
 .obtain ⟨p,k⟩:=a
  have h1:=(aP h).1; replace h:=(aP h).2
  have h1:p.length<=1000000:=aX h1
  have h:k.length<=1000000:=aX h
  refine (aeN p k).trans ?_
  show _=some (⟨.bool (N.U4 (N.words p) (N.words k)),[],[]⟩:aH)
  have e:∀ l:List Bytes,(l.map (fun n=>[V.str n])).map (fun r=>V.toStr (List.getD r 0 V.undef))=l:=fun l=>Jk l
  have w1:=(xE p).1
  have w2:=(xE k).1
  generalize N.words p=p at *
  generalize N.words k=k at *
  simp (disch:=omega) only [evs,e]
  unfold N.zh N.U4
  cases hg:N.QG p k (N.yA p k) 0 0 (-1) 0 with
  | none=>rfl
  | some i =>
   obtain ⟨g1,g2⟩:=aeP hg
   simp only [Option.getD_some]
   simp (disch:=omega) only [evs,J8 (p:=p) (p.length+1-i.toNat) (p.length+1) i g1 (by omega) (by omega)]
end Go.Ev

namespace Go.Ev
open Go Go.Proofs
set_option maxRecDepth 100000
def ahN:Den:=den alX dw (oV iF) (fun _ _=>true) fun _ _=>(true,())
noncomputable def aoi:Env:=env Tryz.prog [(168,aar)] [] []
theorem apv (s:Bytes):bM aoi 112 ((aW fV).enc s) ([]) some =
 cond (s==[]) (some {v:=.int .i64 15,bx:=[]}) (cond (aZ 16 (↑(List.length s):Int)) (some {v:=.int .i64 5,bx:=[]}) (cond (Nat.ble (List.length s) 1000000) (cond (!N.plain s) (some {v:=.int .i64 4,bx:=[]}) (some {v:=.int .i64 0,bx:=[]})) none)):=by kernel_rfl
theorem LX:bH Tryz.prog 112 GK:=by
 refine aK (aT ((fK.nil _).cons Xo)) (E:=aoi) Tryz.func112 [] (by kernel_rfl) none0 fun s _ h=>?_
 refine (apv s).trans ?_
 show _=some (⟨.int .i64 (N.name s),[],[]⟩:aH)
 unfold N.name
 cases s==[] with
 | true=>rfl
 | false =>
  cases h:aZ 16 s.length with
  | true=>rfl
  | false =>
   have h:=fD h
   simp (disch:=omega) only [evs]
   cases N.plain s<;>rfl
noncomputable def aq5:Env:=env Tryz.prog [(165,Xm),(112,GK)] [] []
theorem aq6  : bM aq5 108 [] [] some =
 some {v:=.bool true,bx:=[]}:=by kernel_rfl
theorem apw:bH Tryz.prog 108 ahN :=
 aK (aT (((fK.nil _).cons LX).cons aaB)) (E:=aq5) Tryz.func108 [] (by kernel_rfl) none0 fun _ _ _=>aq6
theorem aaC {s:Bytes} {b:Bool} (h:(N.yB s b != 0)=false):s.length<=64:=by
 unfold N.yB at h
 cases e:aZ 64 s.length with
 | true=>rw [e] at h; cases h
 | false=>have:=fD e; omega
end Go.Ev

namespace Go.Ev
open Go Go.Proofs
set_option maxRecDepth 100000
def ahO:fP:={ fr:=[(1,.slc [.str]),(13,.slc [.str]),(14,.int .i64),(15,.int .i64)],tab:=[] }
def ahP:List Leaf->(Ex->St->Option R)->Option R
 | [.r r1,.r r13,.i i14,.i i15],K=>cond (i14==r13.length) (cond (bU 0 i15) (cond (Nat.ble r13.length (wV+1)) (cond (Nat.ble r1.length (wV+1)) (cond (r13.all fun r=>Nat.ble (jS r).length wV)
   (cond (N.GI (eu r1) ((eu r13).drop i15.toNat)==0) (K (.exit 0) { fr:=[],tab:=[] }) (K .ret { fr:=[(4,.int .i64 4)],tab:=[] })) none) none) none) none) none
 | _,_=>none
def ahQ:fP:={ fr:=[(1,.slc [.str]),(6,.str),(13,.slc [.str]),(14,.int .i64),(15,.int .i64),(19,.slc [.str]),(20,.int .i64),(21,.int .i64)],tab:=[] }
def ahR:List Leaf->(Ex->St->Option R)->Option R
 | [.r r1,.s s6,.r r13,.i i14,.i i15,.r Xy,.i i20,.i i21],K=>cond (i20==Xy.length) (cond (bU 0 i21) (cond (Nat.ble Xy.length (wV+1))
   (cond (((eu Xy).drop i21.toNat).any (s6==·)) (K (.exit 1) { fr:=[(1,.slc [.str] r1),(13,.slc [.str] r13),(14,.int .i64 i14),(15,.int .i64 i15)],tab:=[] })
    (K (.exit 2) { fr:=[(1,.slc [.str] r1),(6,.str s6),(13,.slc [.str] r13),(14,.int .i64 i14),(15,.int .i64 i15)],tab:=[] })) none) none) none
 | _,_=>none
noncomputable def Oi:Env:=env Tryz.prog [(191,N7),(168,aar)] [(7,dJ ahQ ahR),(4,dJ ahO ahP)] [(4,[(0,[1,13,14,15]),(1,[]),(1000,[4])]),(7,[(0,[1,6,13,14,15,19,20,21]),(2,[1,13,14,15]),(3,[1,6,13,14,15]),(1000,[4])])]
theorem apx (s:Bytes) (l:List Bytes):bM Oi 169 ((aO fV (aW (jY qA))).enc (s,l)) ([]) some =
 cond (aZ 64 (↑(List.length s):Int)) (some {v:=.int .i64 5,bx:=[]}) (cond (Nat.ble (List.length s) 1000000) (cond ((↑(List.length (List.map (fun n=>[V.str n]) (N.words s))):Int)==(↑(List.length (List.map (fun n=>[V.str n]) (N.words s))):Int)) (cond (Nat.ble (List.length (List.map (fun n=>[V.str n]) (N.words s))) 1000001) (cond (Nat.ble (List.length (List.map (fun n=>[V.str n]) l)) 1000001) (cond (List.all (List.map (fun n=>[V.str n]) (N.words s)) fun r=>Nat.ble (List.length (V.toStr (r.getD 0 .undef))) 1000000) (cond (N.GI (List.map (fun r=>V.toStr (r.getD 0 .undef)) (List.map (fun n=>[V.str n]) l)) (List.drop 0 (List.map (fun r=>V.toStr (r.getD 0 .undef)) (List.map (fun n=>[V.str n]) (N.words s))))==0) (some {v:=.int .i64 0,bx:=[]}) (some {v:=.int .i64 4,bx:=[]})) none) none) none) none) none):=by kernel_rfl
theorem Oj (r1:List (List V)) (r13:List (List V)) (i14:Int) (i15:Int) (K:Ex->St->Option R):bI Oi 169 4 { fr:=[(1,.slc [.str] r1),(13,.slc [.str] r13),(14,.int .i64 i14),(15,.int .i64 i15)],tab:=[] } K =
 cond (aZ i15 i14) (cond (decide (0<=i15∧i15<(↑(List.length r13):Int))) (cond ((↑(List.length r1):Int)==(↑(List.length r1):Int)) (cond (Nat.ble (List.length r1) 1000001) (cond (List.any (List.drop 0 (List.map (fun r=>V.toStr (r.getD 0 .undef)) r1)) fun x=>V.toStr (List.getD (List.getD r13 (Int.toNat i15) []) 0 V.undef)==x) (K .normal {fr:=[(1,.slc [.str] r1),(13,.slc [.str] r13),(14,.int .i64 i14),(15,.int .i64 (IntKind.wrap .i64 (i15+1)))],tab:=[]}) (cond (V.toStr (List.getD (List.getD r13 (Int.toNat i15) []) 0 V.undef)==[]) (K .ret {fr:=[(4,.int .i64 4)],tab:=[]}) (cond (Nat.ble (List.length (V.toStr (List.getD (List.getD r13 (Int.toNat i15) []) 0 V.undef))) 1000000) (cond (!N.plain (V.toStr (List.getD (List.getD r13 (Int.toNat i15) []) 0 V.undef))) (K .ret {fr:=[(4,.int .i64 4)],tab:=[]}) (K .normal {fr:=[(1,.slc [.str] r1),(13,.slc [.str] r13),(14,.int .i64 i14),(15,.int .i64 (IntKind.wrap .i64 (i15+1)))],tab:=[]})) none))) none) none) none) (K (.exit 0) {fr:=[],tab:=[]}):=by kernel_rfl
theorem Ol (r1:List (List V)) (s6:Bytes) (r13:List (List V)) (i14:Int) (i15:Int) (Xy:List (List V)) (i20:Int) (i21:Int) (K:Ex->St->Option R):bI Oi 169 7 { fr:=[(1,.slc [.str] r1),(6,.str s6),(13,.slc [.str] r13),(14,.int .i64 i14),(15,.int .i64 i15),(19,.slc [.str] Xy),(20,.int .i64 i20),(21,.int .i64 i21)],tab:=[] } K =
 cond (aZ i21 i20) (cond (decide (0<=i21∧i21<(↑(List.length Xy):Int))) (cond (s6==V.toStr (List.getD (List.getD Xy (Int.toNat i21) []) 0 V.undef)) (K (.exit 1) {fr:=[(1,.slc [.str] r1),(13,.slc [.str] r13),(14,.int .i64 i14),(15,.int .i64 i15)],tab:=[]}) (K .normal {fr:=[(1,.slc [.str] r1),(6,.str s6),(13,.slc [.str] r13),(14,.int .i64 i14),(15,.int .i64 i15),(19,.slc [.str] Xy),(20,.int .i64 i20),(21,.int .i64 (IntKind.wrap .i64 (i21+1)))],tab:=[]})) none) (K (.exit 2) {fr:=[(1,.slc [.str] r1),(6,.str s6),(13,.slc [.str] r13),(14,.int .i64 i14),(15,.int .i64 i15)],tab:=[]}):=by kernel_rfl
theorem Va (b:List Bytes):∀ l,N.GI b l=0∨N.GI b l=4
 | []=>.inl rfl
 | w::r=>by
  unfold N.GI
  cases b.any (w==·)
  .cases (cond (w==[]) true (!N.plain w))
   .exact Va b r
   .exact .inr rfl
  .exact Va b r
theorem amf:bH Tryz.prog 169 aod:=by
 refine aK (aT (((fK.nil _).cons Xo).cons Xu)) (E:=Oi) Tryz.func169 [4,7] (by kernel_rfl) (Lp (bf rfl fun l K q h=>?_) (bf rfl fun l K q h=>?_)) fun a _ h=>?_
 .unfold ahP at h
  split at h
  .rename_i r1 r13 n i
   replace h:=Ed h;obtain ⟨h1,h2,h3,h4,h5,h⟩:=h
   have e1:=aY h1
   subst e1
   have h3:r13.length<=1000001:=aX h3
   have h4:r1.length<=1000001:=aX h4
   refine dD (E:=Oi) (f:=169) (id:=4) (σ:=Int) (fun i=>{ fr:=[(1,.slc [.str] r1),(13,.slc [.str] r13),(14,.int .i64 r13.length),(15,.int .i64 i)],tab:=[] })
    (fun i=>0<=i) (fun i=>r13.length-i.toNat) (fun i K=>cond (N.GI (eu r1) ((eu r13).drop i.toNat)==0) (K (.exit 0) { fr:=[],tab:=[] }) (K .ret { fr:=[(4,.int .i64 4)],tab:=[] })) (fun i hi=>?_) i (bQ h2) K q (by assumption)
   by_cases hl:i<r13.length
   .have hlt:i.toNat<r13.length:=by omega
    have hw' : (V.toStr (List.getD (List.getD r13 i.toNat []) 0 V.undef)).length<=1000000:=aX (List.all_eq_true.1 h5 _ (by rw [List.getD_eq_getElem?_getD,List.getElem?_eq_getElem hlt]; exact List.getElem_mem _))
    rw [N9 hlt]
    have e:N.GI (eu r1) (jS (r13.getD i.toNat [])::(eu r13).drop (i.toNat+1))=cond ((eu r1).any (jS (r13.getD i.toNat [])==·)) (N.GI (eu r1) ((eu r13).drop (i.toNat+1))) (cond (cond (jS (r13.getD i.toNat [])==[]) true (!N.plain (jS (r13.getD i.toNat [])))) 4 (N.GI (eu r1) ((eu r13).drop (i.toNat+1)))):=rfl
    rw [e]
    have ahS:∀ K:Ex->St->Option R,(cond ((eu r1).any (jS (r13.getD i.toNat [])==·)) true (!cond (jS (r13.getD i.toNat [])==[]) true (!N.plain (jS (r13.getD i.toNat [])))))=true ->
      bI Oi 169 4 { fr:=[(1,.slc [.str] r1),(13,.slc [.str] r13),(14,.int .i64 r13.length),(15,.int .i64 i)],tab:=[] } K=K .normal { fr:=[(1,.slc [.str] r1),(13,.slc [.str] r13),(14,.int .i64 r13.length),(15,.int .i64 (i+1))],tab:=[] }:=fun K hc=>by
     rw [Oj]
     unfold eu jS at hc
     simp (disch:=omega) only [evs,List.drop_zero]
     revert hc
     cases List.any (List.map (fun r=>V.toStr (List.getD r 0 V.undef)) r1) (fun x=>V.toStr (List.getD (List.getD r13 i.toNat []) 0 V.undef)==x)<;>cases V.toStr (List.getD (List.getD r13 i.toNat []) 0 V.undef)==[]<;>cases N.plain (V.toStr (List.getD (List.getD r13 i.toNat []) 0 V.undef))<;>intro hc<;>first | rfl | cases hc
    cases h1:(eu r1).any (jS (r13.getD i.toNat [])==·) with
    | true =>
     refine .inl ⟨i+1,by omega,by omega,fun K=>ahS K (by rw [h1]; rfl),fun K=>?_⟩
     rw [cond_true,show (i+1).toNat=i.toNat+1 by omega]
    | false =>
     cases h2:cond (jS (r13.getD i.toNat [])==[]) true (!N.plain (jS (r13.getD i.toNat []))) with
     | false =>
      refine .inl ⟨i+1,by omega,by omega,fun K=>ahS K (by rw [h1,h2]; rfl),fun K=>?_⟩
      rw [cond_false,cond_false,show (i+1).toNat=i.toNat+1 by omega]
     | true =>
      refine .inr ⟨.ret,{ fr:=[(4,.int .i64 4)],tab:=[] },by simp,fun K=>?_,fun K=>rfl⟩
      rw [Oj]
      unfold eu jS at h1
      simp (disch:=omega) only [evs,List.drop_zero]
      revert h1 h2
      unfold jS
      cases List.any (List.map (fun r=>V.toStr (List.getD r 0 V.undef)) r1) (fun x=>V.toStr (List.getD (List.getD r13 i.toNat []) 0 V.undef)==x)<;>cases V.toStr (List.getD (List.getD r13 i.toNat []) 0 V.undef)==[]<;>cases N.plain (V.toStr (List.getD (List.getD r13 i.toNat []) 0 V.undef))<;>intro h1 h2<;>first | rfl | (cases h1; done) | cases h2
   .refine .inr ⟨.exit 0,{ fr:=[],tab:=[] },by simp,fun K=>?_,fun K=>?_⟩
    .rw [Oj]
     simp (disch:=omega) only [evs]
    .rw [List.drop_eq_nil_of_le (by rw [jT]; omega)]; rfl
  .cases h
 .unfold ahR at h
  split at h
  .rename_i r1 s r13 i14 i15 Xy n i
   replace h:=Lm h;obtain ⟨h1,h2,h3,h⟩:=h
   have e1:=aY h1
   subst e1
   have h3:Xy.length<=1000001:=aX h3
   refine dD (E:=Oi) (f:=169) (id:=7) (σ:=Int) (fun i=>{ fr:=[(1,.slc [.str] r1),(6,.str s),(13,.slc [.str] r13),(14,.int .i64 i14),(15,.int .i64 i15),(19,.slc [.str] Xy),(20,.int .i64 Xy.length),(21,.int .i64 i)],tab:=[] })
    (fun i=>0<=i) (fun i=>Xy.length-i.toNat) (fun i K=>cond (((eu Xy).drop i.toNat).any (s==·)) (K (.exit 1) { fr:=[(1,.slc [.str] r1),(13,.slc [.str] r13),(14,.int .i64 i14),(15,.int .i64 i15)],tab:=[] })
    (K (.exit 2) { fr:=[(1,.slc [.str] r1),(6,.str s),(13,.slc [.str] r13),(14,.int .i64 i14),(15,.int .i64 i15)],tab:=[] })) (fun i hi=>?_) i (bQ h2) K q (by assumption)
   by_cases hl:i<Xy.length
   .rw [N9 (show i.toNat<Xy.length by omega),List.any_cons]
    cases hc:s==jS (Xy.getD i.toNat []) with
    | true =>
     refine .inr ⟨.exit 1,_,by simp,fun K=>?_,fun K=>rfl⟩
     rw [Ol]
     unfold jS at hc
     simp (disch:=omega) only [evs,hc]
    | false =>
     refine .inl ⟨i+1,by omega,by omega,fun K=>?_,fun K=>?_⟩
     .rw [Ol]
      unfold jS at hc
      simp (disch:=omega) only [evs,hc]
     .rw [Bool.false_or,show (i+1).toNat=i.toNat+1 by omega]
   .refine .inr ⟨.exit 2,{ fr:=[(1,.slc [.str] r1),(6,.str s),(13,.slc [.str] r13),(14,.int .i64 i14),(15,.int .i64 i15)],tab:=[] },by simp,fun K=>?_,fun K=>?_⟩
    .rw [Ol]
     simp (disch:=omega) only [evs]
    .rw [List.drop_eq_nil_of_le (by rw [jT]; omega)]; rfl
  .cases h
 .obtain ⟨s,l⟩:=a
  have h:l.length<=1000000:=aX h
  refine (apx s l).trans ?_
  show _=some (⟨.int .i64 (N.key s l),[],[]⟩:aH)
  unfold N.key
  cases hl:aZ 64 s.length with
  | true=>rfl
  | false =>
   have hl:=fD hl
   obtain ⟨w1,w2⟩:=xE s
   have hall:((N.words s).map (fun n=>[V.str n])).all (fun r=>Nat.ble (V.toStr (List.getD r 0 V.undef)).length 1000000)=true:=List.all_eq_true.2 fun r hr=>by
    obtain ⟨w,hw,rfl⟩:=List.mem_map.1 hr
    exact dN (show w.length<=1000000 from by have:=w2 w hw; omega)
   have e:∀ l:List Bytes,(l.map (fun n=>[V.str n])).map (fun r=>V.toStr (List.getD r 0 V.undef))=l:=fun l=>Jk l
   simp (disch:=omega) only [evs,hall,e,List.drop_zero]
   rcases Va l (N.words s) with e | e<;>rw [e]<;>rfl
noncomputable def aq7:Env:=env Tryz.prog [(169,aod)] [] []
theorem aq8 (s:Bytes):bM aq7 119 ((aW fV).enc s) ([]) some =
 some {v:=.int .i64 (N.key s []),bx:=[]}:=by kernel_rfl
theorem apy:bH Tryz.prog 119 aqV:=aK (aT ((fK.nil _).cons amf)) (E:=aq7) Tryz.func119 [] (by kernel_rfl) none0 fun s _ _=>aq8 s
def aaD:fP:={ fr:=[(0,.str),(3,.int .i64)],tab:=[] }
def Xz:List Leaf->(Ex->St->Option R)->Option R
 | [.s s0,.i i3],K=>cond (bU 0 i3) (cond (Nat.ble s0.length wV) (cond (N.plain (s0.drop i3.toNat)) (K (.exit 0) { fr:=[],tab:=[] }) (K .ret { fr:=[(2,.int .i64 4)],tab:=[] })) none) none
 | _,_=>none
noncomputable def GN:Env:=env Tryz.prog [(116,U5)] [(6,dJ aaD Xz)] [(6,[(0,[0,3]),(1,[]),(1000,[2])])]
theorem aeQ (s:Bytes):bM GN 42 ((aW fV).enc s) ([]) some =
 cond ((↑(List.length s):Int)==0) (some {v:=.int .i64 15,bx:=[]}) (cond (aZ 16 (↑(List.length s):Int)) (some {v:=.int .i64 5,bx:=[]}) (cond (Nat.ble (List.length s) 1000000) (cond (N.plain (List.drop 0 s)) (some {v:=.int .i64 0,bx:=[]}) (some {v:=.int .i64 4,bx:=[]})) none)):=by kernel_rfl
theorem E5 (s0:Bytes) (i3:Int) (K:Ex->St->Option R):bI GN 42 6 { fr:=[(0,.str s0),(3,.int .i64 i3)],tab:=[] } K =
 cond (aZ i3 (↑(List.length s0):Int)) (cond (decide (0<=i3∧i3<(↑(List.length s0):Int))) (cond (!N.oK (↑(UInt8.toNat (List.getD s0 (Int.toNat i3) (0:UInt8))):Int)) (K .ret {fr:=[(2,.int .i64 4)],tab:=[]}) (K .normal {fr:=[(0,.str s0),(3,.int .i64 (IntKind.wrap .i64 (i3+1)))],tab:=[]})) none) (K (.exit 0) {fr:=[],tab:=[]}):=by kernel_rfl
theorem E8:bH Tryz.prog 42 GK:=by
 refine aK (aT ((fK.nil _).cons RS)) (E:=GN) Tryz.func42 [6] (by kernel_rfl) (one1 (bf rfl fun l K q h=>?_)) fun s _ h=>?_
 .unfold Xz at h
  split at h
  .rename_i s i
   replace h:=cN2 h;obtain ⟨h1,h2,h⟩:=h
   have h2:s.length<=1000000:=aX h2
   refine dD (E:=GN) (f:=42) (id:=6) (fun i:Int=>{ fr:=[(0,.str s),(3,.int .i64 i)],tab:=[] }) (fun i=>0<=i) (fun i=>s.length-i.toNat)
    (fun i K=>cond (N.plain (s.drop i.toNat)) (K (.exit 0) { fr:=[],tab:=[] }) (K .ret { fr:=[(2,.int .i64 4)],tab:=[] })) (fun i hi=>?_) i (bQ h1) K q h
   by_cases hl:i<s.length
   .rw [drop_byte (show i.toNat<s.length by omega),EY]
    cases hc:N.oK (s.getD i.toNat 0).toNat with
    | true =>
     refine .inl ⟨i+1,by omega,by omega,fun K=>?_,fun K=>?_⟩
     .rw [E5]
      simp (disch:=omega) only [evs,hc,Bool.not_true]
     .rw [cond_true,show (i+1).toNat=i.toNat+1 by omega]
    | false =>
     refine .inr ⟨.ret,{ fr:=[(2,.int .i64 4)],tab:=[] },by simp,fun K=>?_,fun K=>rfl⟩
     rw [E5]
     simp (disch:=omega) only [evs,hc,Bool.not_false]
   .refine .inr ⟨.exit 0,{ fr:=[],tab:=[] },by simp,fun K=>?_,fun K=>?_⟩
    .rw [E5]
     simp (disch:=omega) only [evs]
    .rw [List.drop_eq_nil_of_le (by omega)]; rfl
  .cases h
 .refine (aeQ s).trans ?_
  show _=some (⟨.int .i64 (N.name s),[],[]⟩:aH)
  unfold N.name
  cases s with
  | nil=>rfl
  | cons c r =>
   generalize hs:c::r=s at *
   have h0:(s==[])=false:=by rw [<- hs]; rfl
   have h1:0<s.length:=by rw [<- hs]; simp
   rw [h0]
   cases h:aZ 16 s.length with
   | true=>simp (disch:=omega) only [evs]
   | false =>
    have h:=fD h
    simp (disch:=omega) only [evs,List.drop_zero]
    cases N.plain s<;>rfl
theorem key_eq (s:Bytes):N.key s []=N.yB s false:=by
 have e:∀ l,N.GI [] l=N.pR false l:=fun l=>by
  induction l with
  | nil=>rfl
  | cons w r ih =>
   unfold N.GI N.pR
   rw [ih,List.any_nil]
   cases w with
   | nil=>rfl
   | cons c w=>simp only [cond_false,List.length_cons]; simp (disch:=omega) only [evs]; rw [show ((c::w)==[])=false from rfl]; cases N.plain (c::w)<;>rfl
 unfold N.key N.yB
 rw [e]
end Go.Ev

namespace Go.Ev
open Go
theorem aaE {i:eH} (h:i.err ≠ 0) (c:Int):N.bV i c=i:=by
 unfold N.bV
 rw [show (i.err==0)=false by simpa using h]; rfl
theorem GR:∀ (k:Nat) (i:eH) (acc:List bG),(N.kP k i acc).1.length<=acc.length+k
 | 0,_,acc=>Nat.le_refl _
 | k+1,i,acc=>by
  unfold N.kP
  cases (N.bad (N.one i).1 acc (N.one i).2).err != 0 with
  | true=>exact Nat.zero_le _
  | false =>
   have:=GR k (N.bad (N.one i).1 acc (N.one i).2) (acc++[(N.one i).1])
   rw [List.length_append] at this
   simp only [List.length_cons,List.length_nil] at this
   show (N.kP k _ _).1.length<=_
   omega
end Go.Ev

namespace Go.Ev
open Go Go.Proofs
set_option maxRecDepth 100000
noncomputable def aoj:Env:=env Tryz.prog [] [] []
theorem apz (i:eH) (n:Int):bM aoj 78 ((aO (nY 0) (aW (cu .i64))).enc ((),n)) ((nC IW).enc i) some =
 cond (eH.err i==0) (cond (n != 0) (some {v:=.fE [],bx:=[[V.str [],.int .i64 n]]}) (some {v:=.fE [],bx:=[[V.str i.s,.int .i64 i.err]]})) (some {v:=.fE [],bx:=[[V.str i.s,.int .i64 i.err]]}):=by kernel_rfl
theorem xG:bH Tryz.prog 78 Gz:=by
 refine aK (aT (fK.nil _)) (E:=aoj) Tryz.func78 [] (by kernel_rfl) none0 fun a i _=>?_
 refine (apz i a.2).trans ?_
 show _=some (⟨.fE [],[[.str (N.bV i a.2).s,.int .i64 (N.bV i a.2).err]],[]⟩:aH)
 unfold N.bV
 cases i.err==0<;>cases a.2 != 0<;>rfl
noncomputable def aq9:Env:=env Tryz.prog [(78,Gz)] [] []
theorem ara (i:eH) (n:Int):bM aq9 146 ((aO (nY 0) (aW (cu .i64))).enc ((),n)) ((nC IW).enc i) some =
 cond (eH.err i != 0) (cond (eH.err i != 0) (some {v:=.str [],bx:=[[V.str i.s,.int .i64 i.err]]}) (cond (aZ (↑(List.length i.s):Int) n) (some {v:=.str [],bx:=[[V.str (eH.s (N.bV i 3)),.int .i64 (eH.err (N.bV i 3))]]}) (cond (decide (0<=n∧n<=(↑(List.length i.s):Int))) (cond (decide (0<=n∧n<=(↑(List.length i.s):Int))) (some {v:=.str (List.drop 0 (List.take (Int.toNat n) i.s)),bx:=[[V.str (List.drop (Int.toNat n) (List.take (List.length i.s) i.s)),.int .i64 i.err]]}) none) none))) (cond (bU n 0) (some {v:=.str [],bx:=[[V.str i.s,.int .i64 i.err]]}) (cond (aZ (↑(List.length i.s):Int) n) (some {v:=.str [],bx:=[[V.str (eH.s (N.bV i 3)),.int .i64 (eH.err (N.bV i 3))]]}) (cond (decide (0<=n∧n<=(↑(List.length i.s):Int))) (cond (decide (0<=n∧n<=(↑(List.length i.s):Int))) (some {v:=.str (List.drop 0 (List.take (Int.toNat n) i.s)),bx:=[[V.str (List.drop (Int.toNat n) (List.take (List.length i.s) i.s)),.int .i64 i.err]]}) none) none))):=by kernel_rfl
theorem ahT {n:Int} {l:Nat} (h1:bU n 0=false) (h2:aZ (l:Int) n=false):decide ((0:Int)<=n∧n<=(l:Int))=true:=by
 rw [xX] at h1; rw [lD] at h2
 have h1:=of_decide_eq_false h1
 have h2:=of_decide_eq_false h2
 rw [decide_eq_true_iff]; omega
theorem ahU:bH Tryz.prog 146 apl:=by
 refine aK (aT ((fK.nil _).cons xG)) (E:=aq9) Tryz.func146 [] (by kernel_rfl) none0 fun a i _=>?_
 refine (ara i a.2).trans ?_
 show _=some (⟨.str (N.lu i a.2).1,[[.str (N.lu i a.2).2.s,.int .i64 (N.lu i a.2).2.err]],[]⟩:aH)
 unfold N.lu
 cases h1:(i.err != 0) with
 | true=>rfl
 | false =>
  cases h2:bU a.2 0 with
  | true=>rfl
  | false =>
   cases h3:aZ (i.s.length:Int) a.2 with
   | true=>rfl
   | false =>
    simp only [cond_true,cond_false,ahT h2 h3,List.drop_zero,List.take_length]
def apA:fP:={ fr:=[(5,.int .u64),(12,.slc [.int .u8]),(13,.int .i64),(14,.int .i64)],tab:=[(0,.var [.str,.int .i64])] }
def arb:List Leaf->(Ex->St->Option R)->Option R
 | [.i n,.r rows,.i len,.i k,.s s,.i e],K=>cond (decide (len=(rows.length:Int))) (cond (bU 0 k) (cond (Nat.ble rows.length 9223372036854775806)
   (K (.exit 0) { fr:=[(5,.int .u64 (N.beR (rows.drop k.toNat) n))],tab:=[(0,.var [.str s,.int .i64 e])] }) none) none) none
 | _,_=>none
noncomputable def aeR:Env:=env Tryz.prog [(146,apl)] [(3,dJ apA arb)] [(3,[(0,[5,12,13,14]),(1,[5]),(1000,[4])])]
theorem ard (i:eH) (n:Int):bM aeR 74 ((aO (nY 0) (aW (cu .i64))).enc ((),n)) ((nC IW).enc i) some =
 cond (decide ((↑(List.length (jd (Prod.fst (N.lu i (bif aZ 8 n then 8 else n))))):Int)=(↑(List.length (jd (Prod.fst (N.lu i (bif aZ 8 n then 8 else n))))):Int))) (cond (Nat.ble (List.length (jd (Prod.fst (N.lu i (bif aZ 8 n then 8 else n))))) 9223372036854775806) (some {v:=.int .u64 (N.beR (List.drop 0 (jd (Prod.fst (N.lu i (bif aZ 8 n then 8 else n))))) 0),bx:=[[V.str (eH.s (Prod.snd (N.lu i (bif aZ 8 n then 8 else n)))),.int .i64 (eH.err (Prod.snd (N.lu i (bif aZ 8 n then 8 else n))))]]}) none) none:=by kernel_rfl
theorem ahV (rows:List (List V)) (n len k e:Int) (s:Bytes) (K:Ex->St->Option R):bI aeR 74 3 { fr:=[(5,.int .u64 n),(12,.slc [.int .u8] rows),(13,.int .i64 len),(14,.int .i64 k)],tab:=[(0,.var [.str s,.int .i64 e])] } K =
 cond (aZ k len) (cond (decide (0<=k∧k<(↑(List.length rows):Int))) (K .normal {fr:=[(5,.int .u64 (Wu BinOp.or .u64 (shl .u64 n 8) (IntKind.wrap .u64 (V.toInt (List.getD (List.getD rows (Int.toNat k) []) 0 V.undef))))),(12,.slc [.int .u8] rows),(13,.int .i64 len),(14,.int .i64 (IntKind.wrap .i64 (k+1)))],tab:=[(0,.var [V.str s,.int .i64 e])]}) none) (K (.exit 0) {fr:=[(5,.int .u64 n)],tab:=[(0,.var [V.str s,.int .i64 e])]}):=by kernel_rfl
theorem wrap_i64 {n:Int} (h1 : -9223372036854775808<=n) (h2:n<=9223372036854775807):IntKind.wrap .i64 n=n:=by
 simp only [IntKind.wrap,IntKind.signed,IntKind.bits]
 simp
 omega
theorem wrap_u64 {n:Int} (h1:0<=n) (h2:n<18446744073709551616):IntKind.wrap .u64 n=n:=by
 simp only [IntKind.wrap,IntKind.signed,IntKind.bits]
 simp
 omega
theorem acV (rows:List (List V)) (len e:Int) (s:Bytes) (hlen:len=rows.length) (hb:rows.length<=9223372036854775806) (K:Ex->St->Option R) (q:R):∀ (d:Nat) (k n:Int),d=rows.length-k.toNat->0<=k ->
  K (.exit 0) { fr:=[(5,.int .u64 (N.beR (rows.drop k.toNat) n))],tab:=[(0,.var [.str s,.int .i64 e])] }=some q ->
  ∃ m,qB aeR 74 3 m { fr:=[(5,.int .u64 n),(12,.slc [.int .u8] rows),(13,.int .i64 len),(14,.int .i64 k)],tab:=[(0,.var [.str s,.int .i64 e])] } K=some q
 | 0,k,n,hd,hk,h=>by
  refine ⟨1,?_⟩
  show bI aeR _ 3 _ _=some q
  rw [ahV]
  have h1:aZ k len=false:=by rw [lD,decide_eq_false_iff_not]; omega
  rw [h1,cond_false]
  rw [List.drop_eq_nil_of_le (by omega)] at h
  exact h
 | d+1,k,n,hd,hk,h=>by
  have hlt:k.toNat<rows.length:=by omega
  have hdrop:rows.drop k.toNat=rows.getD k.toNat []::rows.drop (k+1).toNat:=by
   rw [List.drop_eq_getElem_cons hlt,show (k+1).toNat=k.toNat+1 by omega,List.getD_eq_getElem?_getD,List.getElem?_eq_getElem hlt]; rfl
  rw [hdrop] at h
  obtain ⟨m,hm⟩:=acV rows len e s hlen hb K q d (k+1) _ (by omega) (by omega) h
  refine ⟨m+1,?_⟩
  show bI aeR _ 3 _ _=some q
  rw [ahV]
  have h1:aZ k len=true:=by rw [lD,decide_eq_true_iff]; omega
  have h2:decide ((0:Int)<=k∧k<(rows.length:Int))=true:=by rw [decide_eq_true_iff]; omega
  rw [h1,h2,cond_true,cond_true,wrap_i64 (by omega) (by omega)]
  exact hm
theorem BQ:bH Tryz.prog 74 U3:=by
 refine aK (aT ((fK.nil _).cons ahU)) (E:=aeR) Tryz.func74 [3] (by kernel_rfl) (one1 (bf rfl fun l K q h=>?_)) fun a i _=>?_
 .unfold arb at h
  split at h
  .rename_i n rows len k s e
   obtain ⟨h1,h⟩:=aU h
   obtain ⟨h2,h⟩:=aU h
   obtain ⟨h3,h⟩:=aU h
   rw [xX] at h2
   exact acV rows len e s (of_decide_eq_true h1) (Nat.le_of_ble_eq_true h3) K q _ k n rfl (of_decide_eq_true h2) h
  .cases h
 .refine (ard i a.2).trans ?_
  have h8:(N.lu i (bif aZ 8 a.2 then 8 else a.2)).1.length<=8:=N.Jj i _ 8 (by
   rw [lD]
   by_cases h:8<a.2
   .rw [decide_eq_true h]; exact Int.le_refl _
   .rw [decide_eq_false h]; simp only [cond_false]; omega)
  rw [decide_eq_true (rfl:(_:Int)=_),show Nat.ble (List.length (jd (N.lu i (bif aZ 8 a.2 then 8 else a.2)).1)) 9223372036854775806=true from
   Nat.ble_eq_true_of_le (by rw [show (jd (N.lu i (bif aZ 8 a.2 then 8 else a.2)).1).length=(N.lu i (bif aZ 8 a.2 then 8 else a.2)).1.length by simp [jd]]; omega),cond_true,cond_true]
  rw [List.drop_zero,RN _ 0 8 (by decide) h8 (by decide) (by decide)]
  try rfl
noncomputable def eNew:Env:=env Tryz.prog [] [] []
theorem arf (s:Bytes):bM eNew 73 ((aW fV).enc s) (dw.enc ()) some =
 some {v:=.ptr 1000 0 0 0,bx:=[],nb:=[Box.var [V.str s,.int .i64 0]]}:=by kernel_rfl
theorem ahW:bH Tryz.prog 73 dNew:=aK (aT (fK.nil _)) (E:=eNew) Tryz.func73 [] (by kernel_rfl) none0 fun s _ _=>arf s
theorem ahX (o:iK) (s:Bytes):bM eNew 100 ((aO (bg cOut) (aW fV)).enc (o,s)) (dw.enc ()) some =
 cond (Nat.ble (List.length (iK.s o)+List.length s) 9223372036854775807) (some {v:=.agg [V.str (iK.s o++s),.int .i64 (iK.err o)],bx:=[]}) none:=by kernel_rfl
theorem DV:bH Tryz.prog 100 GH:=by
 refine aK (aT (fK.nil _)) (E:=eNew) Tryz.func100 [] (by kernel_rfl) none0 fun a _ h=>?_
 refine (ahX a.1 a.2).trans ?_
 rw [show Nat.ble (a.1.s.length+a.2.length) 9223372036854775807=true from h]
 try rfl
theorem XA (o:iK):bM eNew 103 ((aW (bg cOut)).enc o) (dw.enc ()) some =
 some {v:=.str (iK.s o),bx:=[]}:=by kernel_rfl
theorem rO:bH Tryz.prog 103 tq:=aK (aT (fK.nil _)) (E:=eNew) Tryz.func103 [] (by kernel_rfl) none0 fun s _ _=>XA s
noncomputable def aok:Env:=env Tryz.prog [(100,GH),(95,fZ)] [] []
theorem aeS (o:iK) (s:Bytes):bM aok 96 ((aO (bg cOut) (aW fV)).enc (o,s)) (dw.enc ()) some =
 cond (aZ 65535 (↑(List.length s):Int)) (cond (iK.err o==0) (some {v:=.agg [V.str (iK.s o),.int .i64 5],bx:=[]}) (some {v:=.agg [V.str (iK.s o),.int .i64 (iK.err o)],bx:=[]})) (cond (bif aZ (IntKind.wrap .u64 (↑(List.length s):Int)) 18446744073709551616 then Nat.ble (List.length (iK.s o)) 9223372036854775799 else false) (cond (Nat.ble (List.length (iK.s (N.jl o (IntKind.wrap .u64 (↑(List.length s):Int)) 2))+List.length s) 9223372036854775807) (some {v:=.agg [V.str (iK.s (N.sZ (N.jl o (IntKind.wrap .u64 (↑(List.length s):Int)) 2) s)),.int .i64 (iK.err (N.sZ (N.jl o (IntKind.wrap .u64 (↑(List.length s):Int)) 2) s))],bx:=[]}) none) none):=by kernel_rfl
theorem Ad (hN:bH Tryz.prog 95 fZ):bH Tryz.prog 96 BL:=by
 refine aK (aT (((fK.nil _).cons hN).cons DV)) (E:=aok) Tryz.func96 [] (by kernel_rfl) none0 fun a _ h=>?_
 refine (aeS a.1 a.2).trans ?_
 have h:a.1.s.length+a.2.length<=9223372036854775790:=Nat.le_of_ble_eq_true h
 show _=some (⟨.agg [.str (N.kE a.1 a.2).s,.int .i64 (N.kE a.1 a.2).err],[],[]⟩:aH)
 unfold N.kE
 cases h1:aZ 65535 (a.2.length:Int) with
 | true=>cases a.1.err==0<;>rfl
 | false =>
  rw [lD] at h1
  have h1:=of_decide_eq_false h1
  have hw:IntKind.wrap .u64 (a.2.length:Int)=a.2.length:=wrap_u64 (by omega) (by omega)
  rw [hw]
  have e1:aZ (a.2.length:Int) 18446744073709551616=true:=by rw [lD,decide_eq_true_iff]; omega
  have e2:Nat.ble a.1.s.length 9223372036854775799=true:=Nat.ble_eq_true_of_le (by omega)
  have e3:Nat.ble ((N.jl a.1 (a.2.length:Int) 2).s.length+a.2.length) 9223372036854775807=true:=Nat.ble_eq_true_of_le (by
   have:(N.jl a.1 (a.2.length:Int) 2).s.length=a.1.s.length+2:=by
    show (a.1.s++N.bW _ (N.clamp 2)).length=_
    rw [List.length_append,N.J7]; rfl
   omega)
  simp only [e1,e2,e3,cond_true,cond_false]
end Go.Ev

namespace Go.Ev
open Go Go.Proofs
set_option maxRecDepth 100000
noncomputable def arh:Env:=env Tryz.prog [(95,fZ),(96,BL),(103,tq),(73,dNew),(74,U3)] [] []
theorem ari  : bM arh 213 [] [] some =
 some {v:=.bool true,bx:=[]}:=by kernel_rfl
def nI:Den:=den alX dw (oV iF) (fun _ _=>true) fun _ _=>(true,())
theorem apB (hN:bH Tryz.prog 95 fZ):bH Tryz.prog 213 nI :=
 aK (aT ((((((fK.nil _).cons BQ).cons ahW).cons rO).cons (Ad hN)).cons hN)) (E:=arh) Tryz.func213 [] (by kernel_rfl) none0 fun _ _ _=>ari
noncomputable def aol : Env:=env Tryz.prog [(213,nI)] [] []
theorem apC  : bM aol 208 [] [] some =
 some {v:=.bool true,bx:=[]}:=by kernel_rfl
theorem amg (hN:bH Tryz.prog 95 fZ):bH Tryz.prog 208 nI :=
 aK (aT ((fK.nil _).cons (apB hN))) (E:=aol) Tryz.func208 [] (by kernel_rfl) none0 fun _ _ _=>apC
end Go.Ev

namespace Go.Ev
open Go Go.Proofs
set_option maxRecDepth 100000
def ahY:fP:={ fr:=[(0,.slc yP),(1,.slc yP),(12,.int .i64),(13,.int .i64)],tab:=[] }
def amh:List Leaf->(Ex->St->Option R)->Option R
 | [.r r0,.r r1,.i i12,.i i13],K=>cond (i12==r0.length) (cond (Nat.beq r0.length r1.length) (cond (bU 0 i13) (cond (Nat.ble r0.length (wV+1)) (cond (N.jy ((eX r0).drop i13.toNat) ((eX r1).drop i13.toNat)) (K (.exit 0) { fr:=[],tab:=[] }) (K .ret { fr:=[(4,.bool false)],tab:=[] })) none) none) none) none
 | _,_=>none
noncomputable def ami:Env:=env Tryz.prog [] [(4,dJ ahY amh)] [(4,[(0,[0,1,12,13]),(1,[]),(1000,[4])])]
theorem arj (a b:List bG):type_of% (by
  have h:bM ami 196 ((aO (jY gG) (aW (jY gG))).enc (a,b)) ([]) some =(
   let z0:=(List.map yE a);let z1:=(List.map yE b);cond ((↑(List.length z0):Int) != (↑(List.length z1):Int)) (some {v:=.bool false,bx:=[]:aH}) (cond ((↑(List.length z0):Int)==(↑(List.length z0):Int)) (cond (Nat.beq (List.length z0) (List.length z1)) (cond (Nat.ble (List.length z0) 1000001) (cond (N.jy (List.drop 0 (List.map yD z0)) (List.drop 0 (List.map yD z1))) (some {v:=.bool true,bx:=[]:aH}) (some {v:=.bool false,bx:=[]:aH})) none) none) none)):=by kernel_rfl
  dsimp only at h;exact h):=by kernel_rfl
theorem aaF (r0:List (List V)) (r1:List (List V)) (i12:Int) (i13:Int) (K:Ex->St->Option R):bI ami 196 4 { fr:=[(0,.slc yP r0),(1,.slc yP r1),(12,.int .i64 i12),(13,.int .i64 i13)],tab:=[] } K =
 cond (aZ i13 i12) (cond (decide (0<=i13∧i13<(↑(List.length r0):Int))) (cond (decide (0<=i13∧i13<(↑(List.length r1):Int))) (cond (!(V.toStr (List.getD (List.getD r0 (Int.toNat i13) []) 0 V.undef)==V.toStr (List.getD (List.getD r1 (Int.toNat i13) []) 0 V.undef) && (V.toInt (List.getD (List.getD r0 (Int.toNat i13) []) 1 V.undef)==V.toInt (List.getD (List.getD r1 (Int.toNat i13) []) 1 V.undef) && (V.toInt (List.getD (List.getD r0 (Int.toNat i13) []) 2 V.undef)==V.toInt (List.getD (List.getD r1 (Int.toNat i13) []) 2 V.undef) && (V.toStr (List.getD (List.getD r0 (Int.toNat i13) []) 3 V.undef)==V.toStr (List.getD (List.getD r1 (Int.toNat i13) []) 3 V.undef) && true))))) (K .ret {fr:=[(4,.bool false)],tab:=[]:St}) (K .normal {fr:=[(0,.slc yP r0),(1,.slc yP r1),(12,.int .i64 i12),(13,.int .i64 (IntKind.wrap .i64 (i13+1)))],tab:=[]:St})) none) none) (K (.exit 0) {fr:=[],tab:=[]:St}):=by kernel_rfl
theorem Fa:∀ a b:List bG,a.length ≠ b.length->N.jy a b=false
 | [],[],h=>absurd rfl h
 | [],_::_,_=>rfl
 | _::_,[],_=>rfl
 | p::a,q::b,h=>by
  unfold N.jy
  rw [Fa a b (by simpa using h)]
  cases N.eqP p q<;>rfl
theorem J9 (p q:bG) (a b:List bG):N.jy (p::a) (q::b)=cond (N.eqP p q) (N.jy a b) false:=rfl
theorem apD:bH Tryz.prog 196 Jm:=by
 refine aK (aT (fK.nil _)) (E:=ami) Tryz.func196 [4] (by kernel_rfl) (one1 (bf rfl fun l K q h=>?_)) fun a _ h=>?_
 .unfold amh at h
  split at h
  .rename_i r0 r1 n i
   replace h:=UG h;obtain ⟨h1,h2,h3,h4,h⟩:=h
   have e1:=aY h1
   have h2:=Nat.eq_of_beq_eq_true h2
   subst e1
   have h4:r0.length<=1000001:=aX h4
   refine dD (E:=ami) (f:=196) (id:=4) (fun i:Int=>{ fr:=[(0,.slc yP r0),(1,.slc yP r1),(12,.int .i64 r0.length),(13,.int .i64 i)],tab:=[] }) (fun i=>0<=i) (fun i=>r0.length-i.toNat)
    (fun i K=>cond (N.jy ((eX r0).drop i.toNat) ((eX r1).drop i.toNat)) (K (.exit 0) { fr:=[],tab:=[] }) (K .ret { fr:=[(4,.bool false)],tab:=[] })) (fun i hi=>?_) i (bQ h3) K q (by assumption)
   by_cases hl:i<r0.length
   .rw [pU (show i.toNat<r0.length by omega),pU (show i.toNat<r1.length by omega),J9]
    cases hc:N.eqP (rowP (r0.getD i.toNat [])) (rowP (r1.getD i.toNat [])) with
    | true =>
     refine .inl ⟨i+1,by omega,by omega,fun K=>?_,fun K=>?_⟩
     .rw [aaF]
      unfold N.eqP rowP at hc
      simp (disch:=omega) only [evs,hc,Bool.not_true]
     .rw [cond_true,show (i+1).toNat=i.toNat+1 by omega]
    | false =>
     refine .inr ⟨.ret,{ fr:=[(4,.bool false)],tab:=[] },by simp,fun K=>?_,fun K=>rfl⟩
     rw [aaF]
     unfold N.eqP rowP at hc
     simp (disch:=omega) only [evs,hc,Bool.not_false]
   .refine .inr ⟨.exit 0,{ fr:=[],tab:=[] },by simp,fun K=>?_,fun K=>?_⟩
    .rw [aaF]
     simp (disch:=omega) only [evs]
    .rw [List.drop_eq_nil_of_le (by rw [jU]; omega),List.drop_eq_nil_of_le (by rw [jU]; omega)]; rfl
  .cases h
 .obtain ⟨a,b⟩:=a
  have h:a.length<=1000000:=aX h
  refine (arj a b).trans ?_
  show _=some (⟨.bool (N.jy a b),[],[]⟩:aH)
  by_cases hl:a.length=b.length
  .simp (disch:=omega) only [evs,fO,hl,List.drop_zero]
   cases N.jy a b<;>rfl
  .rw [Fa a b hl]
   simp (disch:=omega) only [evs]
def aaG:fP:=ahY
noncomputable def GU:Env:=env Tryz.prog [] [(4,dJ aaG amh)] [(4,[(0,[0,1,12,13]),(1,[]),(1000,[4])])]
theorem aeT (a b:List bG):type_of% (by
  have h:bM GU 72 ((aO (jY gG) (aW (jY gG))).enc (a,b)) ([]) some =(
   let z0:=(List.map yE a);let z1:=(List.map yE b);cond ((↑(List.length z0):Int) != (↑(List.length z1):Int)) (some {v:=.bool false,bx:=[]:aH}) (cond ((↑(List.length z0):Int)==(↑(List.length z0):Int)) (cond (Nat.beq (List.length z0) (List.length z1)) (cond (Nat.ble (List.length z0) 1000001) (cond (N.jy (List.drop 0 (List.map yD z0)) (List.drop 0 (List.map yD z1))) (some {v:=.bool true,bx:=[]:aH}) (some {v:=.bool false,bx:=[]:aH})) none) none) none)):=by kernel_rfl
  dsimp only at h;exact h):=by kernel_rfl
theorem Fb (r0:List (List V)) (r1:List (List V)) (i12:Int) (i13:Int) (K:Ex->St->Option R):bI GU 72 4 { fr:=[(0,.slc yP r0),(1,.slc yP r1),(12,.int .i64 i12),(13,.int .i64 i13)],tab:=[] } K =
 cond (aZ i13 i12) (cond (decide (0<=i13∧i13<(↑(List.length r0):Int))) (cond (decide (0<=i13∧i13<(↑(List.length r1):Int))) (cond (!(V.toStr (List.getD (List.getD r0 (Int.toNat i13) []) 0 V.undef)==V.toStr (List.getD (List.getD r1 (Int.toNat i13) []) 0 V.undef) && (V.toInt (List.getD (List.getD r0 (Int.toNat i13) []) 1 V.undef)==V.toInt (List.getD (List.getD r1 (Int.toNat i13) []) 1 V.undef) && (V.toInt (List.getD (List.getD r0 (Int.toNat i13) []) 2 V.undef)==V.toInt (List.getD (List.getD r1 (Int.toNat i13) []) 2 V.undef) && (V.toStr (List.getD (List.getD r0 (Int.toNat i13) []) 3 V.undef)==V.toStr (List.getD (List.getD r1 (Int.toNat i13) []) 3 V.undef) && true))))) (K .ret {fr:=[(4,.bool false)],tab:=[]:St}) (K .normal {fr:=[(0,.slc yP r0),(1,.slc yP r1),(12,.int .i64 i12),(13,.int .i64 (IntKind.wrap .i64 (i13+1)))],tab:=[]:St})) none) none) (K (.exit 0) {fr:=[],tab:=[]:St}):=by kernel_rfl
theorem aaH:bH Tryz.prog 72 Jm:=by
 refine aK (aT (fK.nil _)) (E:=GU) Tryz.func72 [4] (by kernel_rfl) (one1 (bf rfl fun l K q h=>?_)) fun a _ h=>?_
 .unfold amh at h
  split at h
  .rename_i r0 r1 n i
   replace h:=UG h;obtain ⟨h1,h2,h3,h4,h⟩:=h
   have e1:=aY h1
   have h2:=Nat.eq_of_beq_eq_true h2
   subst e1
   have h4:r0.length<=1000001:=aX h4
   refine dD (E:=GU) (f:=72) (id:=4) (fun i:Int=>{ fr:=[(0,.slc yP r0),(1,.slc yP r1),(12,.int .i64 r0.length),(13,.int .i64 i)],tab:=[] }) (fun i=>0<=i) (fun i=>r0.length-i.toNat)
    (fun i K=>cond (N.jy ((eX r0).drop i.toNat) ((eX r1).drop i.toNat)) (K (.exit 0) { fr:=[],tab:=[] }) (K .ret { fr:=[(4,.bool false)],tab:=[] })) (fun i hi=>?_) i (bQ h3) K q (by assumption)
   by_cases hl:i<r0.length
   .rw [pU (show i.toNat<r0.length by omega),pU (show i.toNat<r1.length by omega),J9]
    cases hc:N.eqP (rowP (r0.getD i.toNat [])) (rowP (r1.getD i.toNat [])) with
    | true =>
     refine .inl ⟨i+1,by omega,by omega,fun K=>?_,fun K=>?_⟩
     .rw [Fb]
      unfold N.eqP rowP at hc
      simp (disch:=omega) only [evs,hc,Bool.not_true]
     .rw [cond_true,show (i+1).toNat=i.toNat+1 by omega]
    | false =>
     refine .inr ⟨.ret,{ fr:=[(4,.bool false)],tab:=[] },by simp,fun K=>?_,fun K=>rfl⟩
     rw [Fb]
     unfold N.eqP rowP at hc
     simp (disch:=omega) only [evs,hc,Bool.not_false]
   .refine .inr ⟨.exit 0,{ fr:=[],tab:=[] },by simp,fun K=>?_,fun K=>?_⟩
    .rw [Fb]
     simp (disch:=omega) only [evs]
    .rw [List.drop_eq_nil_of_le (by rw [jU]; omega),List.drop_eq_nil_of_le (by rw [jU]; omega)]; rfl
  .cases h
 .obtain ⟨a,b⟩:=a
  have h:a.length<=1000000:=aX h
  refine (aeT a b).trans ?_
  show _=some (⟨.bool (N.jy a b),[],[]⟩:aH)
  by_cases hl:a.length=b.length
  .simp (disch:=omega) only [evs,fO,hl,List.drop_zero]
   cases N.jy a b<;>rfl
  .rw [Fa a b hl]
   simp (disch:=omega) only [evs]
def ahZ:fP:={ fr:=[(8,.slc yP),(9,.int .i64),(10,.int .i64)],tab:=[] }
def ah0:List Leaf->(Ex->St->Option R)->Option R
 | [.r r8,.i i9,.i i10],K=>cond (i9==r8.length) (cond (bU 0 i10) (cond (Nat.ble r8.length wV) (cond (((eX r8).drop i10.toNat).all N.BN) (K (.exit 0) { fr:=[],tab:=[] }) (K .ret { fr:=[(2,.bool false)],tab:=[] })) none) none) none
 | _,_=>none
noncomputable def Vb:Env:=env Tryz.prog [] [(4,dJ ahZ ah0)] [(4,[(0,[8,9,10]),(1,[]),(1000,[2])])]
theorem amj (h:List bG):bM Vb 111 ((aW (jY gG)).enc h) ([]) some =
 cond (aZ 12 (↑(List.length (List.map yE h)):Int)) (some {v:=.bool false,bx:=[]:aH}) (cond ((↑(List.length (List.map yE h)):Int)==(↑(List.length (List.map yE h)):Int)) (cond (Nat.ble (List.length (List.map yE h)) 1000000) (cond (List.all (List.drop 0 (List.map yD (List.map yE h))) N.BN) (some {v:=.bool true,bx:=[]:aH}) (some {v:=.bool false,bx:=[]:aH})) none) none):=by kernel_rfl
theorem Om (r8:List (List V)) (i9:Int) (i10:Int) (K:Ex->St->Option R):bI Vb 111 4 { fr:=[(8,.slc yP r8),(9,.int .i64 i9),(10,.int .i64 i10)],tab:=[] } K =
 cond (aZ i10 i9) (cond (decide (0<=i10∧i10<(↑(List.length r8):Int))) (cond (aZ 40 (↑(List.length (V.toStr (List.getD (List.getD r8 (Int.toNat i10) []) 0 V.undef))):Int)) (K .ret {fr:=[(2,.bool false)],tab:=[]:St}) (cond (aZ 100 (↑(List.length (V.toStr (List.getD (List.getD r8 (Int.toNat i10) []) 3 V.undef))):Int)) (K .ret {fr:=[(2,.bool false)],tab:=[]:St}) (K .normal {fr:=[(8,.slc yP r8),(9,.int .i64 i9),(10,.int .i64 (IntKind.wrap .i64 (i10+1)))],tab:=[]:St}))) none) (K (.exit 0) {fr:=[],tab:=[]:St}):=by kernel_rfl
theorem ah1:bH Tryz.prog 111 ahB:=by
 refine aK (aT (fK.nil _)) (E:=Vb) Tryz.func111 [4] (by kernel_rfl) (one1 (bf rfl fun l K q h=>?_)) fun h _ _=>?_
 .unfold ah0 at h
  split at h
  .rename_i r n i
   replace h:=Lm h;obtain ⟨h1,h2,h3,h⟩:=h
   have e1:=aY h1
   subst e1
   have h3:r.length<=1000000:=aX h3
   refine dD (E:=Vb) (f:=111) (id:=4) (fun i:Int=>{ fr:=[(8,.slc yP r),(9,.int .i64 r.length),(10,.int .i64 i)],tab:=[] }) (fun i=>0<=i) (fun i=>r.length-i.toNat)
    (fun i K=>cond (((eX r).drop i.toNat).all N.BN) (K (.exit 0) { fr:=[],tab:=[] }) (K .ret { fr:=[(2,.bool false)],tab:=[] })) (fun i hi=>?_) i (bQ h2) K q (by assumption)
   by_cases hl:i<r.length
   .rw [pU (show i.toNat<r.length by omega),List.all_cons]
    cases hc:N.BN (rowP (r.getD i.toNat [])) with
    | true =>
     refine .inl ⟨i+1,by omega,by omega,fun K=>?_,fun K=>?_⟩
     .rw [Om]
      simp (disch:=omega) only [evs]
      revert hc
      unfold N.BN rowP
      cases aZ 40 (V.toStr (List.getD (List.getD r i.toNat []) 0 V.undef)).length<;>cases aZ 100 (V.toStr (List.getD (List.getD r i.toNat []) 3 V.undef)).length<;>intro hc<;>first | rfl | cases hc
     .rw [Bool.true_and,show (i+1).toNat=i.toNat+1 by omega]
    | false =>
     refine .inr ⟨.ret,{ fr:=[(2,.bool false)],tab:=[] },by simp,fun K=>?_,fun K=>rfl⟩
     rw [Om]
     simp (disch:=omega) only [evs]
     revert hc
     unfold N.BN rowP
     cases aZ 40 (V.toStr (List.getD (List.getD r i.toNat []) 0 V.undef)).length<;>cases aZ 100 (V.toStr (List.getD (List.getD r i.toNat []) 3 V.undef)).length<;>intro hc<;>first | rfl | cases hc
   .refine .inr ⟨.exit 0,{ fr:=[],tab:=[] },by simp,fun K=>?_,fun K=>?_⟩
    .rw [Om]
     simp (disch:=omega) only [evs]
    .rw [List.drop_eq_nil_of_le (by rw [jU]; omega)]; rfl
  .cases h
 .refine (amj h).trans ?_
  show _=some (⟨.bool (N.light h),[],[]⟩:aH)
  unfold N.light
  by_cases hl:12<h.length
  .simp (disch:=omega) only [evs]
  .simp (disch:=omega) only [evs,fO,List.drop_zero]
   cases h.all N.BN<;>rfl
noncomputable def acW:Env:=env Tryz.prog [] [] []
theorem ah2 (p:bG) (key:Bytes):bM acW 202 ((aO (bg gG) (aW (nY 0))).enc (p,())) ((nC qA).enc key) some =
 some {v:=.bool (bG.key p==key),bx:=[[V.str key]]:aH}:=by kernel_rfl
theorem aeU:bH Tryz.prog 202 acR:=aK (aT (fK.nil _)) (E:=acW) Tryz.func202 [] (by kernel_rfl) none0 fun a key _=>ah2 a.1 key
def apE:fP:={ fr:=[(0,.slc yP),(1,.fn 202 [] [.ptr 0 0 0]),(7,.int .i64),(8,.int .i64)],tab:=[(0,.var [.str])] }
def ark:List Leaf->(Ex->St->Option R)->Option R
 | [.r r0,.i i7,.i i8,.s key],K=>cond (i7==r0.length) (cond (bU 0 i8) (cond (Nat.ble r0.length wV)
   (cond (bU 0 (N.jm key ((eX r0).drop i8.toNat) i8)) (K .ret { fr:=[(4,.int .i64 (N.jm key ((eX r0).drop i8.toNat) i8))],tab:=[(0,.var [.str key])] }) (K (.exit 0) { fr:=[],tab:=[(0,.var [.str key])] })) none) none) none
 | _,_=>none
noncomputable def amk:Env:=env Tryz.prog [(202,acR)] [(2,dJ apE ark)] [(2,[(0,[0,1,7,8]),(1,[]),(1000,[4])])]
theorem arl (h:List bG) (key:Bytes):bM amk 201 ((aO (jY gG) (aW (vFn 202 0))).enc (h,())) ((nC qA).enc key) some =
 cond ((↑(List.length (List.map yE h)):Int)==(↑(List.length (List.map yE h)):Int)) (cond (Nat.ble (List.length (List.map yE h)) 1000000) (cond (bU 0 (N.jm key (List.drop 0 (List.map yD (List.map yE h))) 0)) (some {v:=.int .i64 (N.jm key (List.drop 0 (List.map yD (List.map yE h))) 0),bx:=[[V.str key]]:aH}) (some {v:=.int .i64 (-1:Int),bx:=[[V.str key]]:aH})) none) none:=by kernel_rfl
theorem aaI (r0:List (List V)) (i7:Int) (i8:Int) (Ae:Bytes) (K:Ex->St->Option R):bI amk 201 2 { fr:=[(0,.slc yP r0),(1,.fn 202 [] [.ptr 0 0 0 0]),(7,.int .i64 i7),(8,.int .i64 i8)],tab:=[(0,.var [.str Ae])] } K =
 cond (aZ i8 i7) (cond (decide (0<=i8∧i8<(↑(List.length r0):Int))) (cond (V.toStr (List.getD (List.getD r0 (Int.toNat i8) []) 0 V.undef)==Ae) (K .ret {fr:=[(4,.int .i64 i8)],tab:=[(0,.var [V.str Ae])]:St}) (K .normal {fr:=[(0,.slc yP r0),(1,.fn 202 [] [V.ptr 0 0 0 0]),(7,.int .i64 i7),(8,.int .i64 (IntKind.wrap .i64 (i8+1)))],tab:=[(0,.var [V.str Ae])]:St})) none) (K (.exit 0) {fr:=[],tab:=[(0,.var [V.str Ae])]:St}):=by kernel_rfl
theorem apF:bH Tryz.prog 201 (Xn 202):=by
 refine aK (aT ((fK.nil _).cons aeU)) (E:=amk) Tryz.func201 [2] (by kernel_rfl) (one1 (bf rfl fun l K q h=>?_)) fun a key h=>?_
 .unfold ark at h
  split at h
  .rename_i r n i key
   replace h:=Lm h;obtain ⟨h1,h2,h3,h⟩:=h
   have e1:=aY h1
   subst e1
   have h3:r.length<=1000000:=aX h3
   refine dD (E:=amk) (f:=201) (id:=2) (fun i:Int=>{ fr:=[(0,.slc yP r),(1,.fn 202 [] [.ptr 0 0 0 0]),(7,.int .i64 r.length),(8,.int .i64 i)],tab:=[(0,.var [.str key])] }) (fun i=>0<=i) (fun i=>r.length-i.toNat)
    (fun i8 K=>cond (bU 0 (N.jm key ((eX r).drop i8.toNat) i8)) (K .ret { fr:=[(4,.int .i64 (N.jm key ((eX r).drop i8.toNat) i8))],tab:=[(0,.var [.str key])] }) (K (.exit 0) { fr:=[],tab:=[(0,.var [.str key])] })) (fun i hi=>?_) i (bQ h2) K q (by assumption)
   by_cases hl:i<r.length
   .rw [pU (show i.toNat<r.length by omega)]
    have e:N.jm key (rowP (r.getD i.toNat [])::(eX r).drop (i.toNat+1)) i=cond ((rowP (r.getD i.toNat [])).key==key) i (N.jm key ((eX r).drop (i.toNat+1)) (i+1)):=rfl
    rw [e]
    cases hc:(rowP (r.getD i.toNat [])).key==key with
    | true =>
     rw [cond_true,dX hi]
     refine .inr ⟨.ret,_,by simp,fun K=>?_,fun K=>rfl⟩
     rw [aaI]
     unfold rowP at hc
     simp (disch:=omega) only [evs,hc]
    | false =>
     refine .inl ⟨i+1,by omega,by omega,fun K=>?_,fun K=>?_⟩
     .rw [aaI]
      unfold rowP at hc
      simp (disch:=omega) only [evs,hc]
     .rw [cond_false,show (i+1).toNat=i.toNat+1 by omega]
   .refine .inr ⟨.exit 0,{ fr:=[],tab:=[(0,.var [.str key])] },by simp,fun K=>?_,fun K=>?_⟩
    .rw [aaI]
     simp (disch:=omega) only [evs]
    .rw [List.drop_eq_nil_of_le (by rw [jU]; omega)]; rfl
  .cases h
 .obtain ⟨l,u⟩:=a
  have h:l.length<=1000000:=aX h
  refine (arl l key).trans ?_
  show _=some (⟨.int .i64 (N.jm key l 0),[[.str key]],[]⟩:aH)
  simp (disch:=omega) only [evs,fO,List.drop_zero]
  rcases Jo key l 0 (Int.le_refl _) with e | ⟨e,_⟩
  .rw [e]; rfl
  .rw [dX e]; rfl
noncomputable def aom:Env:=env Tryz.prog [(201,Xn 202)] [] []
theorem apG (h:List bG) (key:Bytes):type_of% (by
  have h:bM aom 193 ((aO (jY gG) (aW fV)).enc (h,key)) ([]) some =(
   let z2:=(List.map yE h);let z0:=(List.map yD z2);let z1:=(List.getD z2 (Int.toNat (N.jm key z0 0)) []);cond (Nat.ble (List.length z0) 1000000) (cond (aZ (N.jm key z0 0) 0) (some {v:=.fE [V.agg [V.str [],.int .u8 0,.int .i64 0,.str []],.bool false],bx:=[]:aH}) (cond (decide (0<=N.jm key z0 0∧N.jm key z0 0<(↑(List.length z2):Int))) (some {v:=.fE [V.agg [V.str (V.toStr (z1.getD 0 .undef)),.int .u8 (V.toInt (z1.getD 1 .undef)),.int .i64 (V.toInt (z1.getD 2 .undef)),.str (V.toStr (z1.getD 3 .undef))],.bool true],bx:=[]:aH}) none)) none):=by kernel_rfl
  dsimp only at h;exact h):=by kernel_rfl
theorem aml:bH Tryz.prog 193 aoe:=by
 refine aK (aT ((fK.nil _).cons apF)) (E:=aom) Tryz.func193 [] (by kernel_rfl) none0 fun a _ h=>?_
 obtain ⟨l,key⟩:=a
 have h:l.length<=1000000:=aX h
 refine (apG l key).trans ?_
 show _=some (⟨.fE [.agg [.str (N.find l key).1.key,.int .u8 (N.find l key).1.kind,.int .i64 (N.find l key).1.num,.str (N.find l key).1.text],.bool (N.find l key).2],[],[]⟩:aH)
 unfold N.find
 simp (disch:=omega) only [evs,fO,aeL]
 rcases Jo key l 0 (Int.le_refl _) with e | ⟨e1,e2⟩
 .rw [e]; rfl
 .simp (disch:=omega) only [evs]
noncomputable def ah3:Env:=env Tryz.prog [(112,GK),(193,aoe)] [] []
theorem amm (p:bG) (l:List bG):type_of% (by
  have h:bM ah3 170 ((aO (bg gG) (aW (jY gG))).enc (p,l)) ([]) some =(
   let z3:=(some {v:=.int .i64 4,bx:=[]:aH});let z2:=(List.map yD (List.map yE l));let z1:=(cond (Prod.snd (N.find z2 p.key)) (some {v:=.int .i64 9,bx:=[]:aH}) (some {v:=.int .i64 0,bx:=[]:aH}));let z0:=(cond (bG.kind p==1) (cond (bG.num p != 0) (cond (bG.num p != 0) z3 z1) (cond (bG.kind p != 1) (cond (!bG.text p==[]) z3 z1) z1)) (cond (bG.kind p != 1) (cond (!bG.text p==[]) z3 z1) z1));cond (N.name p.key != 0) (some {v:=.int .i64 (N.name p.key),bx:=[]:aH}) (cond (Nat.ble (List.length z2) 1000000) (cond (aZ 2 p.kind) (some {v:=.int .i64 8,bx:=[]:aH}) (cond (bG.kind p==1) (cond (aZ 64 (↑(List.length p.text):Int)) (some {v:=.int .i64 5,bx:=[]:aH}) (cond (bG.kind p==2) (cond (bG.num p != 0) (cond (bG.num p != 1) (some {v:=.int .i64 7,bx:=[]:aH}) z0) z0) z0)) (cond (bG.kind p==2) (cond (bG.num p != 0) (cond (bG.num p != 1) (some {v:=.int .i64 7,bx:=[]:aH}) z0) z0) z0))) none)):=by kernel_rfl
  dsimp only at h;exact h):=by kernel_rfl
theorem XB:bH Tryz.prog 170 Oa:=by
 refine aK (aT (((fK.nil _).cons aml).cons LX)) (E:=ah3) Tryz.func170 [] (by kernel_rfl) none0 fun a _ h=>?_
 obtain ⟨p,l⟩:=a
 have h:l.length<=1000000:=aX h
 refine (amm p l).trans ?_
 show _=some (⟨.int .i64 (N.lC p l),[],[]⟩:aH)
 unfold N.lC
 simp (disch:=omega) only [evs,fO,bne]
 cases N.name p.key==0 with
 | false=>rfl
 | true =>
  cases aZ 2 p.kind with
  | true=>rfl
  | false =>
   cases h1:p.kind==1<;>cases aZ 64 p.text.length<;>cases p.kind==2<;>cases p.num==0<;>cases p.num==1<;>cases p.text==[]<;>cases (N.find l p.key).2<;>rfl
def Vd:fP:={ fr:=[(0,.slc yP),(9,.slc yP),(10,.int .i64),(11,.int .i64)],tab:=[] }
def Oo:List Leaf->(Ex->St->Option R)->Option R
 | [.r r0,.r r9,.i i10,.i i11],K=>cond (i10==r9.length) (cond (Nat.beq r0.length r9.length) (cond (bU 0 i11) (cond (Nat.ble r0.length wV) (cond (N.jy (eX r0) (eX r9))
   (cond (N.fG (eX r9) (r9.length-i11.toNat) i11 != 0) (K .ret { fr:=[(2,.int .i64 (N.fG (eX r9) (r9.length-i11.toNat) i11))],tab:=[] }) (K (.exit 0) { fr:=[],tab:=[] })) none) none) none) none) none
 | _,_=>none
noncomputable def Af:Env:=env Tryz.prog [(170,Oa)] [(4,dJ Vd Oo)] [(4,[(0,[0,9,10,11]),(1,[]),(1000,[2])])]
theorem XC (h:List bG):type_of% (by
  have h:bM Af 120 ((aW (jY gG)).enc h) ([]) some =(
   let z0:=(List.map yE h);let z1:=(List.map yD z0);cond (aZ 8 (↑(List.length z0):Int)) (some {v:=.int .i64 6,bx:=[]:aH}) (cond ((↑(List.length z0):Int)==(↑(List.length z0):Int)) (cond (Nat.beq (List.length z0) (List.length z0)) (cond (Nat.ble (List.length z0) 1000000) (cond (N.jy z1 z1) (cond (N.fG z1 (List.length z0-0) (0 : Int) != 0) (some {v:=.int .i64 (N.fG z1 (List.length z0-0) 0),bx:=[]:aH}) (some {v:=.int .i64 0,bx:=[]:aH})) none) none) none) none)):=by kernel_rfl
  dsimp only at h;exact h):=by kernel_rfl
theorem Ag (r0:List (List V)) (r9:List (List V)) (i11:Int) (K:Ex->St->Option R):type_of% (by
  have h:bI Af 120 4 { fr:=[(0,.slc yP r0),(9,.slc yP r9),(10,.int .i64 r9.length),(11,.int .i64 i11)],tab:=[] } K =(
   let z0:=(List.map yD (List.drop 0 (List.take (Int.toNat i11) r0)));let z1:=(List.getD r9 (Int.toNat i11) []);cond (aZ i11 (↑(List.length r9):Int)) (cond (decide (0<=i11∧i11<(↑(List.length r9):Int))) (cond (decide (0<=i11∧i11<=(↑(List.length r0):Int))) (cond (Nat.ble (List.length z0) 1000000) (cond (N.lC {key:=V.toStr (z1.getD 0 .undef),kind:=V.toInt (z1.getD 1 .undef),num:=V.toInt (z1.getD 2 .undef),text:=V.toStr (z1.getD 3 .undef):bG} z0 != 0) (K .ret {fr:=[(2,.int .i64 (N.lC {key:=V.toStr (z1.getD 0 .undef),kind:=V.toInt (z1.getD 1 .undef),num:=V.toInt (z1.getD 2 .undef),text:=V.toStr (z1.getD 3 .undef):bG} z0))],tab:=[]:St}) (K .normal {fr:=[(0,.slc yP r0),(9,.slc yP r9),(10,.int .i64 (↑(List.length r9):Int)),(11,.int .i64 (IntKind.wrap .i64 (i11+1)))],tab:=[]:St})) none) none) none) (K (.exit 0) {fr:=[],tab:=[]:St})):=by kernel_rfl
  dsimp only at h;exact h):=by kernel_rfl
theorem xH:∀ l,N.jy l l=true
 | []=>rfl
 | p::l=>by
  unfold N.jy N.eqP
  rw [xH l]; simp
theorem apH {p q:bG} (h:N.eqP p q=true):p=q:=by
 unfold N.eqP at h
 simp only [Bool.and_eq_true,beq_iff_eq,and_true] at h
 cases p; cases q; simp_all
theorem Jq:∀ {a b:List bG},N.jy a b=true->a=b
 | [],[],_=>rfl
 | [],_::_,h=>by cases h
 | _::_,[],h=>by cases h
 | p::a,q::b,h=>by
  unfold N.jy at h
  cases e:N.eqP p q with
  | true=>rw [e,cond_true] at h; rw [apH e,Jq h]
  | false=>rw [e] at h; cases h
theorem GV:bH Tryz.prog 120 wC:=by
 refine aK (aT ((fK.nil _).cons XB)) (E:=Af) Tryz.func120 [4] (by kernel_rfl) (one1 (bf rfl fun l K q h=>?_)) fun h _ _=>?_
 .unfold Oo at h
  split at h
  .rename_i r0 r n i
   replace h:=Ed h;obtain ⟨h1,h2,h3,h4,h5,h⟩:=h
   have e1:=aY h1
   subst e1
   have h2:=Nat.eq_of_beq_eq_true h2
   have h4:r0.length<=1000000:=aX h4
   have h5:=Jq h5
   refine dD (E:=Af) (f:=120) (id:=4) (fun i:Int=>{ fr:=[(0,.slc yP r0),(9,.slc yP r),(10,.int .i64 r.length),(11,.int .i64 i)],tab:=[] }) (fun i=>0<=i) (fun i=>r.length-i.toNat)
    (fun i11 K=>cond (N.fG (eX r) (r.length-i11.toNat) i11 != 0) (K .ret { fr:=[(2,.int .i64 (N.fG (eX r) (r.length-i11.toNat) i11))],tab:=[] }) (K (.exit 0) { fr:=[],tab:=[] })) (fun i hi=>?_) i (bQ h3) K q (by assumption)
   by_cases hl:i<r.length
   .have e:N.fG (eX r) (r.length-i.toNat) i=cond (N.lC (rowP (r.getD i.toNat [])) ((eX r).take i.toNat) != 0) (N.lC (rowP (r.getD i.toNat [])) ((eX r).take i.toNat)) (N.fG (eX r) (r.length-(i+1).toNat) (i+1)):=by
     rw [show r.length-i.toNat=(r.length-(i+1).toNat)+1 by omega,N.fG,zZ]
    rw [e]
    have hm:List.map rowP (List.take i.toNat r0)=(eX r).take i.toNat:=by rw [<- h5,eX,List.map_take]
    unfold rowP at hm
    cases hc:N.lC (rowP (r.getD i.toNat [])) ((eX r).take i.toNat) != 0 with
    | true =>
     rw [cond_true,hc]
     refine .inr ⟨.ret,_,by simp,fun K=>?_,fun K=>rfl⟩
     rw [Ag]
     unfold rowP at hc
     simp (disch:=omega) only [evs,hc,hm,List.length_take,List.drop_zero]
     try rfl
    | false =>
     refine .inl ⟨i+1,by omega,by omega,fun K=>?_,fun K=>?_⟩
     .rw [Ag]
      unfold rowP at hc
      simp (disch:=omega) only [evs,hc,hm,List.length_take,List.drop_zero]
     .rw [cond_false]
   .refine .inr ⟨.exit 0,{ fr:=[],tab:=[] },by simp,fun K=>?_,fun K=>?_⟩
    .rw [Ag]
     simp (disch:=omega) only [evs]
    .rw [show r.length-i.toNat=0 by omega]; rfl
  .cases h
 .refine (XC h).trans ?_
  show _=some (⟨.int .i64 (N.dF h),[],[]⟩:aH)
  unfold N.dF
  by_cases hl:8<h.length
  .simp (disch:=omega) only [evs]
  .simp (disch:=omega) only [evs,fO,xH,Nat.sub_zero]
   cases hc:N.fG h h.length 0 != 0 with
   | true=>rfl
   | false =>
    have:N.fG h h.length 0=0:=by simpa using hc
    rw [this]; rfl
def Ve:fP:={ fr:=[(5,.ptr 10000 0 0),(18,.slc yP),(19,.int .i64),(20,.int .i64)],tab:=[(10000,.var [.str,.int .i64])] }
def Oq:List Leaf->(Ex->St->Option R)->Option R
 | [.r r,.i n,.i i,.s s,.i e],K=>cond (n==r.length) (cond (e==0) (cond (bU 0 i) (cond (Nat.ble r.length 8) (cond ((eX r).all N.ET) (cond (bU s.length (1+150*i))
   (K (.exit 0) { fr:=[(5,.ptr 10000 0 0 0)],tab:=[(10000,.var [.str (s++N.mP ((eX r).drop i.toNat)),.int .i64 0])] }) none) none) none) none) none) none
 | _,_=>none
noncomputable def Ah:Env:=env Tryz.prog [(120,wC),(95,fZ),(96,BL),(103,tq)] [(6,dJ Ve Oq)] [(6,[(0,[5,18,19,20]),(1,[5]),(1000,[2,3])])]
theorem XD (h:List bG):type_of% (by
  have h:bM Ah 163 ((aW (jY gG)).enc h) ([]) some =(
   let z0:=(List.map yE h);let z1:=(List.map yD z0);let z2:=(↑(List.length z0):Int);cond (N.dF z1 != 0) (some {v:=.fE [V.str [],.int .i64 (N.dF z1)],bx:=[]:aH}) (cond (bif aZ (IntKind.wrap .u64 z2) 18446744073709551616 then true else false) (cond (z2==z2) (cond (Nat.ble (List.length z0) 8) (cond (List.all z1 N.ET) (some {v:=.fE [V.str (iK.s (N.jl {s:=[],err:=0:iK} (IntKind.wrap .u64 z2) 1)++N.mP (List.drop 0 z1)),.int .i64 0],bx:=[]:aH}) none) none) none) none)):=by kernel_rfl
  dsimp only at h;exact h):=by kernel_rfl
theorem GX (r:List (List V)) (i:Int) (s:Bytes) (K:Ex->St->Option R):type_of% (by
  have h:bI Ah 163 6 { fr:=[(5,.ptr 10000 0 0 0),(18,.slc yP r),(19,.int .i64 r.length),(20,.int .i64 i)],tab:=[(10000,.var [.str s,.int .i64 0])] } K =(
   let z2:=(List.getD r (Int.toNat i) []);let z8:=(N.kE {s:=s,err:=0:iK} (V.toStr (z2.getD 0 .undef)));let z6:=(z2.getD 1 .undef);let z9:=(IntKind.wrap .u64 (V.toInt z6));let z0:=(N.jl z8 z9 1);let z1:=(IntKind.wrap .u64 (V.toInt (z2.getD 2 .undef)));let z3:=(bif bU 0 z1 then bif aZ z1 18446744073709551616 then Nat.ble (List.length (iK.s z0)) 9223372036854775799 else false else false);let z4:=(↑(List.length r):Int);let z5:=(IntKind.wrap .i64 (i+1));let z7:=(V.toStr (z2.getD 3 .undef));cond (aZ i z4) (cond (decide (0<=i∧i<z4)) (cond (Nat.ble (List.length s+List.length (V.toStr (z2.getD 0 .undef))) 9223372036854775790) (cond (bif bU 0 z9 then bif aZ z9 18446744073709551616 then Nat.ble (List.length (iK.s z8)) 9223372036854775799 else false else false) (cond (V.toInt z6==0) (cond z3 (K .normal {fr:=[(5,.ptr 10000 0 0 0),(18,.slc yP r),(19,.int .i64 z4),(20,.int .i64 z5)],tab:=[(10000,.var [V.str (iK.s (N.jl z0 z1 8)),.int .i64 (iK.err (N.jl z0 z1 8))])]:St}) none) (cond (V.toInt z6==1) (cond (Nat.ble (List.length (iK.s z0)+List.length z7) 9223372036854775790) (K .normal {fr:=[(5,.ptr 10000 0 0 0),(18,.slc yP r),(19,.int .i64 z4),(20,.int .i64 z5)],tab:=[(10000,.var [V.str (iK.s (N.kE z0 z7)),.int .i64 (iK.err (N.kE z0 z7))])]:St}) none) (cond (V.toInt z6==2) (cond z3 (K .normal {fr:=[(5,.ptr 10000 0 0 0),(18,.slc yP r),(19,.int .i64 z4),(20,.int .i64 z5)],tab:=[(10000,.var [V.str (iK.s (N.jl z0 z1 1)),.int .i64 (iK.err (N.jl z0 z1 1))])]:St}) none) (K .normal {fr:=[(5,.ptr 10000 0 0 0),(18,.slc yP r),(19,.int .i64 z4),(20,.int .i64 z5)],tab:=[(10000,.var [V.str (iK.s z0),.int .i64 (iK.err z0)])]:St})))) none) none) none) (K (.exit 0) {fr:=[(5,.ptr 10000 0 0 0)],tab:=[(10000,.var [V.str s,.int .i64 0])]:St})):=by kernel_rfl
  dsimp only at h;exact h):=by kernel_rfl
theorem aeV {p : bG} {l : List bG} (h : N.lC p l = 0) : N.ET p = true := by
  unfold N.lC at h
  cases h1 : N.name p.key != 0 with
  | true => rw [h1, cond_true] at h; rw [h] at h1; cases h1
  | false =>
    have hk : p.key.length <= 16 := by
      unfold N.name at h1
      cases e1 : p.key == [] with
      | true => rw [e1] at h1; cases h1
      | false =>
        rw [e1] at h1
        cases e2 : aZ 16 p.key.length with
        | true => rw [e2] at h1; cases h1
        | false => have := fD e2; omega
    rw [h1] at h
    simp only [cond_false, bne] at h
    have ht : p.text.length <= 64 := by
      cases h2 : aZ 2 p.kind with
      | true => rw [h2] at h; cases h
      | false =>
        rw [h2] at h
        cases e1 : p.kind == 1 with
        | true =>
          rw [e1] at h
          cases e2 : aZ 64 p.text.length with
          | true => rw [e2] at h; cases h
          | false => have := fD e2; omega
        | false =>
          rw [e1] at h
          cases e2 : p.text == [] with
          | true => have : p.text = [] := by simpa using e2
                    rw [this]; exact Nat.zero_le _
          | false =>
            rw [e2] at h
            simp only [cond_false, cond_true, Bool.not_false] at h
            revert h
            cases (cond (cond (p.kind == 2) (!p.num == 0) false) (!p.num == 1) false) <;> intro h <;> cases h
    show cond (Nat.ble p.key.length 64) (Nat.ble p.text.length 64) false = true
    rw [dN (by omega), dN ht]; rfl
theorem Eu (h:List bG):∀ (f:Nat) (i:Int),0<=i->N.fG h f i=0->∀ j:Nat,i<=j->(j:Int)<i+f->N.ET (h.getD j ku)=true
 | 0,i,_,_,j,h1,h2=>by omega
 | f+1,i,h0,hc,j,h1,h2=>by
  unfold N.fG at hc
  cases e:N.lC (h.getD i.toNat ku) (h.take i.toNat) != 0 with
  | true=>rw [e,cond_true] at hc; rw [hc] at e; cases e
  | false =>
   rw [e] at hc
   by_cases hj:(j:Int)=i
   .have:j=i.toNat:=by omega
    rw [this]; exact aeV (by simpa using e)
   .exact Eu h f (i+1) (by omega) hc j (by omega) (by omega)
theorem Jr {h:List bG} (hz:N.dF h=0):h.length<=8∧h.all N.ET=true:=by
 unfold N.dF at hz
 cases e:aZ 8 h.length with
 | true=>rw [e] at hz; cases hz
 | false =>
  have e':=fD e
  rw [e] at hz
  refine ⟨by omega,List.all_eq_true.2 fun p hp=>?_⟩
  obtain ⟨j,hj,rfl⟩:=List.getElem_of_mem hp
  have:=Eu h h.length 0 (Int.le_refl _) hz j (by omega) (by omega)
  rwa [List.getD_eq_getElem?_getD,List.getElem?_eq_getElem hj] at this
theorem wu64 (x:Int):0<=IntKind.wrap .u64 x∧IntKind.wrap .u64 x<18446744073709551616:=by
 simp only [IntKind.wrap,IntKind.signed,IntKind.bits]
 simp
 omega
theorem fB (n:Int):∀ k,(N.bW n k).length=k
 | 0=>rfl
 | k+1=>by simp [N.bW,fB n k]
theorem kF (s:Bytes):(N.dS s).length=2+s.length:=by unfold N.dS; rw [List.length_append,fB]
theorem Ai {x s:Bytes} (h:s.length<=65535):N.kE ⟨x,0⟩ s=⟨x++N.dS s,0⟩:=by
 unfold N.kE
 rw [iG (by omega)]
 show (⟨x++N.bW s.length 2++s,0⟩:iK)=_
 unfold N.dS; rw [List.append_assoc]
theorem uM (x:Bytes) (n:Int):N.jl ⟨x,0⟩ n 1=⟨x++N.bW n 1,0⟩:=rfl
theorem BR (x:Bytes) (n:Int):N.jl ⟨x,0⟩ n 8=⟨x++N.bW n 8,0⟩:=rfl
theorem GY (hN:bH Tryz.prog 95 fZ):bH Tryz.prog 163 EU:=by
 refine aK (aT (((((fK.nil _).cons rO).cons (Ad hN)).cons hN).cons GV)) (E:=Ah) Tryz.func163 [6] (by kernel_rfl) (one1 (bf rfl fun l K q h=>?_)) fun h _ _=>?_
 .unfold Oq at h
  split at h
  .rename_i r n i s e
   replace h:=cN6 h;obtain ⟨h1,h2,h3,h4,h5,h6,h⟩:=h
   have e1:=aY h1
   have e2:=aY h2
   subst e1 e2
   have h4:r.length<=8:=aX h4
   refine dD (E:=Ah) (f:=163) (id:=6) (σ:=Int × Bytes) (fun x=>{ fr:=[(5,.ptr 10000 0 0 0),(18,.slc yP r),(19,.int .i64 r.length),(20,.int .i64 x.1)],tab:=[(10000,.var [.str x.2,.int .i64 0])] })
    (fun x=>0<=x.1∧(x.2.length:Int)<=1+150*x.1) (fun x=>r.length-x.1.toNat)
    (fun x K=>K (.exit 0) { fr:=[(5,.ptr 10000 0 0 0)],tab:=[(10000,.var [.str (x.2++N.mP ((eX r).drop x.1.toNat)),.int .i64 0])] }) ?_ (i,s) ⟨bQ h3,bQ h6⟩ K q (by assumption)
   rintro ⟨i,s⟩ ⟨hi,hs⟩
   simp only at hi hs ⊢
   by_cases hl:i<r.length
   .have hlt:i.toNat<r.length:=by omega
    have hfit:N.ET (rowP (r.getD i.toNat []))=true:=List.all_eq_true.1 h5 _ (by
     rw [List.getD_eq_getElem?_getD,List.getElem?_eq_getElem hlt]; exact List.mem_map_of_mem (List.getElem_mem _))
    obtain ⟨f1,f2⟩:=aP hfit
    have f1:(V.toStr (List.getD (List.getD r i.toNat []) 0 V.undef)).length<=64:=aX f1
    have f2:(V.toStr (List.getD (List.getD r i.toNat []) 3 V.undef)).length<=64:=aX f2
    have u1:=wu64 (V.toInt (List.getD (List.getD r i.toNat []) 1 V.undef))
    have u2:=wu64 (V.toInt (List.getD (List.getD r i.toNat []) 2 V.undef))
    have o1:N.kE ⟨s,0⟩ (V.toStr (List.getD (List.getD r i.toNat []) 0 V.undef))=⟨s++N.dS (V.toStr (List.getD (List.getD r i.toNat []) 0 V.undef)),0⟩:=Ai (by omega)
    have o2:∀ x:Bytes,N.kE ⟨x,0⟩ (V.toStr (List.getD (List.getD r i.toNat []) 3 V.undef))=⟨x++N.dS (V.toStr (List.getD (List.getD r i.toNat []) 3 V.undef)),0⟩:=fun x=>Ai (by omega)
    rw [pU hlt]
    have e:N.mP (rowP (r.getD i.toNat [])::(eX r).drop (i.toNat+1))=N.wB (rowP (r.getD i.toNat []))++N.mP ((eX r).drop (i.toNat+1)):=rfl
    rw [e,<- List.append_assoc]
    have hlen:(N.wB (rowP (r.getD i.toNat []))).length<=150:=by
     unfold N.wB rowP
     simp only [List.length_append,kF,fB]
     cases V.toInt (List.getD (List.getD r i.toNat []) 1 V.undef)==0<;>cases V.toInt (List.getD (List.getD r i.toNat []) 1 V.undef)==1<;>cases V.toInt (List.getD (List.getD r i.toNat []) 1 V.undef)==2<;>simp only [cond_true,cond_false,fB,kF,List.length_nil]<;>omega
    refine .inl ⟨(i+1,s++N.wB (rowP (r.getD i.toNat []))),⟨by simp only; omega,by simp only [List.length_append]; omega⟩,by simp only; omega,fun K=>?_,fun K=>?_⟩
    .rw [GX]
     unfold N.wB rowP
     simp (disch:=omega) only [evs,o1,o2,uM,BR,kF,fB,<- List.append_assoc]
     cases V.toInt (List.getD (List.getD r i.toNat []) 1 V.undef)==0<;>cases V.toInt (List.getD (List.getD r i.toNat []) 1 V.undef)==1<;>cases V.toInt (List.getD (List.getD r i.toNat []) 1 V.undef)==2<;>simp only [cond_true,cond_false,List.append_nil]
    .rw [show (i+1).toNat=i.toNat+1 by omega]
   .refine .inr ⟨.exit 0,{ fr:=[(5,.ptr 10000 0 0 0)],tab:=[(10000,.var [.str s,.int .i64 0])] },by simp,fun K=>?_,fun K=>?_⟩
    .rw [GX]
     simp (disch:=omega) only [evs]
    .rw [List.drop_eq_nil_of_le (by rw [jU]; omega)]
     show K _ { fr:=_,tab:=[(10000,.var [.str (s++[]),.int .i64 0])] }=_
     rw [List.append_nil]
  .cases h
 .refine (XD h).trans ?_
  show _=some (⟨.fE [.str (cond (N.dF h != 0) (([]:Bytes),N.dF h) (N.jr h,0)).1,.int .i64 (cond (N.dF h != 0) (([]:Bytes),N.dF h) (N.jr h,0)).2],[],[]⟩:aH)
  cases hc:N.dF h != 0 with
  | true =>
   simp (disch:=omega) only [evs,fO,hc]
  | false =>
   have hz:N.dF h=0:=by simpa using hc
   obtain ⟨c1,c2⟩:=Jr hz
   have u:=wu64 (h.length:Int)
   have ul:IntKind.wrap .u64 (h.length:Int)=h.length:=wrap_u64 (by omega) (by omega)
   simp (disch:=omega) only [evs,fO,hc,ul,uM,c2,List.drop_zero,List.nil_append]
   try rfl
end Go.Ev

namespace Go.Ev
open Go Go.Proofs
set_option maxRecDepth 100000
noncomputable def acX:Env:=env Tryz.prog [(74,U3),(78,Gz),(146,apl)] [] []
theorem ah4 (i:eH) (n:Int):bM acX 147 ((aO (nY 0) (aW (cu .i64))).enc ((),n)) ((nC IW).enc i) some =
 cond (aZ n (IntKind.wrap .i64 (Prod.fst (N.aN i 2)))) (some {v:=.str (Prod.fst (N.lu (N.bV (Prod.snd (N.aN i 2)) 5) (IntKind.wrap .i64 (Prod.fst (N.aN i 2))))),bx:=[[V.str (eH.s (Prod.snd (N.lu (N.bV (Prod.snd (N.aN i 2)) 5) (IntKind.wrap .i64 (Prod.fst (N.aN i 2)))))),.int .i64 (eH.err (Prod.snd (N.lu (N.bV (Prod.snd (N.aN i 2)) 5) (IntKind.wrap .i64 (Prod.fst (N.aN i 2))))))]]:aH}) (some {v:=.str (Prod.fst (N.lu (Prod.snd (N.aN i 2)) (IntKind.wrap .i64 (Prod.fst (N.aN i 2))))),bx:=[[V.str (eH.s (Prod.snd (N.lu (Prod.snd (N.aN i 2)) (IntKind.wrap .i64 (Prod.fst (N.aN i 2)))))),.int .i64 (eH.err (Prod.snd (N.lu (Prod.snd (N.aN i 2)) (IntKind.wrap .i64 (Prod.fst (N.aN i 2))))))]]:aH}):=by kernel_rfl
theorem Js:bH Tryz.prog 147 LW:=by
 refine aK (aT ((((fK.nil _).cons ahU).cons xG).cons BQ)) (E:=acX) Tryz.func147 [] (by kernel_rfl) none0 fun a i _=>?_
 refine (ah4 i a.2).trans ?_
 show _=some (⟨.str (N.cO i a.2).1,[[.str (N.cO i a.2).2.s,.int .i64 (N.cO i a.2).2.err]],[]⟩:aH)
 unfold N.cO
 cases aZ a.2 (IntKind.wrap .i64 (N.aN i 2).1)<;>rfl
noncomputable def Vf:Env:=env Tryz.prog [] [] []
theorem amn (i:eH):bM Vf 75 ((aW (nY 0)).enc ()) ((nC IW).enc i) some =
 some {v:=.int .i64 i.err,bx:=[[V.str i.s,.int .i64 i.err]]:aH}:=by kernel_rfl
theorem zi:bH Tryz.prog 75 EW:=aK (aT (fK.nil _)) (E:=Vf) Tryz.func75 [] (by kernel_rfl) none0 fun _ i _=>amn i
theorem ah5 (i:eH):bM Vf 150 ((aW (nY 0)).enc ()) ((nC IW).enc i) some =
 some {v:=.int .i64 (↑(List.length i.s):Int),bx:=[[V.str i.s,.int .i64 i.err]]:aH}:=by kernel_rfl
theorem aeW:bH Tryz.prog 150 acS:=aK (aT (fK.nil _)) (E:=Vf) Tryz.func150 [] (by kernel_rfl) none0 fun _ i _=>ah5 i
noncomputable def ah6:Env:=env Tryz.prog [(75,EW),(150,acS)] [] []
theorem amo (i:eH):bM ah6 79 ((aW (nY 0)).enc ()) ((nC IW).enc i) some =
 cond (eH.err i==0) (cond (aZ 0 (N.aau i)) (some {v:=.int .i64 4,bx:=[[V.str i.s,.int .i64 i.err]]:aH}) (some {v:=.int .i64 i.err,bx:=[[V.str i.s,.int .i64 i.err]]:aH})) (some {v:=.int .i64 i.err,bx:=[[V.str i.s,.int .i64 i.err]]:aH}):=by kernel_rfl
theorem ah7:bH Tryz.prog 79 ahC:=by
 refine aK (aT (((fK.nil _).cons aeW).cons zi)) (E:=ah6) Tryz.func79 [] (by kernel_rfl) none0 fun _ i _=>?_
 refine (amo i).trans ?_
 show _=some (⟨.int .i64 (cond (i.err==0) (cond (aZ 0 i.s.length) 4 0) i.err),[[.str i.s,.int .i64 i.err]],[]⟩:aH)
 unfold N.aau
 cases h:i.err==0 with
 | false=>rfl
 | true =>
  have:i.err=0:=by simpa using h
  rw [this]
  cases aZ 0 (i.s.length:Int)<;>rfl
noncomputable def arn:Env:=env Tryz.prog [(147,LW),(74,U3),(78,Gz)] [] []
theorem aro (i:eH):type_of% (by
  have h:bM arn 197 ((aW (nY 0)).enc ()) ((nC IW).enc i) some =(
   let z0:=(N.aN (Prod.snd (N.cO i 16)) 1);let z1:=(Prod.fst (N.cO i 16));let z2:=(IntKind.wrap .u8 z0.1);let z3:=(N.cO z0.2 64);let z4:=(N.aN z0.2 8);let z5:=(N.aN z0.2 1);cond (IntKind.wrap .u8 z0.1==0) (some {v:=.agg [V.str z1,.int .u8 z2,.int .i64 (IntKind.wrap .i64 z4.1),.str []],bx:=[[V.str (eH.s z4.2),.int .i64 (eH.err z4.2)]]:aH}) (cond (IntKind.wrap .u8 z0.1==1) (some {v:=.agg [V.str z1,.int .u8 z2,.int .i64 0,.str z3.1],bx:=[[V.str (eH.s z3.2),.int .i64 (eH.err z3.2)]]:aH}) (cond (IntKind.wrap .u8 z0.1==2) (some {v:=.agg [V.str z1,.int .u8 z2,.int .i64 (IntKind.wrap .i64 z5.1),.str []],bx:=[[V.str (eH.s z5.2),.int .i64 (eH.err z5.2)]]:aH}) (some {v:=.agg [V.str z1,.int .u8 z2,.int .i64 0,.str []],bx:=[[V.str (eH.s (N.bV z0.2 8)),.int .i64 (eH.err (N.bV z0.2 8))]]:aH})))):=by kernel_rfl
  dsimp only at h;exact h):=by kernel_rfl
theorem ok_one:bH Tryz.prog 197 aqZ:=by
 refine aK (aT ((((fK.nil _).cons xG).cons BQ).cons Js)) (E:=arn) Tryz.func197 [] (by kernel_rfl) none0 fun _ i _=>?_
 refine (aro i).trans ?_
 show _=some (⟨.agg [.str (N.one i).1.key,.int .u8 (N.one i).1.kind,.int .i64 (N.one i).1.num,.str (N.one i).1.text],[[.str (N.one i).2.s,.int .i64 (N.one i).2.err]],[]⟩:aH)
 unfold N.one N.oneOf
 cases IntKind.wrap .u8 (N.aN (N.cO i 16).2 1).1==0<;>cases IntKind.wrap .u8 (N.aN (N.cO i 16).2 1).1==1<;>cases IntKind.wrap .u8 (N.aN (N.cO i 16).2 1).1==2<;>rfl
end Go.Ev

namespace Go.Ev
open Go Go.Proofs
set_option maxRecDepth 100000
namespace N
def hl:Nat->eH->List (List V)->Bool × List (List V) × eH
 | 0,i,rows=>(true,rows,i)
 | k+1,i,rows=>cond ((bad (one i).1 (eX rows) (one i).2).err != 0) (false,[],bad (one i).1 (eX rows) (one i).2) (hl k (bad (one i).1 (eX rows) (one i).2) (rows++[gG.enc (one i).1]))
end N
def XE:fP:={ fr:=[(0,.ptr 0 0 0),(4,.own 10000),(13,.int .i64),(14,.int .i64)],tab:=[(0,.var [.str,.int .i64]),(10000,.sl yP)] }
def RX:List Leaf->(Ex->St->Option R)->Option R
 | [.i n,.i j,.s s,.i e,.r rows],K=>cond (bU 0 j) (cond (bU n 300) (cond (Nat.ble (rows.length+(n-j).toNat) wV) (cond (N.hl (n-j).toNat ⟨s,e⟩ rows).1
   (K (.exit 0) { fr:=[(4,.own 10000 0)],tab:=[(0,.var [.str (N.hl (n-j).toNat ⟨s,e⟩ rows).2.2.s,.int .i64 (N.hl (n-j).toNat ⟨s,e⟩ rows).2.2.err]),(10000,.sl yP (N.hl (n-j).toNat ⟨s,e⟩ rows).2.1 0)] })
   (K .ret { fr:=[(2,.own 10000 0)],tab:=[(0,.var [.str (N.hl (n-j).toNat ⟨s,e⟩ rows).2.2.s,.int .i64 (N.hl (n-j).toNat ⟨s,e⟩ rows).2.2.err]),(10000,.sl yP [] 0)] })) none) none) none
 | _,_=>none
noncomputable def DW:Env:=env Tryz.prog [(74,U3),(78,Gz),(75,EW),(197,aqZ),(170,Oa)] [(6,dJ XE RX)] [(6,[(0,[0,4,13,14]),(1,[4]),(1000,[2])])]
theorem aaJ (i:eH):type_of% (by
  have h:bM DW 185 (((aW (nY 0)).enc ())) (((nC IW).enc i)) some =(
   let z3:=(Prod.fst (N.aN i 1));let z0:=(Int.toNat (IntKind.wrap .i64 z3-0));let z1:=(Prod.snd (N.aN i 1));let z2:=(Prod.snd (N.hl z0 (N.bV z1 6) []));let z4:=(Prod.snd (Prod.snd (N.hl z0 z1 [])));let z5:=(Nat.ble (0+Int.toNat (IntKind.wrap .i64 z3-0)) 1000000);cond (aZ 8 (IntKind.wrap .i64 z3)) (cond (bU (IntKind.wrap .i64 z3) 300) (cond z5 (cond (Prod.fst (N.hl z0 (N.bV z1 6) [])) (some {v:=.slc yP z2.1,bx:=[[V.str (eH.s z2.2),.int .i64 (eH.err z2.2)]]:aH}) (some {v:=.slc yP [],bx:=[[V.str (eH.s z2.2),.int .i64 (eH.err z2.2)]]:aH})) none) none) (cond (bU (IntKind.wrap .i64 z3) 300) (cond z5 (cond (Prod.fst (N.hl z0 z1 [])) (some {v:=.slc yP (Prod.fst (Prod.snd (N.hl z0 z1 []))),bx:=[[V.str z4.s,.int .i64 z4.err]]:aH}) (some {v:=.slc yP [],bx:=[[V.str z4.s,.int .i64 z4.err]]:aH})) none) none)):=by kernel_rfl
  dsimp only at h;exact h):=by kernel_rfl
theorem BU (i13:Int) (i14:Int) (Ae:Bytes) (Ee:Int) (oW:List (List V)) (K:Ex->St->Option R):type_of% (by
  have h:bI DW 185 6 { fr:=[(0,.ptr 0 0 0 0),(4,.own 10000 0),(13,.int .i64 i13),(14,.int .i64 i14)],tab:=[(0,.var [.str Ae,.int .i64 Ee]),(10000,.sl yP oW 0)] } K =(
   let z1:=(N.one {s:=Ae,err:=Ee:eH});let z3:=(List.map yD oW);let z0:=(N.bV z1.2 (N.lC z1.1 z3));let z2:=(oW++[[V.str (bG.key z1.1),.int .u8 (bG.kind z1.1),.int .i64 (bG.num z1.1),.str (bG.text z1.1)]]);cond (aZ i14 i13) (cond (eH.err z1.2==0) (cond (Nat.ble (List.length z3) 1000000) (cond (eH.err z0 != 0) (K .ret {fr:=[(2,.own 10000 0)],tab:=[(0,.var [V.str z0.s,.int .i64 z0.err]),(10000,.sl yP [] 0)]:St}) (cond (decide ((List.length oW+1)*48<=140737488355328)) (K .normal {fr:=[(0,.ptr 0 0 0 0),(4,.own 10000 0),(13,.int .i64 i13),(14,.int .i64 (IntKind.wrap .i64 (i14+1)))],tab:=[(0,.var [V.str z0.s,.int .i64 z0.err]),(10000,.sl yP z2 0)]:St}) none)) none) (cond (eH.err z1.2 != 0) (K .ret {fr:=[(2,.own 10000 0)],tab:=[(0,.var [V.str (eH.s z1.2),.int .i64 (eH.err z1.2)]),(10000,.sl yP [] 0)]:St}) (cond (decide ((List.length oW+1)*48<=140737488355328)) (K .normal {fr:=[(0,.ptr 0 0 0 0),(4,.own 10000 0),(13,.int .i64 i13),(14,.int .i64 (IntKind.wrap .i64 (i14+1)))],tab:=[(0,.var [V.str (eH.s z1.2),.int .i64 (eH.err z1.2)]),(10000,.sl yP z2 0)]:St}) none))) (K (.exit 0) {fr:=[(4,.own 10000 0)],tab:=[(0,.var [V.str Ae,.int .i64 Ee]),(10000,.sl yP oW 0)]:St})):=by kernel_rfl
  dsimp only at h;exact h):=by kernel_rfl
theorem aaK:∀ (k:Nat) (i:eH) (l:List bG),(N.hl k i (l.map gG.enc)).2=((N.kP k i l).1.map gG.enc,(N.kP k i l).2)
 | 0,_,_=>rfl
 | k+1,i,l=>by
  unfold N.hl N.kP
  rw [DN]
  cases (N.bad (N.one i).1 l (N.one i).2).err != 0 with
  | true=>rfl
  | false =>
   have:=aaK k (N.bad (N.one i).1 l (N.one i).2) (l++[(N.one i).1])
   rw [List.map_append] at this
   exact this
theorem Vg:∀ (k:Nat) (i:eH) (rows:List (List V)),(N.hl k i rows).1=false->(N.hl k i rows).2.1=[]
 | 0,_,_,h=>by cases h
 | k+1,i,rows,h=>by
  unfold N.hl at h ⊢
  cases hc:(N.bad (N.one i).1 (eX rows) (N.one i).2).err != 0 with
  | true=>rfl
  | false=>rw [hc] at h; exact Vg k _ _ h
theorem BX (i:eH):0<=(N.aN i 1).1∧(N.aN i 1).1<256:=by
 have h:=N.Jj i (bif aZ 8 1 then (8:Int) else 1) 1 (Int.le_refl 1)
 unfold N.aN
 revert h
 cases (N.lu i (bif aZ 8 1 then (8:Int) else 1)).1 with
 | nil=>intro _; exact ⟨Int.le_refl 0,(by decide:(0:Int)<256)⟩
 | cons c r =>
  intro h
  cases r with
  | nil =>
   have:=c.toNat_lt
   show 0<=(0*256+(c.toNat:Int))∧(0*256+(c.toNat:Int))<256
   omega
  | cons _ _=>simp at h
theorem XG:bH Tryz.prog 185 RQ:=by
 refine aK (aT ((((((fK.nil _).cons XB).cons ok_one).cons zi).cons xG).cons BQ)) (E:=DW) Tryz.func185 [6] (by kernel_rfl) (one1 (bf rfl fun l K q h=>?_)) fun _ i _=>?_
 .unfold RX at h
  split at h
  .rename_i n j s e rows
   replace h:=Lm h;obtain ⟨h1,h2,h3,h⟩:=h
   have h2:=bQ h2
   have h3:rows.length+(n-j).toNat<=1000000:=aX h3
   refine dD (E:=DW) (f:=185) (id:=6) (σ:=Int × eH × List (List V)) (fun x=>{ fr:=[(0,.ptr 0 0 0 0),(4,.own 10000 0),(13,.int .i64 n),(14,.int .i64 x.1)],tab:=[(0,.var [.str x.2.1.s,.int .i64 x.2.1.err]),(10000,.sl yP x.2.2 0)] })
    (fun x=>0<=x.1∧x.2.2.length+(n-x.1).toNat<=1000000) (fun x=>(n-x.1).toNat)
    (fun x K=>cond (N.hl (n-x.1).toNat x.2.1 x.2.2).1
     (K (.exit 0) { fr:=[(4,.own 10000 0)],tab:=[(0,.var [.str (N.hl (n-x.1).toNat x.2.1 x.2.2).2.2.s,.int .i64 (N.hl (n-x.1).toNat x.2.1 x.2.2).2.2.err]),(10000,.sl yP (N.hl (n-x.1).toNat x.2.1 x.2.2).2.1 0)] })
     (K .ret { fr:=[(2,.own 10000 0)],tab:=[(0,.var [.str (N.hl (n-x.1).toNat x.2.1 x.2.2).2.2.s,.int .i64 (N.hl (n-x.1).toNat x.2.1 x.2.2).2.2.err]),(10000,.sl yP [] 0)] })) ?_ (j,⟨s,e⟩,rows) ⟨bQ h1,h3⟩ K q (by assumption)
   rintro ⟨j,⟨s,e⟩,rows⟩ ⟨hj,hr⟩
   simp only at hj hr ⊢
   by_cases hl:j<n
   .rw [show (n-j).toNat=(n-(j+1)).toNat+1 by omega]
    simp only [N.hl]
    cases hc:((N.bad (N.one ⟨s,e⟩).1 (eX rows) (N.one ⟨s,e⟩).2).err != 0) with
    | true =>
     refine .inr ⟨.ret,{ fr:=[(2,.own 10000 0)],tab:=[(0,.var [.str (N.bad (N.one ⟨s,e⟩).1 (eX rows) (N.one ⟨s,e⟩).2).s,.int .i64 (N.bad (N.one ⟨s,e⟩).1 (eX rows) (N.one ⟨s,e⟩).2).err]),(10000,.sl yP [] 0)] },by simp,fun K=>?_,fun K=>rfl⟩
     rw [BU]
     unfold N.bad eX rowP at hc ⊢
     cases hz:(N.one ⟨s,e⟩).2.err==0 with
     | true=>rw [hz,cond_true] at hc; simp (disch:=omega) only [evs,hc]
     | false=>rw [hz,cond_false] at hc; simp (disch:=omega) only [evs,hc]
    | false =>
     refine .inl ⟨(j+1,N.bad (N.one ⟨s,e⟩).1 (eX rows) (N.one ⟨s,e⟩).2,rows++[gG.enc (N.one ⟨s,e⟩).1]),⟨by simp only; omega,by simp only [List.length_append,List.length_cons,List.length_nil]; omega⟩,by simp only; omega,fun K=>?_,fun K=>rfl⟩
     rw [BU]
     unfold N.bad eX rowP at hc ⊢
     cases hz:(N.one ⟨s,e⟩).2.err==0 with
     | true=>rw [hz,cond_true] at hc; simp (disch:=omega) only [evs,hc]; rfl
     | false=>rw [hz,cond_false] at hc; simp (disch:=omega) only [evs,hc]; rfl
   .refine .inr ⟨.exit 0,{ fr:=[(4,.own 10000 0)],tab:=[(0,.var [.str s,.int .i64 e]),(10000,.sl yP rows 0)] },by simp,fun K=>?_,fun K=>?_⟩
    .rw [BU]
     simp (disch:=omega) only [evs]
    .rw [show (n-j).toNat=0 by omega]; rfl
  .cases h
 .refine (aaJ i).trans ?_
  obtain ⟨b1,b2⟩:=BX i
  have w:IntKind.wrap .i64 (N.aN i 1).1=(N.aN i 1).1:=wrap_i64 (by omega) (by omega)
  show _=some (⟨.slc yP ((N.kQ i).1.map gG.enc),[[.str (N.kQ i).2.s,.int .i64 (N.kQ i).2.err]],[]⟩:aH)
  unfold N.kQ
  rw [w]
  simp (disch:=omega) only [evs,Int.sub_zero,Nat.zero_add]
  cases aZ 8 (N.aN i 1).1 with
  | true =>
   have e1:=aaK (N.aN i 1).1.toNat (N.bV (N.aN i 1).2 6) []
   have e2:=Vg (N.aN i 1).1.toNat (N.bV (N.aN i 1).2 6) []
   rw [List.map_nil] at e1
   cases hc:(N.hl (N.aN i 1).1.toNat (N.bV (N.aN i 1).2 6) []).1 with
   | true=>simp only [cond_true,e1]
   | false =>
    rw [e1] at e2
    have e3:(N.kP (N.aN i 1).1.toNat (N.bV (N.aN i 1).2 6) []).1.map gG.enc=[]:=e2 hc
    simp only [cond_true,cond_false,e1,e3]
  | false =>
   have e1:=aaK (N.aN i 1).1.toNat (N.aN i 1).2 []
   have e2:=Vg (N.aN i 1).1.toNat (N.aN i 1).2 []
   rw [List.map_nil] at e1
   cases hc:(N.hl (N.aN i 1).1.toNat (N.aN i 1).2 []).1 with
   | true=>simp only [cond_true,cond_false,e1]
   | false =>
    rw [e1] at e2
    have e3:(N.kP (N.aN i 1).1.toNat (N.aN i 1).2 []).1.map gG.enc=[]:=e2 hc
    simp only [cond_false,e1,e3]
namespace N
end N
def aaL:fP:={ fr:=[(2,.ptr 10000 0 0),(57,.slc yP),(58,.int .i64),(59,.int .i64)],tab:=[(10000,.var [.str,.int .u8,.int .i64,.str])] }
def XH:List Leaf->(Ex->St->Option R)->Option R
 | [.r xI,.i i58,.i i59,.s Ae,.i _,.i _,.s _],K=>cond (i58==xI.length) (cond (bU 0 i59) (cond (Nat.ble xI.length wV)
   (cond (bU 0 (N.jm Ae ((eX xI).drop i59.toNat) i59)) (K .ret { fr:=[(4,.int .i64 9)],tab:=[] }) (K (.exit 0) { fr:=[],tab:=[] })) none) none) none
 | _,_=>none
noncomputable def GZ:Env:=env Tryz.prog [(42,GK)] [(13,dJ aaL XH)] [(13,[(0,[2,57,58,59]),(1,[]),(1000,[4])])]
theorem aeX (p:bG) (l:List bG):type_of% (by
  have h:bM GZ 118 (((aO (bg gG) (aW (jY gG))).enc (p,l))) ([]) some =(
   let z3:=(List.map yE l);let z0:=(cond ((↑(List.length z3):Int)==(↑(List.length z3):Int)) (cond (Nat.ble (List.length z3) 1000000) (cond (bU 0 (N.jm p.key (List.drop 0 (List.map yD z3)) 0)) (some {v:=.int .i64 9,bx:=[]:aH}) (some {v:=.int .i64 0,bx:=[]:aH})) none) none);let z1:=(some {v:=.int .i64 4,bx:=[]:aH});let z2:=(some {v:=.int .i64 7,bx:=[]:aH});cond (N.name p.key != 0) (some {v:=.int .i64 (N.name p.key),bx:=[]:aH}) (cond (aZ 2 p.kind) (some {v:=.int .i64 8,bx:=[]:aH}) (cond (bG.kind p==1) (cond (aZ 64 (↑(List.length p.text):Int)) (some {v:=.int .i64 5,bx:=[]:aH}) (cond (bG.kind p==2) (cond (aZ p.num 0) z2 (cond (aZ 1 p.num) z2 (cond (bG.kind p==1) (cond (bG.num p != 0) z1 (cond (bG.kind p != 1) (cond (!bG.text p==[]) z1 z0) z0)) (cond (bG.kind p != 1) (cond (!bG.text p==[]) z1 z0) z0)))) (cond (bG.kind p==1) (cond (bG.num p != 0) z1 (cond (bG.kind p != 1) (cond (!bG.text p==[]) z1 z0) z0)) (cond (bG.kind p != 1) (cond (!bG.text p==[]) z1 z0) z0)))) (cond (bG.kind p==2) (cond (aZ p.num 0) z2 (cond (aZ 1 p.num) z2 (cond (bG.kind p==1) (cond (bG.num p != 0) z1 (cond (bG.kind p != 1) (cond (!bG.text p==[]) z1 z0) z0)) (cond (bG.kind p != 1) (cond (!bG.text p==[]) z1 z0) z0)))) (cond (bG.kind p==1) (cond (bG.num p != 0) z1 (cond (bG.kind p != 1) (cond (!bG.text p==[]) z1 z0) z0)) (cond (bG.kind p != 1) (cond (!bG.text p==[]) z1 z0) z0)))))):=by kernel_rfl
  dsimp only at h;exact h):=by kernel_rfl
theorem Fe (xI:List (List V)) (i58:Int) (i59:Int) (Ae:Bytes) (Ee:Int) (aon:Int) (aoo:Bytes) (K:Ex->St->Option R):bI GZ 118 13 { fr:=[(2,.ptr 10000 0 0 0),(57,.slc yP xI),(58,.int .i64 i58),(59,.int .i64 i59)],tab:=[(10000,.var [.str Ae,.int .u8 Ee,.int .i64 aon,.str aoo])] } K =
 cond (aZ i59 i58) (cond (decide (0<=i59∧i59<(↑(List.length xI):Int))) (cond (V.toStr (List.getD (List.getD xI (Int.toNat i59) []) 0 V.undef)==Ae) (K .ret {fr:=[(4,.int .i64 9)],tab:=[]:St}) (K .normal {fr:=[(2,.ptr 10000 0 0 0),(57,.slc yP xI),(58,.int .i64 i58),(59,.int .i64 (IntKind.wrap .i64 (i59+1)))],tab:=[(10000,.var [V.str Ae,.int .u8 Ee,.int .i64 aon,.str aoo])]:St})) none) (K (.exit 0) {fr:=[],tab:=[]:St}):=by kernel_rfl
theorem aaM:bH Tryz.prog 118 Oa:=by
 refine aK (aT ((fK.nil _).cons E8)) (E:=GZ) Tryz.func118 [13] (by kernel_rfl) (one1 (bf rfl fun l K q h=>?_)) fun a _ h=>?_
 .unfold XH at h
  split at h
  .rename_i r n i key x1 x2 x3
   replace h:=Lm h;obtain ⟨h1,h2,h3,h⟩:=h
   have e1:=aY h1
   subst e1
   have h3:r.length<=1000000:=aX h3
   refine dD (E:=GZ) (f:=118) (id:=13) (fun i:Int=>{ fr:=[(2,.ptr 10000 0 0 0),(57,.slc yP r),(58,.int .i64 r.length),(59,.int .i64 i)],tab:=[(10000,.var [.str key,.int .u8 x1,.int .i64 x2,.str x3])] }) (fun i=>0<=i) (fun i=>r.length-i.toNat)
    (fun i K=>cond (bU 0 (N.jm key ((eX r).drop i.toNat) i)) (K .ret { fr:=[(4,.int .i64 9)],tab:=[] }) (K (.exit 0) { fr:=[],tab:=[] })) (fun i hi=>?_) i (bQ h2) K q (by assumption)
   by_cases hl:i<r.length
   .rw [pU (show i.toNat<r.length by omega)]
    have e:N.jm key (rowP (r.getD i.toNat [])::(eX r).drop (i.toNat+1)) i=cond ((rowP (r.getD i.toNat [])).key==key) i (N.jm key ((eX r).drop (i.toNat+1)) (i+1)):=rfl
    rw [e]
    cases hc:(rowP (r.getD i.toNat [])).key==key with
    | true =>
     rw [cond_true,dX hi]
     refine .inr ⟨.ret,{ fr:=[(4,.int .i64 9)],tab:=[] },by simp,fun K=>?_,fun K=>rfl⟩
     rw [Fe]
     unfold rowP at hc
     simp (disch:=omega) only [evs,hc]
    | false =>
     refine .inl ⟨i+1,by omega,by omega,fun K=>?_,fun K=>?_⟩
     .rw [Fe]
      unfold rowP at hc
      simp (disch:=omega) only [evs,hc]
     .rw [cond_false,show (i+1).toNat=i.toNat+1 by omega]
   .refine .inr ⟨.exit 0,{ fr:=[],tab:=[] },by simp,fun K=>?_,fun K=>?_⟩
    .rw [Fe]
     simp (disch:=omega) only [evs]
    .rw [List.drop_eq_nil_of_le (by rw [jU]; omega)]; rfl
  .cases h
 .obtain ⟨p,l⟩:=a
  have h:l.length<=1000000:=aX h
  refine (aeX p l).trans ?_
  show _=some (⟨.int .i64 (N.lC p l),[],[]⟩:aH)
  unfold N.lC N.find
  have en:(cond (p.num != 0) (p.num != 1) false)=cond (aZ p.num 0) true (aZ 1 p.num):=by
   rcases (by omega:p.num<0∨p.num=0∨p.num=1∨1<p.num) with h | h | h | h
   .simp (disch:=omega) only [evs]
   .rw [h]; rfl
   .rw [h]; rfl
   .simp (disch:=omega) only [evs]
  have en' : cond (cond (p.kind==2) (p.num != 0) false) (p.num != 1) false=cond (p.kind==2) (cond (aZ p.num 0) true (aZ 1 p.num)) false:=by
   rw [<- en]; cases p.kind==2<;>rfl
  rw [en']
  have ef:(cond (aZ (N.jm p.key l 0) 0) (ku,false) (l.getD (N.jm p.key l 0).toNat ku,true)).2=bU 0 (N.jm p.key l 0):=by
   by_cases h:N.jm p.key l 0<0
   .simp (disch:=omega) only [evs]
   .simp (disch:=omega) only [evs]
  rw [ef]
  simp (disch:=omega) only [evs,fO,List.drop_zero,bne]
  cases hn:N.name p.key==0 with
  | false=>rfl
  | true =>
   cases aZ 2 p.kind with
   | true=>rfl
   | false =>
    cases p.kind==1<;>cases aZ 64 p.text.length<;>cases p.kind==2<;>cases aZ p.num 0<;>cases aZ 1 p.num<;>cases p.num==0<;>cases p.text==[]<;>cases bU 0 (N.jm p.key l 0)<;>rfl
end Go.Ev

namespace Go.Ev
open Go Go.Proofs
set_option maxRecDepth 100000
def XI:fP:={ fr:=[(0,.slc yP),(9,.slc yP),(10,.int .i64),(11,.int .i64)],tab:=[] }
def RY:List Leaf->(Ex->St->Option R)->Option R
 | [.r r0,.r r9,.i i10,.i i11],K=>cond (i10==r9.length) (cond (Nat.beq r0.length r9.length) (cond (bU 0 i11) (cond (Nat.ble r0.length wV) (cond (N.jy (eX r0) (eX r9))
   (cond (N.fG (eX r9) (r9.length-i11.toNat) i11 != 0) (K .ret { fr:=[(2,.int .i64 (N.fG (eX r9) (r9.length-i11.toNat) i11))],tab:=[] }) (K (.exit 0) { fr:=[],tab:=[] })) none) none) none) none) none
 | _,_=>none
noncomputable def DX:Env:=env Tryz.prog [(118,Oa)] [(4,dJ XI RY)] [(4,[(0,[0,9,10,11]),(1,[]),(1000,[2])])]
theorem aaN (h:List bG):type_of% (by
  have h:bM DX 44 ((aW (jY gG)).enc h) ([]) some =(
   let z0:=(List.map yE h);let z1:=(List.map yD z0);cond (aZ 8 (↑(List.length z0):Int)) (some {v:=.int .i64 6,bx:=[]:aH}) (cond ((↑(List.length z0):Int)==(↑(List.length z0):Int)) (cond (Nat.beq (List.length z0) (List.length z0)) (cond (Nat.ble (List.length z0) 1000000) (cond (N.jy z1 z1) (cond (N.fG z1 (List.length z0-0) (0 : Int) != 0) (some {v:=.int .i64 (N.fG z1 (List.length z0-0) 0),bx:=[]:aH}) (some {v:=.int .i64 0,bx:=[]:aH})) none) none) none) none)):=by kernel_rfl
  dsimp only at h;exact h):=by kernel_rfl
theorem BZ (r0:List (List V)) (r9:List (List V)) (i11:Int) (K:Ex->St->Option R):type_of% (by
  have h:bI DX 44 4 { fr:=[(0,.slc yP r0),(9,.slc yP r9),(10,.int .i64 r9.length),(11,.int .i64 i11)],tab:=[] } K =(
   let z0:=(List.map yD (List.drop 0 (List.take (Int.toNat i11) r0)));let z1:=(List.getD r9 (Int.toNat i11) []);cond (aZ i11 (↑(List.length r9):Int)) (cond (decide (0<=i11∧i11<(↑(List.length r9):Int))) (cond (decide (0<=i11∧i11<=(↑(List.length r0):Int))) (cond (Nat.ble (List.length z0) 1000000) (cond (N.lC {key:=V.toStr (z1.getD 0 .undef),kind:=V.toInt (z1.getD 1 .undef),num:=V.toInt (z1.getD 2 .undef),text:=V.toStr (z1.getD 3 .undef):bG} z0 != 0) (K .ret {fr:=[(2,.int .i64 (N.lC {key:=V.toStr (z1.getD 0 .undef),kind:=V.toInt (z1.getD 1 .undef),num:=V.toInt (z1.getD 2 .undef),text:=V.toStr (z1.getD 3 .undef):bG} z0))],tab:=[]:St}) (K .normal {fr:=[(0,.slc yP r0),(9,.slc yP r9),(10,.int .i64 (↑(List.length r9):Int)),(11,.int .i64 (IntKind.wrap .i64 (i11+1)))],tab:=[]:St})) none) none) none) (K (.exit 0) {fr:=[],tab:=[]:St})):=by kernel_rfl
  dsimp only at h;exact h):=by kernel_rfl
theorem XJ:bH Tryz.prog 44 wC:=by
 refine aK (aT ((fK.nil _).cons aaM)) (E:=DX) Tryz.func44 [4] (by kernel_rfl) (one1 (bf rfl fun l K q h=>?_)) fun h _ _=>?_
 .unfold RY at h
  split at h
  .rename_i r0 r n i
   replace h:=Ed h;obtain ⟨h1,h2,h3,h4,h5,h⟩:=h
   have e1:=aY h1
   subst e1
   have h2:=Nat.eq_of_beq_eq_true h2
   have h4:r0.length<=1000000:=aX h4
   have h5:=Jq h5
   refine dD (E:=DX) (f:=44) (id:=4) (fun i:Int=>{ fr:=[(0,.slc yP r0),(9,.slc yP r),(10,.int .i64 r.length),(11,.int .i64 i)],tab:=[] }) (fun i=>0<=i) (fun i=>r.length-i.toNat)
    (fun i11 K=>cond (N.fG (eX r) (r.length-i11.toNat) i11 != 0) (K .ret { fr:=[(2,.int .i64 (N.fG (eX r) (r.length-i11.toNat) i11))],tab:=[] }) (K (.exit 0) { fr:=[],tab:=[] })) (fun i hi=>?_) i (bQ h3) K q (by assumption)
   by_cases hl:i<r.length
   .have e:N.fG (eX r) (r.length-i.toNat) i=cond (N.lC (rowP (r.getD i.toNat [])) ((eX r).take i.toNat) != 0) (N.lC (rowP (r.getD i.toNat [])) ((eX r).take i.toNat)) (N.fG (eX r) (r.length-(i+1).toNat) (i+1)):=by
     rw [show r.length-i.toNat=(r.length-(i+1).toNat)+1 by omega,N.fG,zZ]
    rw [e]
    have hm:List.map rowP (List.take i.toNat r0)=(eX r).take i.toNat:=by rw [<- h5,eX,List.map_take]
    unfold rowP at hm
    cases hc:N.lC (rowP (r.getD i.toNat [])) ((eX r).take i.toNat) != 0 with
    | true =>
     rw [cond_true,hc]
     refine .inr ⟨.ret,_,by simp,fun K=>?_,fun K=>rfl⟩
     rw [BZ]
     unfold rowP at hc
     simp (disch:=omega) only [evs,hc,hm,List.length_take,List.drop_zero]
     try rfl
    | false =>
     refine .inl ⟨i+1,by omega,by omega,fun K=>?_,fun K=>?_⟩
     .rw [BZ]
      unfold rowP at hc
      simp (disch:=omega) only [evs,hc,hm,List.length_take,List.drop_zero]
     .rw [cond_false]
   .refine .inr ⟨.exit 0,{ fr:=[],tab:=[] },by simp,fun K=>?_,fun K=>?_⟩
    .rw [BZ]
     simp (disch:=omega) only [evs]
    .rw [show r.length-i.toNat=0 by omega]; rfl
  .cases h
 .refine (aaN h).trans ?_
  show _=some (⟨.int .i64 (N.dF h),[],[]⟩:aH)
  unfold N.dF
  by_cases hl:8<h.length
  .simp (disch:=omega) only [evs]
  .simp (disch:=omega) only [evs,fO,xH,Nat.sub_zero]
   cases hc:N.fG h h.length 0 != 0 with
   | true=>rfl
   | false =>
    have:N.fG h h.length 0=0:=by simpa using hc
    rw [this]; rfl
end Go.Ev

namespace Go.Ev
open Go Go.Proofs
set_option maxRecDepth 100000
end Go.Ev

namespace Go.Ev
open Go Go.Proofs
set_option maxRecDepth 100000
end Go.Ev

namespace Go.Ev
open Go Go.Proofs
set_option maxRecDepth 100000
noncomputable def aop : Env:=env Tryz.prog [(108,ahN)] [] []
theorem apI  : bM aop 35 [] [] some =
 some {v:=.bool true,bx:=[]:aH}:=by kernel_rfl
theorem acY : bH Tryz.prog 35 nI:=aK (aT ((fK.nil _).cons apw)) (E:=aop) Tryz.func35 [] (by kernel_rfl) none0 fun _ _ _=>apI
noncomputable def arp:Env:=env Tryz.prog [(163,EU),(208,nI),(35,nI)] [] []
theorem arq  : bM arp 204 [] [] some =
 some {v:=.bool true,bx:=[]:aH}:=by kernel_rfl
theorem apJ (hN:bH Tryz.prog 95 fZ):bH Tryz.prog 204 nI :=
 aK (aT ((((fK.nil _).cons acY).cons (amg hN)).cons (GY hN))) (E:=arp) Tryz.func204 [] (by kernel_rfl) none0 fun _ _ _=>arq
noncomputable def ah8:Env:=env Tryz.prog [(196,Jm)] [] []
theorem amq (a b:List bG):bM ah8 184 ((aO (jY gG) (aW (jY gG))).enc (a,b)) ([]) some =
 cond (Nat.ble (List.length (List.map yD (List.map yE a))) 1000000) (some {v:=.bool (N.jy (List.map yD (List.map yE a)) (List.map yD (List.map yE b))),bx:=[]:aH}) none:=by kernel_rfl
theorem ah9:bH Tryz.prog 184 Jm:=by
 refine aK (aT ((fK.nil _).cons apD)) (E:=ah8) Tryz.func184 [] (by kernel_rfl) none0 fun a _ h=>?_
 obtain ⟨a,b⟩:=a
 have h:a.length<=1000000:=aX h
 refine (amq a b).trans ?_
 show _=some (⟨.bool (N.jy a b),[],[]⟩:aH)
 simp (disch:=omega) only [evs,fO]
theorem XK {h:List bG} (hl:N.light h=true):h.length<=12:=by
 unfold N.light at hl
 cases e:aZ 12 h.length with
 | true=>rw [e] at hl; cases hl
 | false=>have:=fD e; omega
end Go.Ev

namespace Go.Ev
open Go
theorem DY:∀ (k:Nat) (n:Int),N.bW n (k+1)=N.bW (n / 256) k++[UInt8.ofNat (n % 256).toNat]
 | 0,n=>by
  show [UInt8.ofNat ((n / 2 ^ (8*0)) % 256).toNat]=[]++[UInt8.ofNat (n % 256).toNat]
  rw [show (2:Int) ^ (8*0)=1 from rfl,Int.ediv_one]; rfl
 | k+1,n=>by
  show UInt8.ofNat ((n / 2 ^ (8*(k+1))) % 256).toNat::N.bW n (k+1)=(UInt8.ofNat ((n / 256 / 2 ^ (8*k)) % 256).toNat::N.bW (n / 256) k)++[UInt8.ofNat (n % 256).toNat]
  rw [DY k n,Int.ediv_ediv_of_nonneg (by decide),show (256:Int)*2 ^ (8*k)=2 ^ (8*(k+1)) by rw [show 8*(k+1)=8+8*k by omega,Int.pow_add]; rfl]
  try rfl
theorem aia:∀ (l m:Bytes) (n:Int),N.be (l++m) n=N.be m (N.be l n)
 | [],_,_=>rfl
 | _::l,m,_=>aia l m _
theorem aaO (n:Int):((UInt8.ofNat (n % 256).toNat).toNat:Int)=n % 256:=by
 have:(n % 256).toNat<256:=by omega
 rw [UInt8.toNat_ofNat',Nat.mod_eq_of_lt this]; omega
theorem acZ:∀ (k:Nat) (n:Int),0<=n->n<256 ^ k->N.be (N.bW n k) 0=n
 | 0,n,h0,h=>by
  have:n=0:=by rw [Int.pow_zero] at h; omega
  rw [this]; rfl
 | k+1,n,h0,h=>by
  rw [Int.pow_succ] at h
  rw [DY,aia,acZ k (n / 256) (by omega) (by omega)]
  show n / 256*256+((UInt8.ofNat (n % 256).toNat).toNat:Int)=n
  rw [aaO]; omega
theorem ac0 (x r:Bytes):N.lu ⟨x++r,0⟩ x.length=(x,⟨r,0⟩):=by
 unfold N.lu
 cases x with
 | nil=>rfl
 | cons c x =>
  have h1:bU ((c::x).length:Int) 0=false:=BK (by simp only [List.length_cons]; omega)
  have h2:aZ (((c::x++r).length:Nat):Int) ((c::x).length:Int)=false:=iG (by rw [List.length_append]; omega)
  simp only [h1,h2,cond_false,show ((0:Int) != 0)=false from rfl,Int.toNat_natCast,List.take_left,List.drop_left]
theorem lM (k:Nat) (hk:k<=8) (n:Int) (h0:0<=n) (h:n<256 ^ k) (r:Bytes):N.aN ⟨N.bW n k++r,0⟩ k=(n,⟨r,0⟩):=by
 unfold N.aN
 have e:(cond (aZ 8 (k:Int)) (8:Int) k)=((N.bW n k).length:Int):=by rw [iG (by omega),fB]; rfl
 rw [e,ac0]
 show (N.be (N.bW n k) 0,_)=_
 rw [acZ k n h0 h]
theorem wF (s:Bytes) (m:Int) (hs:s.length<=m) (hm:m<=65535) (r:Bytes):N.cO ⟨N.dS s++r,0⟩ m=(s,⟨r,0⟩):=by
 unfold N.cO N.dS
 rw [List.append_assoc]
 have e:=lM 2 (by decide) s.length (by omega) (by show (s.length:Int)<65536; omega) (s++r)
 have e' : N.aN ⟨N.bW s.length 2++(s++r),0⟩ 2=((s.length:Int),⟨s++r,0⟩):=e
 rw [e']
 show N.lu (cond (aZ m (IntKind.wrap .i64 s.length)) _ _) (IntKind.wrap .i64 s.length)=_
 rw [wrap_i64 (n:=(s.length:Int)) (by omega) (by omega),iG hs]
 exact ac0 s r
def wG (p:bG):Prop:=0<=p.kind∧p.kind<256∧-9223372036854775808<=p.num∧p.num<=9223372036854775807
theorem aeY {n:Int} (h1 : -9223372036854775808<=n) (h2:n<=9223372036854775807):IntKind.wrap .i64 (IntKind.wrap .u64 n)=n:=by
 simp only [IntKind.wrap,IntKind.signed,IntKind.bits]
 simp
 omega
theorem Ot {p:bG} {l:List bG} (h:N.lC p l=0):p.key.length<=16∧p.kind<=2∧(p.kind=1->p.text.length<=64∧p.num=0)∧(p.kind=2->(p.num=0∨p.num=1))∧(p.kind ≠ 1->p.text=[]):=by
 unfold N.lC at h
 cases h1:N.name p.key==0 with
 | false =>
  rw [bne,h1] at h
  simp only [Bool.not_false,cond_true] at h
  rw [h] at h1; cases h1
 | true =>
  rw [bne,h1] at h
  simp only [Bool.not_true,cond_false] at h
  have hk:p.key.length<=16:=by
   unfold N.name at h1
   cases e1:p.key==[] with
   | true=>rw [e1] at h1; cases h1
   | false =>
    rw [e1] at h1
    cases e2:aZ 16 p.key.length with
    | true=>rw [e2] at h1; cases h1
    | false=>have:=fD e2; omega
  cases h2:aZ 2 p.kind with
  | true=>rw [h2] at h; cases h
  | false =>
   rw [h2] at h
   have h2:=fD h2
   simp only [cond_false] at h
   by_cases k1:p.kind=1
   .simp only [k1,beq_self_eq_true,cond_true,bne,show ((1:Int)==2)=false from rfl,cond_false,Bool.not_true] at h
    cases h3:aZ 64 p.text.length with
    | true=>rw [h3] at h; cases h
    | false =>
     rw [h3] at h
     have h3:=fD h3
     cases h4:p.num==0 with
     | false=>rw [h4] at h; cases h
     | true=>exact ⟨hk,by omega,fun _=>⟨by omega,by simpa using h4⟩,fun e=>by omega,fun e=>absurd k1 e⟩
   .have e1:(p.kind==1)=false:=by simpa using k1
    simp only [e1,cond_false,bne,Bool.not_false,cond_true] at h
    have ht:p.text=[]:=by
     cases h4:p.text==[] with
     | true=>simpa using h4
     | false =>
      rw [h4] at h
      revert h
      cases (cond (cond (p.kind==2) (!p.num==0) false) (!p.num==1) false)<;>intro h<;>cases h
    refine ⟨hk,by omega,fun e=>absurd e k1,fun e=>?_,fun _=>ht⟩
    simp only [e,beq_self_eq_true,cond_true] at h
    by_cases z:p.num=0
    .exact .inl z
    .by_cases o:p.num=1
     .exact .inr o
     .rw [show (p.num==0)=false by simpa using z,show (p.num==1)=false by simpa using o] at h
      cases h
theorem one_app {p:bG} {l:List bG} (ho:wG p) (h:N.lC p l=0) (r:Bytes):N.one ⟨N.wB p++r,0⟩=(p,⟨r,0⟩):=by
 obtain ⟨hk,h2,ht,hn,hx⟩:=Ot h
 obtain ⟨o1,o2,o3,o4⟩:=ho
 have hw:IntKind.wrap .u64 p.kind=p.kind:=wrap_u64 o1 (by omega)
 unfold N.one N.wB
 rw [hw,List.append_assoc,List.append_assoc,wF p.key 16 (by omega) (by decide)]
 show N.oneOf p.key (IntKind.wrap .u8 (N.aN ⟨N.bW p.kind 1++_,0⟩ 1).1) (N.aN ⟨N.bW p.kind 1++_,0⟩ 1).2=_
 have e:∀ x:Bytes,N.aN ⟨N.bW p.kind 1++x,0⟩ 1=(p.kind,⟨x,0⟩):=fun x=>lM 1 (by decide) p.kind o1 (by show p.kind<256; omega) x
 rw [e]
 have hw8:IntKind.wrap .u8 p.kind=p.kind:=by simp only [IntKind.wrap,IntKind.signed,IntKind.bits]; simp; omega
 show N.oneOf p.key (IntKind.wrap .u8 p.kind) ⟨_,0⟩=_
 rw [hw8]
 unfold N.oneOf
 rcases (by omega:p.kind=0∨p.kind=1∨p.kind=2) with k | k | k
 .have u:=wu64 p.num
  have e8:N.aN ⟨N.bW (IntKind.wrap .u64 p.num) 8++r,0⟩ 8=(IntKind.wrap .u64 p.num,⟨r,0⟩):=lM 8 (by decide) _ u.1 (by show _<(18446744073709551616:Int); exact u.2) r
  have hx:=hx (by omega)
  simp only [k,beq_self_eq_true,cond_true,e8,aeY o3 o4]
  cases p; simp_all
 .obtain ⟨t1,t2⟩:=ht k
  simp only [k,show ((1:Int)==0)=false from rfl,beq_self_eq_true,cond_true,cond_false,wF p.text 64 (by omega) (by decide)]
  cases p; simp_all
 .have hx:=hx (by omega)
  have hn:=hn k
  have hwn:IntKind.wrap .u64 p.num=p.num:=wrap_u64 (by omega) (by omega)
  have e1:N.aN ⟨N.bW p.num 1++r,0⟩ 1=(p.num,⟨r,0⟩):=lM 1 (by decide) _ (by omega) (by show p.num<256; omega) r
  simp only [k,show ((2:Int)==0)=false from rfl,show ((2:Int)==1)=false from rfl,beq_self_eq_true,cond_true,cond_false,hwn,e1,wrap_i64 o3 o4]
  cases p; simp_all
theorem yC (h:List bG):∀ (f:Nat) (i:Int),0<=i->N.fG h f i=0->∀ j:Nat,i<=j->(j:Int)<i+f->N.lC (h.getD j ku) (h.take j)=0
 | 0,i,_,_,j,h1,h2=>by omega
 | f+1,i,h0,hc,j,h1,h2=>by
  unfold N.fG at hc
  cases e:N.lC (h.getD i.toNat ku) (h.take i.toNat) != 0 with
  | true=>rw [e,cond_true] at hc; rw [hc] at e; cases e
  | false =>
   rw [e] at hc
   by_cases hj:(j:Int)=i
   .have:j=i.toNat:=by omega
    rw [this]; simpa using e
   .exact yC h f (i+1) (by omega) hc j (by omega) (by omega)
end Go.Ev

namespace Go.Ev
open Go Go.Proofs
set_option maxRecDepth 100000
def N.iI (k:Nat) (b:Int):Bool:=cond (aZ 8 b) (Nat.ble 8 k) (bU b k)
def qG (k:Nat):Den:=den (aO (cu .u64) (aW (cu .i64))) dw (oV fV) (fun a _=>cond (bU 0 a.1) (cond (aZ a.1 18446744073709551616) (N.iI k a.2) false) false) fun a _=>(N.bW a.1 (N.clamp a.2),())
def G5:Den:=den (aW fV) dw (oV fV) (fun s _=>Nat.ble s.length 65535) fun s _=>(N.dS s,())
namespace N
def nZ (p:bG):Bytes:=cond (p.kind==0) (dS p.key++bW (IntKind.wrap .u64 p.kind) 1++bW (IntKind.wrap .u64 p.num) 8) (cond (p.kind==1) (dS p.key++bW (IntKind.wrap .u64 p.kind) 1++dS p.text) (dS p.key++bW (IntKind.wrap .u64 p.kind) 1++bW (IntKind.wrap .u64 p.num) 1))
def mV:List bG->Bytes
 | []=>[] | p::r=>nZ p++mV r
def ji (h:List bG):Bytes:=bW (IntKind.wrap .u64 h.length) 1++mV h
end N
def RZ:Den:=den (aW (jY gG)) dw (oV fV) (fun h _=>cond (Nat.ble h.length 8) (h.all N.ET) false) fun h _=>(N.ji h,())
noncomputable def XL:Env:=env Tryz.prog [(104,qG 8)] [] []
theorem aeZ (s:Bytes):bM XL 105 ((aW fV).enc s) ([]) some =
 cond (bif aZ (IntKind.wrap .u64 (↑(List.length s):Int)) 18446744073709551616 then N.iI 8 2 else false) (cond (Nat.ble (2+List.length s) 9223372036854775807) (some {v:=.str (N.bW (IntKind.wrap .u64 (↑(List.length s):Int)) (N.clamp 2)++s),bx:=[]:aH}) none) none:=by kernel_rfl
theorem Fg (hR:bH Tryz.prog 104 (qG 8)):bH Tryz.prog 105 G5:=by
 refine aK (aT ((fK.nil _).cons hR)) (E:=XL) Tryz.func105 [] (by kernel_rfl) none0 fun s _ h=>?_
 have h:s.length<=65535:=aX h
 refine (aeZ s).trans ?_
 show _=some (⟨.str (N.dS s),[],[]⟩:aH)
 have w:IntKind.wrap .u64 (s.length:Int)=s.length:=wrap_u64 (by omega) (by omega)
 rw [w]
 simp (disch:=omega) only [evs,show N.iI 8 2=true from rfl]
 try rfl
def XM:fP:={ fr:=[(3,.str),(10,.slc yP),(11,.int .i64),(12,.int .i64)],tab:=[] }
def Si:List Leaf->(Ex->St->Option R)->Option R
 | [.s s,.r r,.i n,.i i],K=>cond (n==r.length) (cond (bU 0 i) (cond (Nat.ble r.length 8) (cond ((eX r).all N.ET) (cond (bU s.length (1+150*i))
   (K (.exit 0) { fr:=[(3,.str (s++N.mV ((eX r).drop i.toNat)))],tab:=[] }) none) none) none) none) none
 | _,_=>none
noncomputable def DZ:Env:=env Tryz.prog [(104,qG 8),(105,G5)] [(3,dJ XM Si)] [(3,[(0,[3,10,11,12]),(1,[3]),(1000,[2])])]
theorem aaP (h:List bG):type_of% (by
  have h:bM DZ 164 (((aW (jY gG)).enc h)) ([]) some =(
   let z0:=(List.map yE h);let z1:=(List.map yD z0);let z2:=(↑(List.length z0):Int);cond (bif aZ (IntKind.wrap .u64 z2) 18446744073709551616 then N.iI 8 1 else false) (cond (z2==z2) (cond (Nat.ble (List.length z0) 8) (cond (List.all z1 N.ET) (some {v:=.str (N.bW (IntKind.wrap .u64 z2) (N.clamp 1)++N.mV (List.drop 0 z1)),bx:=[]:aH}) none) none) none) none):=by kernel_rfl
  dsimp only at h;exact h):=by kernel_rfl
theorem Ko (s3:Bytes) (r10:List (List V)) (i11:Int) (i12:Int) (K:Ex->St->Option R):type_of% (by
  have h:bI DZ 164 3 { fr:=[(3,.str s3),(10,.slc yP r10),(11,.int .i64 i11),(12,.int .i64 i12)],tab:=[] } K =(
   let z0:=(List.getD r10 (Int.toNat i12) []);let z1:=(IntKind.wrap .u64 (V.toInt (z0.getD 1 .undef)));let z2:=(IntKind.wrap .u64 (V.toInt (z0.getD 2 .undef)));let z3:=(V.toStr (z0.getD 0 .undef));let z4:=(s3++N.dS z3++N.bW z1 (N.clamp 1));let z5:=(IntKind.wrap .i64 (i12+1));let z6:=(V.toStr (z0.getD 3 .undef));cond (aZ i12 i11) (cond (decide (0<=i12∧i12<(↑(List.length r10):Int))) (cond (Nat.ble (List.length z3) 65535) (cond (Nat.ble (List.length s3+List.length (N.dS z3)) 9223372036854775807) (cond (bif bU 0 z1 then bif aZ z1 18446744073709551616 then N.iI 8 1 else false else false) (cond (Nat.ble (List.length (s3++N.dS z3)+1) 9223372036854775807) (cond (V.toInt (z0.getD 1 .undef)==0) (cond (bif bU 0 z2 then bif aZ z2 18446744073709551616 then N.iI 8 8 else false else false) (cond (Nat.ble (List.length z4+8) 9223372036854775807) (K .normal {fr:=[(3,.str (s3++N.dS z3++N.bW z1 (N.clamp 1)++N.bW z2 (N.clamp 8))),(10,.slc yP r10),(11,.int .i64 i11),(12,.int .i64 z5)],tab:=[]:St}) none) none) (cond (V.toInt (z0.getD 1 .undef)==1) (cond (Nat.ble (List.length z6) 65535) (cond (Nat.ble (List.length z4+List.length (N.dS z6)) 9223372036854775807) (K .normal {fr:=[(3,.str (s3++N.dS z3++N.bW z1 (N.clamp 1)++N.dS z6)),(10,.slc yP r10),(11,.int .i64 i11),(12,.int .i64 z5)],tab:=[]:St}) none) none) (cond (bif bU 0 z2 then bif aZ z2 18446744073709551616 then N.iI 8 1 else false else false) (cond (Nat.ble (List.length z4+1) 9223372036854775807) (K .normal {fr:=[(3,.str (s3++N.dS z3++N.bW z1 (N.clamp 1)++N.bW z2 (N.clamp 1))),(10,.slc yP r10),(11,.int .i64 i11),(12,.int .i64 z5)],tab:=[]:St}) none) none))) none) none) none) none) none) (K (.exit 0) {fr:=[(3,.str s3)],tab:=[]:St})):=by kernel_rfl
  dsimp only at h;exact h):=by kernel_rfl
theorem XO (hR:bH Tryz.prog 104 (qG 8)):bH Tryz.prog 164 RZ:=by
 refine aK (aT (((fK.nil _).cons (Fg hR)).cons hR)) (E:=DZ) Tryz.func164 [3] (by kernel_rfl) (one1 (bf rfl fun l K q h=>?_)) fun h _ hp=>?_
 .unfold Si at h
  split at h
  .rename_i s r n i
   replace h:=Ed h;obtain ⟨h1,h3,h4,h5,h6,h⟩:=h
   have e1:=aY h1
   subst e1
   have h4:r.length<=8:=aX h4
   refine dD (E:=DZ) (f:=164) (id:=3) (σ:=Int × Bytes) (fun x=>{ fr:=[(3,.str x.2),(10,.slc yP r),(11,.int .i64 r.length),(12,.int .i64 x.1)],tab:=[] })
    (fun x=>0<=x.1∧(x.2.length:Int)<=1+150*x.1) (fun x=>r.length-x.1.toNat)
    (fun x K=>K (.exit 0) { fr:=[(3,.str (x.2++N.mV ((eX r).drop x.1.toNat)))],tab:=[] }) ?_ (i,s) ⟨bQ h3,bQ h6⟩ K q (by assumption)
   rintro ⟨i,s⟩ ⟨hi,hs⟩
   simp only at hi hs ⊢
   by_cases hl:i<r.length
   .have hlt:i.toNat<r.length:=by omega
    have hfit:N.ET (rowP (r.getD i.toNat []))=true:=List.all_eq_true.1 h5 _ (by
     rw [List.getD_eq_getElem?_getD,List.getElem?_eq_getElem hlt]; exact List.mem_map_of_mem (List.getElem_mem _))
    obtain ⟨f1,f2⟩:=aP hfit
    have f1:(V.toStr (List.getD (List.getD r i.toNat []) 0 V.undef)).length<=64:=aX f1
    have f2:(V.toStr (List.getD (List.getD r i.toNat []) 3 V.undef)).length<=64:=aX f2
    have u1:=wu64 (V.toInt (List.getD (List.getD r i.toNat []) 1 V.undef))
    have u2:=wu64 (V.toInt (List.getD (List.getD r i.toNat []) 2 V.undef))
    rw [pU hlt]
    have e:N.mV (rowP (r.getD i.toNat [])::(eX r).drop (i.toNat+1))=N.nZ (rowP (r.getD i.toNat []))++N.mV ((eX r).drop (i.toNat+1)):=rfl
    rw [e,<- List.append_assoc]
    have hlen:(N.nZ (rowP (r.getD i.toNat []))).length<=150:=by
     unfold N.nZ rowP
     cases V.toInt (List.getD (List.getD r i.toNat []) 1 V.undef)==0<;>cases V.toInt (List.getD (List.getD r i.toNat []) 1 V.undef)==1<;>simp only [cond_true,cond_false,fB,kF,List.length_append]<;>omega
    refine .inl ⟨(i+1,s++N.nZ (rowP (r.getD i.toNat []))),⟨by simp only; omega,by simp only [List.length_append]; omega⟩,by simp only; omega,fun K=>?_,fun K=>?_⟩
    .rw [Ko]
     unfold N.nZ rowP
     simp (disch:=omega) only [evs,kF,fB,show N.iI 8 1=true from rfl,show N.iI 8 8=true from rfl,show N.clamp 1=1 from rfl,show N.clamp 8=8 from rfl]
     cases V.toInt (List.getD (List.getD r i.toNat []) 1 V.undef)==0<;>cases V.toInt (List.getD (List.getD r i.toNat []) 1 V.undef)==1<;>simp only [cond_true,cond_false,List.append_assoc]
    .rw [show (i+1).toNat=i.toNat+1 by omega]
   .refine .inr ⟨.exit 0,{ fr:=[(3,.str s)],tab:=[] },by simp,fun K=>?_,fun K=>?_⟩
    .rw [Ko]
     simp (disch:=omega) only [evs]
    .rw [List.drop_eq_nil_of_le (by rw [jU]; omega)]
     show K _ { fr:=[(3,.str (s++[]))],tab:=[] }=_
     rw [List.append_nil]
  .cases h
 .obtain ⟨c1,c2⟩:=aP hp
  have c1:h.length<=8:=aX c1
  refine (aaP h).trans ?_
  show _=some (⟨.str (N.ji h),[],[]⟩:aH)
  have u:=wu64 (h.length:Int)
  simp (disch:=omega) only [evs,fO,c2,List.drop_zero,show N.iI 8 1=true from rfl,show N.clamp 1=1 from rfl]
  try rfl
end Go.Ev

namespace Go.Ev
open Go Go.Proofs
set_option maxRecDepth 100000
noncomputable def XP:Env:=env Tryz.prog [] [] []
noncomputable def ac1 (k:Nat):Env:=env Tryz.prog [(104,qG k)] [] []
theorem ae0 (n b:Int):bM XP 104 ((aO (cu .u64) (aW (cu .i64))).enc (n,b)) ([]) some =
 cond (aZ 8 b) none (cond (bU b 0) (some {v:=.str [],bx:=[]:aH}) none):=by kernel_rfl
theorem aib (k:Nat) (n b:Int):type_of% (by
  have h:bM (ac1 k) 104 ((aO (cu .u64) (aW (cu .i64))).enc (n,b)) ([]) some =(
   let z0:=(IntKind.wrap .u64 (Int.tdiv n 256));let z4:=(IntKind.wrap .i64 ((8 : Int)-1));let z1:=(bif bif bif bU 0 z0 then bif aZ z0 18446744073709551616 then N.iI k z4 else false else false then true else false then true else false);let z3:=(IntKind.wrap .i64 (b-1));let z2:=(bif bif bif bU 0 z0 then bif aZ z0 18446744073709551616 then N.iI k z3 else false else false then true else false then true else false);cond (aZ 8 b) (cond z1 (cond z1 (cond (bif bU 0 z0 then bif aZ z0 18446744073709551616 then N.iI k z4 else false else false) (some {v:=.str (N.bW z0 (N.clamp z4)++nN [[V.int .u8 (IntKind.wrap .u8 (Int.tmod n 256))]]),bx:=[]:aH}) none) none) none) (cond (bU b 0) (some {v:=.str [],bx:=[]:aH}) (cond z2 (cond z2 (cond (bif bU 0 z0 then bif aZ z0 18446744073709551616 then N.iI k z3 else false else false) (cond (Nat.ble (List.length (N.bW z0 (N.clamp z3))+1) 9223372036854775807) (some {v:=.str (N.bW z0 (N.clamp z3)++nN [[V.int .u8 (IntKind.wrap .u8 (Int.tmod n 256))]]),bx:=[]:aH}) none) none) none) none))):=by kernel_rfl
  dsimp only at h;exact h):=by kernel_rfl
theorem ae1 {b:Int} (h1:1<=b) (h2:b<=8):N.clamp b=N.clamp (b-1)+1:=by
 unfold N.clamp
 by_cases h:b=1
 .subst h; rfl
 .rw [dK (show (0:Int)<b by omega),iG (show b<=8 from h2),dK (show (0:Int)<b-1 by omega),iG (show b-1<=8 by omega)]
  simp only [cond_true,cond_false]; omega
theorem aic {n:Int} (h:0<=n):Int.tdiv n 256=n / 256:=Int.tdiv_eq_ediv_of_nonneg h
theorem aie {n:Int} (h:0<=n):Int.tmod n 256=n % 256:=Int.tmod_eq_emod_of_nonneg h
theorem wrap_u8' {n:Int} (h1:0<=n) (h2:n<256):IntKind.wrap .u8 n=n:=by
 simp only [IntKind.wrap,IntKind.signed,IntKind.bits]
 simp
 omega
theorem aaQ:bH Tryz.prog 104 (qG 0):=by
 refine aK (aT (fK.nil _)) (E:=XP) Tryz.func104 [] (by kernel_rfl) none0 fun a _ h=>?_
 obtain ⟨n,b⟩:=a
 obtain ⟨h1,h⟩:=aP h
 obtain ⟨h2,h⟩:=aP h
 have h:cond (aZ 8 b) (Nat.ble 8 0) (bU b 0)=true:=h
 refine (ae0 n b).trans ?_
 cases e:aZ 8 b with
 | true=>rw [e] at h; cases h
 | false =>
  rw [e] at h
  have h:bU b 0=true:=h
  have h':=bQ h
  show cond false none (cond (bU b 0) _ none)=some (⟨.str (N.bW n (N.clamp b)),[],[]⟩:aH)
  rw [h]
  have:N.clamp b=0:=by unfold N.clamp; rw [iG h']; rfl
  rw [this]; rfl
theorem aaR (k:Nat) (hk:bH Tryz.prog 104 (qG k)):bH Tryz.prog 104 (qG (k+1)):=by
 refine aK (aT ((fK.nil _).cons hk)) (E:=ac1 k) Tryz.func104 [] (by kernel_rfl) none0 fun a _ h=>?_
 obtain ⟨n,b⟩:=a
 obtain ⟨h1,h⟩:=aP h
 obtain ⟨h2,h⟩:=aP h
 have h:cond (aZ 8 b) (Nat.ble 8 (k+1)) (bU b ((k+1:Nat):Int))=true:=h
 have h1:0<=n:=bQ h1
 have h2:n<18446744073709551616:=jZ h2
 refine (aib k n b).trans ?_
 show _=some (⟨.str (N.bW n (N.clamp b)),[],[]⟩:aH)
 have w1:IntKind.wrap .u64 (n / 256)=n / 256:=wrap_u64 (by omega) (by omega)
 have w2:IntKind.wrap .u8 (n % 256)=n % 256:=wrap_u8' (by omega) (by omega)
 have w3:IntKind.wrap .i64 ((8:Int)-1)=7:=rfl
 have es:nN [[V.int .u8 (n % 256)]]=[UInt8.ofNat (n % 256).toNat]:=rfl
 rw [aic h1,aie h1,w1,w2,w3,es]
 have c1:bU 0 (n / 256)=true:=dX (by omega)
 have c2:aZ (n / 256) 18446744073709551616=true:=dK (by omega)
 rw [c1,c2]
 simp only [cond_true]
 cases e:aZ 8 b with
 | true =>
  rw [e] at h
  have h:8<=k+1:=aX h
  have hb:=jZ e
  have f7:N.iI k 7=true:=by unfold N.iI; rw [iG (by omega),cond_false]; exact dX (by omega)
  have hc:N.clamp b=8:=by unfold N.clamp; rw [dK (by omega),e]; rfl
  rw [f7,hc]
  simp only [cond_true]
  rw [show N.clamp 7=7 from rfl,<- DY]
 | false =>
  rw [e] at h
  have h:b<=(k+1:Nat):=bQ h
  have hb:=fD e
  simp only [cond_false]
  cases e2:bU b 0 with
  | true =>
   have h':=bQ e2
   have:N.clamp b=0:=by unfold N.clamp; rw [iG h']; rfl
   rw [this]; rfl
  | false =>
   have h0:=lW e2
   have w4:IntKind.wrap .i64 (b-1)=b-1:=dY (by omega) (by omega)
   have f:N.iI k (b-1)=true:=by unfold N.iI; rw [iG (by omega),cond_false]; exact dX (by omega)
   rw [w4,f,ae1 (by omega) hb,DY]
   have hl:(N.bW (n / 256) (N.clamp (b-1))).length<=8:=by
    rw [fB]; unfold N.clamp
    rw [iG (show b-1<=8 by omega)]
    cases aZ 0 (b-1)<;>simp only [cond_true,cond_false]<;>omega
   simp (disch:=omega) only [evs]
theorem tu:∀ k,bH Tryz.prog 104 (qG k)
 | 0=>aaQ
 | k+1=>aaR k (tu k)
end Go.Ev
