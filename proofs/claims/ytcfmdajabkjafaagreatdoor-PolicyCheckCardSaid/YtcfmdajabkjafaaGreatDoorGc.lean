/- A loop's head: the renaming keeps the relation: lemmas. -/
import Derived.Test.YtcfmdajabkjafaaGreatDoorGb
import Derived.ProofKit
import Derived.Test.YtcfmdajabkjafaaGreatDoorProg
import Derived.KernelRfl
import Derived.Shelf.Strings.Builder1
import Derived.RegionTactic
import Derived.Deep.RegionWith
namespace Go.Ev
open Go Go.RowKit
def Ext (G G' : Nat→Option Real):Prop:=∀ d br,G d=some br→G' d=some br
theorem Ext.refl (G:Nat→Option Real):Ext G G:=fun _ _ h=>h
theorem Ext.trans {A B C:Nat→Option Real} (h:Ext A B) (k:Ext B C):Ext A C:=fun d br hd=>k d br (h d br hd)
theorem Ext.evo {A B:Nat→Option Real} (h:Ext A B):Evo A B:=fun d br hd=>⟨br,h d br hd,.inl rfl⟩
theorem ext_upd {G:Nat→Option Real} {id:Nat} (hn:G id=none) (br:Real):Ext G (upd G id br):=fun d b hd=>by
 unfold upd; rw [if_neg (fun e=>by subst e; rw [hn] at hd; cases hd)]; exact hd
def Real.new (br:Real):Real:={ br with gen:=0 }
def Kind (S:St) (d:Nat) (box:Box):Prop:=(IsSl S d∧∃ sh rows g,box = .sl sh rows g)∨((∃ cells,lk? S.tab d=some (.var cells))∧∃ cells',box = .var cells')
structure CInv (S:St) (ρ:Nat→Option Real) (w:World) (I:Nat→Nat→Prop) (c:Can) (G:Nat→Option Real) (Pn:List Nat):Prop where
 mapd:∀ d d',lk? c.m d=some d'→∃ br,ρ d=some br∧Live S d∧G d' = some br.new
 inj:∀ d e d',lk? c.m d=some d'→lk? c.m e=some d'→d=e
 dom:∀ d' br,G d' = some br→(∃ d,lk? c.m d=some d')∨(br.base=none)
 fresh:∀ d' br,G d' = some br→d' < CAN+c.n
 tabd:∀ d' box,lk? c.tab d' = some box→∃ br,G d' = some br∧∀ G',Ext G G'→BoxR w I G' box br
 kind:∀ d d' box,lk? c.m d=some d'→lk? c.tab d' = some box→Kind S d box
 done:∀ d' br,G d' = some br→d'∈Pn∨∃ box,lk? c.tab d' = some box
 pend:∀ d',d'∈Pn→lk? c.tab d' = none∧d' < CAN+c.n
section
variable {m:Nat} {S:St}
theorem lk_cons {α:Type} (d:Nat) (v:α) (l:List (Nat × α)) (t:Nat):lk? ((d,v)::l) t=if t=d then some v else lk? l t:=by
 simp only [lk?]
 by_cases e:t=d
 ·subst e; simp
 ·have e' : Nat.beq t d=false:=by rw [Bool.eq_false_iff]; exact fun hh=>e (Nat.eq_of_beq_eq_true hh)
  rw [e',if_neg e]; rfl
theorem CInv.none_new {ρ:Nat→Option Real} {w:World} {I:Nat→Nat→Prop} {c:Can} {G:Nat→Option Real} {Pn:List Nat} (h:CInv S ρ w I c G Pn):G (CAN+c.n)=none∧lk? c.tab (CAN+c.n)=none:=by
 have h1:G (CAN+c.n)=none:=by
  cases e:G (CAN+c.n) with
  | none=>rfl
  | some br=>have:=h.fresh _ _ e; omega
 refine ⟨h1,?_⟩
 cases e:lk? c.tab (CAN+c.n) with
 | none=>rfl
 | some box=>obtain ⟨br,h2,_⟩:=h.tabd _ _ e; rw [h1] at h2; cases h2
theorem CInv.push {ρ:Nat→Option Real} {w:World} {I:Nat→Nat→Prop} {c:Can} {G:Nat→Option Real} {Pn:List Nat} (h:CInv S ρ w I c G Pn) {d:Nat} (hd:lk? c.m d=none) {br:Real} (hρ:ρ d=some br) (hl:Live S d) :
  CInv S ρ w I { c with m:=(d,CAN+c.n)::c.m,n:=c.n+1 } (upd G (CAN+c.n) br.new) ((CAN+c.n)::Pn):=by
 obtain ⟨n1,n2⟩:=h.none_new
 have hx:=ext_upd n1 br.new
 have old:∀ e d',lk? ((d,CAN+c.n)::c.m) e=some d'→(e=d∧d' = CAN+c.n)∨(e ≠ d∧lk? c.m e=some d'∧d' ≠ CAN+c.n):=fun e d' he=>by
  rw [lk_cons] at he
  by_cases e' : e=d
  ·rw [if_pos e'] at he; exact .inl ⟨e',(Option.some.inj he).symm⟩
  ·rw [if_neg e'] at he
   refine .inr ⟨e',he,fun e2=>?_⟩
   obtain ⟨br,_,_,hg⟩:=h.mapd e d' he
   rw [e2,n1] at hg; cases hg
 refine ⟨fun e d' he=>?_,fun e e' d' he he'=>?_,fun d' b hg=>?_,fun d' b hg=>?_,fun d' box hb=>?_,fun e d' box he hb=>?_,fun d' b hg=>?_,fun d' hp=>?_⟩
 ·rcases old e d' he with ⟨rfl,rfl⟩ | ⟨_,he,hne⟩
  ·exact ⟨br,hρ,hl,by simp [upd]⟩
  ·obtain ⟨b,h1,h2,h3⟩:=h.mapd e d' he
   exact ⟨b,h1,h2,hx _ _ h3⟩
 ·rcases old e d' he with ⟨rfl,rfl⟩ | ⟨_,h1,hne⟩
  ·rcases old e' _ he' with ⟨rfl,_⟩ | ⟨_,_,hne⟩
   ·rfl
   ·exact absurd rfl hne
  ·rcases old e' d' he' with ⟨_,e2⟩ | ⟨_,h2,_⟩
   ·exact absurd e2 hne
   ·exact h.inj e e' d' h1 h2
 ·unfold upd at hg
  by_cases e:d' = CAN+c.n
  ·exact .inl ⟨d,by simp only [lk_cons,if_true,e]⟩
  ·rw [if_neg e] at hg
   rcases h.dom d' b hg with ⟨f,hf⟩ | hb
   ·refine .inl ⟨f,?_⟩
    simp only [lk_cons]
    rw [if_neg (fun e2=>by subst e2; rw [hd] at hf; cases hf)]; exact hf
   ·exact .inr hb
 ·unfold upd at hg
  by_cases e:d' = CAN+c.n
  ·simp only; omega
  ·rw [if_neg e] at hg
   have:=h.fresh d' b hg
   simp only; omega
 ·obtain ⟨b,h1,h2⟩:=h.tabd d' box hb
  exact ⟨b,hx _ _ h1,fun G' hG'=>h2 G' (hx.trans hG')⟩
 ·rcases old e d' he with ⟨rfl,rfl⟩ | ⟨_,he,_⟩
  ·rw [n2] at hb; cases hb
  ·exact h.kind e d' box he hb
 ·unfold upd at hg
  by_cases e:d' = CAN+c.n
  ·exact .inl (by simp [e])
  ·rw [if_neg e] at hg
   rcases h.done d' b hg with h1 | h1
   ·exact .inl (List.mem_cons_of_mem _ h1)
   ·exact .inr h1
 ·rcases List.mem_cons.1 hp with rfl | hp
  ·exact ⟨n2,by simp only; omega⟩
  ·exact ⟨(h.pend d' hp).1,by have:=(h.pend d' hp).2; simp only; omega⟩
theorem CInv.pop {ρ:Nat→Option Real} {w:World} {I:Nat→Nat→Prop} {c:Can} {G:Nat→Option Real} {Pn:List Nat} (h:CInv S ρ w I c G Pn) {id:Nat} (hp:id∈Pn) {Pn' : List Nat} (hPn:∀ d,d∈Pn→d=id∨d∈Pn') (hPn' : ∀ d,d∈Pn'→d∈Pn∧d ≠ id)
  {box:Box} {br:Real} (hg:G id=some br) (hb:∀ G',Ext G G'→BoxR w I G' box br) (hk:∀ d,lk? c.m d=some id→Kind S d box):CInv S ρ w I { c with tab:=c.tab++[(id,box)] } G Pn':=by
 have hn:=(h.pend id hp).1
 have tabs:∀ d' bx,lk? (c.tab++[(id,box)]) d' = some bx→(d' = id∧bx=box)∨lk? c.tab d' = some bx:=fun d' bx hbx=>by
  rw [lk_append] at hbx
  split at hbx
  ·rename_i x hx; rw [hx]; exact .inr hbx
  ·by_cases e:d' = id
   ·rw [if_pos e] at hbx; exact .inl ⟨e,(Option.some.inj hbx).symm⟩
   ·rw [if_neg e] at hbx; cases hbx
 refine ⟨h.mapd,h.inj,h.dom,h.fresh,fun d' bx hbx=>?_,fun e d' bx he hbx=>?_,fun d' b hg'=>?_,fun d' hp'=>?_⟩
 ·rcases tabs d' bx hbx with ⟨rfl,rfl⟩ | hbx
  ·exact ⟨br,hg,hb⟩
  ·exact h.tabd d' bx hbx
 ·rcases tabs d' bx hbx with ⟨rfl,rfl⟩ | hbx
  ·exact hk e he
  ·exact h.kind e d' bx he hbx
 ·simp only [lk_append]
  rcases h.done d' b hg' with h1 | ⟨bx,h1⟩
  ·rcases hPn d' h1 with rfl | h2
   ·exact .inr ⟨box,by rw [hn]; simp⟩
   ·exact .inl h2
  ·exact .inr ⟨bx,by rw [h1]⟩
 ·obtain ⟨h1,h2⟩:=hPn' d' hp'
  refine ⟨?_,(h.pend d' h1).2⟩
  simp only [lk_append]
  rw [(h.pend d' h1).1]; simp [h2]
theorem CInv.nil {ρ:Nat→Option Real} {w:World} {I:Nat→Nat→Prop} {c:Can} {G:Nat→Option Real} {Pn:List Nat} (h:CInv S ρ w I c G Pn) (sh:List Sh) :
  CInv S ρ w I { c with tab:=c.tab++[(CAN+c.n,.sl sh [] 0)],n:=c.n+1 } (upd G (CAN+c.n) { base:=none,sz:=sh.length,n:=0,cap:=0,gen:=0 }) Pn:=by
 obtain ⟨n1,n2⟩:=h.none_new
 have hx:=ext_upd n1 { base:=none,sz:=sh.length,n:=0,cap:=0,gen:=0 }
 have tabs:∀ d' bx,lk? (c.tab++[(CAN+c.n,.sl sh [] 0)]) d' = some bx→(d' = CAN+c.n∧bx = .sl sh [] 0)∨lk? c.tab d' = some bx:=fun d' bx hbx=>by
  rw [lk_append] at hbx
  split at hbx
  ·rename_i x hx; rw [hx]; exact .inr hbx
  ·by_cases e:d' = CAN+c.n
   ·rw [if_pos e] at hbx; exact .inl ⟨e,(Option.some.inj hbx).symm⟩
   ·rw [if_neg e] at hbx; cases hbx
 refine ⟨fun e d' he=>?_,h.inj,fun d' b hg=>?_,fun d' b hg=>?_,fun d' bx hbx=>?_,fun e d' bx he hbx=>?_,fun d' b hg=>?_,fun d' hp=>?_⟩
 ·obtain ⟨b,h1,h2,h3⟩:=h.mapd e d' he
  exact ⟨b,h1,h2,hx _ _ h3⟩
 ·unfold upd at hg
  by_cases e:d' = CAN+c.n
  ·rw [if_pos e] at hg; cases hg; exact .inr rfl
  ·rw [if_neg e] at hg; exact h.dom d' b hg
 ·unfold upd at hg
  by_cases e:d' = CAN+c.n
  ·simp only; omega
  ·rw [if_neg e] at hg
   have:=h.fresh d' b hg
   simp only; omega
 ·rcases tabs d' bx hbx with ⟨rfl,rfl⟩ | hbx
  ·exact ⟨{ base:=none,sz:=sh.length,n:=0,cap:=0,gen:=0 },by simp [upd],fun G' _=>⟨rfl,rfl,rfl,Nat.le_refl _,rfl,fun _=>rfl,(fun b o hb=>by cases hb),fun b o hb=>by cases hb⟩⟩
  ·obtain ⟨b,h1,h2⟩:=h.tabd d' bx hbx
   exact ⟨b,hx _ _ h1,fun G' hG'=>h2 G' (hx.trans hG')⟩
 ·rcases tabs d' bx hbx with ⟨rfl,rfl⟩ | hbx
  ·obtain ⟨b,_,_,h3⟩:=h.mapd e _ he
   rw [n1] at h3; cases h3
  ·exact h.kind e d' bx he hbx
 ·simp only [lk_append]
  unfold upd at hg
  by_cases e:d' = CAN+c.n
  ·subst e; rw [n2]; exact .inr ⟨.sl sh [] 0,by simp⟩
  ·rw [if_neg e] at hg
   rcases h.done d' b hg with h1 | ⟨bx,h1⟩
   ·exact .inl h1
   ·exact .inr ⟨bx,by rw [h1]⟩
 ·obtain ⟨p1,p2⟩:=h.pend d' hp
  refine ⟨?_,by simp only; omega⟩
  simp only [lk_append]
  rw [p1]; simp; omega
def MapExt (c c' : Can):Prop:=∀ d d',lk? c.m d=some d'→lk? c'.m d=some d'
def VOk (m:Nat) (S:St) (f:Nat):Prop:=∀ (v:V) (c:Can) (K:V→Can→Option R) (q:R),canV S f v c K=some q→∃ v' c',K v' c' = some q∧MapExt c c' ∧
 ∀ w₀ I₀ O₀ ρ I a w,Rel m w₀ I₀ O₀ ρ I S a w→∀ G Pn,CInv S ρ w I c G Pn→∃ G',Ext G G'∧CInv S ρ w I c' G' Pn∧∀ x,Rv w I ρ v x→∀ G'',Ext G' G''→Rv w I G'' v' x
def LOk (m:Nat) (S:St) (f:Nat):Prop:=∀ (vs:List V) (c:Can) (K:List V→Can→Option R) (q:R),canL S f vs c K=some q→∃ vs' c',K vs' c' = some q∧MapExt c c'∧vs'.length=vs.length ∧
 ∀ w₀ I₀ O₀ ρ I a w,Rel m w₀ I₀ O₀ ρ I S a w→∀ G Pn,CInv S ρ w I c G Pn→∃ G',Ext G G'∧CInv S ρ w I c' G' Pn∧∀ xs,AllRv w I ρ vs xs→∀ G'',Ext G' G''→AllRv w I G'' vs' xs
theorem mapExt_push {c:Can} {d n' : Nat} {t:List (Nat × Box)} {k:Nat} (hd:lk? c.m d=none):MapExt c { m:=(d,n')::c.m,tab:=t,n:=k }:=fun e d' he=>by
 simp only [lk_cons]
 rw [if_neg (fun e2=>by subst e2; rw [hd] at he; cases he)]; exact he
theorem CInv.slice {ρ:Nat→Option Real} {w:World} {I:Nat→Nat→Prop} {c:Can} {G:Nat→Option Real} {Pn:List Nat} (h:CInv S ρ w I c G Pn) {d:Nat} (hd:lk? c.m d=none) {br:Real} (hρ:ρ d=some br) {sh:List Sh} {rows:List (List V)} {gen:Nat}
  (ht:lk? S.tab d=some (.sl sh rows gen)) (hb:BoxR w I ρ (.sl sh rows gen) br) :
  CInv S ρ w I { m:=(d,CAN+c.n)::c.m,tab:=c.tab++[(CAN+c.n,.sl sh rows 0)],n:=c.n+1 } (upd G (CAN+c.n) br.new) Pn:=by
 have h1:=h.push hd hρ ⟨_,ht,by simp⟩
 refine h1.pop (id:=CAN+c.n) (br:=br.new) (box:=.sl sh rows 0) List.mem_cons_self (fun e he=>(List.mem_cons.1 he).imp id id) (fun e he=>⟨List.mem_cons_of_mem _ he,fun e2=>?_⟩) (by simp [upd]) (fun G' _=>?_) fun e he=>?_
 ·subst e2; have:=(h.pend _ he).2; omega
 ·obtain ⟨e1,e2,e3,e4,e5,e6,e7,e8⟩:=hb
  exact ⟨e1,e2,rfl,e4,e5,e6,e7,e8⟩
 ·have:e=d:=h1.inj e d _ he (by simp only [lk_cons,if_true])
  subst this
  exact .inl ⟨⟨_,_,_,ht⟩,_,_,_,rfl⟩
theorem own_new {w:World} {I:Nat→Nat→Prop} {ρ G:Nat→Option Real} {d g d' : Nat} {x:Value} {br:Real} (h:Rv w I ρ (.own d g) x) (hρ:ρ d=some br) (hg:g=br.gen) (hG:G d' = some br.new):Rv w I G (.own d' 0) x:=by
 cases h with
 | dat h=>cases h
 | own _ _ br' _ hd' _ hh hp =>
  rw [hρ] at hd'; cases hd'
  exact .own d' 0 br.new x hG (Nat.le_refl _) (fun _=>hh hg) hp
theorem ptr_new {w:World} {I:Nat→Nat→Prop} {ρ G:Nat→Option Real} {d r o g d' : Nat} {x:Value} {br:Real} (h:Rv w I ρ (.ptr d r o g) x) (hρ:ρ d=some br) (hg:g=br.gen) (hG:G d' = some br.new):Rv w I G (.ptr d' r o 0) x:=by
 cases h with
 | dat h=>cases h
 | ptr _ _ _ _ br' _ hd' _ hh hp =>
  rw [hρ] at hd'; cases hd'
  exact .ptr d' r o 0 br.new x hG (Nat.le_refl _) (fun _=>hh hg) hp
def NoBox:V→Prop
 | .ptr ..=>False | .ptx ..=>False | .own ..=>False | .agg _=>False | .fn ..=>False | .tup _=>False | _=>True
theorem plain_new {w:World} {I:Nat→Nat→Prop} {ρ:Nat→Option Real} {v:V} {x:Value} (h:Rv w I ρ v x) (hv:NoBox v) (G:Nat→Option Real):Rv w I G v x:=by
 cases h with
 | dat h=>exact .dat h
 | undef x=>exact .undef x
 | emp sh q=>exact .emp sh q
 | nn sh q cap=>exact .nn sh q cap
 | nilp=>exact .nilp
 | cref cells b o val hc hd=>exact .cref cells b o val hc hd
 | nilf=>exact .nilf
 | nili=>exact .nili
 | ifc b x h1 h2=>exact .ifc b x h1 h2
 | _=>exact hv.elim
theorem vok_plain {c:Can} {K:V→Can→Option R} {q:R} {v:V} (h:K v c=some q) (hv:NoBox v) :
  ∃ v' c',K v' c' = some q∧MapExt c c'∧∀ w₀ I₀ O₀ ρ I a w,Rel m w₀ I₀ O₀ ρ I S a w→∀ G Pn,CInv S ρ w I c G Pn→∃ G',Ext G G'∧CInv S ρ w I c' G' Pn∧∀ x,Rv w I ρ v x→∀ G'',Ext G' G''→Rv w I G'' v' x :=
 ⟨v,c,h,fun _ _ h=>h,fun _ _ _ _ _ _ _ _ G _ hc=>⟨G,Ext.refl G,hc,fun _ hx G'' _=>plain_new hx hv G''⟩⟩
theorem vok_undef {c:Can} {K:V→Can→Option R} {q:R} {v:V} (h:K .undef c=some q) :
  ∃ v' c',K v' c' = some q∧MapExt c c'∧∀ w₀ I₀ O₀ ρ I a w,Rel m w₀ I₀ O₀ ρ I S a w→∀ G Pn,CInv S ρ w I c G Pn→∃ G',Ext G G'∧CInv S ρ w I c' G' Pn∧∀ x,Rv w I ρ v x→∀ G'',Ext G' G''→Rv w I G'' v' x :=
 ⟨.undef,c,h,fun _ _ h=>h,fun _ _ _ _ _ _ _ _ G _ hc=>⟨G,Ext.refl G,hc,fun x _ _ _=>.undef x⟩⟩
theorem can_ok:∀ f,VOk m S f∧LOk m S f
 | 0=>by
  refine ⟨fun v c K q h=>?_,fun vs c K q h=>?_⟩
  ·simp only [canV] at h; cases h
  ·simp only [canL] at h; cases h
 | f+1=>by
  obtain ⟨ihV,ihL⟩:=can_ok f
  refine ⟨fun v c K q h=>?_,fun vs c K q h=>?_⟩
  ·cases v with
   | nils sh =>
    simp only [canV] at h
    refine ⟨_,_,h,fun _ _ h=>h,fun w₀ I₀ O₀ ρ I a w hr G Pn hc=>⟨_,ext_upd hc.none_new.1 _,hc.nil sh,fun x hx G'' hG=>?_⟩⟩
    cases hx with
    | dat hx =>
     cases hx
     exact .own _ 0 { base:=none,sz:=sh.length,n:=0,cap:=0,gen:=0 } _ (hG _ _ (by simp [upd])) (Nat.le_refl _) (fun _=>rfl) ⟨_,_,_,rfl⟩
   | own d g =>
    simp only [canV] at h
    split at h
    ·rename_i sh rows gen ht
     rcases cond_some h with ⟨hg,h⟩ | ⟨_,h⟩
     ·have hg:=Nat.eq_of_beq_eq_true hg
      split at h
      ·rename_i d' hd
       refine ⟨_,_,h,fun _ _ h=>h,fun w₀ I₀ O₀ ρ I a w hr G Pn hc=>⟨G,Ext.refl G,hc,fun x hx G'' hG=>?_⟩⟩
       obtain ⟨br,h1,_,h3⟩:=hc.mapd d d' hd
       obtain ⟨br',h4,h5⟩:=hr.tab d _ ht
       rw [h1] at h4; cases h4
       exact own_new hx h1 (hg.trans h5.2.2.1.symm) (hG _ _ h3)
      ·rename_i hd
       refine ⟨_,_,h,mapExt_push hd,fun w₀ I₀ O₀ ρ I a w hr G Pn hc=>?_⟩
       obtain ⟨br,h4,h5⟩:=hr.tab d _ ht
       exact ⟨_,ext_upd hc.none_new.1 _,hc.slice hd h4 ht h5,fun x hx G'' hG=>own_new hx h4 (hg.trans h5.2.2.1.symm) (hG _ _ (by simp [upd]))⟩
     ·exact vok_undef h
    ·exact vok_undef h
   | ptr d r o g =>
    simp only [canV] at h
    split at h
    ·rename_i cells ht
     have g0:∀ w₀ I₀ O₀ ρ I a w,Rel m w₀ I₀ O₀ ρ I S a w→∀ x,Rv w I ρ (.ptr d r o g) x→∃ br,ρ d=some br∧g=br.gen:=fun w₀ I₀ O₀ ρ I a w hr x hx=>by
      obtain ⟨br,h4,h5⟩:=hr.tab d _ ht
      cases hx with
      | dat hx=>cases hx
      | ptr _ _ _ _ br' _ hd' hgl _ _ =>
       rw [h4] at hd'; cases hd'
       exact ⟨br,h4,by have:=h5.2.2.2.1; omega⟩
     split at h
     ·rename_i d' hd
      refine ⟨_,_,h,fun _ _ h=>h,fun w₀ I₀ O₀ ρ I a w hr G Pn hc=>⟨G,Ext.refl G,hc,fun x hx G'' hG=>?_⟩⟩
      obtain ⟨br,h1,_,h3⟩:=hc.mapd d d' hd
      obtain ⟨br',h4,h5⟩:=g0 w₀ I₀ O₀ ρ I a w hr x hx
      rw [h1] at h4; cases h4
      exact ptr_new hx h1 h5 (hG _ _ h3)
     ·rename_i hd
      obtain ⟨cells',c',h1,h2,h3,h4⟩:=ihL cells _ _ q h
      refine ⟨_,_,h1,fun e d' he=>h2 e d' (mapExt_push (t:=c.tab) (k:=c.n+1) hd e d' he),fun w₀ I₀ O₀ ρ I a w hr G Pn hc=>?_⟩
      obtain ⟨br,k1,k2⟩:=hr.tab d _ ht
      have hp:=hc.push hd k1 ⟨_,ht,by simp⟩
      obtain ⟨G',e1,e2,e3⟩:=h4 w₀ I₀ O₀ ρ I a w hr _ _ hp
      obtain ⟨b,p,val,f1,f2,f3⟩:=var_cells k2
      have hG' : G' (CAN+c.n)=some br.new:=e1 _ _ (by simp [upd])
      have hmd:lk? c'.m d=some (CAN+c.n):=h2 d _ (by simp only [lk_cons,if_true])
      refine ⟨G',(ext_upd hc.none_new.1 _).trans e1,e2.pop (id:=CAN+c.n) (br:=br.new) List.mem_cons_self (fun e he=>(List.mem_cons.1 he).imp id id)
       (fun e he=>⟨List.mem_cons_of_mem _ he,fun e2=>by subst e2; have:=(hc.pend _ he).2; omega⟩) hG' (fun G'' hG=>?_) (fun e he=>?_),fun x hx G'' hG=>?_⟩
      ·obtain ⟨a1,a2,a3,a4,_⟩:=k2
       refine ⟨by rw [h3]; exact a1,a2,a3,rfl,b,p,f1,fun j hj=>⟨val j,f2 j (by omega),?_⟩⟩
       have:=(e3 _ f3 G'' hG).2 j hj
       rwa [range_val val _ _ (by omega)] at this
      ·have:=e2.inj e d _ he hmd
       subst this
       exact .inr ⟨⟨_,ht⟩,_,rfl⟩
      ·obtain ⟨br',b1,b2⟩:=g0 w₀ I₀ O₀ ρ I a w hr x hx
       rw [k1] at b1; cases b1
       exact ptr_new hx k1 b2 (hG _ _ hG')
    ·rename_i sh rows gen ht
     rcases cond_some h with ⟨hg,h⟩ | ⟨_,h⟩
     ·have hg:=Nat.eq_of_beq_eq_true hg
      split at h
      ·rename_i d' hd
       refine ⟨_,_,h,fun _ _ h=>h,fun w₀ I₀ O₀ ρ I a w hr G Pn hc=>⟨G,Ext.refl G,hc,fun x hx G'' hG=>?_⟩⟩
       obtain ⟨br,h1,_,h3⟩:=hc.mapd d d' hd
       obtain ⟨br',h4,h5⟩:=hr.tab d _ ht
       rw [h1] at h4; cases h4
       exact ptr_new hx h1 (hg.trans h5.2.2.1.symm) (hG _ _ h3)
      ·rename_i hd
       refine ⟨_,_,h,mapExt_push hd,fun w₀ I₀ O₀ ρ I a w hr G Pn hc=>?_⟩
       obtain ⟨br,h4,h5⟩:=hr.tab d _ ht
       exact ⟨_,ext_upd hc.none_new.1 _,hc.slice hd h4 ht h5,fun x hx G'' hG=>ptr_new hx h4 (hg.trans h5.2.2.1.symm) (hG _ _ (by simp [upd]))⟩
     ·exact vok_undef h
    ·exact vok_undef h
   | agg cs =>
    simp only [canV] at h
    obtain ⟨cs',c',h1,h2,h3,h4⟩:=ihL cs _ _ q h
    refine ⟨_,_,h1,h2,fun w₀ I₀ O₀ ρ I a w hr G Pn hc=>?_⟩
    obtain ⟨G',e1,e2,e3⟩:=h4 w₀ I₀ O₀ ρ I a w hr G Pn hc
    refine ⟨G',e1,e2,fun x hx G'' hG=>?_⟩
    obtain ⟨xs,rfl,l,hh⟩:=hx.agg_inv
    have:=e3 xs ⟨l,hh⟩ G'' hG
    exact .agg cs' xs this.1 this.2
   | fn g a b =>
    simp only [canV] at h
    obtain ⟨a',c',h1,h2,h3,h4⟩:=ihL a _ _ q h
    obtain ⟨b',c'',k1,k2,k3,k4⟩:=ihL b _ _ q h1
    refine ⟨_,_,k1,fun e d' he=>k2 e d' (h2 e d' he),fun w₀ I₀ O₀ ρ I a₀ w hr G Pn hc=>?_⟩
    obtain ⟨G',e1,e2,e3⟩:=h4 w₀ I₀ O₀ ρ I a₀ w hr G Pn hc
    obtain ⟨G₂,f1,f2,f3⟩:=k4 w₀ I₀ O₀ ρ I a₀ w hr G' Pn e2
    refine ⟨G₂,e1.trans f1,f2,fun x hx G'' hG=>?_⟩
    obtain ⟨xs,ys,rfl,l1,r1,l2,r2⟩:=hx.fn_spec
    have g1:=e3 xs ⟨l1,r1⟩ G'' (f1.trans hG)
    have g2:=f3 ys ⟨l2,r2⟩ G'' hG
    exact .fn g a' b' xs ys g1.1 g1.2 g2.1 g2.2
   | tup vs=>simp only [canV] at h; exact vok_undef h
   | ptx d r o g i c m=>simp only [canV] at h; exact vok_undef h
   | _=>simp only [canV] at h; exact vok_plain h trivial
  ·cases vs with
   | nil =>
    simp only [canL] at h
    exact ⟨_,_,h,fun _ _ h=>h,rfl,fun w₀ I₀ O₀ ρ I a w hr G Pn hc=>⟨G,Ext.refl G,hc,fun xs hx G'' _=>⟨hx.1,fun i hi=>by cases hi⟩⟩⟩
   | cons v r =>
    simp only [canL] at h
    obtain ⟨v',c',h1,h2,h3⟩:=ihV v _ _ q h
    obtain ⟨r',c'',k1,k2,k3,k4⟩:=ihL r _ _ q h1
    refine ⟨_,_,k1,fun e d' he=>k2 e d' (h2 e d' he),by simp [k3],fun w₀ I₀ O₀ ρ I a w hr G Pn hc=>?_⟩
    obtain ⟨G',e1,e2,e3⟩:=h3 w₀ I₀ O₀ ρ I a w hr G Pn hc
    obtain ⟨G₂,f1,f2,f3⟩:=k4 w₀ I₀ O₀ ρ I a w hr G' Pn e2
    refine ⟨G₂,e1.trans f1,f2,fun xs hx G'' hG=>?_⟩
    obtain ⟨x,xs',rfl,hx1,hx2⟩:=hx.uncons
    have g1:=e3 x hx1 G'' (f1.trans hG)
    have g2:=f3 xs' hx2 G'' hG
    refine ⟨by simp [g2.1],fun i hi=>?_⟩
    cases i with
    | zero=>exact g1
    | succ i=>exact g2.2 i (by simpa using hi)
end
end Go.Ev

/- A loop's head keeps the relation: the theorem. -/
namespace Go.Ev
open Go Go.RowKit
section
variable {m:Nat} {S:St}
theorem canLent_ok:∀ (L:List (Nat × Box)) (c:Can) {K:Can→Option R} {q:R},canLent S L c K=some q→∃ c',K c' = some q∧MapExt c c' ∧
  ∀ w₀ I₀ O₀ ρ I a w,Rel m w₀ I₀ O₀ ρ I S a w→∀ G Pn,CInv S ρ w I c G Pn→(∀ d,d<BOX→(∃ cells,lk? S.tab d=some (.var cells))→lk? c.m d=some d) →
   (∀ d,d∈Pn→d<BOX∧(∃ cells,lk? S.tab d=some (.var cells))∧∃ p,p∈L∧p.1=d)→∃ G',Ext G G'∧CInv S ρ w I c' G' []
 | [],c,K,q,h=>⟨c,h,fun _ _ h=>h,fun w₀ I₀ O₀ ρ I a w hr G Pn hc _ hp=>by
   have:Pn=[]:=List.eq_nil_iff_forall_not_mem.2 fun d hd=>by obtain ⟨_,_,p,hp,_⟩:=hp d hd; cases hp
   subst this
   exact ⟨G,Ext.refl G,hc⟩⟩
 | (d,b₀)::r,c,K,q,h=>by
  have skip:(∀ e:Nat,(e<BOX∧(∃ cells,lk? S.tab e=some (.var cells))∧lk? c.tab e=none)→e ≠ d)→canLent S r c K=some q→∃ c',K c' = some q∧MapExt c c' ∧
    ∀ w₀ I₀ O₀ ρ I a w,Rel m w₀ I₀ O₀ ρ I S a w→∀ G Pn,CInv S ρ w I c G Pn→(∀ d,d<BOX→(∃ cells,lk? S.tab d=some (.var cells))→lk? c.m d=some d) →
     (∀ e,e∈Pn→e<BOX∧(∃ cells,lk? S.tab e=some (.var cells))∧∃ p,p∈(d,b₀)::r∧p.1=e)→∃ G',Ext G G'∧CInv S ρ w I c' G' []:=fun hne h=>by
   obtain ⟨c',h1,h2,h3⟩:=canLent_ok r c h
   refine ⟨c',h1,h2,fun w₀ I₀ O₀ ρ I a w hr G Pn hc hm hp=>h3 w₀ I₀ O₀ ρ I a w hr G Pn hc hm fun e he=>?_⟩
   obtain ⟨p1,p2,p,p3,p4⟩:=hp e he
   refine ⟨p1,p2,p,(List.mem_cons.1 p3).resolve_left fun e2=>?_,p4⟩
   subst e2
   exact hne e ⟨p1,p2,(hc.pend e he).1⟩ p4.symm
  simp only [canLent] at h
  rcases cond_some h with ⟨hb,h⟩ | ⟨hb,h⟩
  ·have hb:d<BOX:=Nat.le_of_ble_eq_true hb
   split at h
   ·rename_i bx ht
    exact skip (fun e he e2=>by rw [e2,ht] at he; exact absurd he.2.2 (by simp)) h
   ·rename_i ht
    split at h
    ·rename_i cells hs
     obtain ⟨cells',c₁,h1,h2,h3,h4⟩:=(can_ok (m:=m) (S:=S) 100).2 cells _ _ q h
     obtain ⟨c₂,k1,k2,k3⟩:=canLent_ok r _ h1
     refine ⟨c₂,k1,fun e d' he=>k2 e d' (h2 e d' he),fun w₀ I₀ O₀ ρ I a w hr G Pn hc hm hp=>?_⟩
     obtain ⟨G₁,e1,e2,e3⟩:=h4 w₀ I₀ O₀ ρ I a w hr G Pn hc
     have hmd:=hm d hb ⟨cells,hs⟩
     obtain ⟨br,f1,_,f3⟩:=hc.mapd d d hmd
     obtain ⟨br',g1,g2⟩:=hr.tab d _ hs
     rw [f1] at g1; cases g1
     obtain ⟨b,p,val,v1,v2,v3⟩:=var_cells g2
     have hdP:d∈Pn:=(hc.done d _ f3).resolve_right fun ⟨bx,hbx⟩=>by rw [ht] at hbx; cases hbx
     have hpop:=e2.pop (id:=d) hdP (Pn':=Pn.filter (· != d)) (fun e he=>by by_cases e' : e=d<;>simp [e',he]) (fun e he=>by simpa using he) (box:=.var cells') (br:=br.new) (e1 _ _ f3)
      (fun G'' hG=>by
       obtain ⟨a1,a2,a3,a4,_⟩:=g2
       refine ⟨by rw [h3]; exact a1,a2,a3,rfl,b,p,v1,fun j hj=>⟨val j,v2 j (by omega),?_⟩⟩
       have:=(e3 _ v3 G'' hG).2 j hj
       rwa [range_val val _ _ (by omega)] at this)
      (fun e he=>by
       have:=e2.inj e d _ he (h2 _ _ hmd)
       subst this
       exact .inr ⟨⟨_,hs⟩,_,rfl⟩)
     obtain ⟨G₂,x1,x2⟩:=k3 w₀ I₀ O₀ ρ I a w hr G₁ _ hpop (fun e he hv=>h2 _ _ (hm e he hv)) fun e he=>by
      simp only [List.mem_filter,bne_iff_ne] at he
      obtain ⟨p1,p2,p,p3,p4⟩:=hp e he.1
      exact ⟨p1,p2,p,(List.mem_cons.1 p3).resolve_left fun e2=>by subst e2; exact he.2 p4.symm,p4⟩
     exact ⟨G₂,e1.trans x1,x2⟩
    ·rename_i hs
     exact skip (fun e he e2=>by subst e2; obtain ⟨_,⟨cells,hc⟩,_⟩:=he; exact hs cells hc) h
  ·have hb:¬ d<BOX:=fun h=>by rw [Nat.blt,Nat.ble_eq_true_of_le h] at hb; cases hb
   exact skip (fun e he e2=>by rw [e2] at he; exact hb he.1) h
theorem canFr_ok:∀ (ts:List Nat) (c:Can) {K:List (Nat × V)→Can→Option R} {q:R},canFr S ts c K=some q→∃ l c',K l c' = some q∧MapExt c c' ∧
  ∀ w₀ I₀ O₀ ρ I a w,Rel m w₀ I₀ O₀ ρ I S a w→∀ G Pn,CInv S ρ w I c G Pn→∃ G',Ext G G'∧CInv S ρ w I c' G' Pn ∧
   ∀ t v,lk? l t=some v→∀ G'',Ext G' G''→Rv w I G'' v (a.tmps.getD t Go.undef)
 | [],c,K,q,h=>⟨[],c,h,fun _ _ h=>h,fun w₀ I₀ O₀ ρ I a w hr G Pn hc=>⟨G,Ext.refl G,hc,fun t v h=>by cases h⟩⟩
 | t::ts,c,K,q,h=>by
  simp only [canFr] at h
  obtain ⟨v,c',h1,h2,h3⟩:=(can_ok (m:=m) (S:=S) 100).1 _ _ _ q h
  obtain ⟨l,c'',k1,k2,k3⟩:=canFr_ok ts _ h1
  refine ⟨_,_,k1,fun e d' he=>k2 e d' (h2 e d' he),fun w₀ I₀ O₀ ρ I a w hr G Pn hc=>?_⟩
  obtain ⟨G',e1,e2,e3⟩:=h3 w₀ I₀ O₀ ρ I a w hr G Pn hc
  obtain ⟨G₂,f1,f2,f3⟩:=k3 w₀ I₀ O₀ ρ I a w hr G' Pn e2
  refine ⟨G₂,e1.trans f1,f2,fun t' v' hv G'' hG=>?_⟩
  rw [lk_cons] at hv
  split at hv
  ·rename_i e; subst e; cases hv
   have hx:Rv w I ρ (S.get t') (a.tmps.getD t' Go.undef):=by
    unfold St.get
    rw [lk_getD]
    cases e:lk? S.fr t' with
    | none=>exact .undef _
    | some u=>exact hr.fr t' u e
   exact e3 _ hx G'' (f1.trans hG)
  ·exact f3 t' v' hv G'' hG
theorem lentMap_spec:∀ (L:List (Nat × Box)) (d d' : Nat),lk? (lentMap S L) d=some d'→d' = d∧d<BOX∧(∃ cells,lk? S.tab d=some (.var cells))∧∃ p,p∈L∧p.1=d
 | [],_,_,h=>by cases h
 | (e,b)::L,d,d',h=>by
  have rest:lk? (lentMap S L) d=some d'→d' = d∧d<BOX∧(∃ cells,lk? S.tab d=some (.var cells))∧∃ p,p∈(e,b)::L∧p.1=d:=fun h=>by
   obtain ⟨h1,h2,h3,p,h4,h5⟩:=lentMap_spec L d d' h
   exact ⟨h1,h2,h3,p,List.mem_cons_of_mem _ h4,h5⟩
  simp only [lentMap] at h
  cases hb:Nat.blt e BOX with
  | false=>rw [hb] at h; exact rest h
  | true =>
   rw [hb,cond_true] at h
   split at h
   ·rename_i cells hs
    rw [lk_cons] at h
    split at h
    ·rename_i e2; subst e2; cases h
     exact ⟨rfl,Nat.le_of_ble_eq_true hb,⟨cells,hs⟩,_,List.mem_cons_self,rfl⟩
    ·exact rest h
   ·exact rest h
theorem lk_mem {α:Type}:∀ (L:List (Nat × α)) (d:Nat) (b:α),lk? L d=some b→∃ p,p∈L∧p.1=d
 | [],_,_,h=>by cases h
 | (e,x)::L,d,b,h=>by
  rw [lk_cons] at h
  split at h
  ·rename_i e2; exact ⟨_,List.mem_cons_self,e2.symm⟩
  ·obtain ⟨p,h1,h2⟩:=lk_mem L d b h; exact ⟨p,List.mem_cons_of_mem _ h1,h2⟩
theorem lentMap_mem:∀ (L:List (Nat × Box)) (d:Nat),d<BOX→(∃ cells,lk? S.tab d=some (.var cells))→(∃ p,p∈L∧p.1=d)→lk? (lentMap S L) d=some d
 | [],_,_,_,⟨p,h,_⟩=>by cases h
 | (e,b)::L,d,hd,hv,⟨p,hp,he⟩=>by
  have rest:e ≠ d→lk? (lentMap S L) d=some d:=fun hne=>lentMap_mem L d hd hv ⟨p,(List.mem_cons.1 hp).resolve_left fun e2=>by subst e2; exact hne he,he⟩
  simp only [lentMap]
  by_cases e2:e=d
  ·subst e2
   obtain ⟨cells,hs⟩:=hv
   have hb:Nat.blt e BOX=true:=Nat.ble_eq_true_of_le hd
   rw [hb,cond_true,hs]
   simp only [lk_cons,if_true]
  ·cases hb:Nat.blt e BOX with
   | false=>exact rest e2
   | true =>
    rw [cond_true]
    split
    ·rw [lk_cons,if_neg (fun h=>e2 h.symm)]; exact rest e2
    ·exact rest e2
theorem lentMap_in:∀ (L:List (Nat × Box)) (p:Nat × Nat),p∈lentMap S L→p.1<BOX∧(∃ cells,lk? S.tab p.1=some (.var cells))∧∃ p',p'∈L∧p'.1=p.1
 | [],_,h=>by cases h
 | (e,b)::L,p,h=>by
  have rest:p∈lentMap S L→p.1<BOX∧(∃ cells,lk? S.tab p.1=some (.var cells))∧∃ p',p'∈(e,b)::L∧p'.1=p.1:=fun h=>by
   obtain ⟨h1,h2,p',h3,h4⟩:=lentMap_in L p h
   exact ⟨h1,h2,p',List.mem_cons_of_mem _ h3,h4⟩
  simp only [lentMap] at h
  cases hb:Nat.blt e BOX with
  | false=>rw [hb] at h; exact rest h
  | true =>
   rw [hb,cond_true] at h
   split at h
   ·rename_i cells hs
    rcases List.mem_cons.1 h with rfl | h
    ·exact ⟨Nat.le_of_ble_eq_true hb,⟨cells,hs⟩,_,List.mem_cons_self,rfl⟩
    ·exact rest h
   ·exact rest h
theorem canon0_ok (keep:List Nat) (S:St) (K:St→Option R) (q:R) (h:canon0 keep S K=some q):∃ S',K S' = some q∧CanonOk m S S':=by
 unfold canon0 at h
 obtain ⟨c₁,h,hm1,h1⟩:=canLent_ok (m:=m) S.tab _ h
 obtain ⟨fr,c₂,h,hm2,h2⟩:=canFr_ok (m:=m) keep c₁ h
 refine ⟨_,h,fun w₀ hz I₀ O₀ ρ I a w hr=>?_⟩
 -- the beginning
 let G₀:Nat→Option Real:=fun d=>match lk? (lentMap S S.tab) d with | some _=>(ρ d).map Real.new | none=>none
 have g₀:∀ d br,G₀ d=some br→lk? (lentMap S S.tab) d=some d∧∃ br',ρ d=some br'∧br=br'.new:=fun d br hg=>by
  simp only [G₀] at hg
  split at hg
  ·rename_i d' hd
   obtain ⟨rfl,_⟩:=lentMap_spec _ _ _ hd
   cases e:ρ d' with
   | none=>rw [e] at hg; cases hg
   | some b=>rw [e] at hg; cases hg; exact ⟨hd,b,rfl,rfl⟩
  ·cases hg
 have m₀:∀ d d',lk? (lentMap S S.tab) d=some d'→d' = d∧∃ br cells,ρ d=some br∧lk? S.tab d=some (.var cells)∧G₀ d=some br.new:=fun d d' hd=>by
  obtain ⟨rfl,_,⟨cells,hs⟩,_⟩:=lentMap_spec _ _ _ hd
  obtain ⟨br,h1,_⟩:=hr.tab d' _ hs
  exact ⟨rfl,br,cells,h1,hs,by simp only [G₀]; rw [hd,h1]; rfl⟩
 have inv₀:CInv S ρ w I { m:=lentMap S S.tab,tab:=[],n:=0 } G₀ ((lentMap S S.tab).map Prod.fst):=by
  refine ⟨fun d d' hd=>?_,fun d e d' hd he=>?_,fun d br hg=>?_,fun d br hg=>?_,fun d bx hb=>(by cases hb),fun d d' bx _ hb=>(by cases hb),fun d br hg=>?_,fun d hd=>⟨rfl,?_⟩⟩
  ·obtain ⟨rfl,br,cells,e1,e2,e3⟩:=m₀ d d' hd
   exact ⟨br,e1,⟨_,e2,by simp⟩,e3⟩
  ·exact ((m₀ d d' hd).1.symm.trans (m₀ e d' he).1)
  ·exact .inl ⟨d,(g₀ d br hg).1⟩
  ·obtain ⟨_,h2,_⟩:=lentMap_spec _ _ _ (g₀ d br hg).1
   unfold BOX at h2; unfold CAN; simp only; omega
  ·obtain ⟨p,e1,e2⟩:=lk_mem _ _ _ (g₀ d br hg).1
   exact .inl (List.mem_map.2 ⟨p,e1,e2⟩)
  ·obtain ⟨p,hp,rfl⟩:=List.mem_map.1 hd
   have:=(lentMap_in _ _ hp).1
   unfold BOX at this; unfold CAN; simp only; omega
 obtain ⟨G₁,x1,i1⟩:=h1 w₀ I₀ O₀ ρ I a w hr G₀ _ inv₀ (fun d hd hv=>lentMap_mem S.tab d hd hv (by obtain ⟨cells,hs⟩:=hv; exact lk_mem _ _ _ hs)) (fun d hd=>by
  obtain ⟨p,hp,rfl⟩:=List.mem_map.1 hd
  exact lentMap_in _ _ hp)
 obtain ⟨G,x2,i2,f2⟩:=h2 w₀ I₀ O₀ ρ I a w hr G₁ [] i1
 have real:∀ d' br b o,G d' = some br→br.has b o→∃ d br',lk? c₂.m d=some d'∧ρ d=some br'∧Live S d∧br'.has b o:=fun d' br b o hg hh=>by
  rcases i2.dom d' br hg with ⟨d,hd⟩ | hb
  ·obtain ⟨br',k1,k2,k3⟩:=i2.mapd d d' hd
   rw [hg] at k3; cases k3
   exact ⟨d,br',hd,k1,k2,hh⟩
  ·obtain ⟨o₀,k1,_⟩:=hh
   rw [hb] at k1; cases k1
 refine ⟨G,fun t v hv=>f2 t v hv G (Ext.refl G),hr.dfr,hr.size,fun d bx hb=>?_,fun d br hg=>?_,fun d d' br br' b o _ _ hd hd' hh hh'=>?_,fun d br b o _ hd hh=>?_,fun d br b o _ hd hh=>?_,
  fun d sh rows gen br b o hb hd hh=>?_,fun d br b o _ hd hh=>?_,hr.ilt,hr.imono,hr.iold,hr.keeps,fun d br hl=>?_,(fun d br hl=>by rw [hz.1] at hl; cases hl),(by rw [hz.2]; exact fun _ _ hl=>nomatch hl)⟩
 ·obtain ⟨br,k1,k2⟩:=i2.tabd d bx hb
  exact ⟨br,k1,k2 G (Ext.refl G)⟩
 ·exact (i2.done d br hg).resolve_left (by simp)
 ·obtain ⟨e,b1,k1,k2,k3,k4⟩:=real d br b o hd hh
  obtain ⟨e',b2,l1,l2,l3,l4⟩:=real d' br' b o hd' hh'
  have:=hr.apart e e' b1 b2 b o k3 l3 k2 l2 k4 l4
  subst this
  rw [k1] at l1; cases l1; rfl
 ·obtain ⟨e,b1,k1,k2,k3,k4⟩:=real d br b o hd hh
  exact hr.notI e b1 b o k3 k2 k4
 ·obtain ⟨e,b1,k1,k2,k3,k4⟩:=real d br b o hd hh
  exact hr.org e b1 b o k3 k2 k4
 ·obtain ⟨e,b1,k1,k2,k3,k4⟩:=real d br b o hd hh
  rcases i2.kind e d _ k1 hb with ⟨⟨sh',rows',g',ht⟩,_⟩ | ⟨_,_,hx⟩
  ·exact hr.slorg e sh' rows' g' b1 b o ht k2 k4
  ·cases hx
 ·obtain ⟨e,b1,k1,k2,k3,k4⟩:=real d br b o hd hh
  exact hr.alive e b1 b o k3 k2 k4
 ·obtain ⟨hρ,cells,hs⟩:=hr.lent d br hl
  have hm₀:=lentMap_mem S.tab d (w₀.small d br hl) ⟨cells,hs⟩ (lk_mem _ _ _ hs)
  have hm:=hm2 d d (hm1 d d hm₀)
  obtain ⟨br',k1,_,k3⟩:=i2.mapd d d hm
  rw [hρ] at k1; cases k1
  obtain ⟨br'',t1,t2⟩:=hr.tab d _ hs
  rw [hρ] at t1; cases t1
  have hg0:br.new=br:=by
   have:=t2.2.2.2.1
   cases br; simp only at this; subst this; rfl
  refine ⟨by rw [k3,hg0],?_⟩
  obtain ⟨bx,hb⟩:=(i2.done d _ k3).resolve_left (by simp)
  rcases i2.kind d d bx hm hb with ⟨⟨_,_,_,ht⟩,_⟩ | ⟨_,cells',rfl⟩
  ·rw [hs] at ht; cases ht
  ·exact ⟨cells',hb⟩
end
theorem frzL_length (fk:Nat→Bool):∀ (j:Nat) (l:List V),(frzL fk j l).length=l.length
 | _,[]=>rfl
 | j,v::r=>by cases v<;>simp [frzL,frzL_length fk (j+1) r]
theorem frzL_getD {w:World} {I:Nat→Nat→Prop} {ρ:Nat→Option Real} {x:Value} (fk:Nat→Bool):∀ (j:Nat) (l:List V) (i:Nat),Rv w I ρ (l.getD i .undef) x→Rv w I ρ ((frzL fk j l).getD i .undef) x
 | _,[],i,h=>h
 | j,v::r,0,h=>by
  have h:Rv w I ρ v x:=by simpa using h
  cases v with
  | nils sh =>
   show Rv w I ρ (cond (fk j) (.nils sh) (.slc sh [])) x
   cases fk j with
   | true=>exact h
   | false=>exact h.nrm1
  | _=>exact h
 | j,v::r,i+1,h=>by
  have h:Rv w I ρ (r.getD i .undef) x:=by simpa using h
  have:=frzL_getD fk (j+1) r i h
  cases v<;>simpa [frzL] using this
theorem frzT_lk (fk:Nat→Bool):∀ (T:List (Nat × Box)) (d:Nat),lk? (frzT fk T) d=(lk? T d).map (frzB fk)
 | [],d=>rfl
 | (e,b)::r,d=>by
  simp only [frzT,lk?]
  cases Nat.beq d e with
  | true=>rfl
  | false=>exact frzT_lk fk r d
theorem frz_dead {fk:Nat→Bool} {b:Box}:frzB fk b ≠ .dead↔b ≠ .dead:=by cases b<;>simp [frzB]
theorem frz_live {fk:Nat→Bool} {S:St} {d:Nat} (h:Live (frz fk S) d):Live S d:=by
 obtain ⟨box,h1,h2⟩:=h
 have h1:lk? (frzT fk S.tab) d=some box:=h1
 rw [frzT_lk] at h1
 cases e:lk? S.tab d with
 | none=>rw [e] at h1; cases h1
 | some b =>
  rw [e] at h1
  cases h1
  exact ⟨b,e,frz_dead.1 h2⟩
theorem frz_ok (fk:Nat→Bool) {m:Nat} {w₀:Base} {I₀ O₀ I:Nat→Nat→Prop} {ρ:Nat→Option Real} {S:St} {a:Act} {w:World} (hr:Rel m w₀ I₀ O₀ ρ I S a w):Rel m w₀ I₀ O₀ ρ I (frz fk S) a w:=by
 refine ⟨hr.fr,hr.dfr,hr.size,fun d box hb=>?_,fun d br hd=>?_,fun d d' br br' b o h1 h2=>hr.apart d d' br br' b o (frz_live h1) (frz_live h2),fun d br b o h1=>hr.notI d br b o (frz_live h1),fun d br b o h1=>hr.org d br b o (frz_live h1),
  fun d sh rows gen br b o hb=>?_,fun d br b o h1=>hr.alive d br b o (frz_live h1),hr.ilt,hr.imono,hr.iold,hr.keeps,fun d br hl=>?_,fun d br hl=>?_,hr.evo⟩
 ·have hb:lk? (frzT fk S.tab) d=some box:=hb
  rw [frzT_lk] at hb
  cases e:lk? S.tab d with
  | none=>rw [e] at hb; cases hb
  | some b =>
   rw [e] at hb
   cases hb
   obtain ⟨br,h1,h2⟩:=hr.tab d b e
   refine ⟨br,h1,?_⟩
   cases b with
   | var cells =>
    obtain ⟨g1,g2,g3,g4,bb,oo,g5,g6⟩:=h2
    refine ⟨by rw [frzL_length]; exact g1,g2,g3,g4,bb,oo,g5,fun j hj=>?_⟩
    rw [frzL_length] at hj
    obtain ⟨x,k1,k2⟩:=g6 j hj
    exact ⟨x,k1,frzL_getD fk 0 cells j k2⟩
   | _=>exact h2
 ·obtain ⟨box,h1⟩:=hr.dom d br hd
  exact ⟨frzB fk box,by show lk? (frzT fk S.tab) d=_; rw [frzT_lk,h1]; rfl⟩
 ·have hb:lk? (frzT fk S.tab) d=some (.sl sh rows gen):=hb
  rw [frzT_lk] at hb
  cases e:lk? S.tab d with
  | none=>rw [e] at hb; cases hb
  | some bx =>
   rw [e] at hb
   cases bx with
   | sl sh' rows' gen'=>cases hb; exact hr.slorg d sh rows gen br b o e
   | _=>cases hb
 ·obtain ⟨h1,cells,h2⟩:=hr.lent d br hl
  exact ⟨h1,frzL fk 0 cells,by show lk? (frzT fk S.tab) d=_; rw [frzT_lk,h2]; rfl⟩
 ·obtain ⟨h1,h2⟩:=hr.hid d br hl
  exact ⟨h1,by show lk? (frzT fk S.tab) d=_; rw [frzT_lk,h2]; rfl⟩
theorem frzF_lk:∀ (T:List (Nat × V)) (t:Nat) (v:V),lk? (frzF T) t=some v→∃ v',lk? T t=some v'∧∀ {w:World} {I:Nat→Nat→Prop} {ρ:Nat→Option Real} {x:Value},Rv w I ρ v' x→Rv w I ρ v x
 | [],t,v,h=>by cases h
 | (s,u)::r,t,v,h=>by
  simp only [frzF,lk?] at h
  simp only [lk?]
  cases hb:Nat.beq t s with
  | true =>
   rw [hb] at h
   cases h
   refine ⟨u,rfl,fun {w I ρ x} hx=>?_⟩
   cases u with
   | nils sh=>exact hx.nrm1
   | _=>exact hx
  | false =>
   rw [hb] at h
   exact frzF_lk r t v h
theorem frzR_ok {m:Nat} {w₀:Base} {I₀ O₀ I:Nat→Nat→Prop} {ρ:Nat→Option Real} {S:St} {a:Act} {w:World} (hr:Rel m w₀ I₀ O₀ ρ I S a w):Rel m w₀ I₀ O₀ ρ I (frzR S) a w :=
 ⟨fun t v hv=>by
  obtain ⟨v',h1,h2⟩:=frzF_lk S.fr t v hv
  exact h2 (hr.fr t v' h1),hr.dfr,hr.size,hr.tab,hr.dom,hr.apart,hr.notI,hr.org,hr.slorg,hr.alive,hr.ilt,hr.imono,hr.iold,hr.keeps,hr.lent,hr.hid,hr.evo⟩
theorem canon_ok {m:Nat} (fz:Bool) (fk:Nat→Bool) (fy:Bool) (keep:List Nat) (S:St) (K:St→Option R) (q:R) (h:canon fz fk fy keep S K=some q):∃ S',K S' = some q∧CanonOk m S S':=by
 unfold canon at h
 obtain ⟨S',h1,h2⟩:=canon0_ok (m:=m) keep _ K q h
 refine ⟨S',h1,fun w₀ hz I₀ O₀ ρ I a w hr=>h2 w₀ hz I₀ O₀ ρ I a w ?_⟩
 have hf:Rel m w₀ I₀ O₀ ρ I (cond fz (frz fk S) S) a w:=by
  cases fz with
  | false=>exact hr
  | true=>exact frz_ok fk hr
 cases fy with
 | false=>exact hf
 | true=>exact frzR_ok hf
end Go.Ev

/- A function is what the evaluator makes of its body: the theorem in the form that is used. -/
namespace Go.Ev
open Go Go.RowKit
theorem evFn_sound {E:Env} (hG:GOk E) {f:FuncId} {fn:Func} {c:Code} (hf:E.P.funcs[f]? = some fn) (hb:fn.body=some c)
  (hl : ∀ p ∈ loopsOf c, LoopOk E fn.ntmps p.1 p.2) (hnm : (fn.name == "runtime.NumGoroutine") = false) {D : Den} (h : ∀ args bx, D.pre args bx = true → evFn E f args bx some = some (D.res args bx)) : FnOk E.P f D :=
 evFn_ok hG hf hb (fun fz fk fy keep S K q hh=>canon_ok fz fk fy keep S K q hh) hl hnm h
theorem loop_sound {E:Env} {m:Nat} (hG:GOk E) {id:Nat} {c:Code} (hl:∀ p∈loopsOf c,LoopOk E m p.1 p.2) (hd:dstsOk m c=true)
  (h:∀ F,E.L id=some F→∀ S K q,F S K=some q→∃ n,iterL E id c n S K=some q):LoopOk E m id c :=
 iterL_ok hG (fun fz fk fy keep S K q hh=>canon_ok fz fk fy keep S K q hh) hl hd h
end Go.Ev

/- The evaluator goes on in one way at most,whatever is to follow: lemmas,no condition. -/
namespace Go.Ev
open Go
section
variable {κ α β γ:Type} {A:(κ→Option R)→Prop}
theorem ParG.no:ParG A (fun _=>none):=fun K q h=>by cases h
theorem Par1.go (a:α):Par1 (fun k=>k a):=fun _ _ _=>⟨_,⟨a,rfl⟩,fun _=>rfl⟩
theorem Par2.go (a:α) (b:β):Par2 (fun k=>k a b):=fun _ _ _=>⟨_,⟨a,b,rfl⟩,fun _=>rfl⟩
theorem Par3.go (a:α) (b:β) (c:γ):Par3 (fun k=>k a b c):=fun _ _ _=>⟨_,⟨a,b,c,rfl⟩,fun _=>rfl⟩
theorem ParG.cnd (b:Bool) {F G:κ→Option R} (hF:ParG A F) (hG:ParG A G):ParG A (fun k=>cond b (F k) (G k)):=by
 cases b with
 | true=>exact hF
 | false=>exact hG
theorem Par1.bind {F:(α→Option R)→Option R} {G:α→κ→Option R} (hF:Par1 F) (hG:∀ a,ParG A (G a)):ParG A (fun k=>F fun a=>G a k):=fun K q h=>by
 obtain ⟨_,⟨a,rfl⟩,h1⟩:=hF _ q h
 have h:F (fun a=>G a K)=some q:=h
 rw [h1] at h
 obtain ⟨p,hp,h2⟩:=hG a K q h
 exact ⟨p,hp,fun K'=>(h1 _).trans (h2 K')⟩
theorem Par2.bind {F:(α→β→Option R)→Option R} {G:α→β→κ→Option R} (hF:Par2 F) (hG:∀ a b,ParG A (G a b)):ParG A (fun k=>F fun a b=>G a b k):=fun K q h=>by
 obtain ⟨_,⟨a,b,rfl⟩,h1⟩:=hF _ q h
 have h:F (fun a b=>G a b K)=some q:=h
 rw [h1] at h
 obtain ⟨p,hp,h2⟩:=hG a b K q h
 exact ⟨p,hp,fun K'=>(h1 _).trans (h2 K')⟩
theorem Par3.bind {F:(α→β→γ→Option R)→Option R} {G:α→β→γ→κ→Option R} (hF:Par3 F) (hG:∀ a b c,ParG A (G a b c)):ParG A (fun k=>F fun a b c=>G a b c k):=fun K q h=>by
 obtain ⟨_,⟨a,b,c,rfl⟩,h1⟩:=hF _ q h
 have h:F (fun a b c=>G a b c K)=some q:=h
 rw [h1] at h
 obtain ⟨p,hp,h2⟩:=hG a b c K q h
 exact ⟨p,hp,fun K'=>(h1 _).trans (h2 K')⟩
theorem ParG.vf {v:V} {G:V→κ→Option R} (h:ParG A (G v)):ParG A (fun k=>Go.Ev.vf v fun v=>G v k):=by
 have e:(fun k=>Go.Ev.vf v fun v=>G v k)=fun k=>G v k:=by funext k; rw [vf_eq]
 rw [e]; exact h
end
theorem par_withOwn (S:St) (d g:Nat):Par2 (withOwn S d g):=by
 unfold withOwn
 cases lk? S.tab d with
 | none=>exact .no
 | some b=>cases b with
  | sl sh rows gen=>exact .cnd _ (Par2.go sh rows) .no
  | _=>exact .no
theorem par_dataOf (keep:Bool) (S:St) (v:V):Par2 (dataOf keep S v):=by
 cases v with
 | own d n=>exact (par_withOwn S d n).bind fun sh rows=>Par2.go _ _
 | emp sh=>exact Par2.go _ _
 | nn sh=>exact Par2.go _ _
 | _=>first | exact Par2.go _ _ | exact .no | exact .cnd _ (Par2.go _ _) .no
theorem par_dataAll (keep:Bool):∀ (vs:List V) (S:St),Par2 (dataAll keep vs S)
 | [],_=>Par2.go _ _
 | v::r,S=>(par_dataOf keep S v).bind fun _ S=>(par_dataAll keep r S).bind fun _ _=>Par2.go _ _
theorem par_dataV (keep:Bool) (v:V) (S:St):Par2 (dataV keep v S):=by
 have h:=par_dataOf keep S v
 cases v with
 | agg cs=>exact (par_dataAll keep cs S).bind fun cs' S=>Par2.go _ _
 | _=>exact h
theorem par_dataVs:∀ (vs:List V) (S:St),Par2 (dataVs vs S)
 | [],_=>Par2.go _ _
 | v::r,S=>(par_dataV false v S).bind fun _ S=>(par_dataVs r S).bind fun _ _=>Par2.go _ _
theorem par_readAt (S:St) (d r o g sz:Nat):Par1 (readAt S d r o g sz):=by
 unfold readAt
 cases lk? S.tab d with
 | none=>exact .no
 | some b=>cases b with
  | sl sh rows gen=>exact .cnd _ (.cnd _ (Par1.go _) .no) .no
  | var cells=>exact .cnd _ (Par1.go _) .no
  | dead=>exact .no
theorem par_writeAt (S:St) (d r o g:Nat) (new:List V):Par1 (writeAt S d r o g new):=by
 unfold writeAt
 cases lk? S.tab d with
 | none=>exact .no
 | some b =>
  simp only
  cases writeBox b r o g new with
  | none=>exact .no
  | some _=>exact Par1.go _
theorem par_borOf (S:St) (v:V):Par2 (borOf S v):=by
 cases v with
 | own d g=>exact (par_withOwn S d g).bind fun sh rows=>Par2.go _ _
 | emp sh=>exact Par2.go _ _
 | nn sh=>exact Par2.go _ _
 | _=>first | exact Par2.go _ _ | exact .no | exact .cnd _ (.vf (Par2.go _ _)) .no
theorem par_borL (S:St):∀ vs:List V,Par2 (borL S vs)
 | []=>Par2.go _ _
 | v::r=>(par_borOf S v).bind fun _ _=>(par_borL S r).bind fun _ _=>Par2.go _ _
theorem par_borV (S:St) (v:V):Par2 (borV S v):=by
 have h:=par_borOf S v
 cases v with
 | agg cs=>exact (par_borL S cs).bind fun _ _=>Par2.go _ _
 | nilp=>exact Par2.go _ _
 | cref cs=>exact Par2.go _ _
 | fn f first caps=>cases first with
  | nil=>exact .cnd _ (Par2.go _ _) .no
  | cons _ _=>exact h
 | _=>exact h
theorem par_borVL (S:St):∀ vs:List V,Par2 (borVL S vs)
 | []=>Par2.go _ _
 | v::r=>(par_borV S v).bind fun _ _=>(par_borVL S r).bind fun _ _=>Par2.go _ _
theorem par_lendCaps (S:St):∀ (cs:List V) (n:Nat),Par2 (lendCaps S cs n)
 | [],n=>Par2.go _ _
 | v::c,n=>by
  cases v with
  | ptr d r o g =>
   have e:lendCaps S (.ptr d r o g::c) n=fun k=>match lk? S.tab d with | some (.var cells)=>lendCaps S c (n+1) fun c' l'=>k (.ptr n 0 0 0::c') (⟨d,r,o,g,cells.length⟩::l') | _=>none:=by funext k; rfl
   rw [e]
   cases lk? S.tab d with
   | none=>exact .no
   | some b=>cases b with
    | var cells=>exact (par_lendCaps S c (n+1)).bind fun _ _=>Par2.go _ _
    | _=>exact .no
  | cref cells=>exact (par_lendCaps S c n).bind fun _ _=>Par2.go _ _
  | _=>exact .no
theorem par_lendV (S:St) (sz:Nat) (v:V) (n:Nat):Par3 (lendV S sz v n):=by
 have h:Par3 (fun (k:V→List Loan→List Nat→Option R)=>borV S v fun v' B=>k v' [] B):=(par_borV S v).bind fun _ _=>Par3.go _ _ _
 cases v with
 | ptr d r o g=>exact Par3.go _ _ _
 | fn f first caps=>exact (par_lendCaps S caps n).bind fun _ _=>(par_borVL S first).bind fun _ _=>Par3.go _ _ _
 | _=>exact h
theorem par_lendAll (E:Env) (S:St):∀ (vs:List V) (ts:List TypeId) (n:Nat),Par3 (lendAll E S vs ts n)
 | [],_,_=>Par3.go _ _ _
 | v::vs,_,n=>(par_lendV S _ v n).bind fun _ _ _=>(par_lendAll E S vs _ _).bind fun _ _ _=>Par3.go _ _ _
theorem par_loanCells (S:St):∀ ls:List Loan,Par2 (loanCells S ls)
 | []=>Par2.go _ _
 | _::r=>(par_readAt S _ _ _ _ _).bind fun cs=>(par_borVL S cs).bind fun _ _=>(par_loanCells S r).bind fun _ _=>Par2.go _ _
theorem par_backAll:∀ (ls:List Loan) (b:List (List V)) (S:St),Par1 (backAll ls b S)
 | [],[],_=>Par1.go _
 | [],_::_,_=>.no
 | _::_,[],_=>.no
 | _::r,c::b,S=>.cnd _ (.cnd _ ((par_writeAt S _ _ _ _ c).bind fun S=>par_backAll r b S) .no) .no
theorem par_putBox (S:St) (id:Nat) (b:Box):Par1 (putBox S id b):=by
 unfold putBox
 cases lk? S.tab id with
 | none=>exact Par1.go _
 | some _=>exact .no
theorem par_callA (E:Env) (D:Den) (f:FuncId) (dst:Option Nat) (vs:List V) (ts:List TypeId) (S:St):Par2 (callA E D f dst vs ts S):=by
 refine (par_lendAll E S vs ts 0).bind fun vs' ls B=>(par_loanCells S ls).bind fun cs B'=>.cnd _ (.cnd _ (.cnd _ (.cnd _ (.cnd _ ((par_backAll ls _ S).bind fun S=>Par2.go _ _) .no) ((par_backAll ls _ _).bind fun S=>?_)) .no) .no) .no
 cases (D.res vs' cs).nb with
 | nil=>exact Par2.go _ _
 | cons b r=>cases r with
  | nil=>cases dst with
   | none=>exact .no
   | some d=>exact (par_putBox S _ b).bind fun S=>Par2.go _ _
  | cons _ _=>exact .no
theorem par_callM (D:MDen) (d g:Nat) (rest:List V) (S:St):Par2 (callM D d g rest S) :=
 (par_withOwn S d g).bind fun _ _=>.cnd _ (.cnd _ (Par2.go _ _) .no) .no
theorem par_callG (E:Env) (f:FuncId) (dst:Option Nat) (vs:List V) (ts:List TypeId) (S:St):Par2 (callG E f dst vs ts S):=by
 unfold callG
 cases E.G f with
 | none=>exact .no
 | some D=>exact par_callA E D f dst vs ts S
theorem par_callN (E:Env) (f:FuncId) (dst:Option Nat) (vs:List V) (ts:List TypeId) (S:St):Par2 (callN E f dst vs ts S):=by
 unfold callN
 cases E.M f with
 | none=>exact par_callG E f dst vs ts S
 | some F =>
  cases vs with
  | nil=>exact par_callG E f dst _ ts S
  | cons v rest=>cases v with
   | own d g=>exact par_callM F d g rest S
   | _=>exact par_callG E f dst _ ts S
def XPar (E:Env):Prop:=∀ f F,E.X f=some F→∀ vs T,Par2 (F vs T)
theorem par_callFn {E:Env} (hX:XPar E) (f:FuncId) (dst:Option Nat) (vs:List V) (ts:List TypeId) (S:St):Par2 (callFn E f dst vs ts S):=by
 unfold callFn
 cases e:E.X f with
 | none=>exact par_callN E f dst vs ts S
 | some F=>exact .cnd _ .no ((hX f F e vs S.tab).bind fun _ _=>Par2.go _ _)
theorem par_rowsOf (S:St) (v:V):Par2 (rowsOf S v):=by
 cases v with
 | slc sh rows=>exact Par2.go _ _
 | nils sh=>exact Par2.go _ _
 | emp sh=>exact Par2.go _ _
 | nn sh=>exact Par2.go _ _
 | own d n=>exact par_withOwn S d n
 | _=>exact .no
theorem par_ints (v:V):Par1 (ints v):=by
 cases v with
 | int k n=>exact Par1.go _
 | _=>exact .no
theorem par_appendOp (E:Env) (dst:Option Nat) (ty uy:TypeId) (x y:V) (S:St):Par2 (appendOp E dst ty uy x y S):=by
 unfold appendOp
 cases E.P.underlying ty with
 | none=>exact .no
 | some t =>
  cases E.P.underlying uy with
  | none=>cases t<;>exact .no
  | some u =>
   cases dst with
   | none=>cases t<;>cases u<;>exact .no
   | some d =>
    cases t with
    | slice e =>
     cases u with
     | slice e' =>
      refine .cnd _ ((par_rowsOf S y).bind fun sh' new=>.cnd _ (.cnd _ ?_ .no) .no) .no
      cases x with
      | nils sh₂=>exact .cnd _ (.cnd _ ((par_putBox S _ _).bind fun S=>Par2.go _ _) .no) .no
      | emp sh₂=>exact .cnd _ (.cnd _ (Par2.go _ _) (.cnd _ ((par_putBox S _ _).bind fun S=>Par2.go _ _) .no)) .no
      | own b g=>exact (par_withOwn S b g).bind fun sh₂ rows=>.cnd _ (.cnd _ (Par2.go _ _) .no) .no
      | _=>exact .no
     | int k =>
      cases x with
      | nils sh=>cases y with
       | int k n=>exact .cnd _ (.cnd _ (.cnd _ ((par_putBox S _ _).bind fun S=>Par2.go _ _) .no) .no) .no
       | _=>exact .no
      | _=>cases y<;>exact .no
     | _=>exact .no
    | _=>cases u<;>exact .no
theorem par_convOp (E:Env) (src dst:TypeId) (x:V) (S:St):Par1 (convOp E src dst x S):=by
 unfold convOp
 refine .cnd _ ?_ .no
 cases E.P.underlying dst with
 | none=>exact .no
 | some t =>
  cases t with
  | int i=>cases x with
   | int k n=>exact Par1.go _
   | _=>exact .no
  | string =>
   have main:Par1 (fun (k:V→Option R)=>match E.P.underlying src with
    | some (.slice e)=>match E.P.underlying e with
     | some (.int .u8)=>rowsOf S x fun sh rows=>cond (Sh.beqL sh [.int .u8]) (k (.str (strOfBytes rows))) none
     | _=>none
    | _=>none):=by
    cases E.P.underlying src with
    | none=>exact .no
    | some u=>cases u with
     | slice e =>
      simp only
      cases E.P.underlying e with
      | none=>exact .no
      | some v=>cases v with
       | int k=>cases k with
        | u8=>exact (par_rowsOf S x).bind fun sh rows=>.cnd _ (Par1.go _) .no
        | _=>exact .no
       | _=>exact .no
     | _=>exact .no
   cases x with
   | str s=>exact Par1.go _
   | _=>exact main
  | slice e =>
   cases x with
   | str s =>
    show Par1 (fun (k:V→Option R)=>match E.P.underlying e,E.P.underlying src with
     | some (.int .u8),some .string=>k (.slc [.int .u8] (bytesOfStr s))
     | _,_=>none)
    generalize E.P.underlying e=a
    generalize E.P.underlying src=b
    cases a with
    | none=>exact .no
    | some v=>cases v with
     | int k=>cases k with
      | u8=>cases b with
       | none=>exact .no
       | some u=>cases u with
        | string=>exact Par1.go _
        | _=>exact .no
      | _=>exact .no
     | _=>exact .no
   | _=>exact .no
  | _=>exact .no
theorem par_bounds (len:Nat) (lo hi:Option V):Par2 (bounds len lo hi):=by
 have hiOk:∀ h:Nat,Par2 (fun (k:Nat→Nat→Option R)=>match lo with
  | none=>k 0 h
  | some v=>ints v fun l=>cond (decide (0≤l∧l≤(h:Int))) (k l.toNat h) none):=fun h=>by
  cases lo with
  | none=>exact Par2.go _ _
  | some v=>exact (par_ints v).bind fun l=>.cnd _ (Par2.go _ _) .no
 unfold bounds
 cases hi with
 | none=>exact hiOk len
 | some v=>exact (par_ints v).bind fun h=>.cnd _ (hiOk h.toNat) .no
theorem par_sliceOp (E:Env) (t:TypeId) (x:V) (lo hi mx:Option V) (S:St):Par2 (sliceOp E t x lo hi mx S):=by
 unfold sliceOp
 cases E.P.underlying t with
 | none=>exact .no
 | some u =>
  cases u with
  | string=>cases x with
   | str s=>cases mx with
    | none=>exact (par_bounds _ lo hi).bind fun l h=>Par2.go _ _
    | some _=>exact .no
   | _=>exact .no
  | slice e=>cases x with
   | slc sh rows =>
    refine .cnd _ ?_ .no
    cases mx with
    | none=>exact (par_bounds _ lo hi).bind fun l h=>Par2.go _ _
    | some m =>
     intro K q h
     dsimp only at h
     split at h
     ·rename_i e; cases e
     ·split at h
      ·exact ⟨_,⟨_,_,rfl⟩,fun _=>rfl⟩
      ·cases h
     ·cases h
   | own d n=>cases mx with
    | none=>exact (par_withOwn S d n).bind fun sh rows=>.cnd _ (.cnd _ ((par_bounds _ lo hi).bind fun l h=>.cnd _ (Par2.go _ _) .no) ((par_bounds _ lo hi).bind fun l h=>Par2.go _ _)) .no
    | some _=>exact .no
   | nils sh=>cases mx with
    | none=>exact .cnd _ ((par_bounds _ lo hi).bind fun l h=>Par2.go _ _) .no
    | some _=>exact .no
   | _=>exact .no
  | _=>exact .no
theorem par_readArr (S:St) (sh:List Sh) (d o i c m:Nat):Par1 (readArr S sh d o i c m):=by
 unfold readArr
 cases lk? S.tab d with
 | none=>exact .no
 | some b=>cases b with
  | var cells=>exact .cnd _ (.cnd _ (Par1.go _) .no) .no
  | _=>exact .no
theorem par_writeArr (S:St) (sh:List Sh) (d o i c m:Nat) (new:List V):Par1 (writeArr S sh d o i c m new):=by
 unfold writeArr
 cases lk? S.tab d with
 | none=>exact .no
 | some b=>cases b with
  | var cells=>exact .cnd _ (.cnd _ (.cnd _ (Par1.go _) .no) .no) .no
  | _=>exact .no
theorem par_indexAddrOp (E:Env) (t:TypeId) (x i:V) (S:St):Par1 (indexAddrOp E t x i S):=by
 refine (par_ints i).bind fun i=>?_
 cases E.P.underlying t with
 | none=>exact .no
 | some u =>
  cases u with
  | slice e=>cases x with
   | slc sh rows=>exact .cnd _ (.cnd _ (Par1.go _) .no) .no
   | own d g=>exact (par_withOwn S d g).bind fun sh rows=>.cnd _ (.cnd _ (Par1.go _) .no) .no
   | _=>exact .no
  | array m e=>cases x with
   | ptr d r o g=>exact .cnd _ (.cnd _ (Par1.go _) .no) .no
   | cref cs=>exact .cnd _ (.cnd _ (.cnd _ (Par1.go _) .no) .no) .no
   | _=>exact .no
  | _=>exact .no
theorem par_lenOp (E:Env) (t:TypeId) (x:V) (S:St):Par1 (lenOp E t x S):=by
 unfold lenOp
 cases E.P.underlying t with
 | none=>exact .no
 | some u =>
  cases u with
  | string=>cases x with
   | str s=>exact Par1.go _
   | _=>exact .no
  | slice e=>cases x with
   | slc sh rows=>exact Par1.go _
   | nils sh=>exact Par1.go _
   | emp sh=>exact Par1.go _
   | nn sh=>exact Par1.go _
   | own d g=>exact (par_withOwn S d g).bind fun sh rows=>Par1.go _
   | _=>exact .no
  | _=>exact .no
theorem par_capOp (E:Env) (t:TypeId) (x:V):Par1 (capOp E t x):=by
 unfold capOp
 cases E.P.underlying t with
 | none=>exact .no
 | some u =>
  cases u with
  | slice e=>cases x with
   | nils sh=>exact Par1.go _
   | _=>exact .no
  | _=>exact .no
theorem par_unop (op:UnOp) (x:V):Par1 (unop op x):=by
 cases x with
 | bool b=>cases op<;>first | exact Par1.go _ | exact .no
 | int k n=>cases op<;>first | exact Par1.go _ | exact .no
 | _=>exact .no
theorem par_binop (P:Program) (op:BinOp) (t:TypeId) (x y:V):Par1 (binop P op t x y):=by
 have rest:Par1 (fun (k₀:V→Option R)=>match nilEq x y with
  | some (c,e)=>match P.underlying t with
   | some (.slice _)=>cond c (match op with | .eql=>k₀ (.bool e) | .neq=>k₀ (.bool !e) | _=>none) none
   | _=>none
  | none=>match op with
   | .eql=>match veq P t x y with | some e=>k₀ (.bool e) | none=>none
   | .neq=>match veq P t x y with | some e=>k₀ (.bool !e) | none=>none
   | _=>none):=by
  cases nilEq x y with
  | some p =>
   obtain ⟨c,e⟩:=p
   simp only
   cases P.underlying t with
   | none=>exact .no
   | some u=>cases u with
    | slice e'=>refine .cnd _ ?_ .no; cases op<;>first | exact Par1.go _ | exact .no
    | _=>exact .no
  | none =>
   simp only
   cases veq P t x y with
   | none=>cases op<;>exact .no
   | some e=>cases op<;>first | exact Par1.go _ | exact .no
 cases x with
 | int k x=>cases y with
  | int k' y =>
   cases op with
   | shl=>exact .cnd _ .no (Par1.go _)
   | shr=>exact .cnd _ .no (Par1.go _)
   | quo=>exact .cnd _ (.cnd _ .no (Par1.go _)) .no
   | rem=>exact .cnd _ (.cnd _ .no (Par1.go _)) .no
   | _=>first | exact .cnd _ (Par1.go _) .no | exact .cnd _ .no .no
  | _=>exact rest
 | str x=>cases y with
  | str y =>
   cases op with
   | add=>exact .cnd _ (Par1.go _) .no
   | _=>first | exact Par1.go _ | exact .no
  | _=>exact rest
 | _=>exact rest
section
variable {E:Env}
theorem par_minmax (x y:V) (f:Int→Int→Int):Par1 (fun (k:V→Option R)=>match x,y with
  | .int i x,.int _ y=>k (.int i (f x y))
  | _,_=>none):=by
 cases x with
 | int i x=>cases y with
  | int j y=>exact Par1.go _
  | _=>exact .no
 | _=>exact .no
theorem par_maxG (i:IntKind):∀ (vs:List V) (x:Int),Par1 (maxG i x vs)
 | [],x=>Par1.go _
 | v::r,x=>by
  cases v with
  | int k y=>exact par_maxG i r _
  | _=>exact .no
theorem par_call (hX:XPar E) (S:St) (dst:Option Nat) (ty:TypeId) (c:Call) (pos:String) (after:Array Edge) (guard:Option (Nat × Bool)):Par2 (evOp E S ⟨dst,.call c,ty,pos,after,guard⟩):=by
 obtain ⟨callee,args,ats⟩:=c
 cases callee with
 | value fo =>
  show Par2 (fun (k:V→St→Option R)=>match S.eval E.P ty fo with
   | .fn f first caps=>cond (Nat.beq args.toList.length ats.toList.length) (callFn E f dst (first++args.toList.zipWith (fun x t=>S.eval E.P t x) ats.toList++caps) ((first.map fun _=>0)++ats.toList) S k) none
   | _=>none)
  cases S.eval E.P ty fo with
  | fn f first caps=>exact .cnd _ (par_callFn hX f dst _ _ S) .no
  | _=>exact .no
 | builtin b =>
  intro K q h
  cases b with
  | len =>
   simp only [evOp] at h ⊢
   split at h
   ·rename_i x t e1 e2
    try simp only [e1,e2]
    exact ((par_lenOp E t (S.eval E.P t x) S).bind fun v=>Par2.go _ _) K q h
   ·cases h
  | cap =>
   simp only [evOp] at h ⊢
   split at h
   ·rename_i x t e1 e2
    try simp only [e1,e2]
    exact ((par_capOp E t (S.eval E.P t x)).bind fun v=>Par2.go _ _) K q h
   ·cases h
  | min =>
   simp only [evOp] at h ⊢
   split at h
   ·rename_i x y e1
    try simp only [e1]
    exact ((par_minmax (S.eval E.P ty x) (S.eval E.P ty y) (fun x y=>cond (ilt y x) y x)).bind fun v=>Par2.go v S) K q h
   ·cases h
  | max =>
   simp only [evOp] at h ⊢
   split at h
   ·exact ((par_minmax (S.eval E.P ty _) (S.eval E.P ty _) (fun x y=>cond (ilt x y) y x)).bind fun v=>Par2.go v S) K q h
   ·split at h
    ·exact ((par_maxG _ _ _).bind fun v=>Par2.go v S) K q h
    ·cases h
   ·cases h
  | append =>
   simp only [evOp] at h ⊢
   split at h
   ·rename_i x y t u e1 e2
    try simp only [e1,e2]
    exact (par_appendOp E dst t u _ _ S) K q h
   ·cases h
  | _=>cases h
 | _=>exact .no
theorem par_evOp (hX:XPar E) (S:St) (o:Oper):Par2 (evOp E S o):=by
 obtain ⟨dst,op,ty,pos,after,guard⟩:=o
 cases op with
 | move x=>exact Par2.go _ _
 | assign x=>exact Par2.go _ _
 | pick c a b =>
  show Par2 (fun (k:V→St→Option R)=>match S.eval E.P ty c with
   | .bool t=>match S.eval E.P ty a,S.eval E.P ty b with
    | .bool x,.bool y=>k (.bool (cond t x y)) S
    | x,y=>cond t (k x S) (k y S)
   | _=>none)
  generalize S.eval E.P ty c=vc
  generalize S.eval E.P ty a=va
  generalize S.eval E.P ty b=vb
  cases vc with
  | bool t =>
   cases va with
   | bool x=>cases vb with
    | bool y=>exact Par2.go _ _
    | _=>exact .cnd _ (Par2.go _ _) (Par2.go _ _)
   | _=>cases vb<;>exact .cnd _ (Par2.go _ _) (Par2.go _ _)
  | _=>exact .no
 | alloc e=>cases dst with
  | none=>exact .no
  | some d=>exact .cnd _ ((par_putBox S _ _).bind fun S=>Par2.go _ _) .no
 | box e x=>cases dst with
  | none=>exact .no
  | some d=>exact .cnd _ (.cnd _ (.cnd _ (Par2.go _ _) .no) .no) (.cnd _ ((par_putBox S _ _).bind fun S=>Par2.go _ _) .no)
 | build t ps =>
  intro K q h
  simp only [evOp] at h ⊢
  split at h
  ·rename_i fs e1
   try simp only [e1]
   obtain ⟨c1,h⟩:=cond_none h
   simp only [c1,cond_true]
   split at h
   ·rename_i cs e2
    try simp only [e2]
    exact (Par2.go _ _) K q h
   ·cases h
  ·cases h
 | buildSlice t n ps =>
  intro K q h
  simp only [evOp] at h ⊢
  split at h
  ·rename_i e e1
   try simp only [e1]
   exact (ParG.cnd _ ((par_dataVs _ S).bind fun vs S=>.cnd _ (.cnd _ (Par2.go _ _) .no) .no) .no) K q h
  ·cases h
 | load t a =>
  refine .cnd _ ?_ .no
  show Par2 (fun (k:V→St→Option R)=>match S.eval E.P ty a with
   | .ptr d r o g=>readAt S d r o g (E.P.cellsOf t) fun cs=>k (asV E.P t cs) S
   | .cref cs=>cond (Nat.ble (E.P.cellsOf t) cs.length) (k (asV E.P t (cs.take (E.P.cellsOf t))) S) none
   | .ptx d _ o _ i c m=>cond (Nat.beq (E.P.cellsOf t) c) (readArr S (shOf E.P FUEL t) d o i c m fun cs=>k (asV E.P t cs) S) none
   | _=>none)
  cases S.eval E.P ty a with
  | ptr d r o g=>exact (par_readAt S _ _ _ _ _).bind fun cs=>Par2.go _ _
  | cref cs=>exact .cnd _ (Par2.go _ _) .no
  | ptx d r o g i c m=>exact .cnd _ ((par_readArr S _ _ _ _ _ _).bind fun cs=>Par2.go _ _) .no
  | _=>exact .no
 | store t a x =>
  show Par2 (fun (k:V→St→Option R)=>match S.eval E.P ty a with
   | .ptr d r o g=>cond (cond (Nat.blt 0 (S.eval E.P ty x).cells.length) (Nat.beq (S.eval E.P ty x).cells.length (E.P.cellsOf t)) false) (cond (scalL (S.eval E.P ty x).cells) (writeAt S d r o g (S.eval E.P ty x).cells fun S=>k .undef S) none) none
   | .ptx d _ o _ i c m=>cond (cond (Nat.blt 0 (S.eval E.P ty x).cells.length) (cond (Nat.beq (S.eval E.P ty x).cells.length (E.P.cellsOf t)) (Nat.beq (E.P.cellsOf t) c) false) false) (writeArr S (shOf E.P FUEL t) d o i c m (S.eval E.P ty x).cells fun S=>k .undef S) none
   | _=>none)
  cases S.eval E.P ty a with
  | ptr d r o g=>exact .cnd _ (.cnd _ ((par_writeAt S _ _ _ _ _).bind fun S=>Par2.go _ _) .no) .no
  | ptx d r o g i c m=>exact .cnd _ ((par_writeArr S _ _ _ _ _ _ _).bind fun S=>Par2.go _ _) .no
  | _=>exact .no
 | nilCheck x =>
  show Par2 (fun (k:V→St→Option R)=>match S.eval E.P ty x with
   | .ptr d r o g=>k (.ptr d r o g) S
   | .ptx d r o g i c m=>k (.ptx d r o g i c m) S
   | .cref cs=>k (.cref cs) S
   | .fn f a b=>k (.fn f a b) S
   | _=>none)
  cases S.eval E.P ty x<;>first | exact Par2.go _ _ | exact .no
 | binOp op t x y yt =>
  show Par2 (fun (k:V→St→Option R)=>match ifcEq op (S.eval E.P t x) y with
   | some e=>cond (isIfcT E.P t) (k (.bool e) S) none
   | none=>binop E.P op t (S.eval E.P t x) (S.eval E.P yt y) fun v=>k v S)
  cases ifcEq op (S.eval E.P t x) y with
  | some e =>
   cases isIfcT E.P t with
   | true=>exact Par2.go _ _
   | false=>exact .no
  | none=>exact (par_binop E.P op t _ _).bind fun v=>Par2.go _ _
 | unOp op t x=>exact (par_unop op _).bind fun v=>Par2.go _ _
 | convert s d x =>
  show Par2 (fun (k:V→St→Option R)=>convOp E s d (S.eval E.P ty x) S fun v=>k v S)
  exact (par_convOp E s d (S.eval E.P ty x) S).bind fun v=>Par2.go _ _
 | makeFunc fo first caps=>cases fo with
  | func f=>exact Par2.go _ _
  | _=>exact .no
 | slice t x lo hi mx=>exact par_sliceOp E t _ _ _ _ S
 | fieldAddr t x f =>
  intro K q h
  simp only [evOp] at h ⊢
  split at h
  ·rename_i off ft e1
   try simp only [e1]
   refine (ParG.cnd (A:=A2) _ .no ?_) K q h
   cases S.eval E.P ty x with
   | ptr d r o g=>exact Par2.go _ _
   | cref cs=>exact Par2.go _ _
   | _=>exact .no
  ·cases h
 | field t x f =>
  intro K q h
  simp only [evOp] at h ⊢
  split at h
  ·rename_i off ft cs e1 e2
   try simp only [e1,e2]
   exact (ParG.cnd (A:=A2) _ (.cnd _ (.cnd _ .no (Par2.go _ _)) .no) .no) K q h
  ·cases h
 | indexAddr t x i =>
  show Par2 (fun (k:V→St→Option R)=>indexAddrOp E t (S.eval E.P ty x) (S.eval E.P ty i) S fun v=>k v S)
  exact (par_indexAddrOp E t (S.eval E.P ty x) (S.eval E.P ty i) S).bind fun v=>Par2.go _ _
 | index t x i =>
  refine (par_ints _).bind fun i=>?_
  intro K q h
  simp only at h ⊢
  split at h
  ·rename_i s e1 e2
   try simp only [e1,e2]
   exact (ParG.cnd (A:=A2) _ (Par2.go _ _) .no) K q h
  ·rename_i m e cs e1 e2
   try simp only [e1,e2]
   exact (ParG.cnd (A:=A2) _ (.cnd _ (.cnd _ (Par2.go _ _) .no) .no) .no) K q h
  ·cases h
 | extract x i =>
  intro K q h
  simp only [evOp] at h ⊢
  split at h
  ·rename_i vs e1
   try simp only [e1]
   split at h
   ·rename_i v e2
    try simp only [e2]
    exact (Par2.go _ _) K q h
   ·cases h
  ·cases h
 | makeSlice t l c =>
  intro K q h
  simp only [evOp] at h ⊢
  split at h
  ·rename_i e d e1
   try simp only [e1]
   exact ((par_ints _).bind fun l=>(par_ints _).bind fun c=>ParG.cnd (A:=A2) _ (.cnd _ ((par_putBox S _ _).bind fun S=>Par2.go _ _) .no) .no) K q h
  ·cases h
 | call c=>exact par_call hX S dst ty c pos after guard
 | _=>exact .no
theorem par_evOps (hX:XPar E) (ops:Array Oper):∀ (l:List Oper) (S:St),Par1 (evOps E ops l S)
 | [],S=>Par1.go _
 | o::r,S=>by
  have go:∀ S' : St,Par1 (fun (k:St→Option R)=>evOp E S' o fun v S=>vf v fun v=>evOps E ops r (S.put o.dst v) k):=fun S' =>
   (par_evOp hX S' o).bind fun v S=>.vf (par_evOps hX ops r _)
  show Par1 (fun k=>evOps E ops (o::r) S k)
  unfold evOps
  cases o.guard with
  | none=>exact go S
  | some p =>
   obtain ⟨j,want⟩:=p
   simp only
   cases slotOf ops j with
   | none=>exact .no
   | some t =>
    simp only
    cases S.get t with
    | bool b=>exact .cnd _ (.cnd _ (go _) (par_evOps hX ops r _)) (.cnd _ (par_evOps hX ops r _) (go _))
    | tup l=>cases l with
     | nil=>exact par_evOps hX ops r _
     | cons _ _=>exact .no
    | _=>exact .no
theorem par_evStep (hX:XPar E) (s:Step) (Pr:List (List Nat × List Nat)) (S:St):Par3 (evStep E s Pr S):=by
 have one:Par3 (fun (k:V→List (List Nat × List Nat)→St→Option R)=>evOp E S s.o fun v S'=>k v Pr S'):=(par_evOp hX S s.o).bind fun v S=>Par3.go _ _ _
 obtain ⟨i,o,kd,L,C,dr,ws,wc⟩:=s
 match kd with
 | 0=>exact .cnd _ ((par_evOp hX S o).bind fun v S=>Par3.go _ _ _) .no
 | 1=>exact one
 | n+2 =>
  show Par3 (fun (k:V→List (List Nat × List Nat)→St→Option R)=>match hidOf L Pr with
   | []=>evOp E S o fun v S'=>k v Pr S'
   | d::H=>cond (presB S (d::H)) (evOp E (S.hide (d::H)) o fun v S'=>k v Pr (S.unhide (d::H) S')) none)
  cases hidOf L Pr with
  | nil=>exact one
  | cons d H=>exact .cnd _ ((par_evOp hX _ o).bind fun v S=>Par3.go _ _ _) .no
theorem par_evDraw (hX:XPar E) (ops:Array Oper):∀ (l:List Step) (Pr:List (List Nat × List Nat)) (S:St),Par1 (evDraw E ops l Pr S)
 | [],Pr,S=>Par1.go _
 | s::r,Pr,S=>by
  have go:∀ S' : St,Par1 (fun (k:St→Option R)=>evStep E s Pr S' fun v Pr S=>vf v fun v=>evDraw E ops r Pr (S.put s.o.dst v) k):=fun S' =>
   (par_evStep hX s Pr S').bind fun v Pr S=>.vf (par_evDraw hX ops r _ _)
  show Par1 (fun k=>evDraw E ops (s::r) Pr S k)
  unfold evDraw
  refine .cnd _ (.cnd _ ?_ .no) .no
  cases s.o.guard with
  | none=>exact go _
  | some p =>
   obtain ⟨j,want⟩:=p
   simp only
   cases slotOf ops j with
   | none=>exact .no
   | some t =>
    simp only
    cases (S.drop s.dr).get t with
    | bool b=>exact .cnd _ (.cnd _ (go _) (par_evDraw hX ops r _ _)) (.cnd _ (par_evDraw hX ops r _ _) (go _))
    | tup l=>cases l with
     | nil=>exact par_evDraw hX ops r _ _
     | cons _ _=>exact .no
    | _=>exact .no
theorem par_evCode (hX:XPar E):∀ (c:Code),(∀ id,E.L id=none)→∀ S,Par2 (evCode E c S)
 | .skip,_,S=>Par2.go _ _
 | .region _ ops false,_,S=>(par_evOps hX ops ops.toList S).bind fun S=>Par2.go _ _
 | .region _ ops true,_,S=>by
  refine .cnd _ ?_ .no
  cases sched E.P ops (numberFrom 0 ops.toList) ops.size [] [] with
  | none=>exact .no
  | some l=>exact (par_evDraw hX ops l [] S).bind fun S=>Par2.go _ _
 | .seq a b,hL,S=>(par_evCode hX a hL S).bind fun e S=>by
  cases e with
  | normal=>exact par_evCode hX b hL S
  | _=>exact Par2.go _ _
 | .cond c a b,hL,S=>by
  show Par2 (fun k=>evCode E (.cond c a b) S k)
  unfold evCode
  cases S.eval E.P 0 c with
  | bool t=>exact .cnd _ (par_evCode hX a hL S) (par_evCode hX b hL S)
  | _=>exact .no
 | .block id c,hL,S=>(par_evCode hX c hL S).bind fun e S=>by
  cases e with
  | exit j=>exact .cnd _ (Par2.go _ _) (Par2.go _ _)
  | _=>exact Par2.go _ _
 | .loop c,hL,S=>by
  show Par2 (fun k=>evCode E (.loop c) S k)
  unfold evCode
  cases firstRegion c with
  | none=>exact .no
  | some id =>
   simp only [hL id]
   exact .no
 | .exit id,_,S=>Par2.go _ _
 | .scope c,hL,S=>par_evCode hX c hL S
 | .label _,_,S=>Par2.go _ _
 | .ret,_,S=>Par2.go _ _
 | .rangeFunc ..,_,S=>.no
 | .goto _,_,S=>.no
 | .refuse _,_,S=>.no
theorem par_retVals (S:St):∀ (rs:List ResultVar),Par1 (retVals E S rs)
 | []=>Par1.go _
 | .tmp t::r=>(par_retVals S r).bind fun vs=>Par1.go _
 | .cell a t::r=>by
  show Par1 (fun k=>retVals E S (.cell a t::r) k)
  unfold retVals
  cases S.get a with
  | ptr d i o g=>exact .cnd _ ((par_readAt S _ _ _ _ _).bind fun cs=>(par_retVals S r).bind fun vs=>Par1.go _) .no
  | _=>exact .no
end
end Go.Ev

/- Functions that are gone through in place,and slices that are handed over and come back: lemmas; the callees' own soundness is a premise. -/
namespace Go.Ev
open Go Go.RowKit
def CodeOkF (P:Program) (m:Nat) (c:Code) (S:St) (K:Ex→St→Option R) (q:R):Prop :=
 ∀ (w₀:Base),∀ I₀ O₀ ρ I a w,Rel m w₀ I₀ O₀ ρ I S a w→Good P w₀.toWorld I₀ O₀→∀ Q:Exit→Act→World→Prop,
  (∀ e S' a' w' ρ' I',Rel m w₀ I₀ O₀ ρ' I' S' a' w'→K e S' = some q→Q e.to a' w')→c.wp P Q a w
theorem evCode_flat {E:Env} {m:Nat} (hG:GOk E) (hL:∀ id,E.L id=none) :
  ∀ (c:Code),dstsOk m c=true→∀ S K q,evCode E c S K=some q→CodeOkF E.P m c S K q
 | .skip,_,S,K,q,h=>fun w₀ I₀ O₀ ρ I a w hr hgd Q hq=>wp_skip (hq .normal S a w ρ I hr h)
 | .region id ops false,hd,S,K,q,h=>fun w₀ I₀ O₀ ρ I a w hr hgd Q hq=>by
  refine wp_region ?_
  have:=evOps_ok (m:=m) hG ops (K:=K .normal) (q:=q) (Q:=Q) (w₀:=w₀) (I₀:=I₀) (O₀:=O₀) hgd (fun S a w ρ I hr hk=>hq .normal S a w ρ I hr hk) ops.toList 0 ops.size (by omega) (by simp)
   (fun o ho d hd'=>by
    simp only [dstsOk] at hd
    have:=List.all_eq_true.1 hd o ho
    rw [hd'] at this
    exact Nat.le_of_ble_eq_true this) S h a w ρ I hr
  rwa [← List.range_eq_range'] at this
 | .seq x y,hd,S,K,q,h=>fun w₀ I₀ O₀ ρ I a w hr hgd Q hq=>by
  obtain ⟨d1,d2⟩:=cond_and hd
  simp only [evCode] at h
  refine wp_seq (evCode_flat hG hL x d1 S _ q h w₀ I₀ O₀ ρ I a w hr hgd _ fun e S' a' w' ρ' I' hr' hk=>?_)
  cases e with
  | normal=>exact evCode_flat hG hL y d2 S' K q hk w₀ I₀ O₀ ρ' I' a' w' hr' hgd Q hq
  | exit j=>exact hq _ _ _ _ _ _ hr' hk
  | ret=>exact hq _ _ _ _ _ _ hr' hk
 | .cond c x y,hd,S,K,q,h=>fun w₀ I₀ O₀ ρ I a w hr hgd Q hq=>by
  obtain ⟨d1,d2⟩:=cond_and hd
  simp only [evCode] at h
  split at h
  ·rename_i t hc
   have hv:=eval_ok hr E.P 0 c
   rw [hc] at hv
   have hv:=hv.bool_inv
   cases t with
   | true=>exact wp_cond_true hv (evCode_flat hG hL x d1 S K q h w₀ I₀ O₀ ρ I a w hr hgd Q hq)
   | false=>exact wp_cond_false hv (evCode_flat hG hL y d2 S K q h w₀ I₀ O₀ ρ I a w hr hgd Q hq)
  ·cases h
 | .block id x,hd,S,K,q,h=>fun w₀ I₀ O₀ ρ I a w hr hgd Q hq=>by
  simp only [evCode] at h
  refine wp_block (evCode_flat hG hL x hd S _ q h w₀ I₀ O₀ ρ I a w hr hgd _ fun e S' a' w' ρ' I' hr' hk=>?_)
  cases e with
  | normal=>exact hq _ _ _ _ _ _ hr' hk
  | exit j =>
   simp only [Ex.to,Exit.inBlock]
   rcases cond_some hk with ⟨e,hk⟩ | ⟨e,hk⟩
   ·rw [if_pos (Nat.eq_of_beq_eq_true e)]; exact hq _ _ _ _ _ _ hr' hk
   ·rw [if_neg (fun e'=>by rw [e'] at e; simp at e)]; exact hq _ _ _ _ _ _ hr' hk
  | ret=>exact hq _ _ _ _ _ _ hr' hk
 | .loop x,hd,S,K,q,h=>by
  simp only [evCode] at h
  split at h
  ·rename_i id hid
   rw [hL id] at h
   cases h
  ·cases h
 | .exit id,_,S,K,q,h=>fun w₀ I₀ O₀ ρ I a w hr hgd Q hq=>wp_exit (hq (.exit id) S a w ρ I hr h)
 | .scope x,hd,S,K,q,h=>fun w₀ I₀ O₀ ρ I a w hr hgd Q hq=>by
  simp only [evCode] at h
  refine wp_scope_straight (evCode_flat hG hL x hd S _ q h w₀ I₀ O₀ ρ I a w hr hgd _ fun e S' a' w' ρ' I' hr' hk=>?_)
  cases e<;>exact hq _ _ _ _ _ _ hr' hk
 | .label l,_,S,K,q,h=>fun w₀ I₀ O₀ ρ I a w hr hgd Q hq=>wp_label (hq .normal S a w ρ I hr h)
 | .ret,_,S,K,q,h=>fun w₀ I₀ O₀ ρ I a w hr hgd Q hq=>wp_ret (hq .ret S a w ρ I hr h)
 | .region id ops true,hd,S,K,q,h=>fun w₀ I₀ O₀ ρ I a w hr hgd Q hq=>by
  simp only [evCode] at h
  obtain ⟨hc,h⟩:=cond_none h
  obtain ⟨hm,hsel⟩:=cond_and hc
  split at h
  ·rename_i l hs
   refine draw_ok (m:=m) hG hm hsel (fun o ho d hd'=>?_) hs h hr hgd (fun S a w ρ I hr hk=>hq .normal S a w ρ I hr hk)
   simp only [dstsOk] at hd
   have:=List.all_eq_true.1 hd o ho
   rw [hd'] at this
   exact Nat.le_of_ble_eq_true this
  ·cases h
 | .goto l,_,S,K,q,h=>by cases h
theorem frame_ok {args:List V} {xs:List Value} {w:World} {J:Nat→Nat→Prop} {ρ:Nat→Option Real} {n:Nat} (hx:AllRv w J ρ args xs) (hn:args.length≤n) :
  (∀ t v,lk? (numberFrom 0 args) t=some v→Rv w J ρ v ((xs.toArray++Array.replicate (n-xs.toArray.size) Go.undef).getD t Go.undef))∧(xs.toArray++Array.replicate (n-xs.toArray.size) Go.undef).size=n:=by
 have hxl:xs.length=args.length:=hx.1.symm
 refine ⟨fun t v hv=>?_,by simp; omega⟩
 rw [lk_number0] at hv
 have ht:=(List.getElem?_eq_some_iff.1 hv).1
 have:=hx.2 t ht
 rw [List.getD_eq_getElem?_getD,hv,Option.getD_some] at this
 have e:(xs.toArray++Array.replicate (n-xs.toArray.size) Go.undef).getD t Go.undef=xs.getD t Go.undef:=by
  rw [Array.getD_eq_getD_getElem?,Array.getElem?_append_left (by simp; omega),List.getD_eq_getElem?_getD]; simp
 rw [e]; exact this
theorem results_ok {P:Program} {fn:Func} {a:Act} {w:World} {ys:List Value} (h:(fn.results.toList.mapM (retOne a.tmps)).run P w = .ok ys w):(results fn a.tmps).run P w = .ok (tupX ys) w:=by
 have:=run_mapM_array (P:=P) (retOne a.tmps) fn.results ys w h
 have e:results fn a.tmps=(fn.results.mapM (retOne a.tmps) >>= fun vs=>pure (if h:vs.size=1 then vs[0] else .tuple vs)):=by
  unfold results retOne; congr 1
 rw [e,Sem.run_bind,this,Result.andThen_ok]
 match ys with
 | []=>rfl
 | [y]=>rfl
 | y::y'::ys=>simp [tupX]
theorem evFnX_ok {E : Env} (hG : GOk E) (hL : ∀ id, E.L id = none) {f : FuncId} {fn : Func} {c : Code} (hf : E.P.funcs[f]? = some fn) (hb : fn.body = some c) (hnm : (fn.name == "runtime.NumGoroutine") = false) : FnOkX E.P f (evFnX E f) := by
 have hX:XPar E:=fun f F h=>(hG.2.2 f F h).1
 refine ⟨fun vs T=>?_,fun vs tab K q h w₀ I₀ O₀ ρ I w hr hgd xs hxs=>?_⟩
 ·show Par2 (fun k=>evFnX E f vs T k)
  unfold evFnX
  rw [hf]
  simp only [hb]
  refine .cnd _ ((par_evCode hX c hL _).bind fun e S=>?_) .no
  cases e with
  | exit j=>exact .no
  | _=>exact (par_retVals S _).bind fun vs=>Par2.go _ _
 ·unfold evFnX at h
  rw [hf] at h
  simp only [hb] at h
  obtain ⟨h1,h⟩:=cond_none h
  obtain ⟨n1,h1⟩:=cond_and h1
  obtain ⟨hd,_⟩:=cond_and h1
  have n1:=Nat.le_of_ble_eq_true n1
  let w₁:Base:=⟨w,w₀.lent,w₀.small,w₀.hid,ρ,fun b o=>∃ d sh rows g br,lk? tab d=some (.sl sh rows g)∧ρ d=some br∧br.has b o⟩
  let O₁:Nat→Nat→Prop:=fun b o=>∃ d br,Live ⟨[],tab⟩ d∧ρ d=some br∧br.has b o
  obtain ⟨f1,f2⟩:=frame_ok (n:=fn.ntmps) hxs n1
  have enter:Rel fn.ntmps w₁ I O₁ ρ I { fr:=numberFrom 0 vs,tab:=tab } { tmps:=xs.toArray++Array.replicate (fn.ntmps-xs.toArray.size) Go.undef,defers:=[] } w :=
   ⟨f1,rfl,f2,hr.tab,hr.dom,hr.apart,hr.notI,fun d br b o hl hd hh=>.inr ⟨d,br,hl,hd,hh⟩,fun d sh rows g br b o hb hd hh=>.inr ⟨d,sh,rows,g,br,hb,hd,hh⟩,hr.alive,hr.ilt,fun _ _ h=>h,fun _ _ h _=>.inl h,Keeps.refl _ _,hr.lent,hr.hid,Evo.refl _⟩
  have hgd₁:Good E.P w₁.toWorld I O₁:=fun b o x hx=>by
   obtain ⟨g1,g2⟩:=hr.held hgd b o x hx
   exact ⟨⟨g1,fun ⟨d,br,hl,hd,hh⟩=>hr.notI d br b o hl hd hh g1⟩,g2⟩
  refine .inl ⟨?_,calls_of_wp hf hb ?_⟩
  ·have hnm' : ¬ fn.name = "runtime.NumGoroutine" := fun e => by rw [e] at hnm; cases hnm
   simp [callFunc,hf,hnm',hb]
  ·refine evCode_flat hG hL c hd _ _ _ h w₁ I O₁ ρ I _ w enter hgd₁ _ fun e S' a' w' ρ' I' hr' hk=>?_
   have fin:retVals E S' fn.results.toList (fun vs=>K (tupOf vs) S'.tab)=some q→a'.defers=[]∧∃ v,(results fn a'.tmps).run E.P w' = .ok v w'∧∃ v',Ending.returned v = .returned v' ∧
     ∃ u tab' ρ' I',K u tab' = some q∧Rel 0 w₀ I₀ O₀ ρ' I' ⟨[],tab'⟩ act0 w'∧Rv w' I' ρ' u v'∧Evo ρ ρ'∧(∀ b o,I b o→I' b o)∧∀ b o,I b o→w'.cell? ⟨b,o,none⟩=w.cell? ⟨b,o,none⟩:=fun hk=>by
    obtain ⟨us,k1,k2,k3⟩:=retVals_ok (m:=fn.ntmps) _ hk
    obtain ⟨ys,g1,g2⟩:=k3 _ _ _ ρ' I' a' w' hr'
    have hnO:∀ b o,I b o→¬ O₁ b o:=fun b o hi ⟨d,br,hl,hd,hh⟩=>hr.notI d br b o hl hd hh hi
    have hcell:∀ b o,I b o→w'.cell? ⟨b,o,none⟩=w.cell? ⟨b,o,none⟩:=fun b o hi=>hr'.keeps.cell (hnO b o hi) (hr.ilt b o hi)
    have hsz:w₀.heap.size≤w.heap.size:=hr.keeps.size
    refine ⟨hr'.dfr,tupX ys,results_ok g1,_,rfl,_,_,ρ',I',k1,?_,tupOf_ok g2,hr'.evo,hr'.imono,hcell⟩
    refine ⟨(fun _ _ h=>by cases h),rfl,rfl,hr'.tab,hr'.dom,hr'.apart,hr'.notI,fun d br b o hl hd hh=>?_,fun d sh rows g br b o hb hd hh=>?_,hr'.alive,hr'.ilt,fun b o h=>hr'.imono b o (hr.imono b o h),fun b o hi hlt=>?_,
     hr.keeps.trans hr'.keeps ?_,hr'.lent,hr'.hid,hr.evo.trans hr'.evo⟩
    ·rcases hr'.org d br b o hl hd hh with k | ⟨d',br',l1,l2,l3⟩
     ·exact .inl (Nat.le_trans hsz k)
     ·exact hr.org d' br' b o l1 l2 l3
    ·rcases hr'.slorg d sh rows g br b o hb hd hh with k | ⟨d',sh',rows',g',br',l1,l2,l3⟩
     ·exact .inl (Nat.le_trans hsz k)
     ·exact hr.slorg d' sh' rows' g' br' b o l1 l2 l3
    ·rcases hr'.iold b o hi (Nat.lt_of_lt_of_le hlt hsz) with k | ⟨d',sh',rows',g',br',l1,l2,l3⟩
     ·exact hr.iold b o k hlt
     ·rcases hr.slorg d' sh' rows' g' br' b o l1 l2 l3 with k | k
      ·omega
      ·exact .inr k
    ·rintro b o hlt ⟨d',br',l1,l2,l3⟩
     rcases hr.org d' br' b o l1 l2 l3 with k | k
     ·omega
     ·exact k
   cases e with
   | normal=>exact fin hk
   | exit j=>cases hk
   | ret=>exact fin hk
end Go.Ev

/- Answers over Lean's own types: a function's answer,said of numbers,texts,lists and structs: definitions and lemmas,no condition. -/
namespace Go.Ev
open Go Go.RowKit
mutual
def wfV:V→Bool
 | .int k n=>(Lit.int k n).wf
 | .str s=>Nat.ble s.length 9223372036854775807
 | .slc sh rows=>cond (Nat.ble rows.length 9223372036854775807) (cond (fitsRows sh rows) (wfRs rows) false) false
 | .bool _=>true
 | .nils _=>true
 | _=>false
def wfL:List V→Bool
 | []=>true
 | v::r=>cond (wfV v) (wfL r) false
def wfRs:List (List V)→Bool
 | []=>true
 | r::rs=>cond (wfL r) (wfRs rs) false
end
theorem wfL_append:∀ (a b:List V),wfL (a++b)=cond (wfL a) (wfL b) false
 | [],b=>by simp [wfL]
 | v::r,b=>by
  simp only [List.cons_append,wfL,wfL_append r b]
  cases wfV v<;>cases wfL r<;>cases wfL b<;>rfl
theorem wfRs_map {α:Type} (dec:List V→α) (enc:α→List V) (sh:List Sh) (h:∀ r,fitsL sh r=true→wfL r=true→wfL (enc (dec r))=true):∀ rows,fitsRows sh rows=true→wfRs rows=true→wfRs ((rows.map dec).map enc)=true
 | [],_,_=>rfl
 | r::rs,hf,hr=>by
  simp only [wfRs] at hr
  simp only [fitsRows] at hf
  cases e:wfL r with
  | false=>rw [e] at hr; cases hr
  | true =>
   cases e2:fitsL sh r with
   | false=>rw [e2] at hf; cases hf
   | true =>
    rw [e] at hr
    rw [e2] at hf
    simp only [List.map_cons,wfRs,h r e2 e,cond_true]
    exact wfRs_map dec enc sh h rs hf hr
structure RCod (α:Type) where
 sh:List Sh
 enc:α→List V
 dec:List V→α
 rf:Sh.beqL sh sh=true
 fit:∀ a,fitsL sh (enc a)=true
 wf:∀ row,fitsL sh row=true→wfL row=true→wfL (enc (dec row))=true
 de:∀ a,dec (enc a)=a
 law:∀ (w:World) (I:Nat→Nat→Prop) (row:List V) (val:Nat→Value),fitsL sh row=true→(∀ j,j<sh.length→Dat w I (row.getD j .undef) (val j))→∀ j,j<sh.length→Dat w I ((enc (dec row)).getD j .undef) (val j)
theorem fitsL_len {sh:List Sh} {row:List V} (h:fitsL sh row=true):row.length=sh.length:=(fitsL_spec sh row h).1
theorem fits_int {k:IntKind} {v:V} (h:fits (.int k) v=true):∃ n,v = .int k n:=by
 cases v<;>first | (cases h; done) | (simp only [fits,decide_eq_true_eq] at h; subst h; exact ⟨_,rfl⟩)
theorem fits_bool {v:V} (h:fits .bool v=true):∃ n,v = .bool n:=by cases v<;>first | (cases h; done) | exact ⟨_,rfl⟩
theorem fits_str {v:V} (h:fits .str v=true):∃ n,v = .str n:=by cases v<;>first | (cases h; done) | exact ⟨_,rfl⟩
theorem fits_slc {c:List Sh} {v:V} (h:fits (.slc c) v=true):(∃ r,v = .slc c r)∨v = .nils c:=by
 cases v<;>first | (cases h; done) | (have:=Sh.beqL_eq _ _ h; subst this; first | exact .inl ⟨_,rfl⟩ | exact .inr rfl)
theorem fitsL_one {s:Sh} {row:List V} (h:fitsL [s] row=true):∃ v,row=[v]∧fits s v=true:=by
 match row,h with
 | [],h=>cases h
 | [v],h =>
  refine ⟨v,rfl,?_⟩
  simp only [fitsL] at h
  cases e:fits s v with
  | true=>rfl
  | false=>rw [e] at h; cases h
 | v::u::r,h =>
  simp only [fitsL] at h
  cases e:fits s v with
  | true=>rw [e] at h; cases h
  | false=>rw [e] at h; cases h
theorem fitsL_append:∀ (s t:List Sh) (x y:List V),fitsL s x=true→fitsL t y=true→fitsL (s++t) (x++y)=true
 | [],t,x,y,h,k=>by cases x with | nil=>exact k | cons _ _=>cases h
 | a::s,t,x,y,h,k=>by
  cases x with
  | nil=>cases h
  | cons v x =>
   simp only [fitsL] at h
   simp only [List.cons_append,fitsL]
   cases e:fits a v with
   | false=>rw [e] at h; cases h
   | true=>rw [e] at h; exact fitsL_append s t x y h k
theorem fitsL_split:∀ (s t:List Sh) (z:List V),fitsL (s++t) z=true→fitsL s (z.take s.length)=true∧fitsL t (z.drop s.length)=true
 | [],t,z,h=>⟨rfl,by simpa using h⟩
 | a::s,t,z,h=>by
  cases z with
  | nil=>cases h
  | cons v z =>
   simp only [List.cons_append,fitsL] at h
   simp only [List.length_cons,List.take_succ_cons,List.drop_succ_cons,fitsL]
   cases e:fits a v with
   | false=>rw [e] at h; cases h
   | true=>rw [e] at h; exact fitsL_split s t z h
theorem Sh.beqL_append:∀ (a b c d:List Sh),Sh.beqL a b=true→Sh.beqL c d=true→Sh.beqL (a++c) (b++d)=true
 | [],b,c,d,h,k=>by cases b with | nil=>exact k | cons _ _=>cases h
 | x::a,b,c,d,h,k=>by
  cases b with
  | nil=>cases h
  | cons y b =>
   simp only [Sh.beqL] at h
   simp only [List.cons_append,Sh.beqL]
   cases e:Sh.beq x y with
   | false=>rw [e] at h; cases h
   | true=>rw [e] at h; exact Sh.beqL_append a b c d h k
def rInt (k:IntKind):RCod Int where
 sh:=[.int k]; enc n:=[.int k n]; dec r:=(r.getD 0 .undef).toInt
 rf:=by simp [Sh.beqL,Sh.beq]
 fit _:=by simp [fitsL,fits]
 de _:=rfl
 wf row h hw:=by
  obtain ⟨v,rfl,hf⟩:=fitsL_one h
  obtain ⟨n,rfl⟩:=fits_int hf
  exact hw
 law w I row val h hd j hj:=by
  obtain ⟨v,rfl,hf⟩:=fitsL_one h
  obtain ⟨n,rfl⟩:=fits_int hf
  have:j=0:=by simp at hj; exact hj
  subst this
  exact hd 0 (by simp)
def rBool:RCod Bool where
 sh:=[.bool]; enc n:=[.bool n]; dec r:=(r.getD 0 .undef).toBool
 rf:=rfl
 fit _:=rfl
 de _:=rfl
 wf row h hw:=by
  obtain ⟨v,rfl,hf⟩:=fitsL_one h
  obtain ⟨n,rfl⟩:=fits_bool hf
  exact hw
 law w I row val h hd j hj:=by
  obtain ⟨v,rfl,hf⟩:=fitsL_one h
  obtain ⟨n,rfl⟩:=fits_bool hf
  have:j=0:=by simp at hj; exact hj
  subst this
  exact hd 0 (by simp)
def rStr:RCod (List UInt8) where
 sh:=[.str]; enc n:=[.str n]; dec r:=(r.getD 0 .undef).toStr
 rf:=rfl
 fit _:=rfl
 de _:=rfl
 wf row h hw:=by
  obtain ⟨v,rfl,hf⟩:=fitsL_one h
  obtain ⟨n,rfl⟩:=fits_str hf
  exact hw
 law w I row val h hd j hj:=by
  obtain ⟨v,rfl,hf⟩:=fitsL_one h
  obtain ⟨n,rfl⟩:=fits_str hf
  have:j=0:=by simp at hj; exact hj
  subst this
  exact hd 0 (by simp)
theorem rows_dat {α:Type} (c:RCod α) {w:World} {I:Nat→Nat→Prop} {rows:List (List V)} {x:Value} (h:Dat w I (.slc c.sh rows) x):Dat w I (.slc c.sh ((rows.map c.dec).map c.enc)) x:=by
 cases h with
 | slc _ _ a cap val hcap hnil hfit ha hd =>
  have hlen:((rows.map c.dec).map c.enc).length=rows.length:=by simp
  have hget:∀ i,i<rows.length→((rows.map c.dec).map c.enc).getD i []=c.enc (c.dec (rows.getD i [])):=fun i hi=>by
   simp [List.getD_eq_getElem?_getD,hi]
  rw [← hlen]
  refine .slc _ _ a cap val (by rw [hlen]; exact hcap) hnil (fitsRows_of _ _ fun i hi=>?_) (fun hr=>?_) (fun i j hi hj=>?_)
  ·rw [hlen] at hi; rw [hget i hi]; exact c.fit _
  ·obtain ⟨b,o,h1,h2⟩:=ha (by intro e; subst e; exact hr rfl)
   exact ⟨b,o,h1,fun i j hi hj=>h2 i j (by rwa [hlen] at hi) hj⟩
  ·rw [hlen] at hi
   unfold rowAt
   rw [hget i hi]
   exact c.law w I _ (val i) (fitsRows_spec _ _ hfit i hi) (fun j hj=>hd i j hi hj) j hj
def rSl {α:Type} (c:RCod α):RCod (List α) where
 sh:=[.slc c.sh]; enc l:=[.slc c.sh (l.map c.enc)]; dec r:=(r.getD 0 .undef).toRows.map c.dec
 rf:=by simp [Sh.beqL,Sh.beq,c.rf]
 fit _:=by simp [fitsL,fits,c.rf]
 de l:=by simp [V.toRows,Function.comp_def,c.de]
 wf row h hw:=by
  obtain ⟨v,rfl,hf⟩:=fitsL_one h
  rcases fits_slc hf with ⟨r,rfl⟩ | rfl
  ·simp only [wfL,wfV] at hw ⊢
   cases e1:Nat.ble r.length 9223372036854775807 with
   | false=>simp only [e1,cond_false] at hw; cases hw
   | true =>
    cases e3:fitsRows c.sh r with
    | false=>simp only [e1,e3,cond_true,cond_false] at hw; cases hw
    | true =>
     cases e2:wfRs r with
     | false=>simp only [e1,e2,e3,cond_true,cond_false] at hw; cases hw
     | true =>
      have g1:((r.map c.dec).map c.enc).length=r.length:=by simp
      have g2:fitsRows c.sh ((r.map c.dec).map c.enc)=true:=fitsRows_of _ _ fun i hi=>by
       rw [g1] at hi
       rw [show ((r.map c.dec).map c.enc).getD i []=c.enc (c.dec (r.getD i [])) by simp [List.getD_eq_getElem?_getD,hi]]
       exact c.fit _
      show (cond (cond (Nat.ble ((r.map c.dec).map c.enc).length 9223372036854775807) (cond (fitsRows c.sh ((r.map c.dec).map c.enc)) (wfRs ((r.map c.dec).map c.enc)) false) false) true false)=true
      rw [g1,e1,g2,wfRs_map c.dec c.enc c.sh c.wf r e3 e2]; rfl
  ·rfl
 law w I row val h hd j hj:=by
  obtain ⟨v,rfl,hf⟩:=fitsL_one h
  have:j=0:=by simp at hj; exact hj
  subst this
  have h0:=hd 0 (by simp)
  rcases fits_slc hf with ⟨r,rfl⟩ | rfl
  ·exact rows_dat c h0
  ·exact rows_dat c (rows:=[]) h0.nrm1
def RCod.and {α β:Type} (c:RCod α) (d:RCod β):RCod (α × β) where
 sh:=c.sh++d.sh; enc p:=c.enc p.1++d.enc p.2; dec r:=(c.dec (r.take c.sh.length),d.dec (r.drop c.sh.length))
 rf:=Sh.beqL_append _ _ _ _ c.rf d.rf
 fit p:=fitsL_append _ _ _ _ (c.fit _) (d.fit _)
 de p:=by
  have l1:(c.enc p.1).length=c.sh.length:=fitsL_len (c.fit _)
  show (c.dec ((c.enc p.1++d.enc p.2).take c.sh.length),d.dec ((c.enc p.1++d.enc p.2).drop c.sh.length))=p
  rw [← l1,List.take_left,List.drop_left,c.de,d.de]
 wf row h hw:=by
  obtain ⟨h1,h2⟩:=fitsL_split _ _ _ h
  have e:row.take c.sh.length++row.drop c.sh.length=row:=List.take_append_drop _ _
  rw [← e,wfL_append] at hw
  obtain ⟨w1,w2⟩:wfL (row.take c.sh.length)=true∧wfL (row.drop c.sh.length)=true:=by
   cases e1:wfL (row.take c.sh.length) with
   | false=>rw [e1] at hw; cases hw
   | true=>rw [e1] at hw; exact ⟨rfl,hw⟩
  rw [wfL_append,c.wf _ h1 w1,d.wf _ h2 w2]; rfl
 law w I row val h hd j hj:=by
  obtain ⟨h1,h2⟩:=fitsL_split _ _ _ h
  have l1:(c.enc (c.dec (row.take c.sh.length))).length=c.sh.length:=fitsL_len (c.fit _)
  have hl:=fitsL_len h
  simp only [List.length_append] at hj hl
  by_cases hjc:j<c.sh.length
  ·have:=c.law w I _ val h1 (fun i hi=>by
    have:=hd i (by simp; omega)
    rwa [show (row.take c.sh.length).getD i .undef=row.getD i .undef by simp [List.getD_eq_getElem?_getD,hi]]) j hjc
   rwa [show (c.enc (c.dec (row.take c.sh.length))++d.enc (d.dec (row.drop c.sh.length))).getD j .undef=(c.enc (c.dec (row.take c.sh.length))).getD j .undef by
    simp [List.getD_eq_getElem?_getD,List.getElem?_append_left (show j<(c.enc (c.dec (row.take c.sh.length))).length by omega)]]
  ·have:=d.law w I _ (fun i=>val (c.sh.length+i)) h2 (fun i hi=>by
    have:=hd (c.sh.length+i) (by simp; omega)
    rwa [show (row.drop c.sh.length).getD i .undef=row.getD (c.sh.length+i) .undef by simp [List.getD_eq_getElem?_getD]]) (j-c.sh.length) (by omega)
   rw [show c.sh.length+(j-c.sh.length)=j by omega] at this
   rwa [show (c.enc (c.dec (row.take c.sh.length))++d.enc (d.dec (row.drop c.sh.length))).getD j .undef=(d.enc (d.dec (row.drop c.sh.length))).getD (j-c.sh.length) .undef by
    simp [List.getD_eq_getElem?_getD,List.getElem?_append_right (show (c.enc (c.dec (row.take c.sh.length))).length≤j by omega),l1]]
def RCod.iso {α β:Type} (c:RCod α) (f:α→β) (g:β→α) (h:∀ a,g (f a)=a) (h2:∀ b,f (g b)=b):RCod β where
 sh:=c.sh; enc b:=c.enc (g b); dec r:=f (c.dec r)
 rf:=c.rf
 fit b:=c.fit _
 de b:=by rw [c.de,h2]
 wf row hf hw:=by
  show wfL (c.enc (g (f (c.dec row))))=true
  rw [h]; exact c.wf row hf hw
 law w I row val hf hd:=by
  show ∀ j,j<c.sh.length→Dat w I ((c.enc (g (f (c.dec row)))).getD j .undef) (val j)
  rw [h]
  exact c.law w I row val hf hd
structure VCod (α:Type) where
 ok:V→Bool
 enc:α→V
 dec:V→α
 ed:∀ a,ok (enc a)=true∧dec (enc a)=a
 law:∀ (w:World) (I:Nat→Nat→Prop) (ρ:Nat→Option Real) (v:V) (x:Value),ok v=true→Rv w I ρ v x→Rv w I ρ (enc (dec v)) x
theorem fitsL_dat:∀ (sh:List Sh) (row:List V),fitsL sh row=true→∀ j,j<sh.length→datV (row.getD j .undef)=true:=fun sh row h j hj=>by
 have:=(fitsL_spec sh row h).2 j hj
 generalize sh.getD j .oth=s at this
 generalize row.getD j .undef=v at this
 cases s<;>cases v<;>first | rfl | cases this
def vAgg {α:Type} (c:RCod α):VCod α where
 ok:=fun | .agg cs=>fitsL c.sh cs | _=>false
 enc a:=.agg (c.enc a)
 dec:=fun | .agg cs=>c.dec cs | _=>c.dec []
 ed a:=⟨c.fit a,c.de a⟩
 law w I ρ v x h hx:=by
  cases v with
  | agg cs =>
   obtain ⟨xs,rfl,l,hh⟩:=hx.agg_inv
   have hl:=fitsL_len h
   have hl' : (c.enc (c.dec cs)).length=c.sh.length:=fitsL_len (c.fit _)
   refine .agg _ xs (by simp only; omega) fun i hi=>?_
   simp only at hi ⊢
   exact .dat (c.law w I cs (fun j=>xs.getD j Go.undef) h (fun j hj=>datV_ok (hh j (by omega)) (fitsL_dat _ _ h j hj)) i (by omega))
  | _=>cases h
def vOne {α:Type} (c:RCod α) (h1:c.sh.length=1):VCod α where
 ok v:=fitsL c.sh [v]
 enc a:=(c.enc a).headD .undef
 dec v:=c.dec [v]
 ed a:=by
  have l1:(c.enc a).length=1:=(fitsL_len (c.fit _)).trans h1
  have e:[(c.enc a).headD .undef]=c.enc a:=by
   match hc:c.enc a,l1 with
   | [v],_=>rfl
   | [],h=>rw [hc] at l1; cases l1
   | _::_::_,h=>rw [hc] at l1; simp at l1
  rw [e]; exact ⟨c.fit a,c.de a⟩
 law w I ρ v x h hx:=by
  have hd:Dat w I v x:=datV_ok hx (by simpa using fitsL_dat _ _ h 0 (by omega))
  have:=c.law w I [v] (fun _=>x) h (fun j hj=>by
   have h0:j=0:=by omega
   subst h0
   exact hd) 0 (by omega)
  have e:(c.enc (c.dec [v])).headD .undef=(c.enc (c.dec [v])).getD 0 .undef:=by cases c.enc (c.dec [v])<;>rfl
  rw [e]; exact .dat this
def vInt (k:IntKind):VCod Int:=vOne (rInt k) rfl
def vBool:VCod Bool:=vOne rBool rfl
def vStr:VCod (List UInt8):=vOne rStr rfl
def vSl {α:Type} (c:RCod α):VCod (List α):=vOne (rSl c) rfl
def vPtr (n:Nat):VCod Unit where
 ok:=fun | .ptr m 0 0 0=>Nat.beq n m | _=>false
 enc _:=.ptr n 0 0 0
 dec _:=()
 ed _:=⟨Nat.beq_refl n,rfl⟩
 law w I ρ v x h hx:=by
  split at h
  ·have:=Nat.eq_of_beq_eq_true h; subst this; exact hx
  ·cases h
structure ACod (α:Type) where
 ok:List V→Bool
 enc:α→List V
 dec:List V→α
 ed:∀ a,ok (enc a)=true∧dec (enc a)=a
 law:∀ (w:World) (I:Nat→Nat→Prop) (ρ:Nat→Option Real) (vs:List V) (xs:List Value),ok vs=true→AllRv w I ρ vs xs→AllRv w I ρ (enc (dec vs)) xs
def aNil:ACod Unit where
 ok:=fun | []=>true | _=>false
 enc _:=[]
 dec _:=()
 ed _:=⟨rfl,rfl⟩
 law w I ρ vs xs h hx:=by cases vs with | nil=>exact hx | cons _ _=>cases h
def aOne {α:Type} (c:VCod α):ACod α where
 ok:=fun | [v]=>c.ok v | _=>false
 enc a:=[c.enc a]
 dec vs:=c.dec (vs.headD .undef)
 ed a:=c.ed a
 law w I ρ vs xs h hx:=by
  match vs,h with
  | [v],h =>
   obtain ⟨x,rfl,hx1⟩:=hx.one
   refine ⟨rfl,fun i hi=>?_⟩
   have:i=0:=by simp at hi; exact hi
   subst this
   exact c.law w I ρ v x h hx1
  | [],h=>cases h
  | _::_::_,h=>cases h
def aCons {α β:Type} (c:VCod α) (r:ACod β):ACod (α × β) where
 ok:=fun | v::vs=>cond (c.ok v) (r.ok vs) false | []=>false
 enc p:=c.enc p.1::r.enc p.2
 dec vs:=(c.dec (vs.headD .undef),r.dec vs.tail)
 ed p:=by
  obtain ⟨h1,h2⟩:=c.ed p.1
  obtain ⟨h3,h4⟩:=r.ed p.2
  refine ⟨?_,?_⟩
  ·show cond (c.ok (c.enc p.1)) (r.ok (r.enc p.2)) false=true
   rw [h1,h3]; rfl
  ·show (c.dec (c.enc p.1),r.dec (r.enc p.2))=p
   rw [h2,h4]
 law w I ρ vs xs h hx:=by
  cases vs with
  | nil=>cases h
  | cons v vs =>
   obtain ⟨h1,h2⟩:c.ok v=true∧r.ok vs=true:=by
    simp only at h
    cases e:c.ok v with
    | true=>rw [e] at h; exact ⟨rfl,h⟩
    | false=>rw [e] at h; cases h
   obtain ⟨x,xs',rfl,hx1,hx2⟩:=hx.uncons
   have g1:=c.law w I ρ v x h1 hx1
   have g2:=r.law w I ρ vs xs' h2 hx2
   refine ⟨by simp [g2.1],fun i hi=>?_⟩
   cases i with
   | zero=>exact g1
   | succ i=>exact g2.2 i (by simpa using hi)
structure BCod (α:Type) where
 ok:List (List V)→Bool
 enc:α→List (List V)
 dec:List (List V)→α
 len:∀ bx,ok bx=true→(enc (dec bx)).length=bx.length
 law:∀ bx,ok bx=true→∀ (j:Nat) (cs cs' : List V),bx[j]? = some cs→(enc (dec bx))[j]? = some cs'→cs'.length=cs.length ∧
  ∀ (w:World) (J:Nat→Nat→Prop) (ρ:Nat→Option Real) (k:Nat) (y:Value),k<cs.length→Rv w J ρ (cs.getD k .undef) y→∀ val:Nat→Value,val k=y →
   (∀ i,i<cs.length→Rv w J ρ (cs.getD i .undef) (val i))→Rv w J ρ (cs'.getD k .undef) y
def bNil:BCod Unit where
 ok:=fun | []=>true | _=>false
 enc _:=[]
 dec _:=()
 len bx h:=by cases bx with | nil=>rfl | cons _ _=>cases h
 law bx h j cs cs' hj:=by cases bx with | nil=>cases hj | cons _ _=>cases h
theorem rcod_box {α:Type} (c:RCod α) {cs:List V} (h:fitsL c.sh cs=true):(c.enc (c.dec cs)).length=cs.length ∧
  ∀ (w:World) (J:Nat→Nat→Prop) (ρ:Nat→Option Real) (k:Nat) (y:Value),k<cs.length→Rv w J ρ (cs.getD k .undef) y→∀ val:Nat→Value,val k=y →
   (∀ i,i<cs.length→Rv w J ρ (cs.getD i .undef) (val i))→Rv w J ρ ((c.enc (c.dec cs)).getD k .undef) y:=by
 have hl:=fitsL_len h
 have hl' : (c.enc (c.dec cs)).length=c.sh.length:=fitsL_len (c.fit _)
 refine ⟨by omega,fun w J ρ k y hk hy val hv hall=>?_⟩
 have:=c.law w J cs val h (fun j hj=>datV_ok (hall j (by omega)) (fitsL_dat _ _ h j hj)) k (by omega)
 rw [hv] at this
 exact .dat this
def bOne {α:Type} (c:RCod α):BCod α where
 ok:=fun | [cs]=>fitsL c.sh cs | _=>false
 enc a:=[c.enc a]
 dec bx:=c.dec (bx.headD [])
 len bx h:=by
  match bx,h with
  | [cs],h=>rfl
  | [],h=>cases h
  | _::_::_,h=>cases h
 law bx h j cs cs' hj hj':=by
  match bx,h with
  | [c₀],h =>
   have:j=0:=by
    have:=(List.getElem?_eq_some_iff.1 hj).1
    simp at this; exact this
   subst this
   cases hj; cases hj'
   exact rcod_box c h
  | [],h=>cases h
  | _::_::_,h=>cases h
structure Out where
 v:V
 nb:List Box:=[]
def den {α β γ:Type} (A:ACod α) (B:BCod β) (O:γ→Out) (p:α→β→Bool) (f:α→β→γ × β):Den where
 pre vs bx:=cond (A.ok vs) (cond (B.ok bx) (p (A.dec vs) (B.dec bx)) false) false
 res vs bx:={ v:=(O (f (A.dec vs) (B.dec bx)).1).v,bx:=B.enc (f (A.dec vs) (B.dec bx)).2,nb:=(O (f (A.dec vs) (B.dec bx)).1).nb }
def oV {α:Type} (c:VCod α) (a:α):Out:={ v:=c.enc a }
def oTup {α:Type} (c:ACod α) (a:α):Out:={ v:=.tup (c.enc a) }
def oNew {α:Type} (c:RCod α) (a:α):Out:={ v:=.ptr NEW 0 0 0,nb:=[.var (c.enc a)] }
theorem FnOk.at {P:Program} {f:FuncId} {args:List V} {bx:List (List V)} {r:DRes} (h:FnOk P f { pre:=fun a b=>@decide (a=args∧b=bx) (Classical.propDecidable _),res:=fun _ _=>r }) {A' : List V} {B' : List (List V)}
  (hB:bx.length=B'.length) (hlen:∀ (j:Nat) (cs cs' : List V),B'[j]? = some cs→bx[j]? = some cs'→cs'.length=cs.length ∧
   ∀ (w:World) (J:Nat→Nat→Prop) (ρ:Nat→Option Real) (k:Nat) (y:Value),k<cs.length→Rv w J ρ (cs.getD k .undef) y→∀ val:Nat→Value,val k=y →
   (∀ i,i<cs.length→Rv w J ρ (cs.getD i .undef) (val i))→Rv w J ρ (cs'.getD k .undef) y)
  (hA:∀ (w:World) (I:Nat→Nat→Prop) (ρ:Nat→Option Real) (xs:List Value),AllRv w I ρ A' xs→AllRv w I ρ args xs) :
  FnOk P f { pre:=fun a b=>@decide (a=A'∧b=B') (Classical.propDecidable _),res:=fun _ _=>r }:=by
 intro a b hpre w J locs xs hl hJ hx hc hdis hgl
 have hpre' : a=A'∧b=B':=by simpa using hpre
 obtain ⟨rfl,rfl⟩:=hpre'
 have get:∀ (j:Nat) (cs' : List V),bx[j]? = some cs'→∃ cs,b[j]? = some cs:=fun j cs' hj=>by
  have:=(List.getElem?_eq_some_iff.1 hj).1
  exact ⟨b[j]'(by omega),by simp⟩
 have hloc:locReal locs bx=locReal locs b:=by
  funext j
  unfold locReal
  cases hlj:locs[j]? with
  | none=>rfl
  | some p =>
   cases hbj:bx[j]? with
   | none =>
    have:b[j]? = none:=by rw [List.getElem?_eq_none_iff] at hbj ⊢; omega
    rw [this]
   | some cs' =>
    obtain ⟨cs,hcs⟩:=get j cs' hbj
    rw [hcs]
    simp only [Option.some.injEq,Real.mk.injEq,true_and,and_true]
    exact (hlen j cs cs' hcs hbj).1
 have hhas:∀ r o,LocHas locs bx r o↔LocHas locs b r o:=fun r o=>by
  constructor
  ·rintro ⟨j,p,cs',h1,h2,h3,h4,h5⟩
   obtain ⟨cs,hcs⟩:=get j cs' h2
   exact ⟨j,p,cs,h1,hcs,h3,h4,by rw [← (hlen j cs cs' hcs h2).1]; exact h5⟩
  ·rintro ⟨j,p,cs,h1,h2,h3,h4,h5⟩
   have hj:=(List.getElem?_eq_some_iff.1 h2).1
   have h2' : bx[j]? = some (bx[j]'(by omega)):=by simp
   exact ⟨j,p,_,h1,h2',h3,h4,by rw [(hlen j cs _ h2 h2').1]; exact h5⟩
 have main:=h args bx (by simp) w J locs xs (by omega) hJ (hloc ▸ hA w J _ xs hx) (fun j p cs' h1 h2 k hk=>by
   obtain ⟨cs,hcs⟩:=get j cs' h2
   obtain ⟨e1,e2⟩:=hlen j cs cs' hcs h2
   obtain ⟨⟨y,g1,g2⟩,g3,g4⟩:=hc j p cs h1 hcs k (by omega)
   have ex:∀ i,∃ z,i<cs.length→w.cell? ⟨p.1,p.2+i,none⟩=some z∧Rv w J noRho (cs.getD i .undef) z:=fun i=>by
    by_cases hi:i<cs.length
    ·obtain ⟨⟨z,q1,q2⟩,_⟩:=hc j p cs h1 hcs i hi; exact ⟨z,fun _=>⟨q1,q2⟩⟩
    ·exact ⟨Go.undef,fun h=>absurd h hi⟩
   have hv:=fun i=>Classical.choose_spec (ex i)
   refine ⟨⟨y,g1,e2 w J noRho k y (by omega) g2 (fun i=>Classical.choose (ex i)) ?_ (fun i hi=>(hv i hi).2)⟩,g3,g4⟩
   exact (Option.some.inj (g1.symm.trans (hv k (by omega)).1)).symm)
  (fun j j' p p' cs cs' r o h1 h2 h3 h4 h5 h6 h7 h8 h9 h10=>by
   obtain ⟨c,hc1⟩:=get j cs h3
   obtain ⟨c',hc2⟩:=get j' cs' h4
   exact hdis j j' p p' c c' r o h1 h2 hc1 hc2 h5 h6 (by rw [← (hlen j c cs hc1 h3).1]; exact h7) h8 h9 (by rw [← (hlen j' c' cs' hc2 h4).1]; exact h10)) hgl
 have conv:∀ v w',(∃ J',RetOk w w' J locs bx r v J')→∃ J',RetOk w w' J locs b r v J':=fun v w' ⟨J',hR⟩ =>
  ⟨J',⟨hR.keeps.mono fun r o _ h=>(hhas r o).1 h,hR.mono,hR.lt,hR.old,hR.len.trans hB,fun j cs cs' p h1 h2 h3=>by
   have hj:=(List.getElem?_eq_some_iff.1 h1).1
   have h2' : bx[j]? = some (bx[j]'(by omega)):=by simp
   have e:=hR.bx j _ cs' p h2' h2 h3
   exact ⟨e.1.trans (hlen j cs _ h1 h2').1,e.2⟩,hR.val⟩⟩
 rcases main with ⟨h1,h2⟩ | ⟨v,w',h1,h2⟩
 ·exact .inl ⟨h1,h2.mono fun e w' ⟨v,hv,hr⟩=>⟨v,hv,conv v w' hr⟩⟩
 ·exact .inr ⟨v,w',h1,conv v w' h2⟩
theorem den_of {P:Program} {f:FuncId} {α β γ:Type} {A:ACod α} {B:BCod β} {O:γ→Out} {p:α→β→Bool} {g:α→β→γ × β}
  (h:∀ a b,p a b=true→FnOk P f { pre:=fun x y=>@decide (x=A.enc a∧y=B.enc b) (Classical.propDecidable _),res:=fun _ _=>{ v:=(O (g a b).1).v,bx:=B.enc (g a b).2,nb:=(O (g a b).1).nb } }):FnOk P f (den A B O p g):=by
 intro args bx hpre
 obtain ⟨h1,hpre⟩:A.ok args=true∧cond (B.ok bx) (p (A.dec args) (B.dec bx)) false=true:=by
  simp only [den] at hpre
  cases e:A.ok args with
  | true=>rw [e] at hpre; exact ⟨rfl,hpre⟩
  | false=>rw [e] at hpre; cases hpre
 obtain ⟨h2,h3⟩:B.ok bx=true∧p (A.dec args) (B.dec bx)=true:=by
  cases e:B.ok bx with
  | true=>rw [e] at hpre; exact ⟨rfl,hpre⟩
  | false=>rw [e] at hpre; cases hpre
 exact ((h _ _ h3).at (A':=args) (B':=bx) (B.len bx h2) (B.law bx h2) (fun w I ρ xs hx=>A.law w I ρ args xs h1 hx)) args bx (by simp)
theorem den_ok {E:Env} (hG:GOk E) {f:FuncId} {fn:Func} {c:Code} (hf:E.P.funcs[f]? = some fn) (hb:fn.body=some c)
  (hl : ∀ q ∈ loopsOf c, LoopOk E fn.ntmps q.1 q.2) (hnm : (fn.name == "runtime.NumGoroutine") = false) {α β γ : Type} {A : ACod α} {B : BCod β} {O : γ → Out} {p : α → β → Bool} {g : α → β → γ × β}
  (h:∀ a b,p a b=true→evFn E f (A.enc a) (B.enc b) some=some { v:=(O (g a b).1).v,bx:=B.enc (g a b).2,nb:=(O (g a b).1).nb }):FnOk E.P f (den A B O p g):=by
 intro args bx hpre
 obtain ⟨h1,hpre⟩:A.ok args=true∧cond (B.ok bx) (p (A.dec args) (B.dec bx)) false=true:=by
  simp only [den] at hpre
  cases e:A.ok args with
  | true=>rw [e] at hpre; exact ⟨rfl,hpre⟩
  | false=>rw [e] at hpre; cases hpre
 obtain ⟨h2,h3⟩:B.ok bx=true∧p (A.dec args) (B.dec bx)=true:=by
  cases e:B.ok bx with
  | true=>rw [e] at hpre; exact ⟨rfl,hpre⟩
  | false=>rw [e] at hpre; cases hpre
 have hE:=evFn_sound hG hf hb hl hnm (D:={ pre:=fun a b=>@decide (a=A.enc (A.dec args)∧b=B.enc (B.dec bx)) (Classical.propDecidable _),res:=fun _ _=>(den A B O p g).res args bx }) (fun a b hab=>by
  have hab:a=A.enc (A.dec args)∧b=B.enc (B.dec bx):=by simpa using hab
  obtain ⟨rfl,rfl⟩:=hab
  exact h _ _ h3)
 exact (hE.at (A':=args) (B':=bx) (B.len bx h2) (B.law bx h2) (fun w I ρ xs hx=>A.law w I ρ args xs h1 hx)) args bx (by simp)
end Go.Ev

/- Loops by their rounds; a program's answers in a table: definitions and lemmas,no condition. -/
namespace Go.Ev
open Go Go.RowKit
def TOk (P:Program) (T:List (Nat × Den)):Prop:=∀ f D,lk? T f=some D→FnOk P f D
theorem TOk.nil (P:Program):TOk P []:=fun f D h=>by cases h
theorem TOk.cons {P:Program} {T:List (Nat × Den)} {f:Nat} {D:Den} (h:FnOk P f D) (hT:TOk P T):TOk P ((f,D)::T):=fun g D' hg=>by
 simp only [lk?] at hg
 cases e:Nat.beq g f with
 | true =>
  rw [e] at hg
  have:=Nat.eq_of_beq_eq_true e
  subst this
  cases hg; exact h
 | false=>rw [e] at hg; exact hT g D' hg
abbrev LoopF:=St→(Ex→St→Option R)→Option R
def env (P:Program) (T:List (Nat × Den)) (L:List (Nat × LoopF)) (kt:List (Nat × List (Nat × List Nat))) (ow:List Nat:=[]):Env :=
 { P:=P,G:=lk? T,L:=lk? L,keep:=fun id e=>lk [] (lk [] kt id) e,ow:=fun f=>memN f ow }
def iterR (E:Env) (f:FuncId) (id:Nat):Nat→St→(Ex→St→Option R)→Option R
 | 0,_,_=>none
 | n+1,S,K=>evRound E f id S fun e S=>match e with
  | .normal=>iterR E f id n S K
  | e=>K e S
def RoundsOk (E:Env) (f:FuncId) (id:Nat):Prop:=∀ F,E.L id=some F→∀ S K q,F S K=some q→∃ n,iterR E f id n S K=some q
def nodupI:List (Nat × Code)→Bool
 | []=>true
 | p::r=>cond (r.all fun q=>!Nat.beq p.1 q.1) (nodupI r) false
theorem lkI_mem:∀ (l:List (Nat × Code)),nodupI l=true→∀ i c,(i,c)∈l→lk? l i=some c
 | [],_,i,c,h=>by cases h
 | (j,d)::r,hn,i,c,h=>by
  simp only [nodupI] at hn
  cases ha:r.all fun q=>!Nat.beq j q.1 with
  | false=>simp only [ha] at hn; cases hn
  | true =>
   simp only [ha,cond_true] at hn
   simp only [lk?]
   rcases List.mem_cons.1 h with e | h
   ·cases e; simp
   ·have:=List.all_eq_true.1 ha (i,c) h
    have e:Nat.beq i j=false:=by
     rw [Bool.eq_false_iff]
     intro e
     have:=Nat.eq_of_beq_eq_true e
     subst this
     simp at *
    rw [e]
    exact lkI_mem r hn i c h
theorem iterR_L {E:Env} {f:FuncId} {fn:Func} {c:Code} (hf:E.P.funcs[f]? = some fn) (hb:fn.body=some c) {id:Nat} {b:Code} (hl:lk? (loopsOf c) id=some b) :
  ∀ n S K,iterR E f id n S K=iterL E id b n S K
 | 0,S,K=>rfl
 | n+1,S,K=>by
  have ih:=iterR_L (E:=E) hf hb hl n
  have e:∀ K',evRound E f id S K' = evBody E id b S K':=fun K'=>by
   unfold evRound; rw [hf]; simp only [hb,hl]
  unfold iterR iterL
  rw [e]
  congr 1
  funext e S
  cases e with
  | normal=>exact ih S K
  | _=>rfl
theorem loops_sound {E:Env} {m:Nat} (hG:GOk E):∀ (c:Code),dstsOk m c=true →
  (∀ p∈loopsOf c,∀ F,E.L p.1=some F→∀ S K q,F S K=some q→∃ n,iterL E p.1 p.2 n S K=some q)→∀ p∈loopsOf c,LoopOk E m p.1 p.2
 | .seq a b,hd,h,p,hp=>by
  obtain ⟨d1,d2⟩:=cond_and hd
  rcases List.mem_append.1 hp with hp | hp
  ·exact loops_sound hG a d1 (fun q hq=>h q (List.mem_append_left _ hq)) p hp
  ·exact loops_sound hG b d2 (fun q hq=>h q (List.mem_append_right _ hq)) p hp
 | .cond x a b,hd,h,p,hp=>by
  obtain ⟨d1,d2⟩:=cond_and hd
  rcases List.mem_append.1 hp with hp | hp
  ·exact loops_sound hG a d1 (fun q hq=>h q (List.mem_append_left _ hq)) p hp
  ·exact loops_sound hG b d2 (fun q hq=>h q (List.mem_append_right _ hq)) p hp
 | .block id c,hd,h,p,hp=>loops_sound hG c hd h p hp
 | .scope c,hd,h,p,hp=>loops_sound hG c hd h p hp
 | .loop c,hd,h,p,hp=>by
  have hd' : dstsOk m c=true:=hd
  unfold loopsOf at hp h
  cases hr:firstRegion c with
  | none =>
   rw [hr] at hp h
   exact loops_sound hG c hd' h p hp
  | some j =>
   rw [hr] at hp h
   have inner:=loops_sound hG c hd' (fun q hq=>h q (List.mem_cons_of_mem _ hq))
   rcases List.mem_cons.1 hp with rfl | hp
   ·exact loop_sound hG inner hd' (h (j,c) List.mem_cons_self)
   ·exact inner p hp
 | .skip,hd,h,p,hp=>by cases hp
 | .region ..,hd,h,p,hp=>by cases hp
 | .exit ..,hd,h,p,hp=>by cases hp
 | .label ..,hd,h,p,hp=>by cases hp
 | .ret,hd,h,p,hp=>by cases hp
 | .goto ..,hd,h,p,hp=>by cases hp
 | .refuse ..,hd,h,p,hp=>by cases hp
 | .rangeFunc ..,hd,h,p,hp=>by cases hp
theorem den_okL {E:Env} (hG:GOk E) {f:FuncId} {fn:Func} {c:Code} (hf:E.P.funcs[f]? = some fn) (hb:fn.body=some c)
  (hd : dstsOk fn.ntmps c = true) (hn : nodupI (loopsOf c) = true) (hl : ∀ q ∈ loopsOf c, RoundsOk E f q.1) (hnm : (fn.name == "runtime.NumGoroutine") = false) {α β γ : Type} {A : ACod α} {B : BCod β} {O : γ → Out} {p : α → β → Bool} {g : α → β → γ × β}
  (h:∀ a b,p a b=true→evFn E f (A.enc a) (B.enc b) some=some { v:=(O (g a b).1).v,bx:=B.enc (g a b).2,nb:=(O (g a b).1).nb }):FnOk E.P f (den A B O p g) :=
 den_ok hG hf hb (loops_sound hG c hd fun q hq F hF S K r hr=>by
  obtain ⟨n,hn'⟩:=hl q hq F hF S K r hr
  exact ⟨n,by rw [← iterR_L hf hb (lkI_mem _ hn q.1 q.2 hq)]; exact hn'⟩) hnm h
theorem eta_fit {s:Sh} {v:V} (h:fitsS s v=true):eta s v=v:=by
 cases s with
 | bool=>cases v<;>first | rfl | cases h
 | int k =>
  cases v with
  | int k' n=>have:k=k':=of_decide_eq_true h; subst this; rfl
  | _=>cases h
 | str=>cases v<;>first | rfl | cases h
 | slc c =>
  cases v with
  | slc c' r=>have:=Sh.beqL_eq _ _ h; subst this; rfl
  | _=>cases h
 | oth=>cases v<;>cases h
theorem etaRow_fit:∀ (sh:List Sh) (pre vs:List V),fitsSL sh vs=true→etaRow sh pre.length (pre++vs)=vs
 | [],pre,[],_=>rfl
 | [],_,_::_,h=>by cases h
 | _::_,_,[],h=>by cases h
 | s::ss,pre,v::vs,h=>by
  simp only [fitsSL] at h
  cases hf:fitsS s v with
  | false=>rw [hf] at h; cases h
  | true =>
   rw [hf] at h
   have ih:=etaRow_fit ss (pre++[v]) vs h
   rw [List.append_assoc,List.singleton_append,List.length_append] at ih
   show eta s ((pre++v::vs).getD pre.length .undef)::etaRow ss (pre.length+1) (pre++v::vs)=_
   rw [show etaRow ss (pre.length+1) (pre++v::vs)=vs from ih,show (pre++v::vs).getD pre.length .undef=v by simp [List.getD_eq_getElem?_getD],eta_fit hf]
mutual
theorem Sch.get_put:∀ (s:Sch) (v:V) (x:List Leaf),Sch.get s v=some x→∀ r,Sch.put s (x++r)=(v,r)
 | .undef,v,x,h,r=>by cases v<;>simp [Sch.get] at h<;>subst h<;>rfl
 | .bool,v,x,h,r=>by cases v<;>simp [Sch.get] at h<;>subst h<;>rfl
 | .int k,v,x,h,r=>by
  cases v<;>simp only [Sch.get,reduceCtorEq] at h
  rename_i k' n
  by_cases e:k=k'
  ·subst e; simp at h; subst h; rfl
  ·simp [e] at h
 | .str,v,x,h,r=>by cases v<;>simp [Sch.get] at h<;>subst h<;>rfl
 | .nilp,v,x,h,r=>by cases v<;>simp [Sch.get] at h<;>subst h<;>rfl
 | .nilf,v,x,h,r=>by cases v<;>simp [Sch.get] at h<;>subst h<;>rfl
 | .nili,v,x,h,r=>by cases v<;>simp [Sch.get] at h<;>subst h<;>rfl
 | .ptr d a o,v,x,h,r=>by
  cases v<;>simp only [Sch.get,reduceCtorEq] at h
  rename_i d' a' o' g
  cases e1:Nat.beq d d'<;>cases e2:Nat.beq a a'<;>cases e3:Nat.beq o o'<;>cases e4:Nat.beq g 0<;>simp only [e1,e2,e3,e4,cond_true,cond_false,reduceCtorEq] at h
  cases h
  have:=Nat.eq_of_beq_eq_true e1; have:=Nat.eq_of_beq_eq_true e2; have:=Nat.eq_of_beq_eq_true e3; have:=Nat.eq_of_beq_eq_true e4
  subst_vars; rfl
 | .own d,v,x,h,r=>by
  cases v<;>simp only [Sch.get,reduceCtorEq] at h
  rename_i d' g
  cases e1:Nat.beq d d'<;>cases e4:Nat.beq g 0<;>simp only [e1,e4,cond_true,cond_false,reduceCtorEq] at h
  cases h
  have:=Nat.eq_of_beq_eq_true e1; have:=Nat.eq_of_beq_eq_true e4
  subst_vars; rfl
 | .slc sh,v,x,h,r=>by
  cases v<;>simp only [Sch.get,reduceCtorEq] at h
  rename_i sh' rows
  cases e1:Sh.beqL sh sh'<;>simp only [e1,cond_true,cond_false,reduceCtorEq] at h
  cases h
  have:=Sh.beqL_eq _ _ e1
  subst this; rfl
 | .agg cs,v,x,h,r=>by
  cases v<;>simp only [Sch.get,reduceCtorEq] at h
  simp only [Sch.put,Sch.getL_put cs _ x h r]
 | .cref cs,v,x,h,r=>by
  cases v<;>simp only [Sch.get,reduceCtorEq] at h
  simp only [Sch.put,Sch.getL_put cs _ x h r]
 | .rowA sh,v,x,h,r=>by
  cases v<;>simp only [Sch.get,reduceCtorEq] at h
  rename_i vs
  cases e:fitsSL sh vs with
  | false=>rw [e] at h; cases h
  | true =>
   rw [e] at h; cases h
   show (V.agg (etaRow sh 0 vs),r)=_
   rw [show etaRow sh 0 vs=vs from etaRow_fit sh [] vs e]
 | .fn f a b,v,x,h,r=>by
  cases v<;>simp only [Sch.get,reduceCtorEq] at h
  rename_i f' a' b'
  cases e1:Nat.beq f f' with
  | false=>simp only [e1,cond_false,reduceCtorEq] at h
  | true =>
   simp only [e1,cond_true] at h
   have:=Nat.eq_of_beq_eq_true e1
   subst this
   split at h
   ·rename_i y hy
    split at h
    ·rename_i z hz
     cases h
     simp only [Sch.put,List.append_assoc,Sch.getL_put a _ y hy,Sch.getL_put b _ z hz]
    ·cases h
   ·cases h
theorem Sch.getL_put:∀ (s:List Sch) (v:List V) (x:List Leaf),Sch.getL s v=some x→∀ r,Sch.putL s (x++r)=(v,r)
 | [],v,x,h,r=>by cases v<;>simp [Sch.getL] at h; subst h; rfl
 | s::ss,v,x,h,r=>by
  cases v with
  | nil=>simp [Sch.getL] at h
  | cons v vs =>
   simp only [Sch.getL] at h
   split at h
   ·rename_i y hy
    split at h
    ·rename_i z hz
     cases h
     simp only [Sch.putL,List.append_assoc,Sch.get_put s _ y hy,Sch.getL_put ss _ z hz]
    ·cases h
   ·cases h
end
theorem BSch.get_put (s:BSch) (v:Box) (x:List Leaf) (h:BSch.get s v=some x) (r:List Leaf):BSch.put s (x++r)=(v,r):=by
 cases s with
 | var cs =>
  cases v<;>simp only [BSch.get,reduceCtorEq] at h
  simp only [BSch.put,Sch.getL_put cs _ x h r]
 | sl sh =>
  cases v<;>simp only [BSch.get,reduceCtorEq] at h
  rename_i sh' rows g
  cases e1:Sh.beqL sh sh'<;>cases e4:Nat.beq g 0<;>simp only [e1,e4,cond_true,cond_false,reduceCtorEq] at h
  cases h
  have:=Sh.beqL_eq _ _ e1; have:=Nat.eq_of_beq_eq_true e4
  subst_vars; rfl
 | row cs sh =>
  cases v<;>simp only [BSch.get,reduceCtorEq] at h
  rename_i vs
  split at h
  ·rename_i y hy
   cases e:fitsSL sh (vs.drop cs.length) with
   | false=>rw [e] at h; cases h
   | true =>
    rw [e] at h; cases h
    have h1:=Sch.getL_put cs _ y hy (.c (vs.drop cs.length)::r)
    have h2:etaRow sh 0 (vs.drop cs.length)=vs.drop cs.length:=etaRow_fit sh [] _ e
    simp only [BSch.put,List.append_assoc,List.singleton_append,h1,h2,List.take_append_drop]
  ·cases h
theorem getFr_put:∀ (s:List (Nat × Sch)) (v:List (Nat × V)) (x:List Leaf),getFr s v=some x→∀ r,putFr s (x++r)=(v,r)
 | [],v,x,h,r=>by cases v<;>simp [getFr] at h; subst h; rfl
 | (i,s)::ss,v,x,h,r=>by
  cases v with
  | nil=>simp [getFr] at h
  | cons v vs =>
   obtain ⟨j,v⟩:=v
   simp only [getFr] at h
   cases e:Nat.beq i j with
   | false=>simp only [e,cond_false,reduceCtorEq] at h
   | true =>
    have:=Nat.eq_of_beq_eq_true e
    subst this
    simp only [e,cond_true] at h
    split at h
    ·rename_i y hy
     split at h
     ·rename_i z hz
      cases h
      simp only [putFr,List.append_assoc,Sch.get_put s _ y hy,getFr_put ss _ z hz]
     ·cases h
    ·cases h
theorem getTab_put:∀ (s:List (Nat × BSch)) (v:List (Nat × Box)) (x:List Leaf),getTab s v=some x→∀ r,putTab s (x++r)=(v,r)
 | [],v,x,h,r=>by cases v<;>simp [getTab] at h; subst h; rfl
 | (i,s)::ss,v,x,h,r=>by
  cases v with
  | nil=>simp [getTab] at h
  | cons v vs =>
   obtain ⟨j,v⟩:=v
   simp only [getTab] at h
   cases e:Nat.beq i j with
   | false=>simp only [e,cond_false,reduceCtorEq] at h
   | true =>
    have:=Nat.eq_of_beq_eq_true e
    subst this
    simp only [e,cond_true] at h
    split at h
    ·rename_i y hy
     split at h
     ·rename_i z hz
      cases h
      simp only [putTab,List.append_assoc,BSch.get_put s _ y hy,getTab_put ss _ z hz]
     ·cases h
    ·cases h
theorem SSch.get_put (c:SSch) (S:St) (x:List Leaf) (h:c.get S=some x):S=c.put x:=by
 unfold SSch.get at h
 split at h
 ·rename_i y hy
  split at h
  ·rename_i z hz
   cases h
   have e:=getTab_put c.tab _ z hz []
   rw [List.append_nil] at e
   simp only [SSch.put,getFr_put c.fr _ y hy,e]
  ·cases h
 ·cases h
def loopF (c:SSch) (G:List Leaf→(Ex→St→Option R)→Option R):LoopF:=fun S K=>match c.get S with | some l=>G l K | none=>none
theorem rounds_of {E:Env} {f:FuncId} {id:Nat} {c:SSch} {G:List Leaf→(Ex→St→Option R)→Option R} (hL:E.L id=some (loopF c G))
  (h:∀ l K q,G l K=some q→∃ n,iterR E f id n (c.put l) K=some q):RoundsOk E f id:=fun F hF S K q hq=>by
 rw [hL] at hF
 cases hF
 unfold loopF at hq
 split at hq
 ·rename_i l hl
  have:=SSch.get_put c S l hl
  subst this
  exact h l K q hq
 ·cases hq
theorem rounds_none {E:Env} {f:FuncId} {id:Nat} (hL:E.L id=some fun _ _=>none):RoundsOk E f id:=fun F hF S K q hq=>by rw [hL] at hF; cases hF; cases hq
theorem loop_ind {E:Env} {f:FuncId} {id:Nat} {σ:Type} (enc:σ→St) (inv:σ→Prop) (μ:σ→Nat) (res:σ→(Ex→St→Option R)→Option R)
  (h:∀ s,inv s→(∃ s',inv s'∧μ s' < μ s∧(∀ K,evRound E f id (enc s) K=K .normal (enc s'))∧∀ K,res s K=res s' K) ∨
   ∃ e S,e ≠ .normal∧(∀ K,evRound E f id (enc s) K=K e S)∧∀ K,res s K=K e S) (s:σ) (hs:inv s) (K:Ex→St→Option R) (q:R) (hq:res s K=some q):∃ n,iterR E f id n (enc s) K=some q:=by
 have main:∀ (d:Nat) (s:σ),μ s≤d→inv s→res s K=some q→∃ n,iterR E f id n (enc s) K=some q:=by
  intro d
  induction d with
  | zero =>
   intro s hd hs hq
   rcases h s hs with ⟨s',_,h2,_,_⟩ | ⟨e,S,he,h1,h2⟩
   ·omega
   ·refine ⟨1,?_⟩
    unfold iterR
    rw [h1]
    rw [h2] at hq
    cases e with
    | normal=>exact absurd rfl he
    | exit j=>exact hq
    | ret=>exact hq
  | succ d ih =>
   intro s hd hs hq
   rcases h s hs with ⟨s',hi,h2,h3,h4⟩ | ⟨e,S,he,h1,h2⟩
   ·obtain ⟨n,hn⟩:=ih s' (by omega) hi (by rw [← h4]; exact hq)
    refine ⟨n+1,?_⟩
    unfold iterR
    rw [h3]; exact hn
   ·refine ⟨1,?_⟩
    unfold iterR
    rw [h1]
    rw [h2] at hq
    cases e with
    | normal=>exact absurd rfl he
    | exit j=>exact hq
    | ret=>exact hq
 exact main (μ s) s (Nat.le_refl _) hs hq
theorem ilt_t {x y:Int} (h:x<y):ilt x y=true:=by rw [ilt_eq]; exact decide_eq_true h
theorem ilt_f {x y:Int} (h:y≤x):ilt x y=false:=by rw [ilt_eq]; exact decide_eq_false (by omega)
theorem ile_t {x y:Int} (h:x≤y):ile x y=true:=by rw [ile_eq]; exact decide_eq_true h
theorem ile_f {x y:Int} (h:y<x):ile x y=false:=by rw [ile_eq]; exact decide_eq_false (by omega)
theorem ble_t {x y:Nat} (h:x≤y):Nat.ble x y=true:=Nat.ble_eq_true_of_le h
theorem nbeq_t {x y:Nat} (h:x=y):Nat.beq x y=true:=by subst h; exact Nat.beq_refl x
theorem ieq_t {x y:Int} (h:x=y):(x==y)=true:=beq_iff_eq.2 h
theorem ieq_f {x y:Int} (h:x ≠ y):(x==y)=false:=beq_eq_false_iff_ne.2 h
theorem ine_t {x y:Int} (h:x ≠ y):(x != y)=true:=by rw [bne,ieq_f h]; rfl
theorem ine_f {x y:Int} (h:x=y):(x != y)=false:=by rw [bne,ieq_t h]; rfl
theorem ile_of {x y:Int} (h:ile x y=true):x≤y:=by rw [ile_eq] at h; exact of_decide_eq_true h
theorem ilt_of {x y:Int} (h:ilt x y=true):x<y:=by rw [ilt_eq] at h; exact of_decide_eq_true h
theorem ilt_nof {x y:Int} (h:ilt x y=false):y≤x:=by rw [ilt_eq] at h; have:=of_decide_eq_false h; omega
theorem ieq_of {x y:Int} (h:(x==y)=true):x=y:=beq_iff_eq.1 h
theorem ble_of {x y:Nat} (h:Nat.ble x y=true):x≤y:=Nat.le_of_ble_eq_true h
theorem wr_i64 {n:Int} (h1 : -9223372036854775808≤n) (h2:n≤9223372036854775807):IntKind.wrap .i64 n=n:=by
 simp only [IntKind.wrap,IntKind.signed,IntKind.bits]
 simp
 omega
theorem evs:(∀ {x y:Int},x<y→ilt x y=true)∧(∀ {x y:Int},y≤x→ilt x y=false)∧(∀ {x y:Int},x≤y→ile x y=true)∧(∀ {x y:Int},y<x→ile x y=false) ∧
  (∀ {x y:Nat},x≤y→Nat.ble x y=true)∧(∀ {x y:Nat},x=y→Nat.beq x y=true)∧(∀ {x y:Int},x=y→(x==y)=true)∧(∀ {x y:Int},x ≠ y→(x==y)=false) ∧
  (∀ {x y:Int},x ≠ y→(x != y)=true)∧(∀ {x y:Int},x=y→(x != y)=false)∧(∀ {p:Prop} [Decidable p],p→decide p=true) ∧
  (∀ {n:Int},-9223372036854775808≤n→n≤9223372036854775807→IntKind.wrap .i64 n=n)∧(∀ {α:Type} (a b:α),cond true a b=a)∧(∀ {α:Type} (a b:α),cond false a b=b) ∧
  (∀ {α β:Type} (l:List α) (f:α→β),(l.map f).length=l.length)∧(∀ {α:Type} (n:Nat) (a:α),(List.replicate n a).length=n)∧(∀ {α:Type} (l:List α) (i:Nat) (a:α),(l.set i a).length=l.length) ∧
  (∀ {α:Type} (l m:List α),(l++m).length=l.length+m.length)∧Int.toNat 0=0∧(∀ p:Prop,(True∧p)=p)∧(∀ p:Prop,(p∧True)=p) :=
 ⟨ilt_t,ilt_f,ile_t,ile_f,ble_t,nbeq_t,ieq_t,ieq_f,ine_t,ine_f,fun h=>decide_eq_true h,wr_i64,fun _ _=>rfl,fun _ _=>rfl,fun _ _=>List.length_map ..,fun _ _=>List.length_replicate,fun _ _ _=>List.length_set,fun _ _=>List.length_append,rfl,true_and,and_true⟩
def bodyOf (fn:Func):Code:=fn.body.getD .skip
def natsEq:List Nat→List Nat→Bool
 | [],[]=>true | a::x,b::y=>cond (Nat.beq a b) (natsEq x y) false
 | _,_=>false
def chk (fn:Func) (ids:List Nat):Bool :=
 cond fn.body.isSome (cond (dstsOk fn.ntmps (bodyOf fn)) (cond (nodupI (loopsOf (bodyOf fn))) (cond (natsEq ((loopsOf (bodyOf fn)).map (·.1)) ids) (!(fn.name == "runtime.NumGoroutine")) false) false) false) false
theorem natsEq_eq:∀ (a b:List Nat),natsEq a b=true→a=b
 | [],b,h=>by cases b<;>first | rfl | cases h
 | a::x,b,h=>by
  cases b with
  | nil=>cases h
  | cons c y =>
   simp only [natsEq] at h
   cases e:Nat.beq a c with
   | false=>rw [e] at h; cases h
   | true =>
    rw [e] at h
    rw [Nat.eq_of_beq_eq_true e,natsEq_eq x y h]
theorem bcond {a b:Bool} (h:cond a b false=true):a=true∧b=true:=by cases a<;>cases b<;>simp at *
theorem den_okF {E:Env} (hG:GOk E) {f:FuncId} {fn:Func} (hf:E.P.funcs[f]? = some fn) (ids:List Nat) (hk:chk fn ids=true) (hl:∀ id∈ids,RoundsOk E f id)
  {α β γ:Type} {A:ACod α} {B:BCod β} {O:γ→Out} {p:α→β→Bool} {g:α→β→γ × β}
  (h:∀ a b,p a b=true→evFn E f (A.enc a) (B.enc b) some=some { v:=(O (g a b).1).v,bx:=B.enc (g a b).2,nb:=(O (g a b).1).nb }):FnOk E.P f (den A B O p g):=by
 unfold chk at hk
 obtain ⟨h1,hk⟩:=bcond hk
 obtain ⟨h2,hk⟩:=bcond hk
 obtain ⟨h3,hk⟩:=bcond hk
 obtain ⟨h4,hk⟩:=bcond hk
 have e:=natsEq_eq _ _ h4
 obtain ⟨c,hc⟩:=Option.isSome_iff_exists.1 h1
 have hb:bodyOf fn=c:=by unfold bodyOf; rw [hc]; rfl
 rw [hb] at h2 h3 e
 exact den_okL hG hf hc h2 h3 (fun q hq=>hl q.1 (by rw [← e]; exact List.mem_map_of_mem hq)) (by simpa using hk) h
theorem none0 {p:Nat→Prop}:∀ id∈([]:List Nat),p id:=fun _ h=>by cases h
theorem one1 {p:Nat→Prop} {a:Nat} (h:p a):∀ id∈[a],p id:=fun id hi=>by
 have:=List.mem_singleton.1 hi; subst this; exact h
theorem two2 {p:Nat→Prop} {a b:Nat} (h:p a) (k:p b):∀ id∈[a,b],p id:=fun id hi=>by
 rcases List.mem_cons.1 hi with rfl | hi
 ·exact h
 ·exact one1 k id hi
theorem three3 {p:Nat→Prop} {a b c:Nat} (h:p a) (k:p b) (l:p c):∀ id∈[a,b,c],p id:=fun id hi=>by
 rcases List.mem_cons.1 hi with rfl | hi
 ·exact h
 ·exact two2 k l id hi
theorem env_ok {E:Env} {T:List (Nat × Den)} (h:TOk E.P T) (hT:E.G=lk? T:=by rfl) (hM:E.M=(fun _=>none):=by rfl) (hX:E.X=(fun _=>none):=by rfl):GOk E :=
 ⟨fun f D hf=>h f D (by rw [← hT]; exact hf),(fun f F hf=>by rw [hM] at hf; cases hf),fun f F hf=>by rw [hX] at hf; cases hf⟩
abbrev MF:=MDen
abbrev XF:=List V→List (Nat × Box)→(V→List (Nat × Box)→Option R)→Option R
def MOk (P:Program) (T:List (Nat × MF)):Prop:=∀ f F,lk? T f=some F→FnOkM P f F
theorem MOk.nil (P:Program):MOk P []:=fun f F h=>by cases h
theorem MOk.cons {P:Program} {T:List (Nat × MF)} {f:Nat} {F:MF} (h:FnOkM P f F) (hT:MOk P T):MOk P ((f,F)::T):=fun g F' hg=>by
 simp only [lk?] at hg
 cases e:Nat.beq g f with
 | true =>
  rw [e] at hg
  obtain rfl:=Nat.eq_of_beq_eq_true e
  cases hg; exact h
 | false=>rw [e] at hg; exact hT g F' hg
def XOk (P:Program) (T:List (Nat × XF)):Prop:=∀ f F,lk? T f=some F→FnOkX P f F
theorem XOk.nil (P:Program):XOk P []:=fun f F h=>by cases h
theorem XOk.cons {P:Program} {T:List (Nat × XF)} {f:Nat} {F:XF} (h:FnOkX P f F) (hT:XOk P T):XOk P ((f,F)::T):=fun g F' hg=>by
 simp only [lk?] at hg
 cases e:Nat.beq g f with
 | true =>
  rw [e] at hg
  obtain rfl:=Nat.eq_of_beq_eq_true e
  cases hg; exact h
 | false=>rw [e] at hg; exact hT g F' hg
theorem env_ok2 {E:Env} {T:List (Nat × Den)} {MT:List (Nat × MF)} {XT:List (Nat × XF)} (h:TOk E.P T) (hm:MOk E.P MT) (hx:XOk E.P XT) (hT:E.G=lk? T:=by rfl) (hM:E.M=lk? MT:=by rfl) (hX:E.X=lk? XT:=by rfl):GOk E :=
 ⟨fun f D hf=>h f D (by rw [← hT]; exact hf),fun f F hf=>hm f F (by rw [← hM]; exact hf),fun f F hf=>hx f F (by rw [← hX]; exact hf)⟩
theorem fitsRows_map {β:Type} (C:RCod β):∀ l:List β,fitsRows C.sh (l.map C.enc)=true
 | []=>rfl
 | x::l=>by simp only [List.map_cons,fitsRows,C.fit x,cond_true]; exact fitsRows_map C l
theorem x_okF {E:Env} (hG:GOk E) (hL:∀ id,E.L id=none) {f:FuncId} {fn:Func} (hf:E.P.funcs[f]? = some fn) (hk:chk fn []=true):FnOkX E.P f (evFnX E f):=by
 unfold chk at hk
 obtain ⟨h1,hk⟩:=bcond hk
 obtain ⟨h2,hk⟩:=bcond hk
 obtain ⟨h3,hk⟩:=bcond hk
 obtain ⟨h4,hk⟩:=bcond hk
 obtain ⟨c,hc⟩:=Option.isSome_iff_exists.1 h1
 exact evFnX_ok hG hL hf hc (by simpa using hk)
theorem FnOk.empty {P:Program} {f:FuncId} {sh:List Sh} {r:DRes} (h1:FnOk P f { pre:=fun a b=>@decide (a=[.nils sh]∧b=[]) (Classical.propDecidable _),res:=fun _ _=>r })
  (h2:FnOk P f { pre:=fun a b=>@decide (a=[.nn sh]∧b=[]) (Classical.propDecidable _),res:=fun _ _=>r }):FnOk P f { pre:=fun a b=>@decide (a=[.slc sh []]∧b=[]) (Classical.propDecidable _),res:=fun _ _=>r }:=by
 intro a b hpre w J locs xs hl hJ hx hc hdis hgl
 have hpre:a=[.slc sh []]∧b=[]:=by simpa using hpre
 obtain ⟨rfl,rfl⟩:=hpre
 obtain ⟨x,rfl,hx1⟩:=hx.one
 have one:∀ v,Rv w J (locReal locs []) v x→AllRv w J (locReal locs []) [v] [x]:=fun v hv=>⟨rfl,fun i hi=>by
  have:i=0:=by simp at hi; exact hi
  subst this; exact hv⟩
 cases hx1 with
 | dat h =>
  cases h with
  | slc _ _ al cap val hcap hnil hfit ha hd =>
   cases al with
   | none =>
    obtain rfl:=hnil rfl
    exact h1 [.nils sh] [] (by simp) w J locs _ hl hJ (one _ (.dat (.nils sh))) hc hdis hgl
   | some q=>exact h2 [.nn sh] [] (by simp) w J locs _ hl hJ (one _ (.nn sh q cap)) hc hdis hgl
end Go.Ev

/- Arguments of a claim's call,opened as the evaluator's values; a law's answer as a call's: lemmas. -/
namespace Go.Ev
open Go Go.RowKit Go.ChangeShapes Go.WideShapes
def layF (lay:TypeId→Bool) (sh:TypeId→List Sh) (P:Program):Nat→List Field→Option Nat
 | o,[]=>some o
 | o,f::r=>cond (cond (Nat.beq f.offset o) (cond (lay f.type) (Nat.beq (sh f.type).length (P.cellsOf f.type)) false) false) (layF lay sh P (o+P.cellsOf f.type) r) none
def layB (P:Program):Nat→TypeId→Bool
 | 0,_=>false
 | n+1,t=>match P.underlying t with
  | some .bool=>true | some (.int _)=>true | some .string=>true
  | some (.slice e)=>cond (layB P n e) (cond (Nat.blt 0 (P.cellsOf e)) (cond (Nat.beq (shOf P n e).length (P.cellsOf e)) (Sh.beqL (shOf P n e) (shOf P n e)) false) false) false
  | some (.struct fs)=>match layF (layB P n) (shOf P n) P 0 fs.toList with
   | some o=>Nat.beq o (P.cellsOf t)
   | none=>false
  | _=>false
def oldI (w:World):Nat→Nat→Prop:=fun b _=>b<w.heap.size
section
variable {H:Type} {enc:TypeId × Value→H} {P:Program} {w:World} {base:Nat} {spare:Nat→Bool} {held:Bool}
def RowOk (w:World) (sh:List Sh) (cs:List Value) (row:List V):Prop :=
 fitsL sh row=true∧wfL row=true∧row.length=cs.length∧∀ j,j<row.length→Dat w (oldI w) (row.getD j .undef) (cs.getD j Go.undef)
theorem RowOk.append {s t:List Sh} {cs ds:List Value} {r q:List V} (h:RowOk w s cs r) (k:RowOk w t ds q):RowOk w (s++t) (cs++ds) (r++q):=by
 obtain ⟨h1,h2,h3,h4⟩:=h
 obtain ⟨k1,k2,k3,k4⟩:=k
 refine ⟨fitsL_append _ _ _ _ h1 k1,by rw [wfL_append,h2,k2]; rfl,by simp [h3,k3],fun j hj=>?_⟩
 by_cases hl:j<r.length
 ·have:=h4 j hl
  rwa [show (r++q).getD j .undef=r.getD j .undef by simp [List.getD_eq_getElem?_getD,List.getElem?_append_left hl],
   show (cs++ds).getD j Go.undef=cs.getD j Go.undef by simp [List.getD_eq_getElem?_getD,List.getElem?_append_left (show j<cs.length by omega)]]
 ·have:=k4 (j-r.length) (by simp at hj; omega)
  rwa [show (r++q).getD j .undef=q.getD (j-r.length) .undef by simp [List.getD_eq_getElem?_getD,List.getElem?_append_right (show r.length≤j by omega)],
   show (cs++ds).getD j Go.undef=ds.getD (j-r.length) Go.undef by simp [List.getD_eq_getElem?_getD,List.getElem?_append_right (show cs.length≤j by omega),h3]]
theorem fields_ok {lay:TypeId→Bool} {sh:TypeId→List Sh}:∀ (fs:List Field) (o n:Nat) (cs:List Value),layF lay sh P o fs=some n→n≤o+cs.length →
  (∀ f∈fs,lay f.type=true→o≤f.offset→∃ row,RowOk w (sh f.type) ((cs.drop (f.offset-o)).take (P.cellsOf f.type)) row)→∃ row,RowOk w ((fs.map fun f=>sh f.type).flatten) (cs.take (n-o)) row
 | [],o,n,cs,h,_,_=>by
  cases h
  exact ⟨[],rfl,rfl,by simp,fun j hj=>by cases hj⟩
 | f::r,o,n,cs,h,hn,hf=>by
  unfold layF at h
  cases h1:Nat.beq f.offset o with
  | false=>simp only [h1,cond_false,reduceCtorEq] at h
  | true =>
   cases h2:lay f.type with
   | false=>simp only [h1,h2,cond_true,cond_false,reduceCtorEq] at h
   | true =>
    cases h3:Nat.beq (sh f.type).length (P.cellsOf f.type) with
    | false=>simp only [h1,h2,h3,cond_true,cond_false,reduceCtorEq] at h
    | true =>
     simp only [h1,h2,h3,cond_true] at h
     have e1:=Nat.eq_of_beq_eq_true h1
     have e3:=Nat.eq_of_beq_eq_true h3
     have mono:∀ (l:List Field) (a b:Nat),layF lay sh P a l=some b→a≤b:=by
      intro l
      induction l with
      | nil=>intro a b hh; cases hh; exact Nat.le_refl _
      | cons g l ih =>
       intro a b hh
       unfold layF at hh
       cases hc:(cond (Nat.beq g.offset a) (cond (lay g.type) (Nat.beq (sh g.type).length (P.cellsOf g.type)) false) false) with
       | false=>rw [hc] at hh; cases hh
       | true=>rw [hc] at hh; have:=ih _ _ hh; omega
     have hm:=mono _ _ _ h
     obtain ⟨r1,k1⟩:=hf f List.mem_cons_self h2 (by omega)
     rw [show f.offset-o=0 by omega,List.drop_zero] at k1
     obtain ⟨r2,k2⟩:=fields_ok r (o+P.cellsOf f.type) n (cs.drop (P.cellsOf f.type)) h (by simp; omega) fun g hg hl ho=>by
      obtain ⟨row,hr⟩:=hf g (List.mem_cons_of_mem _ hg) hl (by omega)
      refine ⟨row,?_⟩
      rwa [List.drop_drop,show P.cellsOf f.type+(g.offset-(o+P.cellsOf f.type))=g.offset-o by omega]
     have:=k1.append k2
     refine ⟨r1++r2,?_⟩
     rw [show cs.take (n-o)=cs.take (P.cellsOf f.type)++(cs.drop (P.cellsOf f.type)).take (n-(o+P.cellsOf f.type)) by
      rw [← List.take_add]; congr 1; omega]
     exact this
theorem trod_row:∀ (fuel n:Nat) (t:TypeId) (cs:List Value) (x:DataW H × List MemPlace),DataW.trod enc P w base spare held fuel t cs=some x→layB P n t=true→∃ row,RowOk w (shOf P n t) cs row
 | 0,_,_,_,_,h,_=>by cases h
 | _+1,0,_,_,_,_,hl=>by cases hl
 | fuel+1,n+1,t,cs,x,h,hl=>by
  have one:∀ (s:Sh) (v:V) (y:Value),fits s v=true→wfV v=true→Dat w (oldI w) v y→RowOk w [s] [y] [v]:=fun s v y h1 h2 h3 =>
   ⟨by simp [fitsL,h1],by simp [wfL,h2],rfl,fun j hj=>by
    have:j=0:=by simp at hj; exact hj
    subst this; exact h3⟩
  unfold layB at hl
  unfold shOf
  cases hu:P.underlying t with
  | none=>rw [hu] at hl; cases hl
  | some d =>
   rw [hu] at hl
   cases d with
   | bool =>
    obtain ⟨b,rfl,_⟩:=DataW.trod_bool hu h
    exact ⟨_,one _ (.bool b) _ rfl rfl (.bool b)⟩
   | int k =>
    obtain ⟨m,rfl,_,hw⟩:=DataW.trod_int hu h
    exact ⟨_,one _ (.int k m) _ (by simp [fits]) hw (.int k m)⟩
   | string =>
    obtain ⟨s,rfl,_,hw⟩:=DataW.trod_string hu h
    refine ⟨_,one _ (.str s.data.toList) _ rfl (Nat.ble_eq_true_of_le ?_) ?_⟩
    ·have:s.data.toList.length=s.size:=Array.length_toList
     unfold maxLen at hw
     omega
    ·have:s=⟨s.data.toList.toArray⟩:=by cases s; simp
     conv=>rhs; rw [this]
     exact .str _
   | slice e =>
    obtain ⟨hl1,hl⟩:=bcond hl
    obtain ⟨hpos,hl⟩:=bcond hl
    obtain ⟨hlen,hrf⟩:=bcond hl
    have hpos:0<P.cellsOf e:=Nat.le_of_ble_eq_true hpos
    have hlen:=Nat.eq_of_beq_eq_true hlen
    rcases DataW.trod_slice hu h with ⟨rfl,_⟩ | ⟨a,len,cap,elems,rest,m,hm,rfl,_,hb,hle,hmx,hel,hget,_,_⟩
    ·exact ⟨_,one _ (.slc (shOf P n e) []) _ hrf rfl (.slc _ [] _ 0 (fun _ _=>Go.undef) (Nat.le_refl _) (fun _=>rfl) rfl (fun h=>absurd rfl h) (fun i j hi=>by cases hi))⟩
    ·cases hm
     have hrow:∀ i,∃ row vals,i<len→w.cells? base (a.add (i*P.cellsOf e)) (P.cellsOf e)=some vals∧RowOk w (shOf P n e) vals row:=fun i=>by
      by_cases hi:i<len
      ·have:=hget i hi
       have hi' : i<elems.length:=by omega
       rw [List.getElem?_eq_getElem hi',Option.bind_eq_some_iff] at this
       obtain ⟨vals,h1,h2⟩:=this
       obtain ⟨row,h3⟩:=trod_row fuel n e vals _ h2 hl1
       exact ⟨row,vals,fun _=>⟨h1,h3⟩⟩
      ·exact ⟨[],[],fun h=>absurd h hi⟩
     obtain ⟨row,hv⟩:=Classical.axiomOfChoice hrow
     obtain ⟨vals,hh⟩:=Classical.axiomOfChoice hv
     have hg:∀ i,i<len→((List.range len).map row).getD i []=row i:=fun i hi=>by simp [List.getD_eq_getElem?_getD,hi]
     have hfit:fitsRows (shOf P n e) ((List.range len).map row)=true:=fitsRows_of _ _ fun i hi=>by
      have hi:i<len:=by simpa using hi
      rw [hg i hi]; exact (hh i hi).2.1
     have hwf:wfRs ((List.range len).map row)=true:=by
      have:∀ l:List Nat,(∀ i∈l,i<len)→wfRs (l.map row)=true:=by
       intro l
       induction l with
       | nil=>intro _; rfl
       | cons i l ih =>
        intro hl
        simp only [List.map_cons,wfRs,(hh i (hl i List.mem_cons_self)).2.2.1,cond_true]
        exact ih fun k hk=>hl k (List.mem_cons_of_mem _ hk)
      exact this _ fun i hi=>List.mem_range.1 hi
     have hle' : len≤9223372036854775807:=by unfold maxLen at hmx; omega
     refine ⟨_,one _ (.slc (shOf P n e) ((List.range len).map row)) _ hrf (by
      show cond (Nat.ble ((List.range len).map row).length 9223372036854775807) (cond (fitsRows (shOf P n e) ((List.range len).map row)) (wfRs ((List.range len).map row)) false) false=true
      rw [hfit,hwf,Nat.ble_eq_true_of_le (by simpa using hle')]; rfl) ?_⟩
     have hcell:∀ i,i<len→∀ j,j<P.cellsOf e→w.cell? ((a.add (i*P.cellsOf e)).add j)=some ((vals i).getD j Go.undef):=fun i hi j hj=>by
      have:=(World.cells?_some (hh i hi).1).2.2 j hj
      rw [this,List.getD_eq_getElem?_getD]
      have hl2:j<(vals i).length:=by rw [(World.cells?_some (hh i hi).1).2.1]; exact hj
      rw [List.getElem?_eq_getElem hl2]; rfl
     have key:Dat w (oldI w) (.slc (shOf P n e) ((List.range len).map row)) (.slice (some a) ((List.range len).map row).length cap):=by
      refine .slc _ _ (some a) cap (fun i j=>(vals i).getD j Go.undef) (by simpa using hle) (fun h=>by cases h) hfit (fun hr=>?_) (fun i j hi hj=>?_)
      ·have hpos' : 0<len:=by
        rcases Nat.eq_zero_or_pos len with h0 | h0
        ·subst h0; exact absurd rfl hr
        ·exact h0
       have hc0:=hcell 0 hpos' 0 hpos
       have hsp:a.spot=none:=by
        simp only [Nat.zero_mul,Addr.add,if_true] at hc0
        unfold World.cell? at hc0
        split at hc0
        ·cases hs:a.spot with
         | none=>rfl
         | some q=>rw [hs] at hc0; simp at hc0
        ·cases hc0
       obtain ⟨b,o,sp⟩:=a
       simp only at hsp
       subst hsp
       refine ⟨b,o,rfl,fun i j hi hj=>?_⟩
       have hi:i<len:=by simpa using hi
       have:=hcell i hi j (by omega)
       rw [add_off,add_off,Nat.add_assoc] at this
       rw [hlen]
       exact ⟨this,lt_of_cell this⟩
      ·have hi:i<len:=by simpa using hi
       unfold rowAt
       rw [hg i hi]
       have h4:=(hh i hi).2
       have hl3:(row i).length=(shOf P n e).length:=fitsL_len h4.1
       exact h4.2.2.2 j (by omega)
     have e1:((List.range len).map row).length=len:=by simp
     rw [e1] at key
     exact key
   | struct fs =>
    obtain ⟨xs,m,hm,_,hcs,hxl,hget⟩:=DataW.trod_struct hu h
    cases hm
    simp only at hl
    cases ho:layF (layB P n) (shOf P n) P 0 fs.toList with
    | none=>rw [ho] at hl; cases hl
    | some o =>
     rw [ho] at hl
     have ho':=Nat.eq_of_beq_eq_true hl
     obtain ⟨row,hr⟩:=fields_ok (w:=w) (P:=P) fs.toList 0 o cs ho (by omega) fun f hf hlay _=>by
      obtain ⟨i,hi⟩:=List.getElem?_of_mem hf
      have hi2:fs[i]? = some f:=by simpa using hi
      have hlt:=(Array.getElem?_eq_some_iff.1 hi2).1
      have:=hget i f hi2
      rw [List.getElem?_eq_getElem (by omega)] at this
      exact trod_row fuel n f.type _ _ this hlay
     refine ⟨row,?_⟩
     rwa [Nat.sub_zero,ho',← hcs,List.take_length] at hr
   | _=>cases hl
theorem open_agg {α:Type} (c:RCod α) {n:Nat} {t:TypeId} {fs:Array Field} {r:Reach} {b0:Nat} {v:Value} {d:DataW H} {ps:List MemPlace} (ht:P.underlying t=some (.struct fs)) (hs:Sh.beqL (shOf P n t) c.sh=true) (hl:layB P n t=true)
  (hval:Value.okWide P w r b0 t v) (h:DataW.Trod enc P w base spare held t v d ps):∃ a:α,wfL (c.enc a)=true∧Rv w (oldI w) noRho ((vAgg c).enc a) v:=by
 obtain ⟨fuel,h⟩:=h
 obtain ⟨row,h1,h2,h3,h4⟩:=trod_row fuel n t _ _ h hl
 rw [Sh.beqL_eq _ _ hs] at h1
 unfold Value.okWide at hval
 rw [ht] at hval
 obtain ⟨cs,rfl,_,_⟩:=hval
 have hcs:(Value.agg cs).cells.toList=cs.toList:=rfl
 rw [hcs] at h3 h4
 refine ⟨c.dec row,c.wf row h1 h2,?_⟩
 have hl1:=fitsL_len h1
 have hl2:(c.enc (c.dec row)).length=c.sh.length:=fitsL_len (c.fit _)
 have e:cs=cs.toList.toArray:=by simp
 rw [e]
 refine .agg _ cs.toList (by omega) fun i hi=>?_
 exact .dat (c.law w (oldI w) row (fun j=>cs.toList.getD j Go.undef) h1 (fun j hj=>h4 j (by omega)) i (by omega))
theorem open_one {α:Type} (c:RCod α) (hc1:c.sh.length=1) {n:Nat} {t:TypeId} {r:Reach} {b0:Nat} {v:Value} {d:DataW H} {ps:List MemPlace} (ht:isAggT P t=false) (hs:Sh.beqL (shOf P n t) c.sh=true) (hl:layB P n t=true)
  (hval:Value.okWide P w r b0 t v) (h:DataW.Trod enc P w base spare held t v d ps):∃ a:α,wfL (c.enc a)=true∧Rv w (oldI w) noRho ((vOne c hc1).enc a) v:=by
 obtain ⟨fuel,h⟩:=h
 obtain ⟨row,h1,h2,h3,h4⟩:=trod_row fuel n t _ _ h hl
 rw [Sh.beqL_eq _ _ hs] at h1
 have hcs:v.cells.toList=[v]:=by
  unfold Value.okWide at hval
  cases v with
  | agg cs =>
   exfalso
   unfold isAggT at ht
   cases hu:P.underlying t with
   | none=>rw [hu] at hval; simp [Cell.okWide,hu,Cell.ok] at hval
   | some dd =>
    rw [hu] at hval ht
    cases dd<;>first | (cases ht; done) | (simp [Cell.okWide,hu,Cell.ok] at hval; done)
  | _=>rfl
 rw [hcs] at h3 h4
 have hl1:=fitsL_len h1
 have hl2:(c.enc (c.dec row)).length=c.sh.length:=fitsL_len (c.fit _)
 refine ⟨c.dec row,c.wf row h1 h2,?_⟩
 have:=c.law w (oldI w) row (fun j=>[v].getD j Go.undef) h1 (fun j hj=>h4 j (by omega)) 0 (by omega)
 have e:(vOne c hc1).enc (c.dec row)=(c.enc (c.dec row)).getD 0 .undef:=by
  show (c.enc (c.dec row)).headD .undef=_
  cases c.enc (c.dec row)<;>rfl
 rw [e]; exact .dat this
end
theorem law_calls {P : Program} {f : FuncId} {fn : Func} (hf : P.funcs[f]? = some fn) (hb : fn.body.isSome = true) (hnm : (fn.name == "runtime.NumGoroutine") = false) {α : Type} {A : ACod α} {p : α → Unit → Bool} {g : α → Unit → Bool × Unit}
  (h:FnOk P f (den A bNil (oV vBool) p g)) (a:α) (hp:p a ()=true) (hg:(g a ()).1=true) {W:World} {xs:List Value} (hx:AllRv W (oldI W) noRho (A.enc a) xs) (hgl:Held P (oldI W) W) :
  Calls P f xs.toArray W fun e W'=>e = .returned (.bool true)∧Below W.heap.size W W':=by
 obtain ⟨h1,h2⟩:=A.ed a
 have hpre:(den A bNil (oV vBool) p g).pre (A.enc a) []=true:=by
  show cond (A.ok (A.enc a)) (cond true (p (A.dec (A.enc a)) ()) false) false=true
  rw [h1,h2,hp]; rfl
 have hloc:locReal [] []=noRho:=by funext j; rfl
 have main:=h (A.enc a) [] hpre W (oldI W) [] xs rfl (fun b o hb=>hb) (hloc ▸ hx) (fun j p cs hj=>by cases hj) (fun j j' p p' cs cs' b o hj=>by cases hj) hgl
 have fin:∀ v W',(∃ J',RetOk W W' (oldI W) [] [] ((den A bNil (oV vBool) p g).res (A.enc a) []) v J')→v = .bool true∧Below W.heap.size W W':=fun v W' ⟨J',hR⟩=>by
  refine ⟨?_,(hR.keeps.mono fun b o _ hh=>?_).below⟩
  ·have e:((den A bNil (oV vBool) p g).res (A.enc a) []).v = .bool true:=by
    show V.bool (g (A.dec (A.enc a)) ()).1 = .bool true
    rw [h2,hg]
   rcases hR.val with ⟨_,hv⟩ | ⟨_,_,hn,_⟩
   ·rw [e] at hv; exact hv.bool_inv
   ·cases hn
  ·obtain ⟨j,p,cs,h1,_⟩:=hh
   cases h1
 rcases main with ⟨_,h4⟩ | ⟨v,W',h3,_⟩
 ·exact h4.mono fun e W' ⟨v,he,hr⟩=>by
   obtain ⟨e1,e2⟩:=fin v W' hr
   exact ⟨by rw [he,e1],e2⟩
 ·exfalso
  obtain ⟨c,hc⟩:=Option.isSome_iff_exists.1 hb
  have hnm' : ¬ fn.name = "runtime.NumGoroutine" := fun e => by rw [e] at hnm; cases hnm
  have:(callFunc f xs.toArray).run P W = .ok (.enter f xs.toArray) W:=by simp [callFunc,hf,hnm',hc]
  rw [this] at h3
  cases h3
end Go.Ev

/- Bytes,written and read: the plain functions and their codecs: definitions,no condition. -/
namespace Go.Ev
open Go
abbrev Bytes:=List UInt8
structure OutS where
 s:Bytes
 err:Int
structure InS where
 s:Bytes
 err:Int
def cOut:RCod OutS:=(rStr.and (rInt .i64)).iso (fun p=>⟨p.1,p.2⟩) (fun o=>(o.s,o.err)) (fun _=>rfl) fun _=>rfl
def cIn:RCod InS:=(rStr.and (rInt .i64)).iso (fun p=>⟨p.1,p.2⟩) (fun o=>(o.s,o.err)) (fun _=>rfl) fun _=>rfl
namespace N
def inFail (i:InS) (code:Int):InS:=bif i.err==0 then (bif code != 0 then ⟨[],code⟩ else i) else i
def inRaw (i:InS) (n:Int):Bytes × InS :=
 bif i.err != 0 then ([],i) else bif ile n 0 then ([],i) else bif ilt i.s.length n then ([],inFail i 3) else (i.s.take n.toNat,⟨i.s.drop n.toNat,i.err⟩)
def be:Bytes→Int→Int
 | [],n=>n
 | c::r,n=>be r (n*256+c.toNat)
def beR:List (List V)→Int→Int
 | [],n=>n
 | r::rs,n=>beR rs (ibits .or .u64 (shl .u64 n 8) (IntKind.wrap .u64 (V.toInt (r.getD 0 .undef))))
def inNum (i:InS) (n:Int):Int × InS:=(be (inRaw i (bif ilt 8 n then 8 else n)).1 0,(inRaw i (bif ilt 8 n then 8 else n)).2)
def numB (n:Int):Nat→Bytes
 | 0=>[]
 | k+1=>UInt8.ofNat ((n / 2 ^ (8*k)) % 256).toNat::numB n k
def clamp (bytes:Int):Nat:=(bif ilt 0 bytes then (bif ilt 8 bytes then 8 else bytes) else 0).toNat
def outNum (o:OutS) (n bytes:Int):OutS:=⟨o.s++numB n (clamp bytes),o.err⟩
def outRaw (o:OutS) (s:Bytes):OutS:=⟨o.s++s,o.err⟩
def outText (o:OutS) (s:Bytes):OutS:=bif ilt 65535 s.length then ⟨o.s,bif o.err==0 then 5 else o.err⟩ else outRaw (outNum o s.length 2) s
end N
theorem shl_or (n:Int) (b:Nat) (hn:0≤n) (h:n<72057594037927936) (hb:b<256):ibits .or .u64 (shl .u64 n 8) (IntKind.wrap .u64 (b:Int))=n*256+b:=by
 obtain ⟨m,rfl⟩:=Int.eq_ofNat_of_zero_le hn
 have hm:m<72057594037927936:=by omega
 have w:∀ x:Nat,x<18446744073709551616→IntKind.wrap .u64 (x:Int)=x:=fun x hx=>by
  simp only [IntKind.wrap,IntKind.signed,IntKind.bits]
  simp
  omega
 have e1:shl .u64 (m:Int) 8=((m*256:Nat):Int):=by
  have:=w (m*256) (by omega)
  unfold shl
  rw [show (m:Int)*2 ^ (min (Int.toNat 8) (IntKind.bits .u64))=((m*256:Nat):Int) by simp [IntKind.bits]]
  exact this
 rw [e1,w b (by omega)]
 have e2:∀ x:Nat,x<18446744073709551616→(BitVec.ofInt 64 (x:Int)).toNat=x:=fun x hx=>by
  simp; omega
 show IntKind.wrap .u64 (((BitVec.ofInt 64 ((m*256:Nat):Int) ||| BitVec.ofInt 64 (b:Int):BitVec 64).toNat:Nat):Int)=_
 rw [BitVec.toNat_or,e2 _ (by omega),e2 _ (by omega)]
 have e3:m*256 ||| b=m*256+b:=by
  have:=Nat.shiftLeft_add_eq_or_of_lt (i:=8) (b:=b) (by omega) m
  rw [Nat.shiftLeft_eq,show (2:Nat) ^ 8=256 by decide] at this
  exact this.symm
 rw [e3,w _ (by omega)]
 rw [Int.natCast_add,Int.natCast_mul]; rfl
theorem beR_bytes:∀ (l:Bytes) (n:Int) (k:Nat),0≤n→l.length≤k→k≤8→n<((256 ^ (8-k):Nat):Int)→N.beR (bytesOfStr l) n=N.be l n
 | [],n,k,_,_,_,_=>rfl
 | c::r,n,k,hn,hl,hk,h=>by
  have hc:c.toNat<256:=c.toNat_lt
  have hl' : r.length+1≤k:=hl
  have hk1:1≤k:=by omega
  have h7:n<72057594037927936:=by
   have h1:256 ^ (8-k)≤256 ^ 7:=Nat.pow_le_pow_right (by decide) (by omega)
   have e:(256:Nat) ^ 7=72057594037927936:=by decide
   rw [e] at h1
   omega
  show N.beR (bytesOfStr r) (ibits .or .u64 (shl .u64 n 8) (IntKind.wrap .u64 ((c.toNat:Nat):Int)))=N.be r (n*256+c.toNat)
  rw [shl_or n c.toNat hn h7 hc]
  refine beR_bytes r _ (k-1) (by omega) (by omega) (by omega) ?_
  have:(256:Nat) ^ (8-(k-1))=256 ^ (8-k)*256:=by
   rw [show 8-(k-1)=(8-k)+1 by omega,Nat.pow_succ]
  rw [this]; omega
theorem N.inRaw_len (i:InS) (n:Int) (m:Nat) (h:n≤m):(N.inRaw i n).1.length≤m:=by
 unfold N.inRaw
 cases i.err != 0<;>cases ile n 0<;>cases ilt (i.s.length:Int) n<;>simp<;>omega
theorem N.numB_length (n:Int):∀ k,(N.numB n k).length=k
 | 0=>rfl
 | k+1=>by simp [N.numB,N.numB_length n k]
def dFail:Den:=den (aCons (vPtr 0) (aOne (vInt .i64))) (bOne cIn) (oTup aNil) (fun _ _=>true) fun a i=>((),N.inFail i a.2)
def dRaw:Den:=den (aCons (vPtr 0) (aOne (vInt .i64))) (bOne cIn) (oV vStr) (fun _ _=>true) fun a i=>N.inRaw i a.2
def dNum:Den:=den (aCons (vPtr 0) (aOne (vInt .i64))) (bOne cIn) (oV (vInt .u64)) (fun _ _=>true) fun a i=>N.inNum i a.2
def dNew:Den:=den (aOne vStr) bNil (oNew cIn) (fun _ _=>true) fun s _=>(⟨s,0⟩,())
def dOutNum:Den:=den (aCons (vAgg cOut) (aCons (vInt .u64) (aOne (vInt .i64)))) bNil (oV (vAgg cOut)) (fun a _=>cond (ile 0 a.2.1) (cond (ilt a.2.1 18446744073709551616) (Nat.ble a.1.s.length 9223372036854775799) false) false) fun a _=>(N.outNum a.1 a.2.1 a.2.2,())
def dOutRaw:Den:=den (aCons (vAgg cOut) (aOne vStr)) bNil (oV (vAgg cOut)) (fun a _=>Nat.ble (a.1.s.length+a.2.length) 9223372036854775807) fun a _=>(N.outRaw a.1 a.2,())
def dOutText:Den:=den (aCons (vAgg cOut) (aOne vStr)) bNil (oV (vAgg cOut)) (fun a _=>Nat.ble (a.1.s.length+a.2.length) 9223372036854775790) fun a _=>(N.outText a.1 a.2,())
def dOutString:Den:=den (aOne (vAgg cOut)) bNil (oV vStr) (fun _ _=>true) fun o _=>(o.s,())
end Go.Ev

/- The library's text builder in this program,and the function that writes a number's bytes with it: lemmas,no condition but the text's length. -/
namespace Go.Ev
open Go Go.Proofs Go.RowKit Go.Shelf
theorem bSize:(Tryz.prog.info? 91).map (·.size)=some 2:=by kernel_rfl
theorem bLies:liesAt Tryz.prog Tryz.prog.depth 91 (2 / Tryz.prog.cellsOf 91) 0 91 1=true:=by kernel_rfl
theorem bByte:(Tryz.prog.info? 5).map (fun i=>(i.zero,i.size,i.bytes))=some (some (.int .u8 0),1,1):=by kernel_rfl
set_option maxHeartbeats 1000000 in
set_option maxRecDepth 100000 in
theorem cc_used (b : Nat) (w : World) (h0 : w.cell? ⟨b, 0, none⟩ = some (.pointer (some ⟨b, 0, none⟩))) :
    Calls Tryz.prog 82 #[.pointer (some ⟨b, 0, none⟩)] w fun e w' => e = .returned (.tuple #[]) ∧ w' = w := by
  obtain ⟨j, hj, _⟩ := Option.map_eq_some_iff.1 bSize
  go_enter Tryz.func82, Tryz.ntmps82
  go_wp2
  rw [Lib.run_neq_ptr_same w _ Tryz.underlying88 hj]
  go_wp2
  go_end0
  exact ⟨rfl, rfl⟩
set_option maxHeartbeats 1000000 in
set_option maxRecDepth 100000 in
theorem cc_fresh (b : Nat) (w : World) (h0 : w.cell? ⟨b, 0, none⟩ = some (.pointer none)) (hsh : w.shape? b = some (91, 2)) (hfz : w.frozen? ⟨b, 0, none⟩ = false) :
    Calls Tryz.prog 82 #[.pointer (some ⟨b, 0, none⟩)] w fun e w' => e = .returned (.tuple #[]) ∧ w' = w.setCell ⟨b, 0, none⟩ (.pointer (some ⟨b, 0, none⟩)) := by
  obtain ⟨j, hj, hjs⟩ := Option.map_eq_some_iff.1 bSize
  go_enter Tryz.func82, Tryz.ntmps82
  go_wp2
  rw [Lib.run_to_unsafe w ⟨b, 0, none⟩ Tryz.underlying88 Tryz.underlying142 hj (by rw [hjs]; decide) hsh (Nat.zero_lt_succ 1)]
  simp only [Result.andThen]
  rw [Oper.upon_value]
  go_wp2
  rw [run_callFunc_extern Tryz.func100 (by kernel_rfl) (by kernel_rfl) (by kernel_rfl) (e := Extern.AbiNoEscape.same) (by kernel_rfl)]
  rw [Lib.run_noEscape]
  simp only [Result.andThen]
  rw [Oper.upon_value]
  go_wp2
  rw [Lib.run_from_unsafe w ⟨b, 0, none⟩ Tryz.underlying142 Tryz.underlying88 hj hsh bLies]
  simp only [Result.andThen]
  rw [Oper.upon_value]
  go_wp2
  go_end0
  exact ⟨rfl, rfl⟩
theorem cc (B b:Nat) (bs:List Value) (w:World) (h:Lib.IsBuilder 91 5 B b bs w) :
  Calls Tryz.prog 82 #[.pointer (some ⟨b,0,none⟩)] w fun e w'=>e = .returned (.tuple #[])∧(Lib.BuilderAt 91 5 B b (.pointer (some ⟨b,0,none⟩)) bs w'∧Below B w w'):=by
 rcases h with h | h
 ·refine (cc_fresh b w h.cell0 h.shape h.frozen0).mono ?_
  rintro e w' ⟨rfl,rfl⟩
  exact ⟨rfl,h.used _,(Below.refl B w).setCell (p:=⟨b,0,none⟩) h.1 _⟩
 ·refine (cc_used b w h.cell0).mono ?_
  rintro e w' ⟨rfl,rfl⟩
  exact ⟨rfl,h,Below.refl B _⟩
set_option maxHeartbeats 2000000 in
set_option maxRecDepth 100000 in
theorem writeByte (B b : Nat) (bs : List Value) (c : Int) (w : World) (h : Lib.IsBuilder 91 5 B b bs w) (hlen : bs.length + 1 ≤ 140737488355328) (hBw : B ≤ w.heap.size) :
    Calls Tryz.prog 141 #[.pointer (some ⟨b, 0, none⟩), .int .u8 c] w fun e w' => e = .returned .nilIface ∧ (Lib.BuilderAt 91 5 B b (.pointer (some ⟨b, 0, none⟩)) (bs ++ [.int .u8 c]) w' ∧ Below B w w') := by
  obtain ⟨i0, hi, hz0, hz1, hz2⟩ := info_parts bByte
  go_enter Tryz.func141, Tryz.ntmps141
  go_wp2_with (go_at_call 82; refine (cc B b bs _ h).mono ?_)
  rintro e w1 ⟨rfl, h1, hb1⟩
  obtain ⟨hB, v, hbk, hown, hne⟩ := h1
  have c0 : w1.cell? ⟨b, 0, none⟩ = some (.pointer (some ⟨b, 0, none⟩)) := by rw [Lib.cell_of_heap hbk]; rfl
  have c1 : w1.cell? ⟨b, 1, none⟩ = some v := by rw [Lib.cell_of_heap hbk]; rfl
  go_wp2_with (at_builtin; refine wpList_append_own _ rfl _ _ 89 rfl B 5 i0 (.int .u8 0) 1 1 Tryz.underlying89 hi hz0 hz1 hz2 rfl (by decide) _ _ _ rfl (hown.alloc _) ⟨w1.heap.size, 0, none⟩ 1 1 [.int .u8 c] rfl rfl ?c1 ?c2 ?c3 ?c4 ?c5 ?_)
  case c1 =>
    intro j u hj
    match j, hj with
    | 0, hj => simp at hj; subst hj; simp [Addr.add]
  case c2 => intro u hu; simp at hu; subst hu; rfl
  case c3 => unfold maxLen; omega
  case c4 => omega
  case c5 => have := hb1.size; simp; omega
  intro v' w2 hown' hgrow _
  have hlt : b < w1.heap.size := by
    rcases Nat.lt_or_ge b w1.heap.size with h' | h'
    · exact h'
    · simp [Array.getElem?_eq_none h'] at hbk
  have hb2 : w2.heap[b]? = some (.cells #[.pointer (some ⟨b, 0, none⟩), v] 91 (0, 0)) := by
    rw [hgrow.block b (by simp; omega) (fun e => hne e.symm), Lib.alloc_old w1 _ b hlt]
    exact hbk
  have d0 : w2.cell? ⟨b, 0, none⟩ = some (.pointer (some ⟨b, 0, none⟩)) := by rw [Lib.cell_of_heap hb2]; rfl
  have d1 : w2.cell? ⟨b, 1, none⟩ = some v := by rw [Lib.cell_of_heap hb2]; rfl
  have f1 : w2.frozen? ⟨b, 1, none⟩ = false := Lib.frozen_of_heap hb2 1
  obtain ⟨g, cap, rfl⟩ : ∃ g cap, v' = .slice (some ⟨g, 0, none⟩) (bs.length + 1) cap := by
    rcases hown'.2 with ⟨_, h0⟩ | ⟨g, cap, cur, hv, _⟩
    · omega
    · exact ⟨g, cap, hv⟩
  go_wp2
  go_ret
  refine ⟨rfl, ?_, ?_⟩
  · exact Lib.BuilderAt.put (T := 91) (e := 5) hB hb2 (bs' := bs ++ [.int .u8 c]) (by simpa using hown') (by decide)
  · exact ((hb1.alloc (by have := hb1.size; omega) _).grown hgrow (by have := hb1.size; simp; omega) (fun k hk => (hown.lt k hk).1)).setCell (p := ⟨b, 1, none⟩) hB _
def lays169_ren:Go.Shelf.Ren:=⟨fun | 169=>57 | n=>n,fun | 70=>88 | 9=>9 | 0=>0 | 72=>91 | 37=>89 | 127=>123 | 3=>3 | 5=>5 | n=>n,fun | n=>n⟩
theorem lays169:Go.Proofs.Lays.n169 Tryz.prog lays169_ren:={
 mixed:=by kernel_rfl
 f169:=Tryz.func57.trans (congrArg some (by kernel_rfl))
 t0:=Tryz.underlying0
 a0:=Tryz.isAgg0
 z0:=Tryz.sizeOf0
 v0:=Tryz.zeroValue0
 t3:=Tryz.underlying3
 a3:=Tryz.isAgg3
 z3:=Tryz.sizeOf3
 v3:=Tryz.zeroValue3
 t9:=Tryz.underlying9
 a9:=Tryz.isAgg9
 z9:=Tryz.sizeOf9
 v9:=Tryz.zeroValue9
 t37:=Tryz.underlying89
 a37:=Tryz.isAgg89
 z37:=Tryz.sizeOf89
 v37:=Tryz.zeroValue89
 t70:=Tryz.underlying88
 a70:=Tryz.isAgg88
 z70:=Tryz.sizeOf88
 v70:=Tryz.zeroValue88
 t72:=Tryz.underlying91
 a72:=Tryz.isAgg91
 z72:=Tryz.sizeOf91
 v72:=Tryz.zeroValue91
 t127:=Tryz.underlying123
 a127:=Tryz.isAgg123
 z127:=Tryz.sizeOf123
 v127:=Tryz.zeroValue123 }
theorem extra169:Builder.Extra Tryz.prog lays169_ren:={
 sizeBuilder:=by kernel_rfl
 liesBuilder:=by kernel_rfl
 t5:=Tryz.underlying5
 a5:=Tryz.isAgg5
 z5:=Tryz.sizeOf5
 v5:=Tryz.zeroValue5
 infoByte:=by kernel_rfl
 cellsByte:=by kernel_rfl
 sizeByte:=by kernel_rfl
 neB5:=by decide }
theorem bString (B b:Nat) (l:List UInt8) (w:World) (h:Lib.IsBuilder 91 5 B b (Lib.byteCells l) w) (hBw:B≤w.heap.size) :
  Calls Tryz.prog 57 #[.pointer (some ⟨b,0,none⟩)] w fun e w'=>e = .returned (.string ⟨l.toArray⟩)∧Below B w w':=Any.Builder_String_any lays169 extra169 B b l w h hBw
end Go.Ev
