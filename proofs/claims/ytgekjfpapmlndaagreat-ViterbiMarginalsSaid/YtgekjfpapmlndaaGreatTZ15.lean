/- Merged texts of a claim: AliveAll, Decode, IFwdPl, IFwd, IThru, MargPl. -/
import Derived.Test.YtgekjfpapmlndaaGreatTZ14
namespace Go.Proofs.YtgekjfpapmlndaaGreat
set_option maxRecDepth 100000
set_option maxHeartbeats 32000000
open KA KB KC KD KE KF
open Go.RowKit
def PricedP (M:Nat) (ln:Nat->Nat) (C:Nat->Nat->Int):Prop:=∀ i,i<M->∀ a,a<ln i->0<=C i a/\C i a<=2147483648
instance (M:Nat) (ln:Nat->Nat) (C:Nat->Nat->Int):Decidable (PricedP M ln C):=by unfold PricedP; exact inferInstance
theorem zcB (CA:Option Addr) (M cc:Nat) (ln:Nat->Nat) (C:Nat->Nat->Int) (w:World) (h:IntRows w CA M ln C) (hM:M<=1048576) :
  Calls Tryz.prog 58 #[.slice CA M cc] w fun e w'=>e=.returned (.int .i64 (if PricedP M ln C then 0 else 6))/\Below w.heap.size w w':=by
 have HC:=hid h
 clear h
 have l:Hid ((∀ i,i<M->∀ a,a<ln i->0<=C i a/\C i a<=2147483648)->(0:Int)=if PricedP M ln C then 0 else 6):=fun h=>(if_pos h).symm
 have p:Hid ((¬ ∀ i,i<M->∀ a,a<ln i->0<=C i a/\C i a<=2147483648)->(6:Int)=if PricedP M ln C then 0 else 6):=fun h=>(if_neg h).symm
 obtain ⟨r,hr⟩:∃ r:Int,r=if PricedP M ln C then 0 else 6:=⟨_,rfl⟩
 rw [<-hr] at l p ⊢;clear hr
 go_enter Tryz.func58, Tryz.ntmps58
 go_wp2
 go_loopg [9] M (fun g iv wx=>∃ k:Nat,iv=.int .i64 (k:Nat)/\k<=M/\M<=k+g/\Hid (∀ i,i<k->∀ a,a<ln i->0<=C i a/\C i a<=2147483648)/\Below w.heap.size w wx)
 case atStart=>exact ⟨0,rfl,by omega,by omega,fun i hi=>absurd hi (by omega),Below.refl _ _⟩
 obtain ⟨gK,u⟩:=exx gk
 subst u
 obtain ⟨k,rfl,hk,D,HD,hW⟩:=hrel
 have E:(0:Int)<=(k:Int):=by omega
 by_cases hlt:k<M
 rotate_left
 ·have n:¬ (k:Int)<(M:Int):=by omega
  obtain rfl:k=M:=by omega
  have HF:=hid (l.out HD.out)
  clear HD
  go_wp2
  go_ret
  exact ⟨by rw [<-HF.out]; rfl,hW⟩
 have n:(k:Int)<(M:Int):=by omega
 obtain ⟨b,o,R,rc,rfl,hb,x0,h1,h2,h3,h4⟩:=(HC.out.on hW) k hlt
 obtain ⟨n1,m⟩:=exx (ln k)
 rw [<-m] at x0 h1 h3
 have s:=hid m
 have HR:=hid h3
 have B:n1<=9223372036854775807:=by unfold maxLen at h2; omega
 obtain ⟨wa,t⟩:=exx wr
 subst t
 clear m h3 h4 h1 h2
 go_wp2
 go_loopg [15] n1 (fun g jv wx=>∃ j:Nat,jv=.int .i64 (j:Nat)/\j<=n1/\n1<=j+g/\Hid (∀ a,a<j->0<=C k a/\C k a<=2147483648)/\Below wa.heap.size wa wx)
 case atStart=>exact ⟨0,rfl,by omega,by omega,fun i hi=>absurd hi (by omega),Below.refl _ _⟩
 obtain ⟨j,rfl,hj,F,HE,hV⟩:=hrel
 have G:(0:Int)<=(j:Int):=by omega
 by_cases hltj:j<n1
 rotate_left
 ·have c:¬ (j:Int)<(n1:Int):=by omega
  have y:Hid (∀ i,i<k+1->∀ a,a<ln i->0<=C i a/\C i a<=2147483648):=fun i hi a ha=>by
   by_cases e:i=k
   ·subst e; exact HE.out a (by have:=s.out; omega)
   ·exact HD.out i (by omega) a ha
  have d:=onS hW hV
  clear x0
  go_wp2
  go_roundg (gK - 1)
  case measure=>omega
  case rel=>exact ⟨k+1,by go_num,by omega,by omega,y,d⟩
 have c:(j:Int)<(n1:Int):=by omega
 have q:j<ln k:=by rw [<-s.out]; exact hltj
 obtain ⟨rb,ro,rfl,z,x1⟩:=((HR.out:IntsR _ _ _ _ _).on hV).at hltj
 obtain ⟨x,hx⟩:=exx (C k j)
 rw [<-hx] at x1
 have HX:=hid hx
 clear hx x0
 by_cases h1:x<0
 ·have hf:=hid (p.out fun h=>by have:=h k hlt j q; rw [<-HX.out] at this; omega)
  have d:=hid (onS hW hV)
  go_wp2
  go_ret
  exact ⟨by rw [<-hf.out]; rfl,d.out⟩
 by_cases h2:2147483648<x
 ·have hf:=hid (p.out fun h=>by have:=h k hlt j q; rw [<-HX.out] at this; omega)
  have d:=hid (onS hW hV)
  go_wp2
  go_ret
  exact ⟨by rw [<-hf.out]; rfl,d.out⟩
 have v:Hid (∀ a,a<j+1->0<=C k a/\C k a<=2147483648):=fun a ha=>by
  by_cases e:a=j
  ·subst e; rw [<-HX.out]; omega
  ·exact HE.out a (by omega)
 go_wp2
 go_roundg (gk - 1)
 case measure=>omega
 case rel=>exact ⟨j+1,by go_num,by omega,by omega,v,hV⟩
theorem zfb (CA:Option Addr) (M cc:Nat) (ln:Nat->Nat) (C:Nat->Nat->Int) (w:World) (h:IntRows w CA M ln C) (hM:M<=1048576) :
  Calls Tryz.prog 60 #[.slice CA M cc] w fun e w'=>e=.returned (.bool (decide (PricedP M ln C)))/\Below w.heap.size w w':=by
 have HC:=hid h
 clear h
 have l:Hid ((∀ i,i<M->∀ a,a<ln i->0<=C i a/\C i a<=2147483648)->true=decide (PricedP M ln C)):=fun h=>(decide_eq_true h).symm
 have p:Hid ((¬ ∀ i,i<M->∀ a,a<ln i->0<=C i a/\C i a<=2147483648)->false=decide (PricedP M ln C)):=fun h=>(decide_eq_false h).symm
 obtain ⟨r,hr⟩:∃ r:Bool,r=decide (PricedP M ln C):=⟨_,rfl⟩
 rw [<-hr] at l p ⊢;clear hr
 go_enter Tryz.func60, Tryz.ntmps60
 go_wp2
 go_loopg [3] M (fun g iv wx=>∃ k:Nat,iv=.int .i64 (k:Nat)/\k<=M/\M<=k+g/\Hid (∀ i,i<k->∀ a,a<ln i->0<=C i a/\C i a<=2147483648)/\Below w.heap.size w wx)
 case atStart=>exact ⟨0,rfl,by omega,by omega,fun i hi=>absurd hi (by omega),Below.refl _ _⟩
 obtain ⟨gK,u⟩:=exx gk
 subst u
 obtain ⟨k,rfl,hk,D,HD,hW⟩:=hrel
 have E:(0:Int)<=(k:Int):=by omega
 by_cases hlt:k<M
 rotate_left
 ·have n:¬ (k:Int)<(M:Int):=by omega
  obtain rfl:k=M:=by omega
  have HF:=hid (l.out HD.out)
  clear HD
  go_wp2
  go_ret
  exact ⟨by rw [<-HF.out]; rfl,hW⟩
 have n:(k:Int)<(M:Int):=by omega
 obtain ⟨b,o,R,rc,rfl,hb,x0,h1,h2,h3,h4⟩:=(HC.out.on hW) k hlt
 obtain ⟨n1,m⟩:=exx (ln k)
 rw [<-m] at x0 h1 h3
 have s:=hid m
 have HR:=hid h3
 have B:n1<=9223372036854775807:=by unfold maxLen at h2; omega
 obtain ⟨wa,t⟩:=exx wr
 subst t
 clear m h3 h4 h1 h2
 go_wp2
 go_loopg [4] n1 (fun g jv wx=>∃ j:Nat,jv=.int .i64 (j:Nat)/\j<=n1/\n1<=j+g/\Hid (∀ a,a<j->0<=C k a/\C k a<=2147483648)/\Below wa.heap.size wa wx)
 case atStart=>exact ⟨0,rfl,by omega,by omega,fun i hi=>absurd hi (by omega),Below.refl _ _⟩
 obtain ⟨j,rfl,hj,F,HE,hV⟩:=hrel
 have G:(0:Int)<=(j:Int):=by omega
 by_cases hltj:j<n1
 rotate_left
 ·have c:¬ (j:Int)<(n1:Int):=by omega
  have y:Hid (∀ i,i<k+1->∀ a,a<ln i->0<=C i a/\C i a<=2147483648):=fun i hi a ha=>by
   by_cases e:i=k
   ·subst e; exact HE.out a (by have:=s.out; omega)
   ·exact HD.out i (by omega) a ha
  have d:=onS hW hV
  replace x0:=cellS hV x0
  go_wp2
  go_roundg (gK - 1)
  case measure=>omega
  case rel=>exact ⟨k+1,by go_num,by omega,by omega,y,d⟩
 have c:(j:Int)<(n1:Int):=by omega
 have q:j<ln k:=by rw [<-s.out]; exact hltj
 obtain ⟨rb,ro,rfl,z,x1⟩:=((HR.out:IntsR _ _ _ _ _).on hV).at hltj
 replace x0:=cellS hV x0
 obtain ⟨x,hx⟩:=exx (C k j)
 rw [<-hx] at x1
 have HX:=hid hx
 clear hx
 by_cases h1:x<0
 ·have hf:=hid (p.out fun h=>by have:=h k hlt j q; rw [<-HX.out] at this; omega)
  have d:=hid (onS hW hV)
  go_wp2
  go_ret
  exact ⟨by rw [<-hf.out]; rfl,d.out⟩
 by_cases h2:2147483648<x
 ·have hf:=hid (p.out fun h=>by have:=h k hlt j q; rw [<-HX.out] at this; omega)
  have d:=hid (onS hW hV)
  go_wp2
  go_ret
  exact ⟨by rw [<-hf.out]; rfl,d.out⟩
 have v:Hid (∀ a,a<j+1->0<=C k a/\C k a<=2147483648):=fun a ha=>by
  by_cases e:a=j
  ·subst e; rw [<-HX.out]; omega
  ·exact HE.out a (by omega)
 go_wp2
 go_roundg (gk - 1)
 case measure=>omega
 case rel=>exact ⟨j+1,by go_num,by omega,by omega,v,hV⟩
def Trel.fitB (T:Trel) (ln:Nat->Nat):Prop:=∀ i,i<T.n->∀ j,j<T.el i->T.lb i j<(ln i:Nat)
instance (T:Trel) (ln:Nat->Nat):Decidable (T.fitB ln):=by unfold Trel.fitB; exact inferInstance
def Trel.alongE (T:Trel) (M:Nat) (ln:Nat->Nat) (C:Nat->Nat->Int):Int :=
 if T.properE≠0 then T.properE else if M≠T.n then 3 else if ¬ T.fitB ln then 3 else if PricedP M ln C then 0 else 6
def AlongRes (T:Trel) (M:Nat) (ln:Nat->Nat) (C:Nat->Nat->Int) (w:World) (e:Ending) (w':World):Prop :=
 Below w.heap.size w w' /\
 ((T.alongE M ln C≠0/\e=.returned (.tuple #[.slice none 0 0,.int .i64 0,.int .i64 (T.alongE M ln C)])) ∨
 (T.alongE M ln C=0/\∃ gw,e=.returned (.tuple #[.slice (some ⟨gw,0,none⟩) T.n T.n,.int .i64 (T.bw (T.yOf C) T.n 0),.int .i64 0])/\w'.rowIs gw 3 T.n (fun i=>.int .i64 (T.wd (T.yOf C) i))))
theorem Trel.alongE_zero {T:Trel} {M:Nat} {ln:Nat->Nat} {C:Nat->Nat->Int} (h:T.alongE M ln C=0):T.properE=0/\M=T.n/\T.fitB ln/\PricedP M ln C:=by
 unfold Trel.alongE at h
 by_cases h1:T.properE=0
 rotate_left
 ·rw [if_pos h1] at h; exact absurd h h1
 rw [if_neg (by simpa using h1)] at h
 by_cases h2:M=T.n
 ·rw [if_neg (by simpa using h2)] at h
  by_cases h3:T.fitB ln
  ·rw [if_neg (by simpa using h3)] at h
   by_cases h4:PricedP M ln C
   ·exact ⟨h1,h2,h3,h4⟩
   ·rw [if_neg h4] at h; omega
  ·rw [if_pos h3] at h; omega
 ·rw [if_pos h2] at h; omega
theorem Trel.shapeE_of {T:Trel} (hp:T.properE=0):T.shapeE=0:=by
 cases Decidable.em (T.shapeE=0) with
 | inl h=>exact h
 | inr h=>exact absurd (Trel.properE_shape h ▸ hp) h
theorem zcC (T:Trel) (A B CA:Option Addr) (c d M cc:Nat) (ln:Nat->Nat) (C:Nat->Nat->Int) (w:World) (h:T.Reads w A B) (hC:IntRows w CA M ln C) :
  Calls Tryz.prog 56 #[.agg #[.slice A T.nw c,.slice B T.n d],.slice CA M cc] w (AlongRes T M ln C w):=by
 obtain ⟨RB,J⟩:=exx ((Obj.cells #[.slice A T.nw c,.slice B T.n d] 53))
 have O:Below (w.heap.size+1) (w.alloc RB) (w.alloc RB):=Below.refl _ _
 have HS:Hid (∀ w',Below (w.heap.size+1) (w.alloc RB) w'->(w'.cell? ⟨w.heap.size,0,none⟩=some (.slice A T.nw c)/\w'.cell? ⟨w.heap.size,1,none⟩=some (.slice B T.n d))/\Below w.heap.size w w'):=fun w' hB=>by
  have ae:=zaC hB
  subst J
  exact ⟨⟨tbox hB rfl,tbox hB rfl⟩,ae⟩
 obtain ⟨⟨p0,p1⟩,hW⟩:=HS.out _ O
 have ai:Hid (T.properE≠0->T.properE=T.alongE M ln C):=fun h=>(if_pos h).symm
 have ah:Hid (T.properE=0->M≠T.n->(3:Int)=T.alongE M ln C):=fun h h1=>by unfold Trel.alongE; rw [if_neg (by simpa using h),if_pos h1]
 have U:Hid (T.properE=0->M=T.n->(¬ T.fitB ln)->(3:Int)=T.alongE M ln C):=fun h h1 h2=>by unfold Trel.alongE; rw [if_neg (by simpa using h),if_neg (by simpa using h1),if_pos h2]
 have ag:Hid (T.properE=0->M=T.n->T.fitB ln->(if PricedP M ln C then (0:Int) else 6)=T.alongE M ln C):=fun h h1 h2=>(show T.alongE M ln C=_ by unfold Trel.alongE; rw [if_neg (by simpa using h),if_neg (by simpa using h1),if_neg (by simpa using h2)]).symm
 have b:Hid (∀ w' r,Below w.heap.size w w'->r=T.alongE M ln C->r≠0->∀ e,e=.returned (.tuple #[.slice none 0 0,.int .i64 0,.int .i64 r])->AlongRes T M ln C w e w'):=fun w' r hB hr h0 e he=>by subst hr; exact ⟨hB,.inl ⟨h0,he⟩⟩
 go_enter Tryz.func56, Tryz.ntmps56
 go_wp2_with fail
 rw [<-J]
 refine (zdG T A B c d _ (h.on hW)).mono ?_
 rintro e w1 ⟨rfl,kb⟩
 have N:=zaF O kb
 have HR:=hid h
 have HC:=hid hC
 clear p0 p1 hW kb O J h hC
 obtain ⟨⟨p0,p1⟩,hW⟩:=HS.out _ N
 by_cases hp:T.properE=0
 rotate_left
 ·have a6:(T.properE != 0)=true:=by simpa using hp
  have hf:=hid (ai.out hp)
  have W:=hid hp
  obtain ⟨x,hx⟩:=exx T.properE
  rw [<-hx] at a6 hf W ⊢;clear hp hx
  go_wp2
  go_ret3
  exact b.out _ x hW hf.out W.out _ rfl
 have HP:=hid (Trel.proper_of hp)
 have y:=hid hp
 rw [hp];clear hp
 by_cases hM:M=T.n
 rotate_left
 ·have Z:((M:Int) != (T.n:Int))=true:=by
   rw [bne_iff_ne]
   omega
  have hf:=hid (ah.out y.out hM)
  clear hM
  go_wp2
  go_ret3
  exact b.out _ 3 hW hf.out (by omega) _ rfl
 have Z:((M:Int) != (T.n:Int))=false:=by simp [hM]
 have HM:=hid hM
 have z:=HP.out.shape.n64
 obtain ⟨n,hn⟩:=exx T.n
 have HN:=hid hn
 rw [<-hn] at z p1 Z ⊢;clear hM hn
 go_wp2
 go_loopg [29] n (fun g iv wx=>∃ k:Nat,iv=.int .i64 (k:Nat)/\k<=n/\n<=k+g/\Hid (∀ i,i<k->∀ j,j<T.el i->T.lb i j<(ln i:Nat))/\Below (w.heap.size+1) (w.alloc RB) wx)
 case atStart=>exact ⟨0,rfl,by omega,by omega,fun i hi=>absurd hi (by omega),N⟩
 clear p0 p1 hW N
 obtain ⟨gK,a7⟩:=exx gk
 subst a7
 obtain ⟨k,rfl,hk,al,HD,hB⟩:=hrel
 have am:(0:Int)<=(k:Int):=by omega
 obtain ⟨⟨p0,p1⟩,hW⟩:=HS.out _ hB
 rw [<-HN.out] at p1
 by_cases hlt:k<n
 rotate_left
 ·have G:¬ (k:Int)<(n:Int):=by omega
  have a4:Hid (T.fitB ln):=fun i hi=>HD.out i (by have:=HN.out; omega)
  have hf:=hid (ag.out y.out HM.out a4.out)
  have L:M<=1048576:=by have:=HM.out; have:=HN.out; omega
  clear HD
  go_wp2_with fail
  refine (zcB CA M cc ln C wr (HC.out.on hW) L).mono ?_
  rintro e w2 ⟨rfl,kb⟩
  have a0:=zaF hB kb
  clear kb p0 p1 hW hB
  obtain ⟨⟨p0,p1⟩,hW⟩:=HS.out _ a0
  by_cases hpr:PricedP M ln C
  rotate_left
  ·rw [if_neg hpr] at hf
   rw [if_neg hpr];clear hpr
   go_wp2
   go_ret3
   exact b.out _ 6 hW hf.out (by omega) _ rfl
  rw [if_pos hpr] at hf;rw [if_pos hpr]
  have af:Hid (PricedP M ln C):=hpr
  have v:T.Fit ln:=fun i hi j hj=>⟨((HP.out.sec i hi).1 j hj).1,a4.out i hi j hj⟩
  have a1:=HR.out.on hW
  have a5:=HC.out.on hW
  clear hpr
  go_wp2_with fail
  refine (zeH T A B CA c d M cc ln C w2 a1 HP.out (Trel.shapeE_of y.out) a5 HM.out v af.out).mono ?_
  rintro e w3 ⟨gw,rfl,o,_,kb⟩
  have ad:=hid (onS hW kb)
  obtain ⟨bv,I⟩:=exx (T.bw (T.yOf C) T.n 0)
  have ak:=hid I
  have P:=hid o
  rw [<-I];clear I o kb p0 p1 hW a1 a5 a0 v
  go_wp2
  go_ret3
  exact ⟨ad.out,.inr ⟨hf.out.symm,gw,by rw [<-ak.out]; rfl,P.out⟩⟩
 have G:(k:Int)<(n:Int):=by omega
 have a:k<T.n:=by rw [<-HN.out]; exact hlt
 have F:k<M:=by rw [HM.out]; exact a
 have X:(k:Int)<(M:Int):=by omega
 have a9:=HP.out.shape.elb a
 obtain ⟨eb,eo,E,ec,rfl,ap,x0w,ac,ab,s,aa⟩:=HR.out.sec a
 have x0:=cellS hW x0w
 obtain ⟨el,l⟩:=exx (T.el k)
 have Q:=hid l
 rw [<-l] at a9 x0
 have S:=hid s
 clear l s aa ac ab x0w
 go_wp2
 go_loopg [36] el (fun g jv wx=>∃ j:Nat,jv=.int .i64 (j:Nat)/\j<=el/\el<=j+g/\Hid (∀ q,q<j->T.lb k q<(ln k:Nat))/\Below (w.heap.size+1) (w.alloc RB) wx)
 case atStart=>exact ⟨0,rfl,by omega,by omega,fun i hi=>absurd hi (by omega),hB⟩
 clear hB p0 p1 hW x0
 obtain ⟨j,rfl,hj,an,HE,hB⟩:=hrel
 have ao:(0:Int)<=(j:Int):=by omega
 obtain ⟨⟨p0,p1⟩,hW⟩:=HS.out _ hB
 by_cases hltj:j<el
 rotate_left
 ·have p:¬ (j:Int)<(el:Int):=by omega
  have aj:Hid (∀ i,i<k+1->∀ j,j<T.el i->T.lb i j<(ln i:Nat)):=fun i hi q hq=>by
   by_cases e:i=k
   ·subst e; exact HE.out q (by have:=Q.out; omega)
   ·exact HD.out i (by omega) q hq
  go_wp2
  go_roundg (gK - 1)
  case measure=>omega
  case rel=>exact ⟨k+1,by go_num,by omega,by omega,aj,hB⟩
 have p:(j:Int)<(el:Int):=by omega
 obtain ⟨fb,fo,rfl,a8,e0,e1,e2⟩:=zba ((Rd.below S.out hW (Nat.le_refl _)).mono hW.size) (show j<T.el k by rw [<-Q.out]; exact hltj)
 obtain ⟨cb,co,R,rc,rfl,aq,y0,h1,h2,h3,h4⟩:=(HC.out.on hW) k F
 obtain ⟨lv,D⟩:=exx (T.lb k j)
 obtain ⟨lk,H⟩:=exx (ln k)
 rw [<-D] at e1;rw [<-H] at y0
 have a2:=hid D
 have a3:=hid H
 obtain ⟨fv,Y⟩:=exx (T.fr k j)
 obtain ⟨tv,V⟩:=exx (T.to k j)
 rw [<-Y] at e0;rw [<-V] at e2;clear D H h1 h2 h3 h4 p0 p1 Y V
 go_upto_region 12 with fail
 obtain ⟨OB,K⟩:=exx ((Obj.cells #[.int .i64 fv,.int .i64 lv,.int .i64 tv] 90))
 have s1:(wr.alloc OB).cell? ⟨wr.heap.size,1,none⟩=some (.int .i64 lv):=by subst K; exact tbox (Below.refl _ _) rfl
 have kb:=aly wr OB
 rw [<-K]
 obtain ⟨w50,m⟩:=exx (wr.alloc OB)
 rw [<-m] at s1 kb ⊢;replace hB:=zaF hB kb;replace hW:=onS hW kb;replace y0:=cellS kb y0
 obtain ⟨bx,u⟩:=exx wr.heap.size
 rw [<-u] at s1 ⊢;clear u m K kb e0 e1 e2 a8
 by_cases hge:lv ≥ (lk:Int)
 ·have b1:decide (lv ≥ (lk:Int))=true:=by simp; omega
  have b2:decide ((lk:Int)<=lv)=true:=by simp; omega
  have hf:=hid (U.out y.out HM.out fun hh=>by have:=hh k a j (by rw [<-Q.out]; exact hltj); rw [<-a2.out,<-a3.out] at this; omega)
  go_wp2
  go_quiet (fail)
  go_wp2
  go_ret3
  exact b.out _ 3 (zad hW _) hf.out (by omega) _ rfl
 have b1:decide (lv ≥ (lk:Int))=false:=by simp; omega
 have b2:decide ((lk:Int)<=lv)=false:=by simp; omega
 have U:Hid (∀ q,q<j+1->T.lb k q<(ln k:Nat)):=fun q hq=>by
  by_cases e:q=j
  ·subst e; rw [<-a2.out,<-a3.out]; omega
  ·exact HE.out q (by omega)
 go_wp2
 go_quiet (fail)
 go_wp2
 go_roundg (gk - 1)
 case measure=>omega
 case rel=>exact ⟨j+1,by go_num,by omega,by omega,U,zad hB _⟩
def parT:Trel:=⟨2,fun _=>1,1,fun _=>2,fun _ _=>0,fun _ j=>if j=0 then 0 else 1,fun _ _=>0⟩
def parC:Nat->Nat->Int:=fun _ a=>if a=0 then 5 else 3
theorem zf1:parT.alongE 1 (fun _=>2) parC=0:=of_decide_eq_true (by kernel_rfl)
theorem ziz:parT.bw (parT.yOf parC) parT.n 0=3:=of_decide_eq_true (by kernel_rfl)
theorem ziA:parT.wd (parT.yOf parC) 0=1:=of_decide_eq_true (by kernel_rfl)
theorem zgR {w:World} {b1 b2 b3:Nat} (h1:b1<w.heap.size) (h2:b2<w.heap.size) (h3:b3<w.heap.size) (c0:w.cell? ⟨b1,0,none⟩=some (.int .i64 1)) (c1:w.cell? ⟨b1,1,none⟩=some (.int .i64 1))
  (e:∀ j,j<2->∀ k,k<3->w.cell? ⟨b2,j*3+k,none⟩=some (parT.edge 0 j k)) (s:w.cell? ⟨b3,0,none⟩=some (.slice (some ⟨b2,0,none⟩) 2 2)):parT.Reads w (some ⟨b1,0,none⟩) (some ⟨b3,0,none⟩):=by
 refine ⟨fun i hi=>⟨b1,0,rfl,h1,fun j hj=>?_⟩,fun i _=>⟨by show (-9223372036854775808:Int)<=1; omega,by show (1:Int)<=_; omega⟩,fun i hi=>?_,by show (2:Nat)<=_; omega,by show (1:Nat)<=_; omega,fun i _=>by show (2:Nat)<=_; omega⟩
 ·obtain rfl:j=0:=by omega
  have hi:i<2:=hi
  match i,hi with
  | 0,_=>exact c0
  | 1,_=>exact c1
 have hi:i<1:=hi
 obtain rfl:i=0:=by omega
 refine ⟨b3,0,some ⟨b2,0,none⟩,2,rfl,h3,s,Nat.le_refl _,by unfold maxLen; omega,fun j hj=>⟨b2,0,rfl,h2,fun k hk=>?_⟩,fun j hj=>?_⟩
 ·have:=e j hj k hk
  rwa [Nat.zero_add]
 unfold InI64
 refine ⟨⟨by show (-9223372036854775808:Int)<=0; omega,by show (0:Int)<=_; omega⟩,?_,⟨by show (-9223372036854775808:Int)<=0; omega,by show (0:Int)<=_; omega⟩⟩
 have e:parT.lb 0 j=if j=0 then (0:Int) else 1:=rfl
 rw [e]
 split <;> omega
theorem zhN {w:World} {b4 b5:Nat} (h4:b4<w.heap.size) (h5:b5<w.heap.size) (c0:w.cell? ⟨b4,0,none⟩=some (.int .i64 5)) (c1:w.cell? ⟨b4,1,none⟩=some (.int .i64 3)) (s:w.cell? ⟨b5,0,none⟩=some (.slice (some ⟨b4,0,none⟩) 2 2)) :
  IntRows w (some ⟨b5,0,none⟩) 1 (fun _=>2) parC:=fun i hi=>by
 obtain rfl:i=0:=by omega
 refine ⟨b5,0,some ⟨b4,0,none⟩,2,rfl,h5,s,Nat.le_refl _,by unfold maxLen; omega,fun j hj=>⟨b4,0,rfl,h4,fun k hk=>?_⟩,fun j hj=>?_⟩
 ·obtain rfl:k=0:=by omega
  match j,hj with
  | 0,_=>exact c0
  | 1,_=>exact c1
 ·unfold parC
  split <;> omega
theorem zb0 (w:World):Calls Tryz.prog 14 #[] w fun e w'=>e=.returned (.bool true)/\Below w.heap.size w w':=by
 go_enter Tryz.func14, Tryz.ntmps14
 go_wp2_with fail
 obtain ⟨O1,s⟩:=exx ((Obj.cells #[Value.int .i64 1,Value.int .i64 1] 3))
 obtain ⟨O2,r⟩:=exx ((Obj.cells #[Value.int .i64 0,Value.int .i64 0,Value.int .i64 0,Value.int .i64 0,Value.int .i64 1,Value.int .i64 0] 90))
 obtain ⟨O3,q⟩:=exx ((Obj.cells #[Value.slice (some ⟨w.heap.size+1,0,none⟩) 2 2] 86))
 obtain ⟨O4,p⟩:=exx ((Obj.cells #[Value.int .i64 5,Value.int .i64 3] 3))
 obtain ⟨O5,o⟩:=exx ((Obj.cells #[Value.slice (some ⟨w.heap.size+1+1+1,0,none⟩) 2 2] 22))
 rw [<-s,<-r,<-q,<-p,<-o]
 have s1:(w.alloc O1).heap.size=w.heap.size+1:=by simp
 have s2:((w.alloc O1).alloc O2).heap.size=w.heap.size+1+1:=by simp
 have s3:(((w.alloc O1).alloc O2).alloc O3).heap.size=w.heap.size+1+1+1:=by simp
 have s4:((((w.alloc O1).alloc O2).alloc O3).alloc O4).heap.size=w.heap.size+1+1+1+1:=by simp
 have k1:=aly w O1
 have k2:Below (w.alloc O1).heap.size (w.alloc O1) ((w.alloc O1).alloc O2):=(Below.refl _ _).alloc (Nat.le_refl _) _
 have k3:Below ((w.alloc O1).alloc O2).heap.size ((w.alloc O1).alloc O2) (((w.alloc O1).alloc O2).alloc O3):=(Below.refl _ _).alloc (Nat.le_refl _) _
 have k4:Below (((w.alloc O1).alloc O2).alloc O3).heap.size (((w.alloc O1).alloc O2).alloc O3) ((((w.alloc O1).alloc O2).alloc O3).alloc O4):=(Below.refl _ _).alloc (Nat.le_refl _) _
 have k5:Below ((((w.alloc O1).alloc O2).alloc O3).alloc O4).heap.size ((((w.alloc O1).alloc O2).alloc O3).alloc O4) (((((w.alloc O1).alloc O2).alloc O3).alloc O4).alloc O5):=(Below.refl _ _).alloc (Nat.le_refl _) _
 have l:=onS k4 k5
 have d:=onS k3 l
 have a:=onS k2 d
 have hW:=onS k1 a
 have a1:∀ i v,(#[Value.int .i64 1,Value.int .i64 1]:Array Value)[i]?=some v->(w.alloc O1).cell? ⟨w.heap.size,i,none⟩=some v:=fun i v hv=>by rw [s]; rw [World.cell?_alloc_at _ _ _ _ rfl]; exact hv
 have a2:∀ i v,(#[Value.int .i64 0,Value.int .i64 0,Value.int .i64 0,Value.int .i64 0,Value.int .i64 1,Value.int .i64 0]:Array Value)[i]?=some v->((w.alloc O1).alloc O2).cell? ⟨w.heap.size+1,i,none⟩=some v:=fun i v hv=>by rw [r]; rw [World.cell?_alloc_at _ _ _ _ (by simp)]; exact hv
 have a3:(((w.alloc O1).alloc O2).alloc O3).cell? ⟨w.heap.size+1+1,0,none⟩=some (.slice (some ⟨w.heap.size+1,0,none⟩) 2 2):=by rw [q]; rw [World.cell?_alloc_at _ _ _ _ (by simp)]; rfl
 have a4:∀ i v,(#[Value.int .i64 5,Value.int .i64 3]:Array Value)[i]?=some v->((((w.alloc O1).alloc O2).alloc O3).alloc O4).cell? ⟨w.heap.size+1+1+1,i,none⟩=some v:=fun i v hv=>by rw [p]; rw [World.cell?_alloc_at _ _ _ _ (by simp)]; exact hv
 have a5:(((((w.alloc O1).alloc O2).alloc O3).alloc O4).alloc O5).cell? ⟨w.heap.size+1+1+1+1,0,none⟩=some (.slice (some ⟨w.heap.size+1+1+1,0,none⟩) 2 2):=by rw [o]; rw [World.cell?_alloc_at _ _ _ _ (by simp)]; rfl
 obtain ⟨w5,m⟩:∃ W,W=((((w.alloc O1).alloc O2).alloc O3).alloc O4).alloc O5:=⟨_,rfl⟩
 have s5:w5.heap.size=w.heap.size+1+1+1+1+1:=by rw [m]; simp
 rw [<-m] at k5 l d a hW a5 ⊢
 have b:parT.Reads w5 (some ⟨w.heap.size,0,none⟩) (some ⟨w.heap.size+1+1,0,none⟩):=by
  refine zgR (by omega) (b2:=w.heap.size+1) (by omega) (by omega) (cellS a (a1 0 _ rfl)) (cellS a (a1 1 _ rfl)) (fun j hj k hk=>?_) (cellS l a3)
  refine cellS d (a2 (j*3+k) _ ?_)
  match j,hj,k,hk with
  | 0,_,0,_=>rfl
  | 0,_,1,_=>rfl
  | 0,_,2,_=>rfl
  | 1,_,0,_=>rfl
  | 1,_,1,_=>rfl
  | 1,_,2,_=>rfl
 have c:IntRows w5 (some ⟨w.heap.size+1+1+1+1,0,none⟩) 1 (fun _=>2) parC:=zhN (b4:=w.heap.size+1+1+1) (by omega) (by omega) (cellS k5 (a4 0 _ rfl)) (cellS k5 (a4 1 _ rfl)) a5
 have HW:=hid hW
 clear a1 a2 a3 a4 a5 k1 k2 k3 k4 k5 l d a s1 s2 s3 s4 s5 m s r q p o hW
 refine (zcC parT _ _ _ 2 1 1 1 (fun _=>2) parC w5 b c).mono ?_
 rintro e w6 ⟨kb,h⟩
 have u:=onS HW.out kb
 rcases h with ⟨h0,_⟩ | ⟨_,gw,rfl,g⟩
 ·exact absurd zf1 h0
 have q0:=g.cell (i:=0) (by show 0<1; omega)
 rw [ziA] at q0;rw [ziz]
 change w6.cell? ⟨gw,0,none⟩=some (.int .i64 1) at q0
 have x:=hid u
 clear g b c kb HW u
 have en:parT.n=1:=rfl
 rw [en]
 go_wp2
 go_ret
 exact ⟨rfl,x.out⟩
open Go.ChangeShapes Go.WideShapes Go.ChangeAt
def TabOk (q N m:Nat) (lc:Nat->Nat):Prop:=m=N/\∀ i,i<m->lc i=q
def VTabPost (P M:Int) (k:Nat) (f:Nat->Int) (N:Int) (n:Nat) (ln:Nat->Nat) (V:Nat->Nat->Int) (m:Nat) (lc:Nat->Nat) (w:World) (e:Ending) (w':World):Prop :=
 Below w.heap.size w w'/\∃ u,FirstErr (CodeErrs P M k f N n ln V) u/\((u≠0/\e=.returned (.tuple #[.pointer none,.int .i64 u])) ∨
  (u=0/\∃ P' M' N':Nat,P=P'/\M=M'/\N=N'/\((¬ TabOk (P' ^ M') N' m lc/\e=.returned (.tuple #[.pointer none,.int .i64 3])) ∨
   (TabOk (P' ^ M') N' m lc/\∃ g,GF w' w'.heap.size g P' M' (fun i=>(f i).toNat)/\e=.returned (.tuple #[.pointer (some ⟨g,0,none⟩),.int .i64 0])))))
theorem zeI (P M:Int) (A:Option Addr) (k c:Nat) (f:Nat->Int) (N:Int) (TC:Option Addr) (n d:Nat) (ln:Nat->Nat) (V:Nat->Nat->Int) (CA:Option Addr) (m cc:Nat) (lc:Nat->Nat) (C:Nat->Nat->Int) (w:World) (hr:IntsR w w.heap.size A k f) (h:IntRows w TC n ln V) (hC:IntRows w CA m lc C) :
  Calls Tryz.prog 57 #[.agg #[.int .i64 P,.int .i64 M,.slice A k c,.int .i64 N,.slice TC n d],.slice CA m cc] w (VTabPost P M k f N n ln V m lc w):=by
 have HI:=hid hr
 have HT:=hid h
 have S:=hid hC
 clear hr h hC
 obtain ⟨w1,x,hB,rf⟩:=zay w (.int .i64 P) (.int .i64 M) (.slice A k c) (.int .i64 N) (.slice TC n d) 27
 go_enter Tryz.func57, Tryz.ntmps57
 go_upto_region 1 with fail
 rw [<-x];clear x
 obtain ⟨b0,r⟩:=exx w.heap.size
 rw [<-r] at rf;rw [<-r];clear r
 have a:Hid (∀ X,Below w1.heap.size w1 X->(X.cell? ⟨b0,0,none⟩=some (.int .i64 P)/\X.cell? ⟨b0,1,none⟩=some (.int .i64 M)/\X.cell? ⟨b0,2,none⟩=some (.slice A k c)/\X.cell? ⟨b0,3,none⟩=some (.int .i64 N)/\X.cell? ⟨b0,4,none⟩=some (.slice TC n d))):=hid fun X hx =>
  ⟨(zab rf hx).cell (i:=0) (by omega),(zab rf hx).cell (i:=1) (by omega),(zab rf hx).cell (i:=2) (by omega),(zab rf hx).cell (i:=3) (by omega),(zab rf hx).cell (i:=4) (by omega)⟩
 have HB:=hid hB
 clear hB rf
 obtain ⟨q0,q1,q2,q3,q4⟩:=a.out _ (Below.refl _ _)
 go_wp2_with fail
 refine (zdC P M A k c f N TC n d ln V w1 (HI.out.on HB.out) (HT.out.on HB.out)).mono ?_
 rintro e w2 ⟨u,rfl,hu,kb⟩
 have HU:=hid hu
 have KB:=hid kb
 clear kb hu q0 q1 q2 q3 q4
 by_cases hu0:u=0
 rotate_left
 ·have y:(u != 0)=true:=by simpa using hu0
  have O:=hid hu0
  clear hu0
  go_wp2
  go_ret2
  exact ⟨onS HB.out KB.out,u,HU.out,.inl ⟨O.out,rfl⟩⟩
 subst hu0
 have y:((0:Int) != 0)=false:=by simp
 obtain ⟨P',M',N',rfl,rfl,rfl,hC⟩:=za1 HI.out HT.out HU.out
 have HC:=hid hC
 have K:=hC.ln2
 clear hC
 obtain ⟨q0,q1,q2,q3,q4⟩:=a.out _ KB.out
 go_wp2_with fail
 refine (zbK (P':Int) (M':Int) A k c f w2 (HI.out.on (onS HB.out KB.out))).mono ?_
 rintro e w3 ⟨kb,b⟩
 rcases b with ⟨p,_⟩ | ⟨_,gf,P2,M2,J,L,rfl,_,hG⟩
 ·refine absurd ?_ p
  rcases HU.out with ⟨_,h9⟩ | ⟨h1,_⟩
  ·cases h9
  ·exact h1
 obtain rfl:P'=P2:=by omega
 obtain rfl:M'=M2:=by omega
 have HG:=hid hG.gf
 replace KB:=hid (onS KB.out kb);clear kb q0 q1 q2 q3 q4 J L hG y
 obtain ⟨q,hq⟩:=exx (P' ^ M')
 have HQ:=hid hq
 clear hq
 obtain ⟨q0,q1,q2,q3,q4⟩:=a.out _ KB.out
 by_cases hmn:m=N'
 rotate_left
 ·have g:(((m:Nat):Int) != (N':Int))=true:=by simp; omega
  have s:Hid (¬ TabOk (P' ^ M') N' m lc):=hid fun h=>hmn h.1
  go_wp2
  go_ret2
  exact ⟨onS HB.out KB.out,0,HU.out,.inr ⟨rfl,P',M',N',rfl,rfl,rfl,.inl ⟨s.out,rfl⟩⟩⟩
 have g:(((m:Nat):Int) != (N':Int))=false:=by simp; omega
 have R:=hid hmn
 have G:m<=64:=by omega
 clear hmn
 go_upto_region 8 with fail
 clear q0 q1 q2 q3 q4
 go_loopg [29] m (fun gg iv wx=>∃ i:Nat,iv=.int .i64 (i:Nat)/\i<=m/\m<=i+gg/\Hid (∀ j,j<i->lc j=P' ^ M')/\Below w3.heap.size w3 wx)
 case atStart=>exact ⟨0,rfl,by omega,by omega,hid fun _ h=>absurd h (by omega),Below.refl _ _⟩
 obtain ⟨i,rfl,hi,T,D,z⟩:=hrel
 have U:(0:Int)<=(i:Int):=by omega
 have K3:=hid z
 obtain ⟨w4,E⟩:=exx wr
 subst E
 clear z
 by_cases hin:i<m
 rotate_left
 ·have o:¬ (i:Int)<(m:Int):=by omega
  obtain rfl:m=i:=by omega
  have Q:Hid (TabOk (P' ^ M') N' m lc):=hid ⟨R.out,D.out⟩
  go_wp2
  go_ret2
  exact ⟨onS HB.out (onS KB.out K3.out),0,HU.out,.inr ⟨rfl,P',M',N',rfl,rfl,rfl,.inr ⟨Q.out,gf,HG.out.on K3.out,rfl⟩⟩⟩
 have o:(i:Int)<(m:Int):=by omega
 obtain ⟨b1,o1,RA,rc,I,H,x0,h1,h2,h3,h4⟩:=S.out i hin
 subst I
 replace x0:=cellS (onS HB.out (onS KB.out K3.out)) x0;clear h1 h2 h3 h4 H
 obtain ⟨li,l⟩:=exx (lc i)
 rw [<-l] at x0
 have B:=hid l
 clear l
 go_wp2_with fail
 clear x0
 refine (zcd (HG.out.on K3.out)).mono ?_
 rintro e w5 ⟨he,kb⟩
 rw [<-HQ.out] at he
 subst he
 replace K3:=hid (onS K3.out kb);clear kb
 by_cases hlq:li=q
 ·have F:(((li:Nat):Int) != (q:Int))=false:=by simp; omega
  have v:Hid (∀ j,j<i+1->lc j=P' ^ M'):=hid fun j hj=>by
   by_cases e:j=i
   ·rw [e,<-B.out,hlq,HQ.out]
   ·exact D.out j (by omega)
  clear hlq
  go_wp2
  go_roundg (gk - 1)
  case measure=>omega
  case rel=>exact ⟨i+1,by go_num,by omega,by omega,v,K3.out⟩
 have F:(((li:Nat):Int) != (q:Int))=true:=by simp; omega
 have s:Hid (¬ TabOk (P' ^ M') N' m lc):=hid fun h=>hlq (by rw [B.out,HQ.out]; exact h.2 i hin)
 clear hlq
 go_wp2
 go_ret2
 exact ⟨onS HB.out (onS KB.out K3.out),0,HU.out,.inr ⟨rfl,P',M',N',rfl,rfl,rfl,.inl ⟨s.out,rfl⟩⟩⟩
theorem zf2 {q n N:Nat} {add mul:Nat->Nat->Nat} {pv:Nat->Nat} {V R:Nat->Nat->Nat} {T:Trel} {y:Nat->Nat->Int × Int × Int} (hL:FieldLaws q add mul) (hS:SpanF q n N pv R) (hM:MinT q add mul n N pv R T) (hP:T.Proper) (hy:IsRen T y) (hsp:SameSp q add mul N n n V R) (x:Nat->Nat):(T.re y).PathW x↔InSp q add mul n N V x :=
 (hy.path hP).trans ((hM.path_iff hL hS).trans (hsp x).symm)
theorem zhb {q n N:Nat} {add mul:Nat->Nat->Nat} {pv:Nat->Nat} {R:Nat->Nat->Nat} {T:Trel} {y:Nat->Nat->Int × Int × Int} (hL:FieldLaws q add mul) (hM:MinT q add mul n N pv R T) (hy:IsRen T y) {i j:Nat} (hi:i<T.n) (hj:j<T.el i):0<=(y i j).2.1/\(y i j).2.1<(q:Int):=by
 obtain ⟨p,hp,e⟩:=hy.to_old hi hj
 obtain ⟨c,h1,h2⟩:=hM.inn i (by rw [<-hM.nN]; exact hi) p hp
 simp only [Trel.eD,secE,Prod.mk.injEq] at h2
 have h3:=zaZ hL (V:=R) c n i
 have e2:(y i j).2.1=T.lb i p:=by rw [e]; rfl
 rw [e2,h2.2.1]
 omega
theorem Trel.wd_nat {T:Trel} {C:Nat->Nat->Int} (hP:T.Proper) (hy:Costs T (T.yOf C)) {i:Nat} (hi:i<T.n):T.wd (T.yOf C) i=((T.wdN (T.yOf C) i:Nat):Int):=by
 obtain ⟨j,hj,hl,hn,_,h2,_⟩:=Trel.wd_edge hP hy hi (Trel.nd_lt hP hy i (by omega))
 rw [(Trel.nd_step hj hl hn).2,h2]
def DecPost (P M : Int) (k : Nat) (f : Nat → Int) (N : Int) (n : Nat) (ln : Nat → Nat) (V : Nat → Nat → Int) (m : Nat) (lc : Nat → Nat) (C : Nat → Nat → Int) (w : World) (e : Ending) (w' : World) : Prop :=
  Below w.heap.size w w' ∧ ∃ u, FirstErr (CodeErrs P M k f N n ln V) u ∧ ((u ≠ 0 ∧ e = .returned (.tuple #[.slice none 0 0, .int .i64 0, .int .i64 u])) ∨
    (u = 0 ∧ ∃ P' M' N' : Nat, P = P' ∧ M = M' ∧ N = N' ∧ ((¬ TabOk (P' ^ M') N' m lc ∧ e = .returned (.tuple #[.slice none 0 0, .int .i64 0, .int .i64 3])) ∨
      (TabOk (P' ^ M') N' m lc/\¬ PricedP m lc C/\e=.returned (.tuple #[.slice none 0 0,.int .i64 0,.int .i64 6])) ∨
      (TabOk (P' ^ M') N' m lc/\PricedP m lc C/\∃ pv R,SpanF (P' ^ M') n N' pv R/\SameSp (P' ^ M') (addF P' M') (mulF P' M' fun i=>(f i).toNat) N' n n (natT V) R/\(∀ i j,i<j->j<n->lE (R i) N'≠lE (R j) N') /\
        ((¬ SizeIn (P' ^ M') n N' pv R/\e=.returned (.tuple #[.slice none 0 0,.int .i64 0,.int .i64 8])) ∨
         (SizeIn (P' ^ M') n N' pv R/\∃ g x,e=.returned (.tuple #[.slice (some ⟨g,0,none⟩) N' N',.int .i64 (costW C x N'),.int .i64 0])/\w'.rowIs g 3 N' (fun i=>.int .i64 ((x i:Nat):Int))/\w.heap.size<=g/\InSp (P' ^ M') (addF P' M') (mulF P' M' fun i=>(f i).toNat) n N' (natT V) x /\
           ∀ z,InSp (P' ^ M') (addF P' M') (mulF P' M' fun i=>(f i).toNat) n N' (natT V) z->costW C x N'<=costW C z N'/\(costW C z N'=costW C x N'->(∀ t,t<N'->x t=z t)∨LexLt (fun t=>((x t:Nat):Int)) (fun t=>((z t:Nat):Int)) N')))))))
theorem zf3 (P M:Int) (A:Option Addr) (k c:Nat) (f:Nat->Int) (N:Int) (TC:Option Addr) (n d:Nat) (ln:Nat->Nat) (V:Nat->Nat->Int) (CA:Option Addr) (m cc:Nat) (lc:Nat->Nat) (C:Nat->Nat->Int) (w:World) (hr:IntsR w w.heap.size A k f) (h:IntRows w TC n ln V) (hC:IntRows w CA m lc C) :
  Calls Tryz.prog 15 #[.agg #[.int .i64 P,.int .i64 M,.slice A k c,.int .i64 N,.slice TC n d],.slice CA m cc] w (DecPost P M k f N n ln V m lc C w):=by
 have HI:=hid hr
 have HT:=hid h
 have a3:=hid hC
 clear hr h hC
 obtain ⟨w1,a5,hB,rf⟩:=zay w (.int .i64 P) (.int .i64 M) (.slice A k c) (.int .i64 N) (.slice TC n d) 27
 go_enter Tryz.func15, Tryz.ntmps15
 go_upto_region 1 with fail
 rw [<-a5];clear a5
 obtain ⟨b0,S⟩:=exx w.heap.size
 rw [<-S] at rf;rw [<-S];clear S
 have F:Hid (∀ X,Below w1.heap.size w1 X->(X.cell? ⟨b0,0,none⟩=some (.int .i64 P)/\X.cell? ⟨b0,1,none⟩=some (.int .i64 M)/\X.cell? ⟨b0,2,none⟩=some (.slice A k c)/\X.cell? ⟨b0,3,none⟩=some (.int .i64 N)/\X.cell? ⟨b0,4,none⟩=some (.slice TC n d))):=hid fun X hx =>
  ⟨(zab rf hx).cell (i:=0) (by omega),(zab rf hx).cell (i:=1) (by omega),(zab rf hx).cell (i:=2) (by omega),(zab rf hx).cell (i:=3) (by omega),(zab rf hx).cell (i:=4) (by omega)⟩
 have HB:=hid hB
 clear hB rf
 obtain ⟨q0,q1,q2,q3,q4⟩:=F.out _ (Below.refl _ _)
 go_wp2_with fail
 refine (zeI P M A k c f N TC n d ln V CA m cc lc C w1 (HI.out.on HB.out) (HT.out.on HB.out) (a3.out.on HB.out)).mono ?_
 rintro e w2 ⟨kb,u,hu,he⟩
 have HU:=hid hu
 have KB:=hid kb
 clear kb hu q0 q1 q2 q3 q4
 rcases he with ⟨r,rfl⟩ | ⟨rfl,P',M',N',rfl,rfl,rfl,⟨ag,rfl⟩ | ⟨ae,g,_,rfl⟩⟩
 ·have a6:(u != 0)=true:=by simpa using r
  have aq:=hid r
  clear r
  go_wp2
  go_ret3
  exact ⟨onS HB.out KB.out,u,HU.out,.inl ⟨aq.out,rfl⟩⟩
 ·have a6:((3:Int) != 0)=true:=by simp
  have au:=hid ag
  clear ag
  go_wp2
  go_ret3
  exact ⟨onS HB.out KB.out,0,HU.out,.inr ⟨rfl,P',M',N',rfl,rfl,rfl,.inl ⟨au.out,rfl⟩⟩⟩
 have l:=hid ae
 clear ae
 have a6:((0:Int) != 0)=false:=by simp
 obtain ⟨P2,M2,N2,e1,e2,e3,hC⟩:=za1 HI.out HT.out HU.out
 obtain rfl:P'=P2:=by omega
 obtain rfl:M'=M2:=by omega
 obtain rfl:N'=N2:=by omega
 have HC:=hid hC
 have ap:=hC.ln2
 have hm:m<=64:=by have:=l.out.1; omega
 clear hC e1 e2 e3
 obtain ⟨pe,O⟩:∃ pe:Int,pe=if PricedP m lc C then 0 else 6:=⟨_,rfl⟩
 go_wp2_with fail
 refine (zcB CA m cc lc C w2 (a3.out.on (onS HB.out KB.out)) (by omega)).mono ?_
 rintro e w3 ⟨he,kb⟩
 rw [<-O] at he
 subst he
 have K:=hid O
 replace KB:=hid (onS KB.out kb);clear kb O
 by_cases hpr:PricedP m lc C
 rotate_left
 ·have h6:pe=6:=by rw [K.out,if_neg hpr]
  subst h6
  have ao:((6:Int) != 0)=true:=by simp
  have ar:=hid hpr
  clear hpr K
  go_wp2
  go_ret3
  exact ⟨onS HB.out KB.out,0,HU.out,.inr ⟨rfl,P',M',N',rfl,rfl,rfl,.inr (.inl ⟨l.out,ar.out,rfl⟩)⟩⟩
 have h6:pe=0:=by rw [K.out,if_pos hpr]
 subst h6
 have J:=hid hpr
 clear hpr K
 obtain ⟨q0,q1,q2,q3,q4⟩:=F.out _ KB.out
 go_wp2_with fail
 refine (zcN (P':Int) (M':Int) A k c f (N':Int) TC n d ln V w3 (HI.out.on (onS HB.out KB.out)) (HT.out.on (onS HB.out KB.out))).mono ?_
 rintro e w4 ⟨kb,u2,a7,he⟩
 obtain rfl:u2=0:=FirstErr.unique a7 HU.out
 replace KB:=hid (onS KB.out kb);clear kb a7 q0 q1 q2 q3 q4
 rcases he with ⟨r,_⟩ | ⟨_,P2,M2,N2,af,ai,ah,pv,R,B,v,I,⟨s,rfl⟩ | ⟨s,T,y,WA,WB,wc,wd,H,G,D,E,rfl⟩⟩
 ·exact absurd rfl r
 ·obtain rfl:P'=P2:=by omega
  obtain rfl:M'=M2:=by omega
  obtain rfl:N'=N2:=by omega
  have an:((8:Int) != 0)=true:=by simp
  have a0:=hid B
  have Z:=hid v
  have a2:=hid I
  have Y:=hid s
  clear B v I s af ai ah
  go_wp2
  go_ret3
  exact ⟨onS HB.out (onS KB.out ((Below.refl _ _).alloc (Nat.le_refl _) _)),0,HU.out,.inr ⟨rfl,P',M',N',rfl,rfl,rfl,.inr (.inr ⟨l.out,J.out,pv,R,a0.out,Z.out,a2.out,.inl ⟨Y.out,rfl⟩⟩)⟩⟩
 obtain rfl:P'=P2:=by omega
 obtain rfl:M'=M2:=by omega
 obtain rfl:N'=N2:=by omega
 have a0:=hid B
 have Z:=hid v
 have a2:=hid I
 have Y:=hid s
 have hL:=fieldLaws HC.out.fld
 have ad:=D.proper G
 have W:(T.re y).n=N':=H.nN
 have HN:=hid W
 have q:Hid ((T.re y).Fit lc):=hid fun i hi j hj=>by
  have h1:=zhb hL H D hi hj
  have h2:=l.out.2 i (by rw [l.out.1,<-W]; exact hi)
  rw [h2]
  exact h1
 have b:Hid (∀ x,(T.re y).PathW x↔InSp (P' ^ M') (addF P' M') (mulF P' M' fun i=>(f i).toNat) n N' (natT V) x):=hid fun x=>zf2 hL B H G D v x
 have aj:=hid (E.reads G D)
 have p:=hid ad
 have a8:T.nw=(T.re y).nw:=rfl
 have a9:T.n=(T.re y).n:=rfl
 rw [a8,a9]
 obtain ⟨U,hU⟩:=exx (T.re y)
 rw [<-hU] at q b aj p HN ⊢;clear B v I s af ai ah H G D E ad W hL a8 a9 hU
 go_upto_region 8 with fail
 have rd:=World.rowIs_alloc w4 #[Value.slice WA U.nw wc,Value.slice WB U.n wd] 53 (fun j=>if j=0 then .slice WA U.nw wc else .slice WB U.n wd) (fun j hj=>by
  match j,hj with
  | 0,_=>rfl
  | 1,_=>rfl)
 have kb:=aly w4 (Obj.cells #[Value.slice WA U.nw wc,Value.slice WB U.n wd] 53)
 obtain ⟨w5,a4⟩:=exx (w4.alloc (Obj.cells #[Value.slice WA U.nw wc,Value.slice WB U.n wd] 53))
 rw [<-a4] at rd kb ⊢
 obtain ⟨tb,aa⟩:=exx w4.heap.size
 rw [<-aa] at rd ⊢
 have t0:=rd.cell (i:=0) (by simp)
 have t1:=rd.cell (i:=1) (by simp)
 rw [if_pos rfl] at t0
 rw [if_neg (by omega)] at t1
 have a1:=hid (aj.out.1.on kb)
 replace KB:=hid (onS KB.out kb);clear kb rd a4 aa
 go_wp2_with fail
 clear t0 t1
 refine (zeH U WA WB CA wc wd m cc lc C w5 a1.out p.out p.out.shape.E0 (a3.out.on (onS HB.out KB.out)) (by rw [HN.out]; exact l.out.1) q.out J.out).mono ?_
 rintro e w6 ⟨gw,rfl,o,ac,kb⟩
 have ab:m=U.n:=by rw [HN.out]; exact l.out.1
 have L:=hid (Costs.of ab q.out J.out)
 have a:=Trel.wd_total p.out L.out
 rw [HN.out] at a o ⊢;rw [a]
 have am:Hid (w6.rowIs gw 3 N' (fun i=>.int .i64 ((U.wdN (U.yOf C) i:Nat):Int))):=hid (o.congr fun i hi=>by rw [Trel.wd_nat p.out L.out (by rw [HN.out]; exact hi)])
 have al:Hid (InSp (P' ^ M') (addF P' M') (mulF P' M' fun i=>(f i).toNat) n N' (natT V) (U.wdN (U.yOf C))):=hid ((b.out _).1 (Trel.wd_path p.out L.out))
 have ak:Hid (∀ z,InSp (P' ^ M') (addF P' M') (mulF P' M' fun i=>(f i).toNat) n N' (natT V) z->costW C (U.wdN (U.yOf C)) N'<=costW C z N'/\(costW C z N'=costW C (U.wdN (U.yOf C)) N'->(∀ t,t<N'->U.wdN (U.yOf C) t=z t)∨LexLt (fun t=>((U.wdN (U.yOf C) t:Nat):Int)) (fun t=>((z t:Nat):Int)) N')):=hid fun z hz=>by
  have h:=Trel.wd_least p.out L.out ((b.out z).2 hz)
  rw [HN.out,a] at h
  exact h
 have av:Hid (w.heap.size<=gw):=hid (Nat.le_trans (onS HB.out KB.out).size ac)
 obtain ⟨x,hx⟩:=exx (U.wdN (U.yOf C))
 rw [<-hx] at am al ak ⊢
 obtain ⟨cst,Q⟩:=exx (costW C x N')
 rw [<-Q]
 have aw:=hid Q
 replace KB:=hid (onS KB.out kb);clear kb o ac a ab hx Q
 go_wp2
 go_ret3
 exact ⟨onS HB.out KB.out,0,HU.out,.inr ⟨rfl,P',M',N',rfl,rfl,rfl,.inr (.inr ⟨l.out,J.out,pv,R,a0.out,Z.out,a2.out,.inr ⟨Y.out,gw,x,by rw [<-aw.out]; rfl,am.out,av.out,al.out,ak.out⟩⟩)⟩⟩
def Trel.fwE (T:Trel) (y:Nat->Nat->Int) (prev:Nat->Int) (i:Nat):Nat->Nat->Int
 | 0,_=>4611686018427387904
 | j+1,v=>if (T.to i j).toNat=v then min (T.fwE y prev i j v) (capI (prev (T.fr i j).toNat) (y i j)) else T.fwE y prev i j v
def Trel.fwI (T:Trel) (y:Nat->Nat->Int):Nat->Nat->Int
 | 0,v=>if v=0 then 0 else 4611686018427387904
 | i+1,v=>T.fwE y (T.fwI y i) i (T.el i) v
def Trel.fwX (T:Trel) (y:Nat->Nat->Int) (i j u v:Nat):Int:=if u<=i then T.fwI y u v else if u=i+1 then T.fwE y (T.fwI y i) i j v else 4611686018427387904
section
variable {T:Trel} {y:Nat->Nat->Int}
theorem Trel.fwE_cost {prev:Nat->Int} {i:Nat} (hn:∀ v,Cost (prev v)):∀ j,(∀ q,q<j->Cost (y i q))->∀ v,Cost (T.fwE y prev i j v):=by
 intro j
 induction j with
 | zero=>intro _ v; show Cost 4611686018427387904; unfold Cost; omega
 | succ j ih =>
  intro hy v
  have h1:=ih (fun q hq=>hy q (by omega)) v
  show Cost (if _ then _ else _)
  split
  ·exact zec h1 (zbh (hn _) (hy j (by omega)))
  ·exact h1
theorem Trel.fwI_cost (h:Costs T y):∀ i,i<=T.n->∀ v,Cost (T.fwI y i v):=by
 intro i
 induction i with
 | zero=>intro _ v; show Cost (if v=0 then 0 else _); unfold Cost; split <;> omega
 | succ i ih =>
  intro hi v
  exact Trel.fwE_cost (ih (by omega)) _ (fun q hq=>h.cost (by omega) hq) v
theorem Trel.fwX_cost (h:Costs T y) {i j:Nat} (hi:i<T.n) (hj:j<=T.el i) (u v:Nat):Cost (T.fwX y i j u v):=by
 unfold Trel.fwX
 split
 ·exact Trel.fwI_cost h _ (by omega) _
 split
 ·exact Trel.fwE_cost (Trel.fwI_cost h _ (by omega)) _ (fun q hq=>h.cost hi (by omega)) _
 ·unfold Cost; omega
theorem Trel.fwX_put (i j u v:Nat) {fn tn:Nat} (hf:(T.fr i j).toNat=fn) (ht:(T.to i j).toNat=tn) :
  updI (T.fwX y i j) (i+1) tn (min (T.fwX y i j (i+1) tn) (capI (T.fwX y i j i fn) (y i j))) u v=T.fwX y i (j+1) u v:=by
 have e1:T.fwX y i j (i+1) tn=T.fwE y (T.fwI y i) i j tn:=by
  unfold Trel.fwX
  rw [if_neg (by omega),if_pos rfl]
 have e2:T.fwX y i j i fn=T.fwI y i fn:=by
  unfold Trel.fwX
  rw [if_pos (Nat.le_refl _)]
 unfold updI
 rw [e1,e2]
 by_cases h:u<=i
 ·rw [if_neg (by omega)]
  unfold Trel.fwX
  rw [if_pos h,if_pos h]
 by_cases h2:u=i+1
 rotate_left
 ·rw [if_neg fun hh=>h2 hh.1]
  unfold Trel.fwX
  rw [if_neg h,if_neg h2,if_neg h,if_neg h2]
 subst h2
 have e3:T.fwX y i (j+1) (i+1) v=if (T.to i j).toNat=v then min (T.fwE y (T.fwI y i) i j v) (capI (T.fwI y i (T.fr i j).toNat) (y i j)) else T.fwE y (T.fwI y i) i j v:=by
  show (if i+1<=i then _ else if i+1=i+1 then T.fwE y (T.fwI y i) i (j+1) v else _)=_
  rw [if_neg (by omega),if_pos rfl]
  rfl
 rw [e3,hf,ht]
 by_cases h3:v=tn
 ·subst h3
  rw [if_pos ⟨rfl,rfl⟩,if_pos rfl]
 rw [if_neg fun hh=>h3 hh.2,if_neg fun hh=>h3 hh.symm]
 unfold Trel.fwX
 rw [if_neg (by omega),if_pos rfl]
theorem Trel.fwX_next (i u v:Nat):T.fwX y i (T.el i) u v=if u<=i+1 then T.fwI y u v else 4611686018427387904:=by
 unfold Trel.fwX
 by_cases h:u<=i
 ·rw [if_pos h,if_pos (by omega)]
 rw [if_neg h]
 by_cases h2:u=i+1
 ·subst h2
  rw [if_pos rfl,if_pos (Nat.le_refl _)]
  rfl
 ·rw [if_neg h2,if_neg (by omega)]
theorem Trel.fwX_first (i u v:Nat):T.fwX y i 0 u v=if u<=i then T.fwI y u v else 4611686018427387904:=by
 unfold Trel.fwX
 by_cases h:u<=i
 ·rw [if_pos h,if_pos h]
 ·rw [if_neg h,if_neg h]
  split <;> rfl
end
theorem zhO (T:Trel) (A B V:Option Addr) (c d vc:Nat) (y:Nat->Nat->Int) (w:World) (h:T.Reads w A B) (hs:T.shapeE=0) (hv:IntRows w V T.n T.el y) (hy:Costs T y) :
  Calls Tryz.prog 178 #[.agg #[],.agg #[.slice A T.nw c,.slice B T.n d],.slice V T.n vc] w (BwdPost T (fun u v=>T.fwI y u v) w):=by
 have aj:=aly w (Obj.cells #[] 158)
 have a1:(w.alloc (Obj.cells #[] 158)).heap.size=w.heap.size+1:=by simp
 obtain ⟨w0,I⟩:=exx (w.alloc (Obj.cells #[] 158))
 rw [<-I] at aj a1
 have rt:=zat (w:=w0) (a:=.slice A T.nw c) (b:=.slice B T.n d) (T := 53)
 have kb:=aly w0 (.cells #[.slice A T.nw c,.slice B T.n d] 53)
 obtain ⟨w1,Y⟩:=exx (w0.alloc (.cells #[.slice A T.nw c,.slice B T.n d] 53))
 rw [<-Y] at rt kb;rw [a1] at rt
 have HB:=hid (onS aj kb)
 have H:=hid (Trel.shape_of hs)
 have cd:=hid hs
 have HR:=hid (h.on HB.out)
 have HV:=hid (hv.on HB.out)
 have HY:=hid hy
 clear h hs hv hy aj kb
 go_enter Tryz.func178, Tryz.ntmps178
 go_upto_region 1 with fail
 rw [<-I,<-Y];clear I Y a1
 obtain ⟨b1,af⟩:=exx (w.heap.size+1)
 obtain ⟨b0,P⟩:=exx w.heap.size
 rw [<-af] at rt;rw [<-af,<-P]
 have ar:Hid (∀ X,Below w1.heap.size w1 X->X.cell? ⟨b1,0,none⟩=some (.slice A T.nw c)/\X.cell? ⟨b1,1,none⟩=some (.slice B T.n d)):=hid fun X hX=>⟨(zab rt hX).cell (i:=0) (by omega),(zab rt hX).cell (i:=1) (by omega)⟩
 have ch:Hid (b1<w1.heap.size):=hid rt.lt
 clear rt af P
 obtain ⟨p0,p1⟩:=ar.out _ (Below.refl _ _)
 go_wp2_with fail
 refine (zcO T A B V c d vc y _ HR.out cd.out HV.out).mono ?_
 rintro e w2 ⟨rfl,kb⟩
 have K2:=hid kb
 clear kb p0 p1
 obtain ⟨p0,p1⟩:=ar.out _ K2.out
 go_wp2_with fail
 refine (zeF T A B c d _ (HR.out.on K2.out) H.out).mono ?_
 rintro e w3 ⟨g,F,rfl,hg,hT,kb⟩
 have cm:w1.heap.size<=g:=by have:=K2.out.size; omega
 replace K2:=hid (onS K2.out kb);clear p0 p1 kb hg
 have bu:=H.out.n64
 have U:=hid H.out.nw
 have z:0<T.nw:=by have:=U.out; omega
 have b2:(0:Int)<(T.nw:Int):=by omega
 have I:=H.out.w1 0 (Nat.zero_le _)
 obtain ⟨n0,a4⟩:=exx ((T.W 0).toNat)
 have C:0<n0:=by omega
 have J:(0:Int)<(n0:Int):=by omega
 obtain ⟨b0',o0,d0,ai,P,aa,q0,z0⟩:=hT.at (v:=0) z (k:=0) (by omega)
 have r0:=hT.row.cell z
 rw [ai] at r0
 change w3.cell? ⟨g,0,none⟩=some (.slice (some ⟨b0',o0,none⟩) (T.W 0).toNat d0) at r0
 rw [<-a4] at r0;rw [Nat.add_zero] at q0 z0
 have an:=hid a4
 have am:=hid hT
 have ap:=hid ai
 clear hT ai a4 I
 go_upto_region 5 with fail
 have kd:Below w3.heap.size w3 (World.drew w3):=(Below.refl _ _).drew
 refine wp_region_held_drew (S:=fun X=>X.cell? ⟨g,0,none⟩=some (.slice (some ⟨b0',o0,none⟩) n0 d0)) (by kernel_rfl) (cellS kd r0) (fun hHeld=>?_)
 obtain ⟨w4,hw⟩:=exx (World.drew w3)
 rw [<-hw] at hHeld kd ⊢;clear hw
 refine tkq 0 (h:=tkq 1 (h:=tkq 2 (h:=tkq 3 (h:=tkq 4 (h:=?_)))))
 clear hHeld
 refine rdq 5 (h:=fun K hK=>?_)
 go_simp
 go_wp2_with fail
 refine (zeC w4).mono ?_
 rintro e w5 ⟨rfl,kb⟩
 have K5:=hid (onS kd kb)
 have zf:w5.frozen? ⟨b0',o0,none⟩=false:=by
  obtain ⟨b9,o9,d9,M,_,_,_,z9⟩:=(am.out.on K5.out).at (v:=0) z (k:=0) (by rw [<-an.out]; exact C)
  rw [ap.out] at M
  injection M with e1 _ _
  injection e1 with e1
  injection e1 with e1 e2
  subst e1 e2
  rwa [Nat.add_zero] at z9
 replace r0:=cellS K5.out r0;replace q0:=cellS K5.out q0;clear kb kd
 refine bkq hK r0 (h:=fun hHeld=>?_)
 clear hK K
 refine tkq 6 (h:=?_)
 clear hHeld
 refine rdq 7 (h:=fun K hK=>?_)
 go_simp
 have b7:g≠b0':=by omega
 replace r0:=zaa (p:=⟨b0',o0,none⟩) (u:=.int .i64 0) r0 (by simpa using b7)
 have D:=(am.out.on K5.out).set (y:=0) (by omega) z (k:=0) (by rw [<-an.out]; exact C) ap.out
 rw [Nat.add_zero] at D
 have k9:=(onS K2.out K5.out).setCell (p:=⟨b0',o0,none⟩) (by show w1.heap.size<=b0'; omega) (.int .i64 0)
 obtain ⟨w6,ax⟩:=exx (World.setCell w5 ⟨b0',o0,none⟩ (.int .i64 0))
 rw [<-ax] at r0 D k9 ⊢
 have bg:Hid (IntTab w6 g (g+1) T.nw F (fun v=>(T.W v).toNat) (fun u v=>if u<=0 then T.fwI y u v else 4611686018427387904)):=hid (D.congr (fun v _=>rfl) (fun u hu v hv=>by
  show updI _ 0 0 0 u v=if u<=0 then T.fwI y u v else 4611686018427387904
  unfold updI
  by_cases e:u=0
  ·subst e
   rw [if_pos (Nat.le_refl _)]
   show _=if v=0 then 0 else 4611686018427387904
   by_cases e2:v=0
   ·rw [if_pos ⟨rfl,e2⟩,if_pos e2]
   ·rw [if_neg (fun h=>e2 h.2),if_neg e2]
  ·rw [if_neg (fun h=>e h.1),if_neg (by omega)]))
 have K6:=hid k9
 clear ax D k9 q0 z0 zf
 refine bkq hK r0 (h:=fun hHeld=>?_)
 clear hK K hHeld r0
 refine wpAnyH_done (by kernel_rfl) ?_ _
 clear am ap an C J P aa K5 b7 K2
 obtain ⟨p0,p1⟩:=ar.out _ K6.out
 go_wp2
 clear p0 p1
 go_loopg [33] T.n (fun gg iv wx=>∃ i:Nat,iv=.int .i64 (i:Nat)/\i<=T.n/\T.n<=i+gg/\Hid (IntTab wx g (g+1) T.nw F (fun v=>(T.W v).toNat) (fun u v=>if u<=i then T.fwI y u v else 4611686018427387904))/\Hid (Below w1.heap.size w1 wx))
 case atStart=>exact ⟨0,rfl,by omega,by omega,bg,K6⟩
 clear bg K6
 obtain ⟨i,rfl,hi,ck,HT,KX⟩:=hrel
 have cl:(0:Int)<=(i:Int):=by omega
 obtain ⟨gK,c0⟩:=exx gk
 subst c0
 obtain ⟨w7,bm⟩:=exx wr
 subst bm
 by_cases hlt:i<T.n
 rotate_left
 ·have a5:¬ (i:Int)<(T.n:Int):=by omega
  obtain rfl:i=T.n:=by omega
  have cc:Hid (IntTab w7 g (g+1) T.nw F (fun v=>(T.W v).toNat) (fun u v=>T.fwI y u v)):=hid (HT.out.congr (fun v _=>rfl) (fun u hu v _=>if_pos (by have:=U.out; omega)))
  clear HT
  go_wp2
  go_ret2
  exact ⟨g,F,rfl,by have:=HB.out.size; omega,cc.out,onS HB.out KX.out⟩
 have a5:(i:Int)<(T.n:Int):=by omega
 obtain ⟨eb,eo,E,ec,c8,c4,x0w,_,_,a8,_⟩:=HR.out.sec hlt
 obtain ⟨vb,vo,VR,rc,c5,ay,y0w,_,_,Z,_⟩:=HV.out i hlt
 subst c8 c5
 obtain ⟨el,O⟩:=exx (T.el i)
 have c3:el<=262144:=by rw [O]; exact H.out.elb hlt
 rw [<-O] at x0w y0w a8 Z
 have bh:=hid O
 have ce:=hid a8
 have cb:=hid Z
 have ca:=hid y0w
 have c9:Hid (vb<w1.heap.size):=hid ay
 have x0:=cellS KX.out x0w
 have R:Hid (IntTab w7 g (g+1) T.nw F (fun v=>(T.W v).toNat) (T.fwX y i 0)):=hid (HT.out.congr (fun v _=>rfl) (fun u _ v _=>(Trel.fwX_first i u v).symm))
 clear a8 Z x0w y0w O HT c4 ay
 go_wp2
 clear x0
 go_loopg [40] el (fun gg jv wx=>∃ j:Nat,jv=.int .i64 (j:Nat)/\j<=el/\el<=j+gg/\Hid (IntTab wx g (g+1) T.nw F (fun v=>(T.W v).toNat) (T.fwX y i j))/\Hid (Below w1.heap.size w1 wx))
 case atStart=>exact ⟨0,rfl,by omega,by omega,R,KX⟩
 clear R KX
 obtain ⟨j,rfl,hj,ci,HT,KX⟩:=hrel
 have cj:(0:Int)<=(j:Int):=by omega
 obtain ⟨w8,bl⟩:=exx wr
 subst bl
 by_cases hlj:j<el
 rotate_left
 ·have a6:¬ (j:Int)<(el:Int):=by omega
  obtain rfl:el=j:=by omega
  have R:Hid (IntTab w8 g (g+1) T.nw F (fun v=>(T.W v).toNat) (fun u v=>if u<=i+1 then T.fwI y u v else 4611686018427387904)):=hid (HT.out.congr (fun v _=>rfl) (fun u _ v _=>by rw [bh.out]; exact Trel.fwX_next i u v))
  clear HT
  go_wp2
  go_roundg (gK - 1)
  case measure=>omega
  case rel=>exact ⟨i+1,by go_num,by omega,by omega,R,KX⟩
 have a6:(j:Int)<(el:Int):=by omega
 have N:j<T.el i:=by rw [<-bh.out]; exact hlj
 obtain ⟨fb,fo,c7,c2,e0,e1,e2⟩:=zba ((Rd.below ce.out KX.out (Nat.le_refl _)).mono KX.out.size) hlj
 subst c7
 obtain ⟨i1,i2,i3,i4⟩:=H.out.ins i hlt j N
 obtain ⟨fn,b8⟩:∃ n:Nat,(n:Int)=T.fr i j:=⟨(T.fr i j).toNat,by omega⟩
 obtain ⟨tn,az⟩:∃ n:Nat,(n:Int)=T.to i j:=⟨(T.to i j).toNat,by omega⟩
 obtain ⟨lb,b5⟩:=exx (T.lb i j)
 obtain ⟨n1,b4⟩:=exx ((T.W i).toNat)
 obtain ⟨n2,a3⟩:=exx ((T.W (i+1)).toNat)
 have cn:fn<n1:=by omega
 have br:tn<n2:=by omega
 have c1:(fn:Int)<(n1:Int):=by omega
 have bp:(tn:Int)<(n2:Int):=by omega
 have a7:i<T.nw:=by have:=U.out; omega
 have x:i+1<T.nw:=by have:=U.out; omega
 have bw:(i:Int)<(T.nw:Int):=by omega
 have b6:(i:Int)+1<(T.nw:Int):=by omega
 have bz:(0:Int)<=(i:Int)+1:=by omega
 have bk:IntKind.i64.wrap ((i:Int)+1)=(i:Int)+1:=IntWalk.i64_in _ (by omega)
 have bn:((i:Int)+1).toNat=i+1:=by omega
 have hT:=HT.out
 obtain ⟨ab,ao,ad,ah,cp,ag,aq,_⟩:=hT.at (v:=i) a7 (k:=fn) (by omega)
 obtain ⟨bb,bo,bd,Q,co,ac,bq,zq⟩:=hT.at (v:=i+1) x (k:=tn) (by omega)
 obtain ⟨rb,ro,c6,bs,vq⟩:=cb.out.at hlj
 subst c6
 have m:=hT.row.cell a7
 have l:=hT.row.cell x
 have r:=hT.apart i (i+1) a7 x (by omega)
 rw [ah] at m;rw [Q] at l
 have bt:ab≠bb:=fun e=>by
  rw [ah,Q,e] at r
  simp [Value.ownBlock] at r
 have d1:=Trel.fwX_cost HY.out hlt (Nat.le_of_lt N) (i+1) tn
 have d2:=Trel.fwX_cost HY.out hlt (Nat.le_of_lt N) i fn
 have d3:=HY.out.cost hlt N
 have s:Hid (∀ u v,updI (T.fwX y i j) (i+1) tn (min (T.fwX y i j (i+1) tn) (capI (T.fwX y i j i fn) (y i j))) u v=T.fwX y i (j+1) u v):=hid fun u v=>Trel.fwX_put (T:=T) (y:=y) i j u v (by omega) (by omega)
 obtain ⟨av,be⟩:=exx (T.fwX y i j i fn)
 obtain ⟨bv,bc⟩:=exx (T.fwX y i j (i+1) tn)
 obtain ⟨yv,au⟩:=exx (y i j)
 have vq:w1.cell? ⟨rb,ro+j,none⟩=some (.int .i64 (y i j)):=vq
 rw [<-be] at aq d2 s;rw [<-bc] at bq d1 s;rw [<-au] at vq d3 s
 have cg:=hid d1
 have bj:=hid d2
 have bi:=hid d3
 have cf:=hid (zbh d2 d3)
 change w8.cell? ⟨g,i,none⟩=some (.slice (some ⟨ab,ao,none⟩) (T.W i).toNat ad) at m
 change w8.cell? ⟨g,i+1,none⟩=some (.slice (some ⟨bb,bo,none⟩) (T.W (i+1)).toNat bd) at l
 rw [<-b4] at m;rw [<-a3] at l;rw [<-b8] at e0;rw [<-b5] at e1;rw [<-az] at e2
 have G:Hid (F (i+1)=.slice (some ⟨bb,bo,none⟩) (T.W (i+1)).toNat bd):=hid Q
 have bf:Hid (tn<(T.W (i+1)).toNat):=hid (by rw [<-a3]; exact br)
 have o:=cellS KX.out ca.out
 have q:=cellS KX.out vq
 have a9:w8.heap.size≠bb:=by omega
 have a0:vb≠bb:=by have:=c9.out; omega
 have a2:rb≠bb:=by omega
 have L:g≠bb:=by omega
 have ae:w1.heap.size<=bb:=by omega
 clear r ah Q be bc au b8 az b5 i1 i2 i3 i4 b4 a3 d1 d2 d3 vq hT ac ag bs c2 zq
 go_upto_region 12 with fail
 have kb:=aly w8 (Obj.cells #[.int .i64 (fn:Int),.int .i64 lb,.int .i64 (tn:Int)] 90)
 have rx:(w8.alloc (Obj.cells #[.int .i64 (fn:Int),.int .i64 lb,.int .i64 (tn:Int)] 90)).rowIs w8.heap.size 90 3 (edgeCell (fun _=>((fn:Int),lb,(tn:Int))) 0):=World.rowIs_alloc _ _ _ _ (fun j hj=>by
  match j,hj with
  | 0,_=>rfl
  | 1,_=>rfl
  | 2,_=>rfl)
 obtain ⟨w9,aw⟩:=exx (w8.alloc (Obj.cells #[.int .i64 (fn:Int),.int .i64 lb,.int .i64 (tn:Int)] 90))
 rw [<-aw] at kb rx ⊢
 obtain ⟨bx,ba⟩:=exx w8.heap.size
 rw [<-ba] at rx a9 ⊢;clear aw ba e0 e1 e2
 have s0:=qc0 rx
 have s2:=qc2 rx
 have kd:Below w9.heap.size w9 (World.drew w9):=(Below.refl _ _).drew
 have K9:=hid (onS kb kd)
 replace s0:=cellS kd s0;replace s2:=cellS kd s2;replace m:=cellS K9.out m;replace l:=cellS K9.out l;replace o:=cellS K9.out o;replace q:=cellS K9.out q;replace aq:=cellS K9.out aq;replace bq:=cellS K9.out bq
 have hS:=And.intro m (And.intro l (And.intro s0 (And.intro s2 (And.intro o (And.intro q aq)))))
 refine wp_region_held_drew (S:=fun X=>X.cell? ⟨g,i,none⟩=some (.slice (some ⟨ab,ao,none⟩) n1 ad)/\X.cell? ⟨g,i+1,none⟩=some (.slice (some ⟨bb,bo,none⟩) n2 bd)/\X.cell? ⟨bx,0,none⟩=some (.int .i64 (fn:Int))/\X.cell? ⟨bx,2,none⟩=some (.int .i64 (tn:Int))/\X.cell? ⟨vb,vo+i,none⟩=some (.slice (some ⟨rb,ro,none⟩) el rc)/\X.cell? ⟨rb,ro+j,none⟩=some (.int .i64 yv)/\X.cell? ⟨ab,ao+fn,none⟩=some (.int .i64 av)) (by kernel_rfl) hS (fun hHeld=>?_)
 obtain ⟨w10,hw⟩:=exx (World.drew w9)
 rw [<-hw] at hHeld m l s0 s2 o q aq bq K9 ⊢;clear hw rx kb kd hS
 refine tkq 0 (h:=tkq 1 (h:=tkq 2 (h:=tkq 3 (h:=tkq 4 (h:=tkq 5 (h:=tkq 6 (h:=tkq 7 (h:=tkq 8 (h:=tkq 9 (h:=tkq 10 (h:=tkq 11 (h:=tkq 12 (h:=tkq 13 (h:=tkq 14 (h:=tkq 15 (h:=tkq 16 (h:=tkq 18 (h:=tkq 19 (h:=tkq 20 (h:=tkq 21 (h:=tkq 22 (h:=tkq 23 (h:=tkq 24 (h:=tkq 25 (h:=tkq 26 (h:=tkq 27 (h:=tkq 28 (h:=tkq 29 (h:=tkq 30 (h:=tkq 31 (h:=tkq 32 (h:=tkq 33 (h:=tkq 34 (h:=?_))))))))))))))))))))))))))))))))))
 clear hHeld
 refine rdq2 17 35 (h:=fun K hK=>?_) (h2:=fun K hK=>?_)
 focus
  go_simp
  refine bkq hK ⟨m,l,s0,s2,o,q,aq⟩ (h:=fun hHeld=>?_)
  clear hK K hHeld
  refine rdq 35 (h:=fun K hK=>?_)
  go_simp
  go_wp2_with fail
  refine (zaV av yv w10 bj.out bi.out).mono ?_
  rintro e w11 ⟨rfl,kb⟩
  replace m:=cellS kb m;replace l:=cellS kb l;replace s0:=cellS kb s0;replace s2:=cellS kb s2;replace o:=cellS kb o;replace q:=cellS kb q;replace aq:=cellS kb aq;replace bq:=cellS kb bq
  have al:=hid (onS K9.out kb)
  clear kb K9
 rotate_left
 focus
  go_simp
  go_wp2_with fail
  refine (zaV av yv w10 bj.out bi.out).mono ?_
  rintro e w11 ⟨rfl,kb⟩
  replace m:=cellS kb m;replace l:=cellS kb l;replace s0:=cellS kb s0;replace s2:=cellS kb s2;replace o:=cellS kb o;replace q:=cellS kb q;replace aq:=cellS kb aq;replace bq:=cellS kb bq
  have al:=hid (onS K9.out kb)
  clear kb K9
  refine bkq hK ⟨m,l,s0,s2,o,q,aq⟩ (h:=fun hHeld=>?_)
  clear hK K hHeld
  refine rdq 17 (h:=fun K hK=>?_)
  go_simp
 rotate_left
 all_goals
  refine bkq hK ⟨m,l,s0,s2,o,q,aq⟩ (h:=fun hHeld=>?_)
  clear hK K hHeld
  refine rdq 36 (h:=fun K hK=>?_)
  go_simp
  go_wp2_with fail
  refine (zdf bv (capI av yv) w11 cg.out cf.out).mono ?_
  rintro e w12 ⟨rfl,kb⟩
  replace m:=cellS kb m;replace l:=cellS kb l;replace s0:=cellS kb s0;replace s2:=cellS kb s2;replace o:=cellS kb o;replace q:=cellS kb q;replace aq:=cellS kb aq;replace bq:=cellS kb bq
  have ak:=hid (onS al.out kb)
  clear kb al
  refine bkq hK ⟨m,l,s0,s2,o,q,aq⟩ (h:=fun hHeld=>?_)
  clear hK K
  refine tkq 37 (h:=?_)
  clear hHeld
  refine rdq 38 (h:=fun K hK=>?_)
  have hT:=HT.out.on ak.out
  have zf:w12.frozen? ⟨bb,bo+tn,none⟩=false:=by
   obtain ⟨b9,o9,d9,M,_,_,_,z9⟩:=hT.at (v:=i+1) x (k:=tn) bf.out
   rw [G.out] at M
   injection M with e1 _ _
   injection e1 with e1
   injection e1 with e1 e2
   subst e1 e2
   exact z9
  obtain ⟨nv,b3⟩:=exx (min bv (capI av yv))
  rw [<-b3] at s ⊢;clear b3
  have D:=hT.set (y:=nv) (by omega) x (k:=tn) bf.out G.out
  have k9:=(onS KX.out ak.out).setCell (p:=⟨bb,bo+tn,none⟩) ae (.int .i64 nv)
  have HN:=hid (D.congr (x':=T.fwX y i (j+1)) (fun v _=>rfl) (fun u _ v _=>s.out u v))
  have KN:=hid k9
  clear hT D k9
  go_simp
  clear zf bq
  refine bkq hK ⟨zaa m (by simpa using L),zaa l (by simpa using L),zaa s0 (by simpa using a9),zaa s2 (by simpa using a9),zaa o (by simpa using a0),zaa q (by simpa using a2),zaa aq (by simpa using bt)⟩ (h:=fun hHeld=>?_)
  clear hK K hHeld
  refine wpAnyH_done (by kernel_rfl) ?_ _
  clear HT KX ak s G m l s0 s2 o q aq
  go_wp2
  go_roundg (gk - 1)
  case measure=>omega
  case rel=>exact ⟨j+1,by go_num,by omega,by omega,HN,KN⟩
def Trel.thr (T:Trel) (y:Nat->Nat->Int) (i j:Nat):Int:=capI (capI (T.fwI y i (T.fr i j).toNat) (y i j)) (T.bw y (T.n - (i+1)) (T.to i j).toNat)
def ThruPost (T:Trel) (x:Nat->Nat->Int) (w:World) (e:Ending) (w':World):Prop :=
 ∃ g F,e=.returned (.tuple #[.slice (some ⟨g,0,none⟩) T.n T.n,.int .i64 0])/\w.heap.size<=g/\IntTab w' g (g+1) T.n F T.el x/\Below w.heap.size w w'
theorem zgS (T:Trel) (A B V:Option Addr) (c d vc:Nat) (y:Nat->Nat->Int) (w:World) (h:T.Reads w A B) (hs:T.shapeE=0) (hv:IntRows w V T.n T.el y) (hy:Costs T y) :
  Calls Tryz.prog 115 #[.agg #[],.agg #[.slice A T.nw c,.slice B T.n d],.slice V T.n vc] w (ThruPost T (T.thr y) w):=by
 have au:=aly w (Obj.cells #[] 158)
 have ag:(w.alloc (Obj.cells #[] 158)).heap.size=w.heap.size+1:=by simp
 obtain ⟨w0,aa⟩:=exx (w.alloc (Obj.cells #[] 158))
 rw [<-aa] at au ag
 have rt:=zat (w:=w0) (a:=.slice A T.nw c) (b:=.slice B T.n d) (T := 53)
 have kb:=aly w0 (.cells #[.slice A T.nw c,.slice B T.n d] 53)
 obtain ⟨w1,a9⟩:=exx (w0.alloc (.cells #[.slice A T.nw c,.slice B T.n d] 53))
 rw [<-a9] at rt kb;rw [ag] at rt
 have HB:=hid (onS au kb)
 have a6:=hid (Trel.shape_of hs)
 have bs:=hid hs
 have HR:=hid (h.on HB.out)
 have HV:=hid (hv.on HB.out)
 have HY:=hid hy
 clear h hs hv hy au kb
 have c8:=a6.out.n64
 have b9:=fun W=>zaf (P:=Tryz.prog) 25 22 _ 24 Tryz.underlying25 Tryz.infoInts rfl (T.n:Int) (by omega) (by omega) (by omega) W
 simp only [Int.toNat_natCast] at b9
 go_enter Tryz.func115, Tryz.ntmps115
 go_upto_region 1 with fail
 rw [<-aa,<-a9];clear aa a9 ag
 obtain ⟨b1,ap⟩:=exx (w.heap.size+1)
 obtain ⟨b0,bi⟩:=exx w.heap.size
 rw [<-ap] at rt;rw [<-ap,<-bi]
 have a8:Hid (∀ X,Below w1.heap.size w1 X->X.cell? ⟨b1,0,none⟩=some (.slice A T.nw c)/\X.cell? ⟨b1,1,none⟩=some (.slice B T.n d)):=hid fun X hX=>⟨(zab rt hX).cell (i:=0) (by omega),(zab rt hX).cell (i:=1) (by omega)⟩
 clear rt ap bi
 obtain ⟨p0,p1⟩:=a8.out _ (Below.refl _ _)
 go_wp2_with fail
 refine (zhO T A B V c d vc y _ HR.out bs.out HV.out HY.out).mono ?_
 rintro e w2 ⟨g1,F1,rfl,_,bl,kb⟩
 have K2:=hid kb
 have bu:=hid bl
 clear kb bl p0 p1
 obtain ⟨p0,p1⟩:=a8.out _ K2.out
 go_wp2_with fail
 refine (zeG T A B V c d vc y _ (HR.out.on K2.out) bs.out (HV.out.on K2.out) HY.out).mono ?_
 rintro e w3 ⟨g2,F2,rfl,_,bk,kb⟩
 have K3:=hid (onS K2.out kb)
 have ay:=hid (bu.out.on kb)
 have aw:=hid bk
 have bt:=hid a6.out.nw
 clear kb bk p0 p1 bu K2
 obtain ⟨p0,p1⟩:=a8.out _ K3.out
 go_upto_region 6 with fail
 have a2:=World.rowIs_made w3 (.slice none 0 0) T.n 22
 have kb:=aly w3 (Obj.cells (madeCells #[Value.slice none 0 0] T.n) 22)
 obtain ⟨w4,b5⟩:=exx (w3.alloc (Obj.cells (madeCells #[Value.slice none 0 0] T.n) 22))
 rw [<-b5] at a2 kb ⊢
 obtain ⟨g,hg⟩:=exx w3.heap.size
 rw [<-hg] at a2 ⊢
 have HG:=hid hg
 have bp:Hid (IntTab w4 g (g+1) T.n (fun _=>.slice none 0 0) (fun v=>if v<0 then T.el v else 0) (T.thr y)):=hid ((zaI (x:=T.thr y) a2).congr (fun v _=>(if_neg (by omega)).symm) (fun v _ k hk=>rfl))
 have K4:=hid kb
 clear b5 a2 kb hg b9 p0 p1
 obtain ⟨p0,p1⟩:=a8.out _ (onS K3.out K4.out)
 go_wp2
 clear p0 p1
 go_loopg [41] T.n (fun gg iv wx=>∃ (i:Nat) (F:Nat->Value),iv=.int .i64 (i:Nat)/\i<=T.n/\T.n<=i+gg/\Hid (IntTab wx g (g+1) T.n F (fun v=>if v<i then T.el v else 0) (T.thr y))/\Hid (Below w3.heap.size w3 wx))
 case atStart=>exact ⟨0,_,rfl,by omega,by omega,bp,K4⟩
 clear bp K4
 obtain ⟨i,F,rfl,hi,cx,HT,KX⟩:=hrel
 have cy:(0:Int)<=(i:Int):=by omega
 obtain ⟨gK,cd⟩:=exx gk
 subst cd
 obtain ⟨w7,c4⟩:=exx wr
 subst c4
 by_cases hlt:i<T.n
 rotate_left
 ·have ah:¬ (i:Int)<(T.n:Int):=by omega
  obtain rfl:i=T.n:=by omega
  have cr:Hid (IntTab w7 g (g+1) T.n F T.el (T.thr y)):=hid (HT.out.congr (fun v hv=>if_pos hv) (fun v _ q hq=>rfl))
  have cs:Hid (w.heap.size<=g):=hid (by have:=HG.out; have:=K3.out.size; have:=HB.out.size; omega)
  clear HT
  go_wp2
  go_ret2
  exact ⟨g,F,rfl,cs.out,cr.out,onS HB.out (onS K3.out KX.out)⟩
 have ah:(i:Int)<(T.n:Int):=by omega
 obtain ⟨eb,eo,E,ec,cm,ci,x0w,_,_,am,_⟩:=HR.out.sec hlt
 obtain ⟨vb,vo,VR,rc,cj,b6,y0w,_,_,ac,_⟩:=HV.out i hlt
 subst cm cj
 obtain ⟨el,a4⟩:=exx (T.el i)
 have ch:el<=262144:=by rw [a4]; exact a6.out.elb hlt
 rw [<-a4] at x0w y0w am ac
 have bz:=hid a4
 have ct:=hid am
 have cq:=hid ac
 have cp:=hid y0w
 have co:Hid (vb<w1.heap.size):=hid b6
 have x0:=cellS (onS K3.out KX.out) x0w
 have br:Hid (IntTab w7 g (g+1) T.n F (fun v=>if v<i then T.el v else if v=i then 0 else 0) (T.thr y)):=hid (HT.out.congr (fun v _=>by split <;> simp) (fun v _ q hq=>rfl))
 clear am ac x0w y0w a4 HT ci b6
 go_wp2
 clear x0
 go_loopg [48] el (fun gg jv wx=>∃ (j:Nat) (F:Nat->Value),jv=.int .i64 (j:Nat)/\j<=el/\el<=j+gg/\Hid (IntTab wx g (g+1) T.n F (fun v=>if v<i then T.el v else if v=i then j else 0) (T.thr y))/\Hid (Below w3.heap.size w3 wx))
 case atStart=>exact ⟨0,F,rfl,by omega,by omega,br,KX⟩
 clear br KX
 obtain ⟨j,F9,rfl,hj,cv,HT,KX⟩:=hrel
 have cw:(0:Int)<=(j:Int):=by omega
 obtain ⟨w8,c3⟩:=exx wr
 subst c3
 by_cases hlj:j<el
 rotate_left
 ·have ai:¬ (j:Int)<(el:Int):=by omega
  obtain rfl:el=j:=by omega
  have ax:Hid (IntTab w8 g (g+1) T.n F9 (fun v=>if v<i+1 then T.el v else 0) (T.thr y)):=hid (HT.out.congr (fun v _=>by
   show (if v<i then T.el v else if v=i then el else 0)=if v<i+1 then T.el v else 0
   by_cases e:v=i
   ·subst e; rw [if_neg (Nat.lt_irrefl _),if_pos rfl,if_pos (Nat.lt_succ_self _),bz.out]
   by_cases e2:v<i
   ·rw [if_pos e2,if_pos (by omega)]
   ·rw [if_neg e2,if_neg e,if_neg (by omega)]) (fun v _ q hq=>rfl))
  clear HT
  go_wp2
  go_roundg (gK - 1)
  case measure=>omega
  case rel=>exact ⟨i+1,F9,by go_num,by omega,by omega,ax,KX⟩
 have ai:(j:Int)<(el:Int):=by omega
 have bc:j<T.el i:=by rw [<-bz.out]; exact hlj
 have a5:=hid (onS K3.out KX.out)
 obtain ⟨fb,fo,cl,cg,e0,e1,e2⟩:=zba ((Rd.below ct.out a5.out (Nat.le_refl _)).mono a5.out.size) hlj
 subst cl
 obtain ⟨i1,i2,i3,i4⟩:=a6.out.ins i hlt j bc
 obtain ⟨fn,al⟩:∃ n:Nat,(n:Int)=T.fr i j:=⟨(T.fr i j).toNat,by omega⟩
 obtain ⟨tn,af⟩:∃ n:Nat,(n:Int)=T.to i j:=⟨(T.to i j).toNat,by omega⟩
 obtain ⟨lb,ba⟩:=exx (T.lb i j)
 obtain ⟨n1,b8⟩:=exx ((T.W i).toNat)
 obtain ⟨n2,b7⟩:=exx ((T.W (i+1)).toNat)
 have cz:fn<n1:=by omega
 have cu:tn<n2:=by omega
 have cf:(fn:Int)<(n1:Int):=by omega
 have c6:(tn:Int)<(n2:Int):=by omega
 have bf:i<T.nw:=by have:=bt.out; omega
 have a0:i+1<T.nw:=by have:=bt.out; omega
 have ca:(i:Int)<(T.nw:Int):=by omega
 have be:(i:Int)+1<(T.nw:Int):=by omega
 have cb:(0:Int)<=(i:Int)+1:=by omega
 have c2:IntKind.i64.wrap ((i:Int)+1)=(i:Int)+1:=IntWalk.i64_in _ (by omega)
 have c5:((i:Int)+1).toNat=i+1:=by omega
 obtain ⟨ab,ao,ad,bn,_,ar,aqw,_⟩:=ay.out.at (v:=i) bf (k:=fn) (by omega)
 obtain ⟨bb,bo,bd,bm,_,an,bqw,_⟩:=aw.out.at (v:=i+1) a0 (k:=tn) (by omega)
 obtain ⟨rb,ro,ck,c7,vq⟩:=cq.out.at hlj
 subst ck
 have m:=cellS KX.out (ay.out.row.cell bf)
 have l:=cellS KX.out (aw.out.row.cell a0)
 have ak:=ay.out.row.lt
 have aj:=aw.out.row.lt
 rw [bn] at m;rw [bm] at l
 have d1:=Trel.bw_cost HY.out (T.n - (i+1)) (by omega) tn
 have d2:=Trel.fwI_cost HY.out i (by omega) fn
 have d3:=HY.out.cost hlt bc
 have D:Hid (capI (capI (T.fwI y i fn) (y i j)) (T.bw y (T.n - (i+1)) tn)=T.thr y i j):=hid (by unfold Trel.thr; rw [<-al,<-af,Int.toNat_natCast,Int.toNat_natCast])
 have aqw:w3.cell? ⟨ab,ao+fn,none⟩=some (.int .i64 (T.fwI y i fn)):=aqw
 have bqw:w3.cell? ⟨bb,bo+tn,none⟩=some (.int .i64 (T.bw y (T.n - (i+1)) tn)):=bqw
 obtain ⟨av,bj⟩:=exx (T.fwI y i fn)
 obtain ⟨bv,bh⟩:=exx (T.bw y (T.n - (i+1)) tn)
 obtain ⟨yv,b3⟩:=exx (y i j)
 have vq:w1.cell? ⟨rb,ro+j,none⟩=some (.int .i64 (y i j)):=vq
 rw [<-bj] at aqw d2 D;rw [<-bh] at bqw d1 D;rw [<-b3] at vq d3 D
 have b2:=hid d1
 have c1:=hid d2
 have c0:=hid d3
 have az:=hid (zbh d2 d3)
 change w8.cell? ⟨g1,i,none⟩=some (.slice (some ⟨ab,ao,none⟩) (T.W i).toNat ad) at m
 change w8.cell? ⟨g2,i+1,none⟩=some (.slice (some ⟨bb,bo,none⟩) (T.W (i+1)).toNat bd) at l
 rw [<-b8] at m;rw [<-b7] at l;rw [<-al] at e0;rw [<-ba] at e1;rw [<-af] at e2
 have aq:=cellS KX.out aqw
 have bq:=cellS KX.out bqw
 have o:=cellS a5.out cp.out
 have r:=cellS a5.out vq
 have cn:=K3.out.size
 have ae:=co.out
 have cc:=HG.out
 obtain ⟨fk,a3⟩:=exx (F9 i)
 have q0:w8.cell? ⟨g,i,none⟩=some fk:=by rw [a3]; exact HT.out.row.cell hlt
 have C:Own w8 (g+1) 3 1 fk j (fun q _=>.int .i64 (T.thr y i q)):=by
  have:=HT.out.own i hlt
  rw [if_neg (Nat.lt_irrefl i),if_pos rfl,<-a3] at this
  exact this
 have N:=hid C
 have R:=hid a3
 have ce:=HT.out.row.lt
 have Q:Hid (∀ q,q<=g->fk.ownBlock≠some q):=hid fun q h1 h2=>by have:=(C.lt q h2).1; omega
 have a1:Hid (fk.ownBlock≠some w8.heap.size):=hid fun h2=>by have:=(C.lt _ h2).2; omega
 have a7:Hid (g1<g/\ab<g/\g2<g/\bb<g/\vb<g/\rb<g):=hid ⟨by omega,by omega,by omega,by omega,by omega,by omega⟩
 have M:w8.heap.size≠g:=by omega
 clear bn bm bj bh b3 al af ba i1 i2 i3 i4 b8 b7 d1 d2 d3 vq an ar c7 cg aqw bqw a3 C ak aj cn ae cc ce
 go_upto_region 12 with fail
 have kb:=aly w8 (Obj.cells #[.int .i64 (fn:Int),.int .i64 lb,.int .i64 (tn:Int)] 90)
 have rx:(w8.alloc (Obj.cells #[.int .i64 (fn:Int),.int .i64 lb,.int .i64 (tn:Int)] 90)).rowIs w8.heap.size 90 3 (edgeCell (fun _=>((fn:Int),lb,(tn:Int))) 0):=World.rowIs_alloc _ _ _ _ (fun j hj=>by
  match j,hj with
  | 0,_=>rfl
  | 1,_=>rfl
  | 2,_=>rfl)
 obtain ⟨w9,b4⟩:=exx (w8.alloc (Obj.cells #[.int .i64 (fn:Int),.int .i64 lb,.int .i64 (tn:Int)] 90))
 rw [<-b4] at kb rx ⊢
 have O:=hid a1.out
 obtain ⟨bx,bg⟩:=exx w8.heap.size
 rw [<-bg] at rx M O ⊢;clear b4 bg e0 e1 e2
 have s0:=qc0 rx
 have s2:=qc2 rx
 have kd:Below w9.heap.size w9 (World.drew w9):=(Below.refl _ _).drew
 have K9:=hid (onS kb kd)
 replace s0:=cellS kd s0;replace s2:=cellS kd s2;replace m:=cellS K9.out m;replace l:=cellS K9.out l;replace o:=cellS K9.out o;replace r:=cellS K9.out r;replace aq:=cellS K9.out aq;replace bq:=cellS K9.out bq;replace q0:=cellS K9.out q0
 have hS:=And.intro m (And.intro l (And.intro s0 (And.intro s2 (And.intro o (And.intro r (And.intro aq bq))))))
 refine wp_region_held_drew (S:=fun X=>X.cell? ⟨g1,i,none⟩=some (.slice (some ⟨ab,ao,none⟩) n1 ad)/\X.cell? ⟨g2,i+1,none⟩=some (.slice (some ⟨bb,bo,none⟩) n2 bd)/\X.cell? ⟨bx,0,none⟩=some (.int .i64 (fn:Int))/\X.cell? ⟨bx,2,none⟩=some (.int .i64 (tn:Int))/\X.cell? ⟨vb,vo+i,none⟩=some (.slice (some ⟨rb,ro,none⟩) el rc)/\X.cell? ⟨rb,ro+j,none⟩=some (.int .i64 yv)/\X.cell? ⟨ab,ao+fn,none⟩=some (.int .i64 av)/\X.cell? ⟨bb,bo+tn,none⟩=some (.int .i64 bv)) (by kernel_rfl) hS (fun hHeld=>?_)
 obtain ⟨w10,hw⟩:=exx (World.drew w9)
 rw [<-hw] at hHeld m l s0 s2 o r aq bq K9 q0 ⊢;clear hw rx kb kd hS
 refine tkq 0 (h:=tkq 1 (h:=tkq 2 (h:=tkq 3 (h:=tkq 4 (h:=tkq 6 (h:=tkq 7 (h:=tkq 8 (h:=tkq 9 (h:=tkq 10 (h:=tkq 11 (h:=tkq 12 (h:=tkq 13 (h:=tkq 14 (h:=tkq 15 (h:=tkq 16 (h:=tkq 17 (h:=tkq 18 (h:=tkq 19 (h:=tkq 20 (h:=tkq 21 (h:=tkq 22 (h:=tkq 23 (h:=tkq 24 (h:=tkq 26 (h:=tkq 27 (h:=tkq 28 (h:=tkq 29 (h:=tkq 30 (h:=tkq 31 (h:=tkq 32 (h:=tkq 33 (h:=tkq 34 (h:=?_)))))))))))))))))))))))))))))))))
 clear hHeld
 refine rdq2 5 25 (h:=fun K hK=>?_) (h2:=fun K hK=>?_)
 ·go_simp
  refine bkq hK ⟨m,l,s0,s2,o,r,aq,bq⟩ (h:=fun hHeld=>?_)
  clear hK K hHeld
  refine rdq 25 (h:=fun K hK=>?_)
  go_simp
  go_wp2_with fail
  refine (zaV av yv w10 c1.out c0.out).mono ?_
  rintro e w11 ⟨rfl,kb⟩
  replace m:=cellS kb m;replace l:=cellS kb l;replace s0:=cellS kb s0;replace s2:=cellS kb s2;replace o:=cellS kb o;replace r:=cellS kb r;replace aq:=cellS kb aq;replace bq:=cellS kb bq;replace q0:=cellS kb q0
  have Y:=hid (onS K9.out kb)
  clear kb K9
  refine bkq hK ⟨m,l,s0,s2,o,r,aq,bq⟩ (h:=fun hHeld=>?_)
  clear hK K hHeld
  refine rdq 35 (h:=fun K hK=>?_)
  go_simp
  go_wp2_with fail
  refine (zaV (capI av yv) bv w11 az.out b2.out).mono ?_
  rintro e w12 ⟨rfl,kb⟩
  replace m:=cellS kb m;replace l:=cellS kb l;replace s0:=cellS kb s0;replace s2:=cellS kb s2;replace o:=cellS kb o;replace r:=cellS kb r;replace aq:=cellS kb aq;replace bq:=cellS kb bq;replace q0:=cellS kb q0
  have L:=hid (onS Y.out kb)
  clear kb Y;rw [D.out]
  obtain ⟨zv,G⟩:=exx (T.thr y i j)
  rw [<-G]
  have Z:=hid G
  clear G
  refine bkq hK ⟨m,l,s0,s2,o,r,aq,bq⟩ (h:=fun hHeld=>?_)
  clear hK K hHeld
  refine rdq 36 (h:=fun K hK=>?_)
  go_simp
  obtain ⟨w13,hw⟩:=exx (World.alloc w12 (Obj.cells #[Value.int .i64 zv] 3))
  have kb:=alx hw
  have n1c:w13.cell? ⟨w12.heap.size,0,none⟩=some (Value.int .i64 zv):=by rw [hw]; simp
  rw [<-hw];clear hw
  obtain ⟨nb,H⟩:=exx w12.heap.size
  rw [<-H] at n1c ⊢;clear H;replace m:=cellS kb m;replace l:=cellS kb l;replace s0:=cellS kb s0;replace s2:=cellS kb s2;replace o:=cellS kb o;replace r:=cellS kb r;replace aq:=cellS kb aq;replace bq:=cellS kb bq;replace q0:=cellS kb q0
  have z:=hid (onS L.out kb)
  clear kb L
  refine bkq hK ⟨m,l,s0,s2,o,r,aq,bq⟩ (h:=fun hHeld=>?_)
  clear hK K hHeld
  refine rdq 37 (h:=fun K hK=>?_)
  rw [Z.out] at n1c
  refine zan (by rfl) (.tmp 58) (.tmp 89) (by rfl) (g+1) fk j (fun q=>T.thr y i q) (by rfl) (N.out.on z.out) (HT.out.on z.out).row.lt (by omega) nb 1 (by rfl) n1c ?_
  intro v9 w14 o1 o2 o3
  obtain ⟨A9,c9,U⟩:=o1.shape
  subst U
  obtain ⟨l1,l2,l3,l4,l5,l6⟩:=a7.out
  have far:=Q.out
  replace m:=zac m o2 (far _ (Nat.le_of_lt l1));replace l:=zac l o2 (far _ (Nat.le_of_lt l3));replace s0:=zac s0 o2 O.out;replace s2:=zac s2 o2 O.out;replace o:=zac o o2 (far _ (Nat.le_of_lt l5));replace r:=zac r o2 (far _ (Nat.le_of_lt l6));replace aq:=zac aq o2 (far _ (Nat.le_of_lt l2));replace bq:=zac bq o2 (far _ (Nat.le_of_lt l4))
  have q9:w14.cell? ⟨g,i,none⟩=some fk:=zac q0 o2 (far _ (Nat.le_refl _))
  have s:=(HT.out.on z.out).row
  have z9:w14.frozen? ⟨g,i,none⟩=false:=(s.of_block (o2.block g s.lt fun e=>far g (Nat.le_refl _) e.symm)).frozen i
  have I:w3.heap.size<=w13.heap.size:=by have:=s.lt; have:=HG.out; omega
  have J:=hid ((onS KX.out z.out).grown o2 I fun q e=>by have:=HG.out; have:=far q; have:¬ q<=g:=fun h=>far q h e; omega)
  have u:=hid ((HT.out.on z.out).put (by omega) hlt o1 (by rw [<-R.out]; exact o2) (by rw [<-R.out]; exact o3))
  clear s I q0 far
  refine bkq hK ⟨m,l,s0,s2,o,r,aq,bq⟩ (h:=fun hHeld=>?_)
  clear hK K
  refine tkq 38 (h:=?_)
  clear hHeld
  refine rdq 39 (h:=fun K hK=>?_)
  go_simp
  refine bkq hK ⟨zaa m (by simpa using Nat.ne_of_lt l1),zaa l (by simpa using Nat.ne_of_lt l3),zaa s0 (by simpa using M),zaa s2 (by simpa using M),zaa o (by simpa using Nat.ne_of_lt l5),zaa r (by simpa using Nat.ne_of_lt l6),zaa aq (by simpa using Nat.ne_of_lt l2),zaa bq (by simpa using Nat.ne_of_lt l4)⟩ (h:=fun hHeld=>?_)
  clear hK K hHeld
  refine wpAnyH_done (by kernel_rfl) ?_ _
  have HN:=hid (u.out.congr (n':=fun v=>if v<i then T.el v else if v=i then j+1 else 0) (x':=T.thr y) (fun v _=>by
    by_cases e:v=i
    ·subst e; simp
    ·simp [e]) (fun v _ q hq=>by
    by_cases e:v=i
    ·rw [if_pos e,e]
    ·rw [if_neg e]))
  have KN:=hid (J.out.setCell (p:=⟨g,i,none⟩) (Nat.le_of_eq HG.out.symm) (.slice A9 (j+1) c9))
  clear u q9 z9 J HT KX m l s0 s2 o r aq bq
  go_wp2
  go_roundg (gk - 1)
  case measure=>omega
  case rel=>exact ⟨j+1,_,by go_num,by omega,by omega,HN,KN⟩
 go_simp
 go_wp2_with fail
 refine (zaV av yv w10 c1.out c0.out).mono ?_
 rintro e w11 ⟨rfl,kb⟩
 replace m:=cellS kb m;replace l:=cellS kb l;replace s0:=cellS kb s0;replace s2:=cellS kb s2;replace o:=cellS kb o;replace r:=cellS kb r;replace aq:=cellS kb aq;replace bq:=cellS kb bq;replace q0:=cellS kb q0
 have Y:=hid (onS K9.out kb)
 clear kb K9
 refine bkq hK ⟨m,l,s0,s2,o,r,aq,bq⟩ (h:=fun hHeld=>?_)
 clear hK K hHeld
 refine rdq2 5 35 (h:=fun K hK=>?_) (h2:=fun K hK=>?_)
 ·go_simp
  refine bkq hK ⟨m,l,s0,s2,o,r,aq,bq⟩ (h:=fun hHeld=>?_)
  clear hK K hHeld
  refine rdq 35 (h:=fun K hK=>?_)
  go_simp
  go_wp2_with fail
  refine (zaV (capI av yv) bv w11 az.out b2.out).mono ?_
  rintro e w12 ⟨rfl,kb⟩
  replace m:=cellS kb m;replace l:=cellS kb l;replace s0:=cellS kb s0;replace s2:=cellS kb s2;replace o:=cellS kb o;replace r:=cellS kb r;replace aq:=cellS kb aq;replace bq:=cellS kb bq;replace q0:=cellS kb q0
  have L:=hid (onS Y.out kb)
  clear kb Y;rw [D.out]
  obtain ⟨zv,G⟩:=exx (T.thr y i j)
  rw [<-G]
  have Z:=hid G
  clear G
  refine bkq hK ⟨m,l,s0,s2,o,r,aq,bq⟩ (h:=fun hHeld=>?_)
  clear hK K hHeld
  refine rdq 36 (h:=fun K hK=>?_)
  go_simp
  obtain ⟨w13,hw⟩:=exx (World.alloc w12 (Obj.cells #[Value.int .i64 zv] 3))
  have kb:=alx hw
  have n1c:w13.cell? ⟨w12.heap.size,0,none⟩=some (Value.int .i64 zv):=by rw [hw]; simp
  rw [<-hw];clear hw
  obtain ⟨nb,H⟩:=exx w12.heap.size
  rw [<-H] at n1c ⊢;clear H;replace m:=cellS kb m;replace l:=cellS kb l;replace s0:=cellS kb s0;replace s2:=cellS kb s2;replace o:=cellS kb o;replace r:=cellS kb r;replace aq:=cellS kb aq;replace bq:=cellS kb bq;replace q0:=cellS kb q0
  have z:=hid (onS L.out kb)
  clear kb L
  refine bkq hK ⟨m,l,s0,s2,o,r,aq,bq⟩ (h:=fun hHeld=>?_)
  clear hK K hHeld
  refine rdq 37 (h:=fun K hK=>?_)
  rw [Z.out] at n1c
  refine zan (by rfl) (.tmp 58) (.tmp 89) (by rfl) (g+1) fk j (fun q=>T.thr y i q) (by rfl) (N.out.on z.out) (HT.out.on z.out).row.lt (by omega) nb 1 (by rfl) n1c ?_
  intro v9 w14 o1 o2 o3
  obtain ⟨A9,c9,U⟩:=o1.shape
  subst U
  obtain ⟨l1,l2,l3,l4,l5,l6⟩:=a7.out
  have far:=Q.out
  replace m:=zac m o2 (far _ (Nat.le_of_lt l1));replace l:=zac l o2 (far _ (Nat.le_of_lt l3));replace s0:=zac s0 o2 O.out;replace s2:=zac s2 o2 O.out;replace o:=zac o o2 (far _ (Nat.le_of_lt l5));replace r:=zac r o2 (far _ (Nat.le_of_lt l6));replace aq:=zac aq o2 (far _ (Nat.le_of_lt l2));replace bq:=zac bq o2 (far _ (Nat.le_of_lt l4))
  have q9:w14.cell? ⟨g,i,none⟩=some fk:=zac q0 o2 (far _ (Nat.le_refl _))
  have s:=(HT.out.on z.out).row
  have z9:w14.frozen? ⟨g,i,none⟩=false:=(s.of_block (o2.block g s.lt fun e=>far g (Nat.le_refl _) e.symm)).frozen i
  have I:w3.heap.size<=w13.heap.size:=by have:=s.lt; have:=HG.out; omega
  have J:=hid ((onS KX.out z.out).grown o2 I fun q e=>by have:=HG.out; have:=far q; have:¬ q<=g:=fun h=>far q h e; omega)
  have u:=hid ((HT.out.on z.out).put (by omega) hlt o1 (by rw [<-R.out]; exact o2) (by rw [<-R.out]; exact o3))
  clear s I q0 far
  refine bkq hK ⟨m,l,s0,s2,o,r,aq,bq⟩ (h:=fun hHeld=>?_)
  clear hK K
  refine tkq 38 (h:=?_)
  clear hHeld
  refine rdq 39 (h:=fun K hK=>?_)
  go_simp
  refine bkq hK ⟨zaa m (by simpa using Nat.ne_of_lt l1),zaa l (by simpa using Nat.ne_of_lt l3),zaa s0 (by simpa using M),zaa s2 (by simpa using M),zaa o (by simpa using Nat.ne_of_lt l5),zaa r (by simpa using Nat.ne_of_lt l6),zaa aq (by simpa using Nat.ne_of_lt l2),zaa bq (by simpa using Nat.ne_of_lt l4)⟩ (h:=fun hHeld=>?_)
  clear hK K hHeld
  refine wpAnyH_done (by kernel_rfl) ?_ _
  have HN:=hid (u.out.congr (n':=fun v=>if v<i then T.el v else if v=i then j+1 else 0) (x':=T.thr y) (fun v _=>by
    by_cases e:v=i
    ·subst e; simp
    ·simp [e]) (fun v _ q hq=>by
    by_cases e:v=i
    ·rw [if_pos e,e]
    ·rw [if_neg e]))
  have KN:=hid (J.out.setCell (p:=⟨g,i,none⟩) (Nat.le_of_eq HG.out.symm) (.slice A9 (j+1) c9))
  clear u q9 z9 J HT KX m l s0 s2 o r aq bq
  go_wp2
  go_roundg (gk - 1)
  case measure=>omega
  case rel=>exact ⟨j+1,_,by go_num,by omega,by omega,HN,KN⟩
 go_simp
 go_wp2_with fail
 refine (zaV (capI av yv) bv w11 az.out b2.out).mono ?_
 rintro e w12 ⟨rfl,kb⟩
 replace m:=cellS kb m;replace l:=cellS kb l;replace s0:=cellS kb s0;replace s2:=cellS kb s2;replace o:=cellS kb o;replace r:=cellS kb r;replace aq:=cellS kb aq;replace bq:=cellS kb bq;replace q0:=cellS kb q0
 have L:=hid (onS Y.out kb)
 clear kb Y;rw [D.out]
 obtain ⟨zv,G⟩:=exx (T.thr y i j)
 rw [<-G]
 have Z:=hid G
 clear G
 refine bkq hK ⟨m,l,s0,s2,o,r,aq,bq⟩ (h:=fun hHeld=>?_)
 clear hK K hHeld
 refine rdq2 5 36 (h:=fun K hK=>?_) (h2:=fun K hK=>?_)
 ·go_simp
  refine bkq hK ⟨m,l,s0,s2,o,r,aq,bq⟩ (h:=fun hHeld=>?_)
  clear hK K hHeld
  refine rdq 36 (h:=fun K hK=>?_)
  go_simp
  obtain ⟨w13,hw⟩:=exx (World.alloc w12 (Obj.cells #[Value.int .i64 zv] 3))
  have kb:=alx hw
  have n1c:w13.cell? ⟨w12.heap.size,0,none⟩=some (Value.int .i64 zv):=by rw [hw]; simp
  rw [<-hw];clear hw
  obtain ⟨nb,H⟩:=exx w12.heap.size
  rw [<-H] at n1c ⊢;clear H;replace m:=cellS kb m;replace l:=cellS kb l;replace s0:=cellS kb s0;replace s2:=cellS kb s2;replace o:=cellS kb o;replace r:=cellS kb r;replace aq:=cellS kb aq;replace bq:=cellS kb bq;replace q0:=cellS kb q0
  have z:=hid (onS L.out kb)
  clear kb L
  refine bkq hK ⟨m,l,s0,s2,o,r,aq,bq⟩ (h:=fun hHeld=>?_)
  clear hK K hHeld
  refine rdq 37 (h:=fun K hK=>?_)
  rw [Z.out] at n1c
  refine zan (by rfl) (.tmp 58) (.tmp 89) (by rfl) (g+1) fk j (fun q=>T.thr y i q) (by rfl) (N.out.on z.out) (HT.out.on z.out).row.lt (by omega) nb 1 (by rfl) n1c ?_
  intro v9 w14 o1 o2 o3
  obtain ⟨A9,c9,U⟩:=o1.shape
  subst U
  obtain ⟨l1,l2,l3,l4,l5,l6⟩:=a7.out
  have far:=Q.out
  replace m:=zac m o2 (far _ (Nat.le_of_lt l1));replace l:=zac l o2 (far _ (Nat.le_of_lt l3));replace s0:=zac s0 o2 O.out;replace s2:=zac s2 o2 O.out;replace o:=zac o o2 (far _ (Nat.le_of_lt l5));replace r:=zac r o2 (far _ (Nat.le_of_lt l6));replace aq:=zac aq o2 (far _ (Nat.le_of_lt l2));replace bq:=zac bq o2 (far _ (Nat.le_of_lt l4))
  have q9:w14.cell? ⟨g,i,none⟩=some fk:=zac q0 o2 (far _ (Nat.le_refl _))
  have s:=(HT.out.on z.out).row
  have z9:w14.frozen? ⟨g,i,none⟩=false:=(s.of_block (o2.block g s.lt fun e=>far g (Nat.le_refl _) e.symm)).frozen i
  have I:w3.heap.size<=w13.heap.size:=by have:=s.lt; have:=HG.out; omega
  have J:=hid ((onS KX.out z.out).grown o2 I fun q e=>by have:=HG.out; have:=far q; have:¬ q<=g:=fun h=>far q h e; omega)
  have u:=hid ((HT.out.on z.out).put (by omega) hlt o1 (by rw [<-R.out]; exact o2) (by rw [<-R.out]; exact o3))
  clear s I q0 far
  refine bkq hK ⟨m,l,s0,s2,o,r,aq,bq⟩ (h:=fun hHeld=>?_)
  clear hK K
  refine tkq 38 (h:=?_)
  clear hHeld
  refine rdq 39 (h:=fun K hK=>?_)
  go_simp
  refine bkq hK ⟨zaa m (by simpa using Nat.ne_of_lt l1),zaa l (by simpa using Nat.ne_of_lt l3),zaa s0 (by simpa using M),zaa s2 (by simpa using M),zaa o (by simpa using Nat.ne_of_lt l5),zaa r (by simpa using Nat.ne_of_lt l6),zaa aq (by simpa using Nat.ne_of_lt l2),zaa bq (by simpa using Nat.ne_of_lt l4)⟩ (h:=fun hHeld=>?_)
  clear hK K hHeld
  refine wpAnyH_done (by kernel_rfl) ?_ _
  have HN:=hid (u.out.congr (n':=fun v=>if v<i then T.el v else if v=i then j+1 else 0) (x':=T.thr y) (fun v _=>by
    by_cases e:v=i
    ·subst e; simp
    ·simp [e]) (fun v _ q hq=>by
    by_cases e:v=i
    ·rw [if_pos e,e]
    ·rw [if_neg e]))
  have KN:=hid (J.out.setCell (p:=⟨g,i,none⟩) (Nat.le_of_eq HG.out.symm) (.slice A9 (j+1) c9))
  clear u q9 z9 J HT KX m l s0 s2 o r aq bq
  go_wp2
  go_roundg (gk - 1)
  case measure=>omega
  case rel=>exact ⟨j+1,_,by go_num,by omega,by omega,HN,KN⟩
 go_simp
 obtain ⟨w13,hw⟩:=exx (World.alloc w12 (Obj.cells #[Value.int .i64 zv] 3))
 have kb:=alx hw
 have n1c:w13.cell? ⟨w12.heap.size,0,none⟩=some (Value.int .i64 zv):=by rw [hw]; simp
 rw [<-hw];clear hw
 obtain ⟨nb,H⟩:=exx w12.heap.size
 rw [<-H] at n1c ⊢;clear H;replace m:=cellS kb m;replace l:=cellS kb l;replace s0:=cellS kb s0;replace s2:=cellS kb s2;replace o:=cellS kb o;replace r:=cellS kb r;replace aq:=cellS kb aq;replace bq:=cellS kb bq;replace q0:=cellS kb q0
 have z:=hid (onS L.out kb)
 clear kb L
 refine bkq hK ⟨m,l,s0,s2,o,r,aq,bq⟩ (h:=fun hHeld=>?_)
 clear hK K hHeld
 refine rdq 5 (h:=fun K hK=>?_)
 go_simp
 refine bkq hK ⟨m,l,s0,s2,o,r,aq,bq⟩ (h:=fun hHeld=>?_)
 clear hK K hHeld
 refine rdq 37 (h:=fun K hK=>?_)
 rw [Z.out] at n1c
 refine zan (by rfl) (.tmp 58) (.tmp 89) (by rfl) (g+1) fk j (fun q=>T.thr y i q) (by rfl) (N.out.on z.out) (HT.out.on z.out).row.lt (by omega) nb 1 (by rfl) n1c ?_
 intro v9 w14 o1 o2 o3
 obtain ⟨A9,c9,U⟩:=o1.shape
 subst U
 obtain ⟨l1,l2,l3,l4,l5,l6⟩:=a7.out
 have far:=Q.out
 replace m:=zac m o2 (far _ (Nat.le_of_lt l1));replace l:=zac l o2 (far _ (Nat.le_of_lt l3));replace s0:=zac s0 o2 O.out;replace s2:=zac s2 o2 O.out;replace o:=zac o o2 (far _ (Nat.le_of_lt l5));replace r:=zac r o2 (far _ (Nat.le_of_lt l6));replace aq:=zac aq o2 (far _ (Nat.le_of_lt l2));replace bq:=zac bq o2 (far _ (Nat.le_of_lt l4))
 have q9:w14.cell? ⟨g,i,none⟩=some fk:=zac q0 o2 (far _ (Nat.le_refl _))
 have s:=(HT.out.on z.out).row
 have z9:w14.frozen? ⟨g,i,none⟩=false:=(s.of_block (o2.block g s.lt fun e=>far g (Nat.le_refl _) e.symm)).frozen i
 have I:w3.heap.size<=w13.heap.size:=by have:=s.lt; have:=HG.out; omega
 have J:=hid ((onS KX.out z.out).grown o2 I fun q e=>by have:=HG.out; have:=far q; have:¬ q<=g:=fun h=>far q h e; omega)
 have u:=hid ((HT.out.on z.out).put (by omega) hlt o1 (by rw [<-R.out]; exact o2) (by rw [<-R.out]; exact o3))
 clear s I q0 far
 refine bkq hK ⟨m,l,s0,s2,o,r,aq,bq⟩ (h:=fun hHeld=>?_)
 clear hK K
 refine tkq 38 (h:=?_)
 clear hHeld
 refine rdq 39 (h:=fun K hK=>?_)
 go_simp
 refine bkq hK ⟨zaa m (by simpa using Nat.ne_of_lt l1),zaa l (by simpa using Nat.ne_of_lt l3),zaa s0 (by simpa using M),zaa s2 (by simpa using M),zaa o (by simpa using Nat.ne_of_lt l5),zaa r (by simpa using Nat.ne_of_lt l6),zaa aq (by simpa using Nat.ne_of_lt l2),zaa bq (by simpa using Nat.ne_of_lt l4)⟩ (h:=fun hHeld=>?_)
 clear hK K hHeld
 refine wpAnyH_done (by kernel_rfl) ?_ _
 have HN:=hid (u.out.congr (n':=fun v=>if v<i then T.el v else if v=i then j+1 else 0) (x':=T.thr y) (fun v _=>by
   by_cases e:v=i
   ·subst e; simp
   ·simp [e]) (fun v _ q hq=>by
   by_cases e:v=i
   ·rw [if_pos e,e]
   ·rw [if_neg e]))
 have KN:=hid (J.out.setCell (p:=⟨g,i,none⟩) (Nat.le_of_eq HG.out.symm) (.slice A9 (j+1) c9))
 clear u q9 z9 J HT KX m l s0 s2 o r aq bq
 go_wp2
 go_roundg (gk - 1)
 case measure=>omega
 case rel=>exact ⟨j+1,_,by go_num,by omega,by omega,HN,KN⟩
def Trel.mrE (T:Trel) (y:Nat->Nat->Int) (i:Nat):Nat->Nat->Int
 | 0,_=>4611686018427387904
 | j+1,a=>if (T.lb i j).toNat=a then min (T.mrE y i j a) (T.thr y i j) else T.mrE y i j a
def Trel.mrX (T:Trel) (y:Nat->Nat->Int) (i j u a:Nat):Int:=if u<i then T.mrE y u (T.el u) a else if u=i then T.mrE y i j a else 4611686018427387904
section
variable {T:Trel} {y:Nat->Nat->Int}
theorem Trel.thr_cost (h:Costs T y) {i j:Nat} (hi:i<T.n) (hj:j<T.el i):Cost (T.thr y i j) :=
 zbh (zbh (Trel.fwI_cost h _ (by omega) _) (h.cost hi hj)) (Trel.bw_cost h _ (by omega) _)
theorem Trel.mrE_cost (h:Costs T y) {i:Nat} (hi:i<T.n):∀ j,j<=T.el i->∀ a,Cost (T.mrE y i j a):=by
 intro j
 induction j with
 | zero=>intro _ a; show Cost 4611686018427387904; unfold Cost; omega
 | succ j ih =>
  intro hj a
  have h1:=ih (by omega) a
  show Cost (if _ then _ else _)
  split
  ·exact zec h1 (Trel.thr_cost h hi (by omega))
  ·exact h1
theorem Trel.mrX_at (i j a:Nat):T.mrX y i j i a=T.mrE y i j a:=by
 unfold Trel.mrX
 rw [if_neg (by omega),if_pos rfl]
theorem Trel.mrX_put (i j u v:Nat) {la:Nat} (hl:(T.lb i j).toNat=la):updI (T.mrX y i j) i la (min (T.mrE y i j la) (T.thr y i j)) u v=T.mrX y i (j+1) u v:=by
 unfold updI
 by_cases h:u<i
 ·rw [if_neg (by omega)]
  unfold Trel.mrX
  rw [if_pos h,if_pos h]
 by_cases h2:u=i
 ·subst h2
  have e3:T.mrX y u (j+1) u v=if (T.lb u j).toNat=v then min (T.mrE y u j v) (T.thr y u j) else T.mrE y u j v:=by
   rw [Trel.mrX_at]
   rfl
  rw [e3,hl]
  by_cases h3:v=la
  ·subst h3
   rw [if_pos ⟨rfl,rfl⟩,if_pos rfl]
  ·rw [if_neg fun hh=>h3 hh.2,if_neg fun hh=>h3 hh.symm,Trel.mrX_at]
 rw [if_neg fun hh=>h2 hh.1]
 unfold Trel.mrX
 rw [if_neg h,if_neg h2,if_neg h,if_neg h2]
theorem Trel.mrX_next (i u v:Nat):T.mrX y i (T.el i) u v=T.mrX y (i+1) 0 u v:=by
 unfold Trel.mrX
 by_cases h:u<i
 ·rw [if_pos h,if_pos (by omega)]
 rw [if_neg h]
 by_cases h2:u=i
 ·subst h2
  rw [if_pos rfl,if_pos (by omega)]
 ·rw [if_neg h2,if_neg (by omega)]
  split <;> rfl
end
end Go.Proofs.YtgekjfpapmlndaaGreat