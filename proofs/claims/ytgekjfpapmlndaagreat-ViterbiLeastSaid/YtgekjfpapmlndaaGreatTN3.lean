/- Merged texts of a claim: AliveAll, Decode, Args49, CmpLex, Wt11, Has12, Rest10, Cost49, DecLaw, LeastPl, VLeast. -/
import Derived.Test.YtgekjfpapmlndaaGreatTM14
import Derived.Test.YtgekjfpapmlndaaGreatTN1
import Derived.Test.YtgekjfpapmlndaaGreatTN2
namespace Go.Proofs.YtgekjfpapmlndaaGreat
set_option maxRecDepth 100000
set_option maxHeartbeats 32000000
open Go.RowKit
def PricedP (M:Nat) (ln:Nat->Nat) (C:Nat->Nat->Int):Prop:=∀ i,i<M->∀ a,a<ln i->0<=C i a/\C i a<=2147483648
instance (M:Nat) (ln:Nat->Nat) (C:Nat->Nat->Int):Decidable (PricedP M ln C):=by unfold PricedP; exact inferInstance
theorem yaw (CA : Option Addr) (M cc : Nat) (ln : Nat → Nat) (C : Nat → Nat → Int) (w : World) (h : IntRows w CA M ln C) (hM : M ≤ 1048576) :
  Calls Tryz.prog 58 #[.slice CA M cc] w fun e w'=>e=.returned (.int .i64 (if PricedP M ln C then 0 else 6))/\Below w.heap.size w w':=by
 have HC:=hid h
 clear h
 have HYES:Hid ((∀ i,i<M->∀ a,a<ln i->0<=C i a/\C i a<=2147483648)->(0:Int)=if PricedP M ln C then 0 else 6):=fun h=>(if_pos h).symm
 have HNO:Hid ((¬ ∀ i,i<M->∀ a,a<ln i->0<=C i a/\C i a<=2147483648)->(6:Int)=if PricedP M ln C then 0 else 6):=fun h=>(if_neg h).symm
 obtain ⟨r,hr⟩:∃ r:Int,r=if PricedP M ln C then 0 else 6:=⟨_,rfl⟩
 rw [<-hr] at HYES HNO ⊢;clear hr
 go_enter Tryz.func58, Tryz.ntmps58
 go_wp2
 go_loopg [9] M (fun g iv wx=>∃ k:Nat,iv=.int .i64 (k:Nat)/\k<=M/\M<=k+g/\Hid (∀ i,i<k->∀ a,a<ln i->0<=C i a/\C i a<=2147483648)/\Below w.heap.size w wx)
 case atStart=>exact ⟨0,rfl,by omega,by omega,fun i hi=>absurd hi (by omega),Below.refl _ _⟩
 case round =>
  obtain ⟨gK,hgK⟩:∃ g,g=gk:=⟨_,rfl⟩
  subst hgK
  obtain ⟨k,rfl,hk,hkg,HD,hW⟩:=hrel
  have hk0:(0:Int)<=(k:Int):=by omega
  by_cases hlt:k<M
  ·have hlt' : (k : Int) < (M : Int) := by omega
   obtain ⟨b,o,R,rc,rfl,hb,x0,h1,h2,h3,h4⟩:=(HC.out.on hW) k hlt
   obtain ⟨n1,hn1⟩:∃ n,n=ln k:=⟨_,rfl⟩
   rw [<-hn1] at x0 h1 h3
   have HN1:=hid hn1
   have HR:=hid h3
   have hmx:n1<=9223372036854775807:=by unfold maxLen at h2; omega
   obtain ⟨wa,hwa⟩:∃ W,W=wr:=⟨_,rfl⟩
   subst hwa
   clear hn1 h3 h4 h1 h2
   go_wp2
   go_loopg [15] n1 (fun g jv wx=>∃ j:Nat,jv=.int .i64 (j:Nat)/\j<=n1/\n1<=j+g/\Hid (∀ a,a<j->0<=C k a/\C k a<=2147483648)/\Below wa.heap.size wa wx)
   case atStart=>exact ⟨0,rfl,by omega,by omega,fun i hi=>absurd hi (by omega),Below.refl _ _⟩
   case round =>
    obtain ⟨j,rfl,hj,hjg,HE,hV⟩:=hrel
    have hj0:(0:Int)<=(j:Int):=by omega
    by_cases hltj:j<n1
    ·have hltj':(j:Int)<(n1:Int):=by omega
     have hjl:j<ln k:=by rw [<-HN1.out]; exact hltj
     obtain ⟨rb,ro,rfl,hrb,x1⟩:=((HR.out:IntsR _ _ _ _ _).on hV).at hltj
     obtain ⟨x,hx⟩:∃ x,x=C k j:=⟨_,rfl⟩
     rw [<-hx] at x1
     have HX:=hid hx
     clear hx x0
     by_cases h1:x<0
     ·have hf:=hid (HNO.out fun h=>by have:=h k hlt j hjl; rw [<-HX.out] at this; omega)
      have hWf:=hid (onS hW hV)
      go_wp2
      go_ret
      exact ⟨by rw [<-hf.out]; rfl,hWf.out⟩
     ·by_cases h2:2147483648<x
      ·have hf:=hid (HNO.out fun h=>by have:=h k hlt j hjl; rw [<-HX.out] at this; omega)
       have hWf:=hid (onS hW hV)
       go_wp2
       go_ret
       exact ⟨by rw [<-hf.out]; rfl,hWf.out⟩
      ·have HE2:Hid (∀ a,a<j+1->0<=C k a/\C k a<=2147483648):=fun a ha=>by
        by_cases e:a=j
        ·subst e; rw [<-HX.out]; omega
        ·exact HE.out a (by omega)
       go_wp2
       go_roundg (gk - 1)
       case measure=>omega
       case rel=>exact ⟨j+1,by go_num,by omega,by omega,HE2,hV⟩
    ·have hltj':¬ (j:Int)<(n1:Int):=by omega
     have HD2:Hid (∀ i,i<k+1->∀ a,a<ln i->0<=C i a/\C i a<=2147483648):=fun i hi a ha=>by
      by_cases e:i=k
      ·subst e; exact HE.out a (by have:=HN1.out; omega)
      ·exact HD.out i (by omega) a ha
     have hWf:=onS hW hV
     clear x0
     go_wp2
     go_roundg (gK - 1)
     case measure=>omega
     case rel=>exact ⟨k+1,by go_num,by omega,by omega,HD2,hWf⟩
  ·have hlt':¬ (k:Int)<(M:Int):=by omega
   obtain rfl:k=M:=by omega
   have HF:=hid (HYES.out HD.out)
   clear HD
   go_wp2
   go_ret
   exact ⟨by rw [<-HF.out]; rfl,hW⟩
theorem yaN (CA : Option Addr) (M cc : Nat) (ln : Nat → Nat) (C : Nat → Nat → Int) (w : World) (h : IntRows w CA M ln C) (hM : M ≤ 1048576) :
  Calls Tryz.prog 60 #[.slice CA M cc] w fun e w'=>e=.returned (.bool (decide (PricedP M ln C)))/\Below w.heap.size w w':=by
 have HC:=hid h
 clear h
 have HYES:Hid ((∀ i,i<M->∀ a,a<ln i->0<=C i a/\C i a<=2147483648)->true=decide (PricedP M ln C)):=fun h=>(decide_eq_true h).symm
 have HNO:Hid ((¬ ∀ i,i<M->∀ a,a<ln i->0<=C i a/\C i a<=2147483648)->false=decide (PricedP M ln C)):=fun h=>(decide_eq_false h).symm
 obtain ⟨r,hr⟩:∃ r:Bool,r=decide (PricedP M ln C):=⟨_,rfl⟩
 rw [<-hr] at HYES HNO ⊢;clear hr
 go_enter Tryz.func60, Tryz.ntmps60
 go_wp2
 go_loopg [3] M (fun g iv wx=>∃ k:Nat,iv=.int .i64 (k:Nat)/\k<=M/\M<=k+g/\Hid (∀ i,i<k->∀ a,a<ln i->0<=C i a/\C i a<=2147483648)/\Below w.heap.size w wx)
 case atStart=>exact ⟨0,rfl,by omega,by omega,fun i hi=>absurd hi (by omega),Below.refl _ _⟩
 case round =>
  obtain ⟨gK,hgK⟩:∃ g,g=gk:=⟨_,rfl⟩
  subst hgK
  obtain ⟨k,rfl,hk,hkg,HD,hW⟩:=hrel
  have hk0:(0:Int)<=(k:Int):=by omega
  by_cases hlt:k<M
  ·have hlt' : (k : Int) < (M : Int) := by omega
   obtain ⟨b,o,R,rc,rfl,hb,x0,h1,h2,h3,h4⟩:=(HC.out.on hW) k hlt
   obtain ⟨n1,hn1⟩:∃ n,n=ln k:=⟨_,rfl⟩
   rw [<-hn1] at x0 h1 h3
   have HN1:=hid hn1
   have HR:=hid h3
   have hmx:n1<=9223372036854775807:=by unfold maxLen at h2; omega
   obtain ⟨wa,hwa⟩:∃ W,W=wr:=⟨_,rfl⟩
   subst hwa
   clear hn1 h3 h4 h1 h2
   go_wp2
   go_loopg [4] n1 (fun g jv wx=>∃ j:Nat,jv=.int .i64 (j:Nat)/\j<=n1/\n1<=j+g/\Hid (∀ a,a<j->0<=C k a/\C k a<=2147483648)/\Below wa.heap.size wa wx)
   case atStart=>exact ⟨0,rfl,by omega,by omega,fun i hi=>absurd hi (by omega),Below.refl _ _⟩
   case round =>
    obtain ⟨j,rfl,hj,hjg,HE,hV⟩:=hrel
    have hj0:(0:Int)<=(j:Int):=by omega
    by_cases hltj:j<n1
    ·have hltj':(j:Int)<(n1:Int):=by omega
     have hjl:j<ln k:=by rw [<-HN1.out]; exact hltj
     obtain ⟨rb,ro,rfl,hrb,x1⟩:=((HR.out:IntsR _ _ _ _ _).on hV).at hltj
     replace x0:=cellS hV x0
     obtain ⟨x,hx⟩:∃ x,x=C k j:=⟨_,rfl⟩
     rw [<-hx] at x1
     have HX:=hid hx
     clear hx
     by_cases h1:x<0
     ·have hf:=hid (HNO.out fun h=>by have:=h k hlt j hjl; rw [<-HX.out] at this; omega)
      have hWf:=hid (onS hW hV)
      go_wp2
      go_ret
      exact ⟨by rw [<-hf.out]; rfl,hWf.out⟩
     ·by_cases h2:2147483648<x
      ·have hf:=hid (HNO.out fun h=>by have:=h k hlt j hjl; rw [<-HX.out] at this; omega)
       have hWf:=hid (onS hW hV)
       go_wp2
       go_ret
       exact ⟨by rw [<-hf.out]; rfl,hWf.out⟩
      ·have HE2:Hid (∀ a,a<j+1->0<=C k a/\C k a<=2147483648):=fun a ha=>by
        by_cases e:a=j
        ·subst e; rw [<-HX.out]; omega
        ·exact HE.out a (by omega)
       go_wp2
       go_roundg (gk - 1)
       case measure=>omega
       case rel=>exact ⟨j+1,by go_num,by omega,by omega,HE2,hV⟩
    ·have hltj':¬ (j:Int)<(n1:Int):=by omega
     have HD2:Hid (∀ i,i<k+1->∀ a,a<ln i->0<=C i a/\C i a<=2147483648):=fun i hi a ha=>by
      by_cases e:i=k
      ·subst e; exact HE.out a (by have:=HN1.out; omega)
      ·exact HD.out i (by omega) a ha
     have hWf:=onS hW hV
     replace x0:=cellS hV x0
     go_wp2
     go_roundg (gK - 1)
     case measure=>omega
     case rel=>exact ⟨k+1,by go_num,by omega,by omega,HD2,hWf⟩
  ·have hlt':¬ (k:Int)<(M:Int):=by omega
   obtain rfl:k=M:=by omega
   have HF:=hid (HYES.out HD.out)
   clear HD
   go_wp2
   go_ret
   exact ⟨by rw [<-HF.out]; rfl,hW⟩
def Trel.fitB (T:Trel) (ln:Nat->Nat):Prop:=∀ i,i<T.n->∀ j,j<T.el i->T.lb i j<(ln i:Nat)
instance (T:Trel) (ln:Nat->Nat):Decidable (T.fitB ln):=by unfold Trel.fitB; exact inferInstance
def Trel.alongE (T:Trel) (M:Nat) (ln:Nat->Nat) (C:Nat->Nat->Int):Int :=
 if T.properE≠0 then T.properE else if M≠T.n then 3 else if ¬ T.fitB ln then 3 else if PricedP M ln C then 0 else 6
def AlongRes (T:Trel) (M:Nat) (ln:Nat->Nat) (C:Nat->Nat->Int) (w:World) (e:Ending) (w':World):Prop :=
 Below w.heap.size w w' /\
 ((T.alongE M ln C≠0/\e=.returned (.tuple #[.slice none 0 0,.int .i64 0,.int .i64 (T.alongE M ln C)])) ∨
 (T.alongE M ln C=0/\∃ gw,e=.returned (.tuple #[.slice (some ⟨gw,0,none⟩) T.n T.n,.int .i64 (T.bw (T.yOf C) T.n 0),.int .i64 0])/\w'.rowIs gw 3 T.n (fun i=>.int .i64 (T.wd (T.yOf C) i))))
theorem Trel.alongE_zero {T:Trel} {M:Nat} {ln:Nat->Nat} {C:Nat->Nat->Int} (h:T.alongE M ln C=0):T.properE=0/\M=T.n/\T.fitB ln/\PricedP M ln C:=by
 unfold Trel.alongE at h
 by_cases h1:T.properE=0
 ·rw [if_neg (by simpa using h1)] at h
  by_cases h2:M=T.n
  ·rw [if_neg (by simpa using h2)] at h
   by_cases h3:T.fitB ln
   ·rw [if_neg (by simpa using h3)] at h
    by_cases h4:PricedP M ln C
    ·exact ⟨h1,h2,h3,h4⟩
    ·rw [if_neg h4] at h; omega
   ·rw [if_pos h3] at h; omega
  ·rw [if_pos h2] at h; omega
 ·rw [if_pos h1] at h; exact absurd h h1
theorem Trel.shapeE_of {T:Trel} (hp:T.properE=0):T.shapeE=0:=by
 cases Decidable.em (T.shapeE=0) with
 | inl h=>exact h
 | inr h=>exact absurd (Trel.properE_shape h ▸ hp) h
theorem yaj (T:Trel) (A B CA:Option Addr) (c d M cc:Nat) (ln:Nat->Nat) (C:Nat->Nat->Int) (w:World) (h:T.Reads w A B) (hC:IntRows w CA M ln C) :
  Calls Tryz.prog 56 #[.agg #[.slice A T.nw c,.slice B T.n d],.slice CA M cc] w (AlongRes T M ln C w):=by
 obtain ⟨RB,hRB⟩:∃ o,o=(Obj.cells #[.slice A T.nw c,.slice B T.n d] 53):=⟨_,rfl⟩
 have hB0:Below (w.heap.size+1) (w.alloc RB) (w.alloc RB):=Below.refl _ _
 have HS:Hid (∀ w',Below (w.heap.size+1) (w.alloc RB) w'->(w'.cell? ⟨w.heap.size,0,none⟩=some (.slice A T.nw c)/\w'.cell? ⟨w.heap.size,1,none⟩=some (.slice B T.n d))/\Below w.heap.size w w'):=fun w' hB=>by
  have hB':=zaO hB
  subst hRB
  exact ⟨⟨tbox hB rfl,tbox hB rfl⟩,hB'⟩
 obtain ⟨⟨p0,p1⟩,hW⟩:=HS.out _ hB0
 have HE0:Hid (T.properE≠0->T.properE=T.alongE M ln C):=fun h=>(if_pos h).symm
 have HE1:Hid (T.properE=0->M≠T.n->(3:Int)=T.alongE M ln C):=fun h h1=>by unfold Trel.alongE; rw [if_neg (by simpa using h),if_pos h1]
 have HE2:Hid (T.properE=0->M=T.n->(¬ T.fitB ln)->(3:Int)=T.alongE M ln C):=fun h h1 h2=>by unfold Trel.alongE; rw [if_neg (by simpa using h),if_neg (by simpa using h1),if_pos h2]
 have HE3:Hid (T.properE=0->M=T.n->T.fitB ln->(if PricedP M ln C then (0:Int) else 6)=T.alongE M ln C):=fun h h1 h2=>(show T.alongE M ln C=_ by unfold Trel.alongE; rw [if_neg (by simpa using h),if_neg (by simpa using h1),if_neg (by simpa using h2)]).symm
 have HRES:Hid (∀ w' r,Below w.heap.size w w'->r=T.alongE M ln C->r≠0->∀ e,e=.returned (.tuple #[.slice none 0 0,.int .i64 0,.int .i64 r])->AlongRes T M ln C w e w'):=fun w' r hB hr h0 e he=>by subst hr; exact ⟨hB,.inl ⟨h0,he⟩⟩
 go_enter Tryz.func56, Tryz.ntmps56
 go_wp2_with fail
 rw [<-hRB]
 refine (zd1 T A B c d _ (h.on hW)).mono ?_
 rintro e w1 ⟨rfl,kb⟩
 have hB1:=zav hB0 kb
 have HR:=hid h
 have HC:=hid hC
 clear p0 p1 hW kb hB0 hRB h hC
 obtain ⟨⟨p0,p1⟩,hW⟩:=HS.out _ hB1
 by_cases hp:T.properE=0
 ·have HP := hid (Trel.proper_of hp)
  have HP0:=hid hp
  rw [hp];clear hp
  by_cases hM:M=T.n
  ·have hMn:((M:Int) != (T.n:Int))=false:=by simp [hM]
   have HM:=hid hM
   have hn64:=HP.out.shape.n64
   obtain ⟨n,hn⟩:∃ n,n=T.n:=⟨_,rfl⟩
   have HN:=hid hn
   rw [<-hn] at hn64 p1 hMn ⊢;clear hM hn
   go_wp2
   go_loopg [29] n (fun g iv wx=>∃ k:Nat,iv=.int .i64 (k:Nat)/\k<=n/\n<=k+g/\Hid (∀ i,i<k->∀ j,j<T.el i->T.lb i j<(ln i:Nat))/\Below (w.heap.size+1) (w.alloc RB) wx)
   case atStart=>exact ⟨0,rfl,by omega,by omega,fun i hi=>absurd hi (by omega),hB1⟩
   case round =>
    clear p0 p1 hW hB1
    obtain ⟨gK,hgK⟩:∃ g,g=gk:=⟨_,rfl⟩
    subst hgK
    obtain ⟨k,rfl,hk,hkg,HD,hB⟩:=hrel
    have hk0:(0:Int)<=(k:Int):=by omega
    obtain ⟨⟨p0,p1⟩,hW⟩:=HS.out _ hB
    rw [<-HN.out] at p1
    by_cases hlt:k<n
    ·have hlt':(k:Int)<(n:Int):=by omega
     have hltn:k<T.n:=by rw [<-HN.out]; exact hlt
     have hltM:k<M:=by rw [HM.out]; exact hltn
     have hltM':(k:Int)<(M:Int):=by omega
     have hel:=HP.out.shape.elb hltn
     obtain ⟨eb,eo,E,ec,rfl,heb,x0w,he1,he2,he3w,he4⟩:=HR.out.sec hltn
     have x0:=cellS hW x0w
     obtain ⟨el,hele⟩:∃ n,n=T.el k:=⟨_,rfl⟩
     have HEL:=hid hele
     rw [<-hele] at hel x0
     have HE3R:=hid he3w
     clear hele he3w he4 he1 he2 x0w
     go_wp2
     go_loopg [36] el (fun g jv wx=>∃ j:Nat,jv=.int .i64 (j:Nat)/\j<=el/\el<=j+g/\Hid (∀ q,q<j->T.lb k q<(ln k:Nat))/\Below (w.heap.size+1) (w.alloc RB) wx)
     case atStart=>exact ⟨0,rfl,by omega,by omega,fun i hi=>absurd hi (by omega),hB⟩
     case round =>
      clear hB p0 p1 hW x0
      obtain ⟨j,rfl,hj,hjg,HE,hB⟩:=hrel
      have hj0:(0:Int)<=(j:Int):=by omega
      obtain ⟨⟨p0,p1⟩,hW⟩:=HS.out _ hB
      by_cases hltj:j<el
      ·have hltj':(j:Int)<(el:Int):=by omega
       obtain ⟨fb,fo,rfl,hfb,e0,e1,e2⟩:=zc1 ((Rd.below HE3R.out hW (Nat.le_refl _)).mono hW.size) (show j<T.el k by rw [<-HEL.out]; exact hltj)
       obtain ⟨cb,co,R,rc,rfl,hcb,y0,h1,h2,h3,h4⟩:=(HC.out.on hW) k hltM
       obtain ⟨lv,hlv⟩:∃ z,z=T.lb k j:=⟨_,rfl⟩
       obtain ⟨lk,hlk⟩:∃ z,z=ln k:=⟨_,rfl⟩
       rw [<-hlv] at e1;rw [<-hlk] at y0
       have HLV:=hid hlv
       have HLK:=hid hlk
       obtain ⟨fv,hfv⟩:∃ z,z=T.fr k j:=⟨_,rfl⟩
       obtain ⟨tv,htv⟩:∃ z,z=T.to k j:=⟨_,rfl⟩
       rw [<-hfv] at e0;rw [<-htv] at e2;clear hlv hlk h1 h2 h3 h4 p0 p1 hfv htv
       go_upto_region 12 with fail
       obtain ⟨OB,hOB⟩:∃ o,o=(Obj.cells #[.int .i64 fv,.int .i64 lv,.int .i64 tv] 90):=⟨_,rfl⟩
       have s1:(wr.alloc OB).cell? ⟨wr.heap.size,1,none⟩=some (.int .i64 lv):=by subst hOB; exact tbox (Below.refl _ _) rfl
       have kb:Below wr.heap.size wr (wr.alloc OB):=(Below.refl _ _).alloc (Nat.le_refl _) _
       rw [<-hOB]
       obtain ⟨w50,hw50⟩:∃ W,W=wr.alloc OB:=⟨_,rfl⟩
       rw [<-hw50] at s1 kb ⊢;replace hB:=zav hB kb;replace hW:=onS hW kb;replace y0:=cellS kb y0
       obtain ⟨bx,hbx2⟩:∃ b,b=wr.heap.size:=⟨_,rfl⟩
       rw [<-hbx2] at s1 ⊢;clear hbx2 hw50 hOB kb e0 e1 e2 hfb
       by_cases hge:lv ≥ (lk:Int)
       ·have b1:decide (lv ≥ (lk:Int))=true:=by simp; omega
        have b2:decide ((lk:Int)<=lv)=true:=by simp; omega
        have hf:=hid (HE2.out HP0.out HM.out fun hh=>by have:=hh k hltn j (by rw [<-HEL.out]; exact hltj); rw [<-HLV.out,<-HLK.out] at this; omega)
        go_wp2
        go_quiet (fail)
        go_wp2
        go_ret3
        exact HRES.out _ 3 (zae hW _) hf.out (by omega) _ rfl
       ·have b1:decide (lv ≥ (lk:Int))=false:=by simp; omega
        have b2:decide ((lk:Int)<=lv)=false:=by simp; omega
        have HE2:Hid (∀ q,q<j+1->T.lb k q<(ln k:Nat)):=fun q hq=>by
         by_cases e:q=j
         ·subst e; rw [<-HLV.out,<-HLK.out]; omega
         ·exact HE.out q (by omega)
        go_wp2
        go_quiet (fail)
        go_wp2
        go_roundg (gk - 1)
        case measure=>omega
        case rel=>exact ⟨j+1,by go_num,by omega,by omega,HE2,zae hB _⟩
      ·have hltj':¬ (j:Int)<(el:Int):=by omega
       have HD2:Hid (∀ i,i<k+1->∀ j,j<T.el i->T.lb i j<(ln i:Nat)):=fun i hi q hq=>by
        by_cases e:i=k
        ·subst e; exact HE.out q (by have:=HEL.out; omega)
        ·exact HD.out i (by omega) q hq
       go_wp2
       go_roundg (gK - 1)
       case measure=>omega
       case rel=>exact ⟨k+1,by go_num,by omega,by omega,HD2,hB⟩
    ·have hlt':¬ (k:Int)<(n:Int):=by omega
     have HFB:Hid (T.fitB ln):=fun i hi=>HD.out i (by have:=HN.out; omega)
     have hf:=hid (HE3.out HP0.out HM.out HFB.out)
     have hM20:M<=1048576:=by have:=HM.out; have:=HN.out; omega
     clear HD
     go_wp2_with fail
     refine (yaw CA M cc ln C wr (HC.out.on hW) hM20).mono ?_
     rintro e w2 ⟨rfl,kb⟩
     have hB2:=zav hB kb
     clear kb p0 p1 hW hB
     obtain ⟨⟨p0,p1⟩,hW⟩:=HS.out _ hB2
     by_cases hpr:PricedP M ln C
     ·rw [if_pos hpr] at hf
      rw [if_pos hpr]
      have HPR:Hid (PricedP M ln C):=hpr
      have hFit:T.Fit ln:=fun i hi j hj=>⟨((HP.out.sec i hi).1 j hj).1,HFB.out i hi j hj⟩
      have HRR:=HR.out.on hW
      have HCC:=HC.out.on hW
      clear hpr
      go_wp2_with fail
      refine (yaI T A B CA c d M cc ln C w2 HRR HP.out (Trel.shapeE_of HP0.out) HCC HM.out hFit HPR.out).mono ?_
      rintro e w3 ⟨gw,rfl,hrow,_,kb⟩
      have hW3:=hid (onS hW kb)
      obtain ⟨bv,hbv⟩:∃ z,z=T.bw (T.yOf C) T.n 0:=⟨_,rfl⟩
      have HBV:=hid hbv
      have HROW:=hid hrow
      rw [<-hbv];clear hbv hrow kb p0 p1 hW HRR HCC hB2 hFit
      go_wp2
      go_ret3
      exact ⟨hW3.out,.inr ⟨hf.out.symm,gw,by rw [<-HBV.out]; rfl,HROW.out⟩⟩
     ·rw [if_neg hpr] at hf
      rw [if_neg hpr];clear hpr
      go_wp2
      go_ret3
      exact HRES.out _ 6 hW hf.out (by omega) _ rfl
  ·have hMn:((M:Int) != (T.n:Int))=true:=by
    rw [bne_iff_ne]
    omega
   have hf:=hid (HE1.out HP0.out hM)
   clear hM
   go_wp2
   go_ret3
   exact HRES.out _ 3 hW hf.out (by omega) _ rfl
 ·have hne:(T.properE != 0)=true:=by simpa using hp
  have hf:=hid (HE0.out hp)
  have hp':=hid hp
  obtain ⟨x,hx⟩:∃ x,x=T.properE:=⟨_,rfl⟩
  rw [<-hx] at hne hf hp' ⊢;clear hp hx
  go_wp2
  go_ret3
  exact HRES.out _ x hW hf.out hp'.out _ rfl
def parT:Trel:=⟨2,fun _=>1,1,fun _=>2,fun _ _=>0,fun _ j=>if j=0 then 0 else 1,fun _ _=>0⟩
def parC:Nat->Nat->Int:=fun _ a=>if a=0 then 5 else 3
theorem yaV:parT.alongE 1 (fun _=>2) parC=0:=of_decide_eq_true (by kernel_rfl)
theorem ybw:parT.bw (parT.yOf parC) parT.n 0=3:=of_decide_eq_true (by kernel_rfl)
theorem ybx:parT.wd (parT.yOf parC) 0=1:=of_decide_eq_true (by kernel_rfl)
theorem yba {w:World} {b1 b2 b3:Nat} (h1:b1<w.heap.size) (h2:b2<w.heap.size) (h3:b3<w.heap.size) (c0:w.cell? ⟨b1,0,none⟩=some (.int .i64 1)) (c1:w.cell? ⟨b1,1,none⟩=some (.int .i64 1))
  (e:∀ j,j<2->∀ k,k<3->w.cell? ⟨b2,j*3+k,none⟩=some (parT.edge 0 j k)) (s:w.cell? ⟨b3,0,none⟩=some (.slice (some ⟨b2,0,none⟩) 2 2)):parT.Reads w (some ⟨b1,0,none⟩) (some ⟨b3,0,none⟩):=by
 refine ⟨fun i hi=>⟨b1,0,rfl,h1,fun j hj=>?_⟩,fun i _=>⟨by show (-9223372036854775808:Int)<=1; omega,by show (1:Int)<=_; omega⟩,fun i hi=>?_,by show (2:Nat)<=_; omega,by show (1:Nat)<=_; omega,fun i _=>by show (2:Nat)<=_; omega⟩
 ·obtain rfl:j=0:=by omega
  have hi:i<2:=hi
  match i,hi with
  | 0,_=>exact c0
  | 1,_=>exact c1
 ·have hi:i<1:=hi
  obtain rfl:i=0:=by omega
  refine ⟨b3,0,some ⟨b2,0,none⟩,2,rfl,h3,s,Nat.le_refl _,by unfold maxLen; omega,fun j hj=>⟨b2,0,rfl,h2,fun k hk=>?_⟩,fun j hj=>?_⟩
  ·have:=e j hj k hk
   rwa [Nat.zero_add]
  ·unfold InI64
   refine ⟨⟨by show (-9223372036854775808:Int)<=0; omega,by show (0:Int)<=_; omega⟩,?_,⟨by show (-9223372036854775808:Int)<=0; omega,by show (0:Int)<=_; omega⟩⟩
   have e:parT.lb 0 j=if j=0 then (0:Int) else 1:=rfl
   rw [e]
   split <;> omega
theorem ybm {w:World} {b4 b5:Nat} (h4:b4<w.heap.size) (h5:b5<w.heap.size) (c0:w.cell? ⟨b4,0,none⟩=some (.int .i64 5)) (c1:w.cell? ⟨b4,1,none⟩=some (.int .i64 3)) (s:w.cell? ⟨b5,0,none⟩=some (.slice (some ⟨b4,0,none⟩) 2 2)) :
  IntRows w (some ⟨b5,0,none⟩) 1 (fun _=>2) parC:=fun i hi=>by
 obtain rfl:i=0:=by omega
 refine ⟨b5,0,some ⟨b4,0,none⟩,2,rfl,h5,s,Nat.le_refl _,by unfold maxLen; omega,fun j hj=>⟨b4,0,rfl,h4,fun k hk=>?_⟩,fun j hj=>?_⟩
 ·obtain rfl:k=0:=by omega
  match j,hj with
  | 0,_=>exact c0
  | 1,_=>exact c1
 ·unfold parC
  split <;> omega
theorem yac (w:World):Calls Tryz.prog 14 #[] w fun e w'=>e=.returned (.bool true)/\Below w.heap.size w w':=by
 go_enter Tryz.func14, Tryz.ntmps14
 go_wp2_with fail
 obtain ⟨O1,hO1⟩:∃ o,o=(Obj.cells #[Value.int .i64 1,Value.int .i64 1] 3):=⟨_,rfl⟩
 obtain ⟨O2,hO2⟩:∃ o,o=(Obj.cells #[Value.int .i64 0,Value.int .i64 0,Value.int .i64 0,Value.int .i64 0,Value.int .i64 1,Value.int .i64 0] 90):=⟨_,rfl⟩
 obtain ⟨O3,hO3⟩:∃ o,o=(Obj.cells #[Value.slice (some ⟨w.heap.size+1,0,none⟩) 2 2] 86):=⟨_,rfl⟩
 obtain ⟨O4,hO4⟩:∃ o,o=(Obj.cells #[Value.int .i64 5,Value.int .i64 3] 3):=⟨_,rfl⟩
 obtain ⟨O5,hO5⟩:∃ o,o=(Obj.cells #[Value.slice (some ⟨w.heap.size+1+1+1,0,none⟩) 2 2] 22):=⟨_,rfl⟩
 rw [<-hO1,<-hO2,<-hO3,<-hO4,<-hO5]
 have s1:(w.alloc O1).heap.size=w.heap.size+1:=by simp
 have s2:((w.alloc O1).alloc O2).heap.size=w.heap.size+1+1:=by simp
 have s3:(((w.alloc O1).alloc O2).alloc O3).heap.size=w.heap.size+1+1+1:=by simp
 have s4:((((w.alloc O1).alloc O2).alloc O3).alloc O4).heap.size=w.heap.size+1+1+1+1:=by simp
 have k1:Below w.heap.size w (w.alloc O1):=(Below.refl _ _).alloc (Nat.le_refl _) _
 have k2:Below (w.alloc O1).heap.size (w.alloc O1) ((w.alloc O1).alloc O2):=(Below.refl _ _).alloc (Nat.le_refl _) _
 have k3:Below ((w.alloc O1).alloc O2).heap.size ((w.alloc O1).alloc O2) (((w.alloc O1).alloc O2).alloc O3):=(Below.refl _ _).alloc (Nat.le_refl _) _
 have k4:Below (((w.alloc O1).alloc O2).alloc O3).heap.size (((w.alloc O1).alloc O2).alloc O3) ((((w.alloc O1).alloc O2).alloc O3).alloc O4):=(Below.refl _ _).alloc (Nat.le_refl _) _
 have k5:Below ((((w.alloc O1).alloc O2).alloc O3).alloc O4).heap.size ((((w.alloc O1).alloc O2).alloc O3).alloc O4) (((((w.alloc O1).alloc O2).alloc O3).alloc O4).alloc O5):=(Below.refl _ _).alloc (Nat.le_refl _) _
 have k45:=onS k4 k5
 have k345:=onS k3 k45
 have k2345:=onS k2 k345
 have hW:=onS k1 k2345
 have a1:∀ i v,(#[Value.int .i64 1,Value.int .i64 1]:Array Value)[i]?=some v->(w.alloc O1).cell? ⟨w.heap.size,i,none⟩=some v:=fun i v hv=>by rw [hO1]; rw [World.cell?_alloc_at _ _ _ _ rfl]; exact hv
 have a2:∀ i v,(#[Value.int .i64 0,Value.int .i64 0,Value.int .i64 0,Value.int .i64 0,Value.int .i64 1,Value.int .i64 0]:Array Value)[i]?=some v->((w.alloc O1).alloc O2).cell? ⟨w.heap.size+1,i,none⟩=some v:=fun i v hv=>by rw [hO2]; rw [World.cell?_alloc_at _ _ _ _ (by simp)]; exact hv
 have a3:(((w.alloc O1).alloc O2).alloc O3).cell? ⟨w.heap.size+1+1,0,none⟩=some (.slice (some ⟨w.heap.size+1,0,none⟩) 2 2):=by rw [hO3]; rw [World.cell?_alloc_at _ _ _ _ (by simp)]; rfl
 have a4:∀ i v,(#[Value.int .i64 5,Value.int .i64 3]:Array Value)[i]?=some v->((((w.alloc O1).alloc O2).alloc O3).alloc O4).cell? ⟨w.heap.size+1+1+1,i,none⟩=some v:=fun i v hv=>by rw [hO4]; rw [World.cell?_alloc_at _ _ _ _ (by simp)]; exact hv
 have a5:(((((w.alloc O1).alloc O2).alloc O3).alloc O4).alloc O5).cell? ⟨w.heap.size+1+1+1+1,0,none⟩=some (.slice (some ⟨w.heap.size+1+1+1,0,none⟩) 2 2):=by rw [hO5]; rw [World.cell?_alloc_at _ _ _ _ (by simp)]; rfl
 obtain ⟨w5,hw5⟩:∃ W,W=((((w.alloc O1).alloc O2).alloc O3).alloc O4).alloc O5:=⟨_,rfl⟩
 have s5:w5.heap.size=w.heap.size+1+1+1+1+1:=by rw [hw5]; simp
 rw [<-hw5] at k5 k45 k345 k2345 hW a5 ⊢
 have hreads:parT.Reads w5 (some ⟨w.heap.size,0,none⟩) (some ⟨w.heap.size+1+1,0,none⟩):=by
  refine yba (by omega) (b2:=w.heap.size+1) (by omega) (by omega) (cellS k2345 (a1 0 _ rfl)) (cellS k2345 (a1 1 _ rfl)) (fun j hj k hk=>?_) (cellS k45 a3)
  refine cellS k345 (a2 (j*3+k) _ ?_)
  match j,hj,k,hk with
  | 0,_,0,_=>rfl
  | 0,_,1,_=>rfl
  | 0,_,2,_=>rfl
  | 1,_,0,_=>rfl
  | 1,_,1,_=>rfl
  | 1,_,2,_=>rfl
 have hcosts:IntRows w5 (some ⟨w.heap.size+1+1+1+1,0,none⟩) 1 (fun _=>2) parC:=ybm (b4:=w.heap.size+1+1+1) (by omega) (by omega) (cellS k5 (a4 0 _ rfl)) (cellS k5 (a4 1 _ rfl)) a5
 have HW:=hid hW
 clear a1 a2 a3 a4 a5 k1 k2 k3 k4 k5 k45 k345 k2345 s1 s2 s3 s4 s5 hw5 hO1 hO2 hO3 hO4 hO5 hW
 refine (yaj parT _ _ _ 2 1 1 1 (fun _=>2) parC w5 hreads hcosts).mono ?_
 rintro e w6 ⟨kb,hpost⟩
 have hW6:=onS HW.out kb
 rcases hpost with ⟨h0,_⟩ | ⟨_,gw,rfl,hrow⟩
 ·exact absurd yaV h0
 have q0:=hrow.cell (i:=0) (by show 0<1; omega)
 rw [ybx] at q0;rw [ybw]
 change w6.cell? ⟨gw,0,none⟩=some (.int .i64 1) at q0
 have HW6:=hid hW6
 clear hrow hreads hcosts kb HW hW6
 have en:parT.n=1:=rfl
 rw [en]
 go_wp2
 go_ret
 exact ⟨rfl,HW6.out⟩
open Go.ChangeShapes Go.WideShapes Go.ChangeAt
def TabOk (q N m:Nat) (lc:Nat->Nat):Prop:=m=N/\∀ i,i<m->lc i=q
def VTabPost (P M:Int) (k:Nat) (f:Nat->Int) (N:Int) (n:Nat) (ln:Nat->Nat) (V:Nat->Nat->Int) (m:Nat) (lc:Nat->Nat) (w:World) (e:Ending) (w':World):Prop :=
 Below w.heap.size w w'/\∃ u,FirstErr (CodeErrs P M k f N n ln V) u/\((u≠0/\e=.returned (.tuple #[.pointer none,.int .i64 u])) ∨
  (u=0/\∃ P' M' N':Nat,P=P'/\M=M'/\N=N'/\((¬ TabOk (P' ^ M') N' m lc/\e=.returned (.tuple #[.pointer none,.int .i64 3])) ∨
   (TabOk (P' ^ M') N' m lc/\∃ g,GF w' w'.heap.size g P' M' (fun i=>(f i).toNat)/\e=.returned (.tuple #[.pointer (some ⟨g,0,none⟩),.int .i64 0])))))
theorem ybb (P M:Int) (A:Option Addr) (k c:Nat) (f:Nat->Int) (N:Int) (TC:Option Addr) (n d:Nat) (ln:Nat->Nat) (V:Nat->Nat->Int) (CA:Option Addr) (m cc:Nat) (lc:Nat->Nat) (C:Nat->Nat->Int) (w:World) (hr:IntsR w w.heap.size A k f) (h:IntRows w TC n ln V) (hC:IntRows w CA m lc C) :
  Calls Tryz.prog 57 #[.agg #[.int .i64 P,.int .i64 M,.slice A k c,.int .i64 N,.slice TC n d],.slice CA m cc] w (VTabPost P M k f N n ln V m lc w):=by
 have HI:=hid hr
 have HT:=hid h
 have HCC:=hid hC
 clear hr h hC
 have rf:=zai (w:=w) (a:=.int .i64 P) (b:=.int .i64 M) (c:=.slice A k c) (d:=.int .i64 N) (e:=.slice TC n d) (T := 27)
 have hB:Below w.heap.size w (w.alloc (.cells #[.int .i64 P,.int .i64 M,.slice A k c,.int .i64 N,.slice TC n d] 27)):=(Below.refl _ _).alloc (Nat.le_refl _) _
 obtain ⟨w1,hw1⟩:∃ W,W=w.alloc (.cells #[.int .i64 P,.int .i64 M,.slice A k c,.int .i64 N,.slice TC n d] 27):=⟨_,rfl⟩
 rw [<-hw1] at hB rf
 go_enter Tryz.func57, Tryz.ntmps57
 go_upto_region 1 with fail
 rw [<-hw1];clear hw1
 obtain ⟨b0,hb0⟩:∃ b,b=w.heap.size:=⟨_,rfl⟩
 rw [<-hb0] at rf;rw [<-hb0];clear hb0
 have HBOX:Hid (∀ X,Below w1.heap.size w1 X->(X.cell? ⟨b0,0,none⟩=some (.int .i64 P)/\X.cell? ⟨b0,1,none⟩=some (.int .i64 M)/\X.cell? ⟨b0,2,none⟩=some (.slice A k c)/\X.cell? ⟨b0,3,none⟩=some (.int .i64 N)/\X.cell? ⟨b0,4,none⟩=some (.slice TC n d))):=hid fun X hx =>
  ⟨(zab rf hx).cell (i:=0) (by omega),(zab rf hx).cell (i:=1) (by omega),(zab rf hx).cell (i:=2) (by omega),(zab rf hx).cell (i:=3) (by omega),(zab rf hx).cell (i:=4) (by omega)⟩
 have HB:=hid hB
 clear hB rf
 obtain ⟨q0,q1,q2,q3,q4⟩:=HBOX.out _ (Below.refl _ _)
 go_wp2_with fail
 refine (zcI P M A k c f N TC n d ln V w1 (HI.out.on HB.out) (HT.out.on HB.out)).mono ?_
 rintro e w2 ⟨u,rfl,hu,kb⟩
 have HU:=hid hu
 have KB:=hid kb
 clear kb hu q0 q1 q2 q3 q4
 by_cases hu0:u=0
 rotate_left
 ·have hub:(u != 0)=true:=by simpa using hu0
  have HU0:=hid hu0
  clear hu0
  go_wp2
  go_ret2
  exact ⟨onS HB.out KB.out,u,HU.out,.inl ⟨HU0.out,rfl⟩⟩
 subst hu0
 have hub:((0:Int) != 0)=false:=by simp
 obtain ⟨P',M',N',rfl,rfl,rfl,hC⟩:=zb5 HI.out HT.out HU.out
 have HC:=hid hC
 have hN64:=hC.ln2
 clear hC
 obtain ⟨q0,q1,q2,q3,q4⟩:=HBOX.out _ KB.out
 go_wp2_with fail
 refine (zbP (P':Int) (M':Int) A k c f w2 (HI.out.on (onS HB.out KB.out))).mono ?_
 rintro e w3 ⟨kb,hcase⟩
 rcases hcase with ⟨hbad,_⟩ | ⟨_,gf,P2,M2,hP2,hM2,rfl,_,hG⟩
 ·refine absurd ?_ hbad
  rcases HU.out with ⟨_,h9⟩ | ⟨h1,_⟩
  ·cases h9
  ·exact h1
 obtain rfl:P'=P2:=by omega
 obtain rfl:M'=M2:=by omega
 have HG:=hid hG.gf
 replace KB:=hid (onS KB.out kb);clear kb q0 q1 q2 q3 q4 hP2 hM2 hG hub
 obtain ⟨q,hq⟩:∃ q,q=P' ^ M':=⟨_,rfl⟩
 have HQ:=hid hq
 clear hq
 obtain ⟨q0,q1,q2,q3,q4⟩:=HBOX.out _ KB.out
 by_cases hmn:m=N'
 rotate_left
 ·have hmn':(((m:Nat):Int) != (N':Int))=true:=by simp; omega
  have HNO:Hid (¬ TabOk (P' ^ M') N' m lc):=hid fun h=>hmn h.1
  go_wp2
  go_ret2
  exact ⟨onS HB.out KB.out,0,HU.out,.inr ⟨rfl,P',M',N',rfl,rfl,rfl,.inl ⟨HNO.out,rfl⟩⟩⟩
 have hmn':(((m:Nat):Int) != (N':Int))=false:=by simp; omega
 have HMN:=hid hmn
 have hm64:m<=64:=by omega
 clear hmn
 go_upto_region 8 with fail
 clear q0 q1 q2 q3 q4
 go_loopg [29] m (fun gg iv wx=>∃ i:Nat,iv=.int .i64 (i:Nat)/\i<=m/\m<=i+gg/\Hid (∀ j,j<i->lc j=P' ^ M')/\Below w3.heap.size w3 wx)
 case atStart=>exact ⟨0,rfl,by omega,by omega,hid fun _ h=>absurd h (by omega),Below.refl _ _⟩
 case round =>
  obtain ⟨i,rfl,hi,hig,HLE,hBx⟩:=hrel
  have hi0:(0:Int)<=(i:Int):=by omega
  have K3:=hid hBx
  obtain ⟨w4,hw4⟩:∃ X,X=wr:=⟨_,rfl⟩
  subst hw4
  clear hBx
  by_cases hin:i<m
  ·have hin':(i:Int)<(m:Int):=by omega
   obtain ⟨b1,o1,RA,rc,hTe,hb1,x0,h1,h2,h3,h4⟩:=HCC.out i hin
   subst hTe
   replace x0:=cellS (onS HB.out (onS KB.out K3.out)) x0;clear h1 h2 h3 h4 hb1
   obtain ⟨li,hli⟩:∃ l,l=lc i:=⟨_,rfl⟩
   rw [<-hli] at x0
   have HLI:=hid hli
   clear hli
   go_wp2_with fail
   clear x0
   refine (zeN (HG.out.on K3.out)).mono ?_
   rintro e w5 ⟨he,kb⟩
   rw [<-HQ.out] at he
   subst he
   replace K3:=hid (onS K3.out kb);clear kb
   by_cases hlq:li=q
   ·have hne:(((li:Nat):Int) != (q:Int))=false:=by simp; omega
    have HLE2:Hid (∀ j,j<i+1->lc j=P' ^ M'):=hid fun j hj=>by
     by_cases e:j=i
     ·rw [e,<-HLI.out,hlq,HQ.out]
     ·exact HLE.out j (by omega)
    clear hlq
    go_wp2
    go_roundg (gk - 1)
    case measure=>omega
    case rel=>exact ⟨i+1,by go_num,by omega,by omega,HLE2,K3.out⟩
   ·have hne:(((li:Nat):Int) != (q:Int))=true:=by simp; omega
    have HNO:Hid (¬ TabOk (P' ^ M') N' m lc):=hid fun h=>hlq (by rw [HLI.out,HQ.out]; exact h.2 i hin)
    clear hlq
    go_wp2
    go_ret2
    exact ⟨onS HB.out (onS KB.out K3.out),0,HU.out,.inr ⟨rfl,P',M',N',rfl,rfl,rfl,.inl ⟨HNO.out,rfl⟩⟩⟩
  ·have hin':¬ (i:Int)<(m:Int):=by omega
   obtain rfl:m=i:=by omega
   have HOK:Hid (TabOk (P' ^ M') N' m lc):=hid ⟨HMN.out,HLE.out⟩
   go_wp2
   go_ret2
   exact ⟨onS HB.out (onS KB.out K3.out),0,HU.out,.inr ⟨rfl,P',M',N',rfl,rfl,rfl,.inr ⟨HOK.out,gf,HG.out.on K3.out,rfl⟩⟩⟩
theorem ybn {q n N:Nat} {add mul:Nat->Nat->Nat} {pv:Nat->Nat} {V R:Nat->Nat->Nat} {T:Trel} {y:Nat->Nat->Int × Int × Int} (hL:FieldLaws q add mul) (hS:SpanF q n N pv R) (hM:MinT q add mul n N pv R T) (hP:T.Proper) (hy:IsRen T y) (hsp:SameSp q add mul N n n V R) (x:Nat->Nat):(T.re y).PathW x↔InSp q add mul n N V x :=
 (hy.path hP).trans ((hM.path_iff hL hS).trans (hsp x).symm)
theorem ybt {q n N:Nat} {add mul:Nat->Nat->Nat} {pv:Nat->Nat} {R:Nat->Nat->Nat} {T:Trel} {y:Nat->Nat->Int × Int × Int} (hL:FieldLaws q add mul) (hM:MinT q add mul n N pv R T) (hy:IsRen T y) {i j:Nat} (hi:i<T.n) (hj:j<T.el i):0<=(y i j).2.1/\(y i j).2.1<(q:Int):=by
 obtain ⟨p,hp,e⟩:=hy.to_old hi hj
 obtain ⟨c,h1,h2⟩:=hM.inn i (by rw [<-hM.nN]; exact hi) p hp
 simp only [Trel.eD,secE,Prod.mk.injEq] at h2
 have h3:=zbb hL (V:=R) c n i
 have e2:(y i j).2.1=T.lb i p:=by rw [e]; rfl
 rw [e2,h2.2.1]
 omega
theorem Trel.wd_nat {T:Trel} {C:Nat->Nat->Int} (hP:T.Proper) (hy:Costs T (T.yOf C)) {i:Nat} (hi:i<T.n):T.wd (T.yOf C) i=((T.wdN (T.yOf C) i:Nat):Int):=by
 obtain ⟨j,hj,hl,hn,_,h2,_⟩:=Trel.wd_edge hP hy hi (Trel.nd_lt hP hy i (by omega))
 rw [(Trel.nd_step hj hl hn).2,h2]
def DecPost (P M : Int) (k : Nat) (f : Nat → Int) (N : Int) (n : Nat) (ln : Nat → Nat) (V : Nat → Nat → Int) (m : Nat) (lc : Nat → Nat) (C : Nat → Nat → Int) (w : World) (e : Ending) (w' : World) : Prop :=
  Below w.heap.size w w' ∧ ∃ u, FirstErr (CodeErrs P M k f N n ln V) u ∧ ((u ≠ 0 ∧ e = .returned (.tuple #[.slice none 0 0, .int .i64 0, .int .i64 u])) ∨
    (u = 0 ∧ ∃ P' M' N' : Nat, P = P' ∧ M = M' ∧ N = N' ∧ ((¬ TabOk (P' ^ M') N' m lc ∧ e = .returned (.tuple #[.slice none 0 0, .int .i64 0, .int .i64 3])) ∨
      (TabOk (P' ^ M') N' m lc/\¬ PricedP m lc C/\e=.returned (.tuple #[.slice none 0 0,.int .i64 0,.int .i64 6])) ∨
      (TabOk (P' ^ M') N' m lc/\PricedP m lc C/\∃ pv R,SpanF (P' ^ M') n N' pv R/\SameSp (P' ^ M') (addF P' M') (mulF P' M' fun i=>(f i).toNat) N' n n (natT V) R/\(∀ i j,i<j->j<n->lE (R i) N'≠lE (R j) N') /\
        ((¬ SizeIn (P' ^ M') n N' pv R/\e=.returned (.tuple #[.slice none 0 0,.int .i64 0,.int .i64 8])) ∨
         (SizeIn (P' ^ M') n N' pv R/\∃ g x,e=.returned (.tuple #[.slice (some ⟨g,0,none⟩) N' N',.int .i64 (costW C x N'),.int .i64 0])/\w'.rowIs g 3 N' (fun i=>.int .i64 ((x i:Nat):Int))/\w.heap.size<=g/\InSp (P' ^ M') (addF P' M') (mulF P' M' fun i=>(f i).toNat) n N' (natT V) x /\
           ∀ z,InSp (P' ^ M') (addF P' M') (mulF P' M' fun i=>(f i).toNat) n N' (natT V) z->costW C x N'<=costW C z N'/\(costW C z N'=costW C x N'->(∀ t,t<N'->x t=z t)∨LexLt (fun t=>((x t:Nat):Int)) (fun t=>((z t:Nat):Int)) N')))))))
theorem yax (P M:Int) (A:Option Addr) (k c:Nat) (f:Nat->Int) (N:Int) (TC:Option Addr) (n d:Nat) (ln:Nat->Nat) (V:Nat->Nat->Int) (CA:Option Addr) (m cc:Nat) (lc:Nat->Nat) (C:Nat->Nat->Int) (w:World) (hr:IntsR w w.heap.size A k f) (h:IntRows w TC n ln V) (hC:IntRows w CA m lc C) :
  Calls Tryz.prog 15 #[.agg #[.int .i64 P,.int .i64 M,.slice A k c,.int .i64 N,.slice TC n d],.slice CA m cc] w (DecPost P M k f N n ln V m lc C w):=by
 have HI:=hid hr
 have HT:=hid h
 have HCC:=hid hC
 clear hr h hC
 have rf:=zai (w:=w) (a:=.int .i64 P) (b:=.int .i64 M) (c:=.slice A k c) (d:=.int .i64 N) (e:=.slice TC n d) (T := 27)
 have hB:Below w.heap.size w (w.alloc (.cells #[.int .i64 P,.int .i64 M,.slice A k c,.int .i64 N,.slice TC n d] 27)):=(Below.refl _ _).alloc (Nat.le_refl _) _
 obtain ⟨w1,hw1⟩:∃ W,W=w.alloc (.cells #[.int .i64 P,.int .i64 M,.slice A k c,.int .i64 N,.slice TC n d] 27):=⟨_,rfl⟩
 rw [<-hw1] at hB rf
 go_enter Tryz.func15, Tryz.ntmps15
 go_upto_region 1 with fail
 rw [<-hw1];clear hw1
 obtain ⟨b0,hb0⟩:∃ b,b=w.heap.size:=⟨_,rfl⟩
 rw [<-hb0] at rf;rw [<-hb0];clear hb0
 have HBOX:Hid (∀ X,Below w1.heap.size w1 X->(X.cell? ⟨b0,0,none⟩=some (.int .i64 P)/\X.cell? ⟨b0,1,none⟩=some (.int .i64 M)/\X.cell? ⟨b0,2,none⟩=some (.slice A k c)/\X.cell? ⟨b0,3,none⟩=some (.int .i64 N)/\X.cell? ⟨b0,4,none⟩=some (.slice TC n d))):=hid fun X hx =>
  ⟨(zab rf hx).cell (i:=0) (by omega),(zab rf hx).cell (i:=1) (by omega),(zab rf hx).cell (i:=2) (by omega),(zab rf hx).cell (i:=3) (by omega),(zab rf hx).cell (i:=4) (by omega)⟩
 have HB:=hid hB
 clear hB rf
 obtain ⟨q0,q1,q2,q3,q4⟩:=HBOX.out _ (Below.refl _ _)
 go_wp2_with fail
 refine (ybb P M A k c f N TC n d ln V CA m cc lc C w1 (HI.out.on HB.out) (HT.out.on HB.out) (HCC.out.on HB.out)).mono ?_
 rintro e w2 ⟨kb,u,hu,he⟩
 have HU:=hid hu
 have KB:=hid kb
 clear kb hu q0 q1 q2 q3 q4
 rcases he with ⟨hu0,rfl⟩ | ⟨rfl,P',M',N',rfl,rfl,rfl,⟨hNO,rfl⟩ | ⟨hTO,g,_,rfl⟩⟩
 ·have hub:(u != 0)=true:=by simpa using hu0
  have HU0:=hid hu0
  clear hu0
  go_wp2
  go_ret3
  exact ⟨onS HB.out KB.out,u,HU.out,.inl ⟨HU0.out,rfl⟩⟩
 ·have hub:((3:Int) != 0)=true:=by simp
  have HNO:=hid hNO
  clear hNO
  go_wp2
  go_ret3
  exact ⟨onS HB.out KB.out,0,HU.out,.inr ⟨rfl,P',M',N',rfl,rfl,rfl,.inl ⟨HNO.out,rfl⟩⟩⟩
 have HTO:=hid hTO
 clear hTO
 have hub:((0:Int) != 0)=false:=by simp
 obtain ⟨P2,M2,N2,e1,e2,e3,hC⟩:=zb5 HI.out HT.out HU.out
 obtain rfl:P'=P2:=by omega
 obtain rfl:M'=M2:=by omega
 obtain rfl:N'=N2:=by omega
 have HC:=hid hC
 have hN64:=hC.ln2
 have hm:m<=64:=by have:=HTO.out.1; omega
 clear hC e1 e2 e3
 obtain ⟨pe,hpe⟩:∃ pe:Int,pe=if PricedP m lc C then 0 else 6:=⟨_,rfl⟩
 go_wp2_with fail
 refine (yaw CA m cc lc C w2 (HCC.out.on (onS HB.out KB.out)) (by omega)).mono ?_
 rintro e w3 ⟨he,kb⟩
 rw [<-hpe] at he
 subst he
 have HPE:=hid hpe
 replace KB:=hid (onS KB.out kb);clear kb hpe
 by_cases hpr:PricedP m lc C
 rotate_left
 ·have h6:pe=6:=by rw [HPE.out,if_neg hpr]
  subst h6
  have hub6:((6:Int) != 0)=true:=by simp
  have HNP:=hid hpr
  clear hpr HPE
  go_wp2
  go_ret3
  exact ⟨onS HB.out KB.out,0,HU.out,.inr ⟨rfl,P',M',N',rfl,rfl,rfl,.inr (.inl ⟨HTO.out,HNP.out,rfl⟩)⟩⟩
 have h6:pe=0:=by rw [HPE.out,if_pos hpr]
 subst h6
 have HPR:=hid hpr
 clear hpr HPE
 obtain ⟨q0,q1,q2,q3,q4⟩:=HBOX.out _ KB.out
 go_wp2_with fail
 refine (zfw (P':Int) (M':Int) A k c f (N':Int) TC n d ln V w3 (HI.out.on (onS HB.out KB.out)) (HT.out.on (onS HB.out KB.out))).mono ?_
 rintro e w4 ⟨kb,u2,hu2,he⟩
 obtain rfl:u2=0:=FirstErr.unique hu2 HU.out
 replace KB:=hid (onS KB.out kb);clear kb hu2 q0 q1 q2 q3 q4
 rcases he with ⟨hu0,_⟩ | ⟨_,P2,M2,N2,hP2,hM2,hN2,pv,R,hSF,hSP,hDI,⟨hSZ,rfl⟩ | ⟨hSZ,T,y,WA,WB,wc,wd,hMT,hPR,hRE,hOUT,rfl⟩⟩
 ·exact absurd rfl hu0
 ·obtain rfl:P'=P2:=by omega
  obtain rfl:M'=M2:=by omega
  obtain rfl:N'=N2:=by omega
  have hub8:((8:Int) != 0)=true:=by simp
  have HSF:=hid hSF
  have HSP:=hid hSP
  have HDI:=hid hDI
  have HSZ:=hid hSZ
  clear hSF hSP hDI hSZ hP2 hM2 hN2
  go_wp2
  go_ret3
  exact ⟨onS HB.out (onS KB.out ((Below.refl _ _).alloc (Nat.le_refl _) _)),0,HU.out,.inr ⟨rfl,P',M',N',rfl,rfl,rfl,.inr (.inr ⟨HTO.out,HPR.out,pv,R,HSF.out,HSP.out,HDI.out,.inl ⟨HSZ.out,rfl⟩⟩)⟩⟩
 ·obtain rfl:P'=P2:=by omega
  obtain rfl:M'=M2:=by omega
  obtain rfl:N'=N2:=by omega
  have HSF:=hid hSF
  have HSP:=hid hSP
  have HDI:=hid hDI
  have HSZ:=hid hSZ
  have hL:=fieldLaws HC.out.fld
  have hUP:=hRE.proper hPR
  have hTn:(T.re y).n=N':=hMT.nN
  have HN:=hid hTn
  have HFIT:Hid ((T.re y).Fit lc):=hid fun i hi j hj=>by
   have h1:=ybt hL hMT hRE hi hj
   have h2:=HTO.out.2 i (by rw [HTO.out.1,<-hTn]; exact hi)
   rw [h2]
   exact h1
  have HPATH:Hid (∀ x,(T.re y).PathW x↔InSp (P' ^ M') (addF P' M') (mulF P' M' fun i=>(f i).toNat) n N' (natT V) x):=hid fun x=>ybn hL hSF hMT hPR hRE hSP x
  have HRD:=hid (hOUT.reads hPR hRE)
  have HUP:=hid hUP
  have htw:T.nw=(T.re y).nw:=rfl
  have htn:T.n=(T.re y).n:=rfl
  rw [htw,htn]
  obtain ⟨U,hU⟩:∃ U,U=T.re y:=⟨_,rfl⟩
  rw [<-hU] at HFIT HPATH HRD HUP HN ⊢;clear hSF hSP hDI hSZ hP2 hM2 hN2 hMT hPR hRE hOUT hUP hTn hL htw htn hU
  go_upto_region 8 with fail
  have rd:=World.rowIs_alloc w4 #[Value.slice WA U.nw wc,Value.slice WB U.n wd] 53 (fun j=>if j=0 then .slice WA U.nw wc else .slice WB U.n wd) (fun j hj=>by
   match j,hj with
   | 0,_=>rfl
   | 1,_=>rfl)
  have kb:Below w4.heap.size w4 (w4.alloc (Obj.cells #[Value.slice WA U.nw wc,Value.slice WB U.n wd] 53)):=(Below.refl _ _).alloc (Nat.le_refl _) _
  obtain ⟨w5,hw5⟩:∃ W,W=w4.alloc (Obj.cells #[Value.slice WA U.nw wc,Value.slice WB U.n wd] 53):=⟨_,rfl⟩
  rw [<-hw5] at rd kb ⊢
  obtain ⟨tb,htb⟩:∃ b,b=w4.heap.size:=⟨_,rfl⟩
  rw [<-htb] at rd ⊢
  have t0:=rd.cell (i:=0) (by simp)
  have t1:=rd.cell (i:=1) (by simp)
  rw [if_pos rfl] at t0
  rw [if_neg (by omega)] at t1
  have HRD5:=hid (HRD.out.1.on kb)
  replace KB:=hid (onS KB.out kb);clear kb rd hw5 htb
  go_wp2_with fail
  clear t0 t1
  refine (yaI U WA WB CA wc wd m cc lc C w5 HRD5.out HUP.out HUP.out.shape.E0 (HCC.out.on (onS HB.out KB.out)) (by rw [HN.out]; exact HTO.out.1) HFIT.out HPR.out).mono ?_
  rintro e w6 ⟨gw,rfl,hrow,hgw,kb⟩
  have hm2:m=U.n:=by rw [HN.out]; exact HTO.out.1
  have HCO:=hid (Costs.of hm2 HFIT.out HPR.out)
  have hcost:=Trel.wd_total HUP.out HCO.out
  rw [HN.out] at hcost hrow ⊢;rw [hcost]
  have HG1:Hid (w6.rowIs gw 3 N' (fun i=>.int .i64 ((U.wdN (U.yOf C) i:Nat):Int))):=hid (hrow.congr fun i hi=>by rw [Trel.wd_nat HUP.out HCO.out (by rw [HN.out]; exact hi)])
  have HIN:Hid (InSp (P' ^ M') (addF P' M') (mulF P' M' fun i=>(f i).toNat) n N' (natT V) (U.wdN (U.yOf C))):=hid ((HPATH.out _).1 (Trel.wd_path HUP.out HCO.out))
  have HLE:Hid (∀ z,InSp (P' ^ M') (addF P' M') (mulF P' M' fun i=>(f i).toNat) n N' (natT V) z->costW C (U.wdN (U.yOf C)) N'<=costW C z N'/\(costW C z N'=costW C (U.wdN (U.yOf C)) N'->(∀ t,t<N'->U.wdN (U.yOf C) t=z t)∨LexLt (fun t=>((U.wdN (U.yOf C) t:Nat):Int)) (fun t=>((z t:Nat):Int)) N')):=hid fun z hz=>by
   have h:=Trel.wd_least HUP.out HCO.out ((HPATH.out z).2 hz)
   rw [HN.out,hcost] at h
   exact h
  have HGW:Hid (w.heap.size<=gw):=hid (Nat.le_trans (onS HB.out KB.out).size hgw)
  obtain ⟨x,hx⟩:∃ x,x=U.wdN (U.yOf C):=⟨_,rfl⟩
  rw [<-hx] at HG1 HIN HLE ⊢
  obtain ⟨cst,hcs⟩:∃ s,s=costW C x N':=⟨_,rfl⟩
  rw [<-hcs]
  have HCS:=hid hcs
  replace KB:=hid (onS KB.out kb);clear kb hrow hgw hcost hm2 hx hcs
  go_wp2
  go_ret3
  exact ⟨onS HB.out KB.out,0,HU.out,.inr ⟨rfl,P',M',N',rfl,rfl,rfl,.inr (.inr ⟨HTO.out,HPR.out,pv,R,HSF.out,HSP.out,HDI.out,.inr ⟨HSZ.out,gw,x,by rw [<-HCS.out]; rfl,HG1.out,HGW.out,HIN.out,HLE.out⟩⟩)⟩⟩
def SizeV (P M:Int) (k:Nat) (f:Nat->Int) (N:Int) (n:Nat) (ln:Nat->Nat) (V:Nat->Nat->Int) (v:Int):Prop :=
 ∃ u,FirstErr (CodeErrs P M k f N n ln V) u/\((u≠0/\v=u)∨(u=0/\∃ P' M' N':Nat,P=P'/\M=M'/\N=N'/\∃ pr se:Nat->Nat,ProfIs (P' ^ M') (addF P' M') (mulF P' M' fun i=>(f i).toNat) n N' (natT V) pr/\SecsIs (P' ^ M') (addF P' M') (mulF P' M' fun i=>(f i).toNat) n N' (natT V) se/\((SizeOk (P' ^ M') N' pr se/\v=0)∨(¬ SizeOk (P' ^ M') N' pr se/\v=8))))
theorem yaW (P M:Int) (A:Option Addr) (k c:Nat) (f:Nat->Int) (N:Int) (TC:Option Addr) (n d:Nat) (ln:Nat->Nat) (V:Nat->Nat->Int) (w:World) (hr:IntsR w w.heap.size A k f) (h:IntRows w TC n ln V) :
  Calls Tryz.prog 61 #[.agg #[.int .i64 P,.int .i64 M,.slice A k c,.int .i64 N,.slice TC n d]] w fun e w'=>Below w.heap.size w w'/\∃ v,e=.returned (.int .i64 v)/\SizeV P M k f N n ln V v:=by
 have HI:=hid hr
 have HT:=hid h
 clear hr h
 have rf:=zai (w:=w) (a:=.int .i64 P) (b:=.int .i64 M) (c:=.slice A k c) (d:=.int .i64 N) (e:=.slice TC n d) (T := 27)
 have hB:Below w.heap.size w (w.alloc (.cells #[.int .i64 P,.int .i64 M,.slice A k c,.int .i64 N,.slice TC n d] 27)):=(Below.refl _ _).alloc (Nat.le_refl _) _
 obtain ⟨w1,hw1⟩:∃ W,W=w.alloc (.cells #[.int .i64 P,.int .i64 M,.slice A k c,.int .i64 N,.slice TC n d] 27):=⟨_,rfl⟩
 rw [<-hw1] at hB rf
 go_enter Tryz.func61, Tryz.ntmps61
 go_upto_region 1 with fail
 rw [<-hw1];clear hw1
 obtain ⟨b0,hb0⟩:∃ b,b=w.heap.size:=⟨_,rfl⟩
 rw [<-hb0] at rf;rw [<-hb0];clear hb0
 have HBOX:Hid (∀ X,Below w1.heap.size w1 X->(X.cell? ⟨b0,0,none⟩=some (.int .i64 P)/\X.cell? ⟨b0,1,none⟩=some (.int .i64 M)/\X.cell? ⟨b0,2,none⟩=some (.slice A k c)/\X.cell? ⟨b0,3,none⟩=some (.int .i64 N)/\X.cell? ⟨b0,4,none⟩=some (.slice TC n d))):=hid fun X hx =>
  ⟨(zab rf hx).cell (i:=0) (by omega),(zab rf hx).cell (i:=1) (by omega),(zab rf hx).cell (i:=2) (by omega),(zab rf hx).cell (i:=3) (by omega),(zab rf hx).cell (i:=4) (by omega)⟩
 have HB:=hid hB
 clear hB rf
 obtain ⟨q0,q1,q2,q3,q4⟩:=HBOX.out _ (Below.refl _ _)
 go_wp2_with fail
 refine (zgQ P M A k c f N TC n d ln V w1 (HI.out.on HB.out) (HT.out.on HB.out)).mono ?_
 rintro e w2 ⟨kb,u,hu,he⟩
 have hef:∃ x v:Int,e=.returned (.tuple #[.int .i64 x,.int .i64 v])/\SizeV P M k f N n ln V v:=by
  rcases he with ⟨h0,h1⟩ | ⟨h0,P',M',N',e1,e2,e3,pr,se,h1,h2,⟨h3,h4⟩ | ⟨h3,h4⟩⟩
  ·exact ⟨_,_,h1,u,hu,.inl ⟨h0,rfl⟩⟩
  ·exact ⟨_,_,h4,u,hu,.inr ⟨h0,P',M',N',e1,e2,e3,pr,se,h1,h2,.inl ⟨h3,rfl⟩⟩⟩
  ·exact ⟨_,_,h4,u,hu,.inr ⟨h0,P',M',N',e1,e2,e3,pr,se,h1,h2,.inr ⟨h3,rfl⟩⟩⟩
 obtain ⟨x,v,rfl,hv⟩:=hef
 have HV:=hid hv
 have KB:=hid kb
 clear kb hu he hv q0 q1 q2 q3 q4
 go_wp2
 go_ret
 exact ⟨onS HB.out KB.out,v,rfl,HV.out⟩
def ArgsV (P M:Int) (k:Nat) (f:Nat->Int) (N:Int) (n:Nat) (ln:Nat->Nat) (V:Nat->Nat->Int) (m:Nat) (lc:Nat->Nat) (C:Nat->Nat->Int) (v:Int):Prop :=
 ∃ u,FirstErr (CodeErrs P M k f N n ln V) u/\((u≠0/\v=u)∨(u=0/\∃ P' M' N':Nat,P=P'/\M=M'/\N=N'/\((¬ TabOk (P' ^ M') N' m lc/\v=3)∨(TabOk (P' ^ M') N' m lc/\¬ PricedP m lc C/\v=6)∨(TabOk (P' ^ M') N' m lc/\PricedP m lc C /\
  ∃ pr se:Nat->Nat,ProfIs (P' ^ M') (addF P' M') (mulF P' M' fun i=>(f i).toNat) n N' (natT V) pr/\SecsIs (P' ^ M') (addF P' M') (mulF P' M' fun i=>(f i).toNat) n N' (natT V) se/\((SizeOk (P' ^ M') N' pr se/\v=0)∨(¬ SizeOk (P' ^ M') N' pr se/\v=8))))))
theorem yay (P M:Int) (A:Option Addr) (k c:Nat) (f:Nat->Int) (N:Int) (TC:Option Addr) (n d:Nat) (ln:Nat->Nat) (V:Nat->Nat->Int) (CA:Option Addr) (m cc:Nat) (lc:Nat->Nat) (C:Nat->Nat->Int) (w:World) (hr:IntsR w w.heap.size A k f) (h:IntRows w TC n ln V) (hC:IntRows w CA m lc C) :
  Calls Tryz.prog 16 #[.agg #[.int .i64 P,.int .i64 M,.slice A k c,.int .i64 N,.slice TC n d],.slice CA m cc] w fun e w'=>Below w.heap.size w w'/\∃ v,e=.returned (.int .i64 v)/\ArgsV P M k f N n ln V m lc C v:=by
 have HI:=hid hr
 have HT:=hid h
 have HCC:=hid hC
 clear hr h hC
 have rf:=zai (w:=w) (a:=.int .i64 P) (b:=.int .i64 M) (c:=.slice A k c) (d:=.int .i64 N) (e:=.slice TC n d) (T := 27)
 have hB:Below w.heap.size w (w.alloc (.cells #[.int .i64 P,.int .i64 M,.slice A k c,.int .i64 N,.slice TC n d] 27)):=(Below.refl _ _).alloc (Nat.le_refl _) _
 obtain ⟨w1,hw1⟩:∃ W,W=w.alloc (.cells #[.int .i64 P,.int .i64 M,.slice A k c,.int .i64 N,.slice TC n d] 27):=⟨_,rfl⟩
 rw [<-hw1] at hB rf
 go_enter Tryz.func16, Tryz.ntmps16
 go_upto_region 1 with fail
 rw [<-hw1];clear hw1
 obtain ⟨b0,hb0⟩:∃ b,b=w.heap.size:=⟨_,rfl⟩
 rw [<-hb0] at rf;rw [<-hb0];clear hb0
 have HBOX:Hid (∀ X,Below w1.heap.size w1 X->(X.cell? ⟨b0,0,none⟩=some (.int .i64 P)/\X.cell? ⟨b0,1,none⟩=some (.int .i64 M)/\X.cell? ⟨b0,2,none⟩=some (.slice A k c)/\X.cell? ⟨b0,3,none⟩=some (.int .i64 N)/\X.cell? ⟨b0,4,none⟩=some (.slice TC n d))):=hid fun X hx =>
  ⟨(zab rf hx).cell (i:=0) (by omega),(zab rf hx).cell (i:=1) (by omega),(zab rf hx).cell (i:=2) (by omega),(zab rf hx).cell (i:=3) (by omega),(zab rf hx).cell (i:=4) (by omega)⟩
 have HB:=hid hB
 clear hB rf
 obtain ⟨q0,q1,q2,q3,q4⟩:=HBOX.out _ (Below.refl _ _)
 go_wp2_with fail
 refine (zbz P M A k c f N TC n d ln V w1 (HI.out.on HB.out) (HT.out.on HB.out)).mono ?_
 rintro e w2 ⟨u,rfl,hu,kb⟩
 have HU:=hid hu
 have KB:=hid kb
 clear kb hu q0 q1 q2 q3 q4
 by_cases hu0:u=0
 rotate_left
 ·have hub:(u != 0)=true:=by simpa using hu0
  have HU0:=hid hu0
  clear hu0
  go_wp2
  go_ret
  exact ⟨onS HB.out KB.out,u,rfl,u,HU.out,.inl ⟨HU0.out,rfl⟩⟩
 subst hu0
 have hub:((0:Int) != 0)=false:=by simp
 obtain ⟨P',M',N',rfl,rfl,rfl,hC⟩:=zb5 HI.out HT.out HU.out
 have HC:=hid hC
 have hN64:=hC.ln2
 clear hC
 obtain ⟨q,hq⟩:∃ q,q=P' ^ M':=⟨_,rfl⟩
 have HQ:=hid hq
 clear hq
 have HORD:Hid (ordV (P':Int) (M':Int)=(q:Int)):=hid (by rw [HQ.out]; exact zbI HC.out.fld.1)
 obtain ⟨q0,q1,q2,q3,q4⟩:=HBOX.out _ KB.out
 by_cases hmn:m=N'
 rotate_left
 ·have hmn':(((m:Nat):Int) != (N':Int))=true:=by simp; omega
  have HNO:Hid (¬ TabOk (P' ^ M') N' m lc):=hid fun h=>hmn h.1
  go_wp2
  go_ret
  exact ⟨onS HB.out KB.out,3,rfl,0,HU.out,.inr ⟨rfl,P',M',N',rfl,rfl,rfl,.inl ⟨HNO.out,rfl⟩⟩⟩
 have hmn':(((m:Nat):Int) != (N':Int))=false:=by simp; omega
 have HMN:=hid hmn
 have hm64:m<=64:=by omega
 clear hmn
 go_upto_region 7 with fail
 clear q0 q1 q2 q3 q4
 go_loopg [6] N' (fun gg iv wx=>∃ i:Nat,iv=.int .i64 (i:Nat)/\i<=N'/\N'<=i+gg/\Hid (∀ j,j<i->lc j=P' ^ M')/\Below w2.heap.size w2 wx)
 case atStart=>exact ⟨0,rfl,by omega,by omega,hid fun _ h=>absurd h (by omega),Below.refl _ _⟩
 case round =>
  obtain ⟨i,rfl,hi,hig,HLE,hBx⟩:=hrel
  have hi0:(0:Int)<=(i:Int):=by omega
  have K3:=hid hBx
  obtain ⟨w4,hw4⟩:∃ X,X=wr:=⟨_,rfl⟩
  subst hw4
  clear hBx
  obtain ⟨q0,q1,q2,q3,q4⟩:=HBOX.out _ (onS KB.out K3.out)
  by_cases hin:i<N'
  ·have hin':(i:Int)<(N':Int):=by omega
   have him:i<m:=by have:=HMN.out; omega
   have him':(i:Int)<(m:Int):=by omega
   obtain ⟨b1,o1,RA,rc,hTe,hb1,x0,h1,h2,h3,h4⟩:=HCC.out i him
   subst hTe
   replace x0:=cellS (onS HB.out (onS KB.out K3.out)) x0;clear h1 h2 h3 h4 hb1
   obtain ⟨li,hli⟩:∃ l,l=lc i:=⟨_,rfl⟩
   rw [<-hli] at x0
   have HLI:=hid hli
   clear hli
   go_upto_region 9 with fail
   have HSS:Hid (∀ X,Below w4.heap.size w4 X->X.cell? ⟨b0,0,none⟩=some (.int .i64 (P':Int))/\X.cell? ⟨b0,1,none⟩=some (.int .i64 (M':Int))/\X.cell? ⟨b0,2,none⟩=some (.slice A k c)/\X.cell? ⟨b1,o1+i,none⟩=some (.slice RA li rc)):=hid fun X hx=>⟨cellS hx q0,cellS hx q1,cellS hx q2,cellS hx x0⟩
   clear q0 q1 q2 q3 q4 x0
   refine wp_region_held_drew (S:=fun X=>X.cell? ⟨b0,0,none⟩=some (.int .i64 (P':Int))/\X.cell? ⟨b0,1,none⟩=some (.int .i64 (M':Int))/\X.cell? ⟨b0,2,none⟩=some (.slice A k c)/\X.cell? ⟨b1,o1+i,none⟩=some (.slice RA li rc)) (by kernel_rfl) (HSS.out _ (Below.refl _ _).drew) (fun hHeld=>?_)
   obtain ⟨w5,hw⟩:∃ W,W=World.drew w4:=⟨_,rfl⟩
   have kb:Below w4.heap.size w4 w5:=by rw [hw]; exact (Below.refl _ _).drew
   rw [<-hw] at hHeld ⊢;clear hw
   have K5:=hid kb
   clear kb
   refine tkq 0 (h:=tkq 1 (h:=tkq 2 (h:=tkq 3 (h:=tkq 4 (h:=tkq 5 (h:=tkq 6 (h:=?_)))))))
   clear hHeld
   refine rdq 7 (h:=fun K hK=>?_)
   go_simp
   go_wp2_with fail
   refine (zbv (P':Int) (M':Int) A k c w5).mono ?_
   rintro e w6 ⟨he,kb⟩
   rw [HORD.out] at he
   subst he
   replace K5:=hid (onS K5.out kb);clear kb
   refine bkq hK (HSS.out _ K5.out) (h:=fun hHeld=>?_)
   clear hK K
   refine tkq 8 (h:=?_)
   refine wpAnyH_done (by kernel_rfl) ?_ _
   clear hHeld;replace K3:=hid (onS K3.out K5.out);clear HSS K5
   by_cases hlq:li=q
   ·have hne:(((li:Nat):Int) != (q:Int))=false:=by simp; omega
    have HLE2:Hid (∀ j,j<i+1->lc j=P' ^ M'):=hid fun j hj=>by
     by_cases e:j=i
     ·rw [e,<-HLI.out,hlq,HQ.out]
     ·exact HLE.out j (by omega)
    clear hlq
    go_wp2
    go_roundg (gk - 1)
    case measure=>omega
    case rel=>exact ⟨i+1,by go_num,by omega,by omega,HLE2,K3.out⟩
   ·have hne:(((li:Nat):Int) != (q:Int))=true:=by simp; omega
    have HNO:Hid (¬ TabOk (P' ^ M') N' m lc):=hid fun h=>hlq (by rw [HLI.out,HQ.out]; exact h.2 i him)
    clear hlq
    go_wp2
    go_ret
    exact ⟨onS HB.out (onS KB.out K3.out),3,rfl,0,HU.out,.inr ⟨rfl,P',M',N',rfl,rfl,rfl,.inl ⟨HNO.out,rfl⟩⟩⟩
  ·have hin':¬ (i:Int)<(N':Int):=by omega
   have HOK:Hid (TabOk (P' ^ M') N' m lc):=hid ⟨HMN.out,fun j hj=>HLE.out j (by have:=HMN.out; omega)⟩
   go_wp2_with fail
   refine (yaN CA m cc lc C w4 (HCC.out.on (onS HB.out (onS KB.out K3.out))) (by omega)).mono ?_
   rintro e w5 ⟨he,kb⟩
   replace K3:=hid (onS K3.out kb);clear kb q0 q1 q2 q3 q4
   by_cases hpr:PricedP m lc C
   rotate_left
   ·rw [decide_eq_false hpr] at he
    subst he
    have HNP:=hid hpr
    clear hpr
    go_wp2
    go_ret
    exact ⟨onS HB.out (onS KB.out K3.out),6,rfl,0,HU.out,.inr ⟨rfl,P',M',N',rfl,rfl,rfl,.inr (.inl ⟨HOK.out,HNP.out,rfl⟩)⟩⟩
   rw [decide_eq_true hpr] at he
   subst he
   have HPR:=hid hpr
   clear hpr
   obtain ⟨q0,q1,q2,q3,q4⟩:=HBOX.out _ (onS KB.out K3.out)
   go_wp2_with fail
   refine (yaW (P':Int) (M':Int) A k c f (N':Int) TC n d ln V w5 (HI.out.on (onS HB.out (onS KB.out K3.out))) (HT.out.on (onS HB.out (onS KB.out K3.out)))).mono ?_
   rintro e w6 ⟨kb,v,rfl,u2,hu2,hv⟩
   obtain rfl:u2=0:=FirstErr.unique hu2 HU.out
   replace K3:=hid (onS K3.out kb);clear kb hu2 q0 q1 q2 q3 q4
   rcases hv with ⟨h0,_⟩ | ⟨_,P2,M2,N2,e1,e2,e3,pr,se,h1,h2,h3⟩
   ·exact absurd rfl h0
   obtain rfl:P'=P2:=by omega
   obtain rfl:M'=M2:=by omega
   obtain rfl:N'=N2:=by omega
   have HV:Hid (ArgsV (P':Int) (M':Int) k f (N':Int) n ln V m lc C v):=hid ⟨0,HU.out,.inr ⟨rfl,P',M',N',rfl,rfl,rfl,.inr (.inr ⟨HOK.out,HPR.out,pr,se,h1,h2,h3⟩)⟩⟩
   clear h1 h2 h3 e1 e2 e3
   go_wp2
   go_ret
   exact ⟨onS HB.out (onS KB.out K3.out),v,rfl,HV.out⟩
theorem ybo {q n N:Nat} {add mul:Nat->Nat->Nat} {pv:Nat->Nat} {V R:Nat->Nat->Nat} {pr se:Nat->Nat} (hL:FieldLaws q add mul) (h:SpanF q n N pv R) (hV:∀ i,i<n->∀ j,j<N->V i j<q) (hS:SameSp q add mul N n n V R) (hd:∀ i j,i<j->j<n->lE (R i) N≠lE (R j) N)
  (hp:ProfIs q add mul n N V pr) (hs:SecsIs q add mul n N V se):SizeOk q N pr se↔SizeIn q n N pv R:=by
 have e1:powS q pr (N+1)=powS q (fun i=>cntB (actA pv R N i) n) (N+1):=zcO (N+1) fun i hi=>by
  obtain ⟨a,b,ha,hb,e⟩:=hp i hi
  have:=SpanF.prof hL h hV hS hd (i:=i) (by omega) ha hb
  omega
 have e2:powS q se N=powS q (fun i=>cntB (actE pv R N i) n) N:=zcO N fun i hi=>by
  obtain ⟨a,b,ha,hb,e⟩:=hs i hi
  have:=SpanF.sects hL h hV hS hd hi ha hb
  omega
 unfold SizeOk SizeIn
 rw [e1,e2]
theorem yaq (A B:Option Addr) (n c d:Nat) (f g:Nat->Int) (w:World) (ha:IntsR w w.heap.size A n f) (hb:IntsR w w.heap.size B n g) (hn:n<=140737488351232) :
  Calls Tryz.prog 20 #[.slice A n c,.slice B n d] w fun e w'=>∃ r:Int,e=.returned (.int .i64 r)/\((r = -1/\LexLt f g n)∨(r=1/\LexLt g f n)∨(r=0/\∀ i,i<n->f i=g i))/\Below w.heap.size w w':=by
 have HA:=hid ha
 have HB:=hid hb
 clear ha hb
 go_enter Tryz.func20, Tryz.ntmps20
 go_wp2
 go_loopg [5] n (fun gg iv wx=>∃ k:Nat,iv=.int .i64 (k:Nat)/\k<=n/\n<=k+gg/\(∀ i,i<k->f i=g i)/\Below w.heap.size w wx)
 case atStart=>exact ⟨0,rfl,by omega,by omega,fun i hi=>absurd hi (by omega),Below.refl _ _⟩
 case round =>
  obtain ⟨k,rfl,hk,hkg,heq,hW⟩:=hrel
  have hk0:(0:Int)<=(k:Int):=by omega
  have HEQ:=hid heq
  clear heq
  by_cases hlt:k<n
  ·have hlt':(k:Int)<(n:Int):=by omega
   have hd:decide ((k:Int)<(n:Int))=true:=by simp; omega
   obtain ⟨ab,ao,rfl,hab,x0⟩:=(HA.out.on hW).at hlt
   obtain ⟨bb,bo,rfl,hbb,y0⟩:=(HB.out.on hW).at hlt
   obtain ⟨x,hx⟩:∃ x,x=f k:=⟨_,rfl⟩
   obtain ⟨y,hy⟩:∃ y,y=g k:=⟨_,rfl⟩
   rw [<-hx] at x0;rw [<-hy] at y0
   have HX:=hid hx
   have HY:=hid hy
   clear hx hy
   by_cases h1:x<y
   ·go_wp2
    go_quiet (fail)
    go_wp2
    go_ret
    exact ⟨-1,rfl,.inl ⟨rfl,k,hlt,HEQ.out,by rw [<-HX.out,<-HY.out]; omega⟩,zae hW _⟩
   ·by_cases h2:y<x
    ·have h2':x > y:=h2
     go_wp2
     go_quiet (fail)
     go_wp2
     go_quiet (fail)
     go_wp2
     go_ret
     exact ⟨1,rfl,.inr (.inl ⟨rfl,k,hlt,fun t ht=>(HEQ.out t ht).symm,by rw [<-HX.out,<-HY.out]; omega⟩),zae (zae hW _) _⟩
    ·have h2':¬ x > y:=h2
     go_wp2
     go_quiet (fail)
     go_wp2
     go_quiet (fail)
     go_wp2
     go_roundg (gk - 1)
     case measure=>omega
     case rel =>
      refine ⟨k+1,by go_num,by omega,by omega,fun i hi=>?_,zae hW _⟩
      by_cases e:i=k
      ·subst e; rw [<-HX.out,<-HY.out]; omega
      ·exact HEQ.out i (by omega)
  ·have hlt':¬ (k:Int)<(n:Int):=by omega
   have hd:decide ((k:Int)<(n:Int))=false:=by simp; omega
   have h3:¬ (n:Int)<(n:Int):=by omega
   have h4:¬ (n:Int) > (n:Int):=by omega
   go_wp2
   go_ret
   exact ⟨0,rfl,.inr (.inr ⟨rfl,fun i hi=>HEQ.out i (by omega)⟩),hW⟩
def EncPost (q:Nat) (add mul:Nat->Nat->Nat) (n N:Nat) (V:Nat->Nat->Nat) (l:Nat) (u:Nat->Int) (w:World) (e:Ending) (w':World):Prop :=
 Below w.heap.size w w'/\((∃ v:Int,v≠0/\e=.returned (.tuple #[.slice none 0 0,.int .i64 v])/\FirstErr (WordErrs q n l u) v) ∨
  (l=n/\(∀ i,i<n->0<=u i/\u i<(q:Int))/\∃ g,e=.returned (.tuple #[.slice (some ⟨g,0,none⟩) N N,.int .i64 0])/\w.heap.size<=g/\w'.rowIs g 3 N (fun j=>.int .i64 (spE add mul V (fun i=>(u i).toNat) n j:Nat))))
theorem yaC (P M:Nat) (m:Nat->Nat) (A:Option Addr) (k c N:Nat) (T:Option Addr) (n d:Nat) (V:Nat->Nat->Nat) (U:Option Addr) (l uc:Nat) (u:Nat->Int) (w:World) (h:CodeR w P M m A k N T n V) (hnN:n<=1048576) (hu:IntsR w w.heap.size U l u) (hn:l<=9223372036854775807) :
  Calls Tryz.prog 19 #[.agg #[.int .i64 (P:Nat),.int .i64 (M:Nat),.slice A k c,.int .i64 (N:Nat),.slice T n d],.slice U l uc] w (EncPost (P ^ M) (addF P M) (mulF P M m) n N V l u w):=by
 have HC:=hid h
 have HU:=hid hu
 have hN:=h.ln2
 have hfo:=h.fld.1
 have hkm:=h.km
 clear h hu
 have rf:=zai (w:=w) (a:=.int .i64 (P:Nat)) (b:=.int .i64 (M:Nat)) (c:=.slice A k c) (d:=.int .i64 (N:Nat)) (e:=.slice T n d) (T := 27)
 have hB:Below w.heap.size w (w.alloc (.cells #[.int .i64 (P:Nat),.int .i64 (M:Nat),.slice A k c,.int .i64 (N:Nat),.slice T n d] 27)):=(Below.refl _ _).alloc (Nat.le_refl _) _
 obtain ⟨w1,hw1⟩:∃ W,W=w.alloc (.cells #[.int .i64 (P:Nat),.int .i64 (M:Nat),.slice A k c,.int .i64 (N:Nat),.slice T n d] 27):=⟨_,rfl⟩
 rw [<-hw1] at hB rf
 go_enter Tryz.func19, Tryz.ntmps19
 go_upto_region 1 with fail
 rw [<-hw1];clear hw1
 have q0:w1.cell? ⟨w.heap.size,0,none⟩=some (.int .i64 (P:Nat)):=rf.cell (i:=0) (by omega)
 have q1:w1.cell? ⟨w.heap.size,1,none⟩=some (.int .i64 (M:Nat)):=rf.cell (i:=1) (by omega)
 have q2:w1.cell? ⟨w.heap.size,2,none⟩=some (.slice A k c):=rf.cell (i:=2) (by omega)
 have q3:w1.cell? ⟨w.heap.size,3,none⟩=some (.int .i64 (N:Nat)):=rf.cell (i:=3) (by omega)
 have q4:w1.cell? ⟨w.heap.size,4,none⟩=some (.slice T n d):=rf.cell (i:=4) (by omega)
 go_wp2_with fail
 have h1:=HC.out.on hB
 refine (zbz (P:Int) (M:Int) A k c _ (N:Int) T n d _ _ w1 h1.ints h1.rows).mono ?_
 rintro e w2 ⟨v,rfl,hv,kb⟩
 obtain rfl:v=0:=FirstErr.unique hv HC.out.errs
 replace hB:=onS hB kb;replace q0:=cellS kb q0;replace q1:=cellS kb q1;replace q2:=cellS kb q2;replace q3:=cellS kb q3;replace q4:=cellS kb q4;clear kb rf hv h1
 go_wp2_with fail
 refine (yar P M A k c U l uc n u w2 hfo (HU.out.on hB) hn).mono ?_
 rintro e w3 ⟨v,rfl,hv,kb⟩
 have HV:=hid hv
 replace hB:=onS hB kb;replace q0:=cellS kb q0;replace q1:=cellS kb q1;replace q2:=cellS kb q2;replace q3:=cellS kb q3;replace q4:=cellS kb q4;clear hv kb
 by_cases hv0:v=0
 rotate_left
 ·have hne:(v != 0)=true:=by simp [hv0]
  have HV0:=hid hv0
  have HB:=hid hB
  clear hv0 q0 q1 q2 q3 q4 hB
  go_wp2
  go_ret2
  exact ⟨HB.out,.inl ⟨v,HV0.out,rfl,HV.out⟩⟩
 ·subst hv0
  have hl:l=n/\∀ i,i<n->0<=u i/\u i<((P ^ M:Nat):Int):=by
   rcases HV.out with ⟨_,h2⟩ | ⟨h1,h2⟩
   ·exact absurd h2 (by omega)
   ·rcases h2 with ⟨_,h4⟩ | ⟨h3,_⟩
    ·exact absurd h4 (by omega)
    ·exact ⟨h1,fun i hi=>h3 i (by omega)⟩
  obtain ⟨rfl,hin⟩:=hl
  have HIN:=hid hin
  clear hin HV
  have hne:((0:Int) != 0)=false:=by simp
  go_wp2_with fail
  have h1:=HC.out.on hB
  refine (yam P M A k c m U uc (fun i=>(u i).toNat) T l d N V w3 h1.fld h1.mod h1.km ((HU.out.on hB).congr fun i hi=>by have:=HIN.out i hi; omega) (fun i hi=>by have:=HIN.out i hi; omega) h1.rows h1.lt (by omega) hnN).mono ?_
  rintro e w4 ⟨g,rfl,hg,hrow,kb⟩
  have HG:=hid (Nat.le_trans hB.size hg)
  have HROW:=hid hrow
  have HB:=hid (onS hB kb)
  clear hg hrow kb hB q0 q1 q2 q3 q4 h1 hne
  go_wp2
  go_ret2
  exact ⟨HB.out,.inr ⟨rfl,HIN.out,g,rfl,HG.out,HROW.out⟩⟩
theorem yaX (A:Option Addr) (n c:Nat) (f:Nat->Nat) (w:World) (h:IntsR w w.heap.size A n (fun i=>(f i:Nat))) (hn:n<=1048576) :
  Calls Tryz.prog 124 #[.slice A n c] w (IffPost (∀ i,i<n->f i=0) w):=by
 have HA:=hid h
 clear h
 go_enter Tryz.func124, Tryz.ntmps124
 go_wp2
 go_loopg [3] n (fun gg iv wx=>∃ k:Nat,iv=.int .i64 (k:Nat)/\k<=n/\n<=k+gg/\Hid (∀ i,i<k->f i=0)/\Below w.heap.size w wx)
 case atStart=>exact ⟨0,rfl,by omega,by omega,fun i hi=>absurd hi (by omega),Below.refl _ _⟩
 case round =>
  obtain ⟨k,rfl,hk,hkg,HEQ,hW⟩:=hrel
  have hk0:(0:Int)<=(k:Int):=by omega
  by_cases hlt:k<n
  ·have hlt':(k:Int)<(n:Int):=by omega
   obtain ⟨ab,ao,rfl,hab,x0⟩:=(HA.out.on hW).at hlt
   obtain ⟨x,hx⟩:∃ x,x=f k:=⟨_,rfl⟩
   simp only [<-hx] at x0
   have HX:=hid hx
   clear hx
   by_cases h1:x=0
   ·have h1':((x:Int) != 0)=false:=by simp [h1]
    have H1:=hid h1
    clear h1
    go_wp2
    go_roundg (gk - 1)
    case measure=>omega
    case rel =>
     refine ⟨k+1,by go_num,by omega,by omega,fun i hi=>?_,hW⟩
     by_cases e:i=k
     ·subst e; rw [<-HX.out]; exact H1.out
     ·exact HEQ.out i (by omega)
   ·have h1':((x:Int) != 0)=true:=by simp; omega
    have H1:=hid h1
    clear h1
    go_wp2
    go_ret
    exact zau (fun h=>H1.out (by rw [HX.out]; exact h k hlt)) hW
  ·have hlt':¬ (k:Int)<(n:Int):=by omega
   obtain rfl:k=n:=by omega
   go_wp2
   go_ret
   exact za3 HEQ.out hW
theorem yaD {q:Nat} (T:Option Addr) (n c N:Nat) (p:Nat->Nat) (V:Nat->Nat->Nat) (w:World) (h:MRows w T n N V) (hE:EchN q n N N n p V) (hN:N<=1048576) (hn:n<=1048576) :
  Calls Tryz.prog 183 #[.slice T n c] w fun e w'=>∃ lv,e=.returned lv/\Own w' w.heap.size 3 1 lv n (fun j _=>.int .i64 (p j:Nat))/\Below w.heap.size w w':=by
 have HM:=hid h
 have HE:=hid hE
 clear h hE
 go_enter Tryz.func183, Tryz.ntmps183
 go_wp2
 go_loopg [3,4] n (fun gg sv iv wx=>∃ i:Nat,iv=.int .i64 (i:Nat)/\i<=n/\n<=i+gg/\Own wx w.heap.size 3 1 sv i (fun j _=>.int .i64 (p j:Nat))/\Below w.heap.size w wx)
 case atStart=>exact ⟨0,rfl,by omega,by omega,Own.nil _ _ _ _ _,Below.refl _ _⟩
 case round =>
  obtain ⟨i,rfl,hi,hig,hO,hB⟩:=hrel
  have hi0:(0:Int)<=(i:Int):=by omega
  obtain ⟨SA,sc,hsv⟩:=hO.shape
  subst hsv
  by_cases hlt:i<n
  ·have hlt':(i:Int)<(n:Int):=by omega
   have hpN:=HE.out.pvlt i hlt
   have HL:=hid (HE.out.lead i hlt)
   have HONE:=hid (HE.out.one i hlt)
   obtain ⟨P0,hP0⟩:∃ x,x=p i:=⟨_,rfl⟩
   rw [<-hP0] at hpN HL HONE
   have HP0:=hid hP0
   clear hP0
   obtain ⟨tb,to0,RA,rc,rfl,htb,t0,h1,h2,hrow,_⟩:=(HM.out.on hB) i hlt
   have HROW:=hid hrow
   clear hrow
   have HO:=hid hO
   clear hO
   go_wp2
   obtain ⟨gO,hgO⟩:∃ g,g=gk:=⟨_,rfl⟩
   go_loopg [5] P0 (fun gg jv wx=>∃ j:Nat,jv=.int .i64 (j:Nat)/\j<=P0/\P0<=j+gg/\wx=wr)
   case atStart=>exact ⟨0,rfl,by omega,by omega,rfl⟩
   case round =>
    obtain ⟨j,rfl,hj,hjg,rfl⟩:=hrel
    have hj0:(0:Int)<=(j:Int):=by omega
    have hjN:(j:Int)<(N:Int):=by omega
    have hjn:j<N:=by omega
    obtain ⟨rb,ro,rfl,hrb,x0⟩:=HROW.out.at hjn
    obtain ⟨x,hx⟩:∃ x,x=V i j:=⟨_,rfl⟩
    simp only [<-hx] at x0
    have HX:=hid hx
    clear hx
    by_cases hlt2:j<P0
    ·have hz:x=0:=by rw [HX.out]; exact HL.out j hlt2
     have hz':((x:Int) == 0)=true:=by simp [hz]
     clear hz
     go_wp2
     go_roundg (gk - 1)
     case measure=>omega
     case rel=>exact ⟨j+1,by go_num,by omega,by omega,rfl⟩
    ·obtain rfl:j=P0:=by omega
     have hz:x=1:=by rw [HX.out]; exact HONE.out
     have hz':((x:Int) == 0)=false:=by simp [hz]
     clear hz
     go_upto_region 8 with fail
     have kb:=(Below.refl wr.heap.size wr).alloc (Nat.le_refl _) (Obj.cells #[Value.int .i64 (j:Nat)] 3)
     have HO8:=hid (HO.out.on kb)
     have HB8:=hid (onS hB kb)
     have HC8:Hid ((wr.alloc (Obj.cells #[Value.int .i64 (j:Nat)] 3)).cell? ((⟨wr.heap.size,0,none⟩:Addr).add 0)=some (.int .i64 (j:Nat))):=tbox2
     have HZ8:Hid (w.heap.size<=(wr.alloc (Obj.cells #[Value.int .i64 (j:Nat)] 3)).heap.size):=HB8.out.size
     have HLL:Hid (i<=1048576):=by show _<=_; omega
     clear kb
     go_upto_region 4 with (first | (at_builtin; (refine zap rfl (.tmp 31) (.tmp 33) rfl HO8.out rfl (ad:=⟨wr.heap.size,0,none⟩) (c:=1) rfl HC8.out HZ8.out HLL.out ?_); intro v9 w9 o1 o2 o3))
     have HO9:=hid (o1.congr (f':=fun i _=>.int .i64 (p i:Nat)) fun t _ _ _=>by
      by_cases e:t=i
      ·subst e; rw [if_pos rfl,HP0.out]
      ·rw [if_neg e])
     have HB9:=hid (HB8.out.grown o2 HZ8.out fun q e=>(HO8.out.lt _ e).1)
     clear o1 o2 o3 HO8 HB8 HC8 HZ8 hB HO
     go_wp2
     go_roundg (gO - 1)
     case measure=>omega
     case rel=>exact ⟨i+1,by go_num,by omega,by omega,HO9.out,HB9.out⟩
  ·have hlt':¬ (i:Int)<(n:Int):=by omega
   obtain rfl:i=n:=by omega
   have HO:=hid hO
   clear hO
   go_wp2
   go_ret
   exact ⟨_,rfl,HO.out,hB⟩
def IntsPost (N:Nat) (f:Nat->Nat) (w:World) (e:Ending) (w':World):Prop:=∃ A2 c2,e=.returned (.slice A2 N c2)/\IntsR w' w'.heap.size A2 N (fun j=>(f j:Nat))/\Below w.heap.size w w'
theorem yaY (P M:Nat) (m:Nat->Nat) (A:Option Addr) (k c N:Nat) (T:Option Addr) (n d:Nat) (V:Nat->Nat->Nat) (U:Option Addr) (uc:Nat) (u p:Nat->Nat) (w:World) (h:CodeR w P M m A k N T n V) (hE:EchN (P ^ M) n N N n p V) (hu:IntsR w w.heap.size U N (fun i=>(u i:Nat))) (huq:∀ i,i<N->u i<P ^ M) :
  Calls Tryz.prog 125 #[.agg #[.int .i64 (P:Nat),.int .i64 (M:Nat),.slice A k c],.slice T n d,.slice U N uc] w (IntsPost N (restF P M m p V u n) w):=by
 have HC:=hid h
 have HU:=hid hu
 have hN:=h.ln2
 have hfo:=h.fld.1
 have HF:=hid h.fld
 have HUQ:=hid huq
 have HE:=hid hE
 have hnN:n<=N:=hE.le_c
 obtain ⟨rv,hrv⟩:∃ r,r=restF P M m p V u:=⟨_,rfl⟩
 rw [<-hrv]
 have HRV:=hid hrv
 have HLT:Hid (∀ t j,j<N->rv t j<P ^ M):=fun t j hj=>by rw [HRV.out]; exact yaz (fieldLaws HF.out) HUQ.out t j hj
 clear h hu huq hE hrv
 have hB:Below w.heap.size w (w.alloc (.cells #[.int .i64 (P:Nat),.int .i64 (M:Nat),.slice A k c] 24)):=(Below.refl _ _).alloc (Nat.le_refl _) _
 have rf:=zaf (w:=w) (a:=.int .i64 (P:Nat)) (b:=.int .i64 (M:Nat)) (c:=.slice A k c) (T := 24)
 obtain ⟨w0,hw0⟩:∃ W,W=w.alloc (.cells #[.int .i64 (P:Nat),.int .i64 (M:Nat),.slice A k c] 24):=⟨_,rfl⟩
 rw [<-hw0] at hB rf
 go_enter Tryz.func125, Tryz.ntmps125
 go_upto_region 1 with fail
 rw [<-hw0];clear hw0
 go_wp2_with fail
 refine (yaD T n d N p V w0 (HC.out.on hB).rows HE.out (by omega) (by omega)).mono ?_
 rintro e w1 ⟨lv,rfl,hO,kb⟩
 replace rf:=zab rf kb
 have HO:=hid (hO.mono hB.size)
 replace hB:=onS hB kb;clear kb hO
 have HPW:=hid (HO.out.shape)
 obtain ⟨PA,pc,hlv⟩:=HPW.out
 subst hlv
 clear HPW
 go_upto_region 2 with fail
 have kb:=(Below.refl w1.heap.size w1).alloc (Nat.le_refl _) (Obj.cells #[] 3)
 have HO8:=hid (HO.out.on kb)
 have HR8:=hid (zab rf kb)
 have HB8:=hid (onS hB kb)
 have HN8:Hid (Own (w1.alloc (Obj.cells #[] 3)) w1.heap.size 3 1 (.slice (some ⟨w1.heap.size,0,none⟩) 0 0) 0 (fun j _=>.int .i64 (u j:Nat))):=Own.new (Nat.le_refl _) (Nat.le_refl _) (by unfold maxLen; omega) (by simp) (fun k hk=>absurd hk (by omega))
 have HU8:Hid (IntsR (w1.alloc (Obj.cells #[] 3)) (w1.alloc (Obj.cells #[] 3)).heap.size U N (fun j=>(u (0+j):Nat))):=((HU.out.on hB).on kb).congr fun j _=>by rw [Nat.zero_add]
 have HZ8:Hid (w1.heap.size<=(w1.alloc (Obj.cells #[] 3)).heap.size):=kb.size
 have HLL:Hid (0+N<=1048576):=by show _<=_; omega
 go_upto_region 3 with (first | (at_builtin; (refine yaf rfl (.tmp 12) (.tmp 13) rfl HN8.out rfl (A:=U) (c:=uc) (m:=N) rfl HU8.out HZ8.out HLL.out ?_); intro v9 w9 o1 o2 o3))
 have HO9:=hid (HO8.out.kept o2 (.inr fun e=>absurd (HO.out.lt _ e).2 (Nat.lt_irrefl _)))
 have HB9:=hid (HB8.out.grown o2 HB8.out.size fun q e=>by have e1:w1.heap.size=q:=Option.some.inj e; have:=hB.size; omega)
 have HR9:=hid (HR8.out.of_block (o2.block _ HR8.out.lt fun e=>by have e1:w.heap.size=w1.heap.size:=Option.some.inj e; have:=rf.lt; omega))
 rw [Nat.zero_add] at o1
 obtain ⟨VA,vc,hv9⟩:=o1.shape
 subst hv9
 have HV9:Hid (IntsR w9 w9.heap.size VA N (fun j=>(rv 0 j:Nat))):=by
  show IntsR _ _ _ _ _
  rw [HRV.out]
  exact o1.rd rfl
 have hw9:w.heap.size<w9.heap.size:=HR9.out.lt
 clear o1 o2 o3 HN8 HU8 HZ8 HLL HO8 HR8 HB8 kb HO rf hB
 go_wp2
 go_loopg [8,9] n (fun gg sv iv wx=>∃ i:Nat,∃ SA sc,iv=.int .i64 (i:Nat)/\sv=.slice SA N sc/\i<=n/\n<=i+gg/\Hid (IntsR wx wx.heap.size SA N (fun j=>(rv i j:Nat)))/\Below w9.heap.size w9 wx)
 case atStart=>exact ⟨0,_,_,rfl,rfl,by omega,by omega,HV9,Below.refl _ _⟩
 case round =>
  obtain ⟨i,SA,sc,rfl,rfl,hi,hig,HV,hB⟩:=hrel
  have hi0:(0:Int)<=(i:Int):=by omega
  by_cases hlt:i<n
  ·have hlt':(i:Int)<(n:Int):=by omega
   obtain ⟨tb,to0,RA,rc,rfl,htb,t0,h1,h2,hrow,_⟩:=((HC.out.on HB9.out).on hB).rows i hlt
   have HROW:=hid hrow
   obtain ⟨pb,po,rfl,hpb,p0⟩:=((HO9.out.on hB).rd rfl).at1 hlt
   have hpN:=HE.out.pvlt i hlt
   obtain ⟨x,hx⟩:∃ x,x=p i:=⟨_,rfl⟩
   rw [<-hx] at hpN p0
   have HX:=hid hx
   obtain ⟨ub,uo,rfl,hub,u0⟩:=((HU.out.on HB9.out).on hB).at hpN
   have hyq:=HUQ.out x hpN
   obtain ⟨y,hy⟩:∃ y,y=u x:=⟨_,rfl⟩
   simp only [<-hy] at u0 hyq
   have HY:=hid hy
   have rf:=zab HR9.out hB
   have q0:wr.cell? ⟨w.heap.size,0,none⟩=some (.int .i64 (P:Nat)):=rf.cell (i:=0) (by omega)
   have q1:wr.cell? ⟨w.heap.size,1,none⟩=some (.int .i64 (M:Nat)):=rf.cell (i:=1) (by omega)
   have q2:wr.cell? ⟨w.heap.size,2,none⟩=some (.slice A k c):=rf.cell (i:=2) (by omega)
   have hx0:(0:Int)<=(x:Int):=by omega
   have hxN:(x:Int)<(N:Int):=by omega
   obtain ⟨w4,hw4⟩:∃ X,X=wr:=⟨_,rfl⟩
   subst hw4
   clear hrow hx hy
   go_wp2
   refine wp_region_held_drew (S:=fun w'=>w'.cell? ⟨w.heap.size,0,none⟩=some (.int .i64 (P:Nat))/\w'.cell? ⟨w.heap.size,1,none⟩=some (.int .i64 (M:Nat))/\w'.cell? ⟨w.heap.size,2,none⟩=some (.slice A k c)/\w'.cell? ⟨tb,to0+i,none⟩=some (.slice RA N rc)/\w'.cell? ⟨pb,po+i,none⟩=some (.int .i64 (x:Nat))/\w'.cell? ⟨ub,uo+x,none⟩=some (.int .i64 (y:Nat))) (by kernel_rfl) ⟨cellS (Below.refl _ _).drew q0,cellS (Below.refl _ _).drew q1,cellS (Below.refl _ _).drew q2,cellS (Below.refl _ _).drew t0,cellS (Below.refl _ _).drew p0,cellS (Below.refl _ _).drew u0⟩ (fun hHeld=>?_)
   obtain ⟨w5,hw⟩:∃ W,W=World.drew w4:=⟨_,rfl⟩
   have kb:Below w4.heap.size w4 w5:=by rw [hw]; exact (Below.refl _ _).drew
   rw [<-hw] at hHeld ⊢;clear hw;replace rf:=zab rf kb;replace hB:=onS hB kb;replace t0:=cellS kb t0;replace p0:=cellS kb p0;replace u0:=cellS kb u0;replace HV:=hid (HV.out.on kb);replace HROW:=hid (HROW.out.on kb);clear kb q0 q1 q2
   refine tkq 0 (h:=tkq 1 (h:=tkq 2 (h:=tkq 3 (h:=tkq 4 (h:=tkq 5 (h:=tkq 6 (h:=tkq 7 (h:=tkq 8 (h:=tkq 9 (h:=tkq 11 (h:=tkq 12 (h:=tkq 13 (h:=tkq 14 (h:=?_))))))))))))))
   refine rdq 10 (h:=fun K hK=>?_)
   go_simp
   go_wp2_with fail
   refine (zdh P M A k c (y:Int) w5 hfo).mono ?_
   rintro e w6 ⟨rfl,kb⟩
   rw [zak hyq]
   have hzq:negF P M y<P ^ M:=zbp (by have:=hfo.1; omega)
   obtain ⟨z,hz⟩:∃ z,z=negF P M y:=⟨_,rfl⟩
   rw [<-hz] at hzq ⊢
   have HZ:=hid hz
   clear hz;replace rf:=zab rf kb;replace hB:=onS hB kb;replace t0:=cellS kb t0;replace p0:=cellS kb p0;replace u0:=cellS kb u0;replace HV:=hid (HV.out.on kb);replace HROW:=hid (HROW.out.on kb);clear kb
   refine bkq hK ⟨rf.cell (i:=0) (by omega),rf.cell (i:=1) (by omega),rf.cell (i:=2) (by omega),t0,p0,u0⟩ (h:=fun hHeld=>?_)
   clear hK K
   refine rdq 15 (h:=fun K hK=>?_)
   go_simp
   go_wp2_with fail
   have hC6:=(HC.out.on HB9.out).on hB
   refine (zdl P M A k c m z SA RA N sc N rc (rv i) (V i) w6 hfo hC6.mod HC.out.km hzq HV.out (fun j hj=>HLT.out i j hj) HROW.out (fun j hj=>HC.out.lt i hlt j hj) (Nat.le_refl _) (by omega)).mono ?_
   rintro e w7 ⟨g,rfl,hg,hrg,kb⟩
   clear hC6
   have HV7:Hid (IntsR w7 w7.heap.size (some ⟨g,0,none⟩) N (fun j=>(rv (i+1) j:Nat))):=by
    have h3:=rowInts hrg
    have h4:∀ j,rv (i+1) j=atF P M m z (rv i) (V i) j:=fun j=>by rw [HRV.out,HZ.out,HY.out,HX.out]; rfl
    exact h3.congr fun j _=>by rw [h4]
   replace rf:=zab rf kb;replace hB:=onS hB kb;replace t0:=cellS kb t0;replace p0:=cellS kb p0;replace u0:=cellS kb u0;clear kb hg hrg HV HROW
   refine bkq hK ⟨rf.cell (i:=0) (by omega),rf.cell (i:=1) (by omega),rf.cell (i:=2) (by omega),t0,p0,u0⟩ (h:=fun hHeld=>?_)
   clear hK K
   refine tkq 16 (h:=?_)
   refine wpAnyH_done (by kernel_rfl) ?_ _
   clear hHeld rf t0 p0 u0
   go_wp2
   go_roundg (gk - 1)
   case measure=>omega
   case rel=>exact ⟨i+1,_,_,by go_num,rfl,by omega,by omega,HV7,hB⟩
  ·obtain rfl:i=n:=by omega
   have hlt':¬ (i:Int)<(i:Int):=by omega
   have hBB:=onS HB9.out hB
   go_wp2
   go_ret
   exact ⟨_,_,rfl,HV.out,hBB⟩
theorem ybp (P M:Nat) (m:Nat->Nat) (A:Option Addr) (k c N:Nat) (T:Option Addr) (n d:Nat) (V:Nat->Nat->Nat) (U:Option Addr) (uc:Nat) (u:Nat->Nat) (w:World) (h:CodeR w P M m A k N T n V) (hu:IntsR w w.heap.size U N (fun i=>(u i:Nat))) (huq:∀ i,i<N->u i<P ^ M) :
  Calls Tryz.prog 62 #[.agg #[.int .i64 (P:Nat),.int .i64 (M:Nat),.slice A k c],.slice T n d,.slice U N uc] w (IffPost (InSp (P ^ M) (addF P M) (mulF P M m) n N V u) w):=by
 have HC:=hid h
 have HU:=hid hu
 have hN:=h.ln2
 have HUQ:=hid huq
 obtain ⟨p,hE⟩:=h.rref
 have HE:=hid hE
 have hRZ:=hid (ya5 (fieldLaws h.fld) (by have:=h.fld.1.1; omega) hE huq)
 clear h hu huq hE
 have hB:Below w.heap.size w (w.alloc (.cells #[.int .i64 (P:Nat),.int .i64 (M:Nat),.slice A k c] 24)):=(Below.refl _ _).alloc (Nat.le_refl _) _
 have rf:=zaf (w:=w) (a:=.int .i64 (P:Nat)) (b:=.int .i64 (M:Nat)) (c:=.slice A k c) (T := 24)
 obtain ⟨w0,hw0⟩:∃ W,W=w.alloc (.cells #[.int .i64 (P:Nat),.int .i64 (M:Nat),.slice A k c] 24):=⟨_,rfl⟩
 rw [<-hw0] at hB rf
 go_enter Tryz.func62, Tryz.ntmps62
 go_upto_region 1 with fail
 rw [<-hw0];clear hw0
 have q0:w0.cell? ⟨w.heap.size,0,none⟩=some (.int .i64 (P:Nat)):=rf.cell (i:=0) (by omega)
 have q1:w0.cell? ⟨w.heap.size,1,none⟩=some (.int .i64 (M:Nat)):=rf.cell (i:=1) (by omega)
 have q2:w0.cell? ⟨w.heap.size,2,none⟩=some (.slice A k c):=rf.cell (i:=2) (by omega)
 go_wp2_with fail
 refine (yaY P M m A k c N T n d V U uc u p w0 (HC.out.on hB) HE.out (HU.out.on hB) HUQ.out).mono ?_
 rintro e w1 ⟨A2,c2,rfl,hr,kb⟩
 have HR:=hid hr
 replace hB:=onS hB kb;clear kb hr q0 q1 q2 rf
 go_wp2_with fail
 refine (yaX A2 N c2 _ w1 HR.out (by omega)).mono ?_
 rintro e w2 ⟨v,rfl,hv,kb⟩
 have HV:=hid (hv.trans hRZ.out)
 replace hB:=onS hB kb;clear kb hv HR
 go_wp2
 go_ret
 exact ⟨v,rfl,HV.out,hB⟩
def HasPost (P M:Nat) (m:Nat->Nat) (N n:Nat) (V:Nat->Nat->Nat) (l:Nat) (u:Nat->Int) (w:World) (e:Ending) (w':World):Prop :=
 Below w.heap.size w w'/\∃ (b:Bool) (v:Int),e=.returned (.tuple #[.bool b,.int .i64 v])/\FirstErr (WordErrs (P ^ M) N l u) v/\(v=0->(b=true↔InSp (P ^ M) (addF P M) (mulF P M m) n N V (fun i=>(u i).toNat)))/\(v≠0->b=false)
theorem ybc (P M:Nat) (m:Nat->Nat) (A:Option Addr) (k c N:Nat) (T:Option Addr) (n d:Nat) (V:Nat->Nat->Nat) (U:Option Addr) (l uc:Nat) (u:Nat->Int) (w:World) (h:CodeR w P M m A k N T n V) (hu:IntsR w w.heap.size U l u) (hn:l<=9223372036854775807) :
  Calls Tryz.prog 17 #[.agg #[.int .i64 (P:Nat),.int .i64 (M:Nat),.slice A k c,.int .i64 (N:Nat),.slice T n d],.slice U l uc] w (HasPost P M m N n V l u w):=by
 have HC:=hid h
 have HU:=hid hu
 have hN:=h.ln2
 clear h hu
 have rf:=zai (w:=w) (a:=.int .i64 (P:Nat)) (b:=.int .i64 (M:Nat)) (c:=.slice A k c) (d:=.int .i64 (N:Nat)) (e:=.slice T n d) (T := 27)
 have hB:Below w.heap.size w (w.alloc (.cells #[.int .i64 (P:Nat),.int .i64 (M:Nat),.slice A k c,.int .i64 (N:Nat),.slice T n d] 27)):=(Below.refl _ _).alloc (Nat.le_refl _) _
 obtain ⟨w1,hw1⟩:∃ W,W=w.alloc (.cells #[.int .i64 (P:Nat),.int .i64 (M:Nat),.slice A k c,.int .i64 (N:Nat),.slice T n d] 27):=⟨_,rfl⟩
 rw [<-hw1] at hB rf
 go_enter Tryz.func17, Tryz.ntmps17
 go_upto_region 1 with fail
 rw [<-hw1];clear hw1
 have q0:w1.cell? ⟨w.heap.size,0,none⟩=some (.int .i64 (P:Nat)):=rf.cell (i:=0) (by omega)
 have q1:w1.cell? ⟨w.heap.size,1,none⟩=some (.int .i64 (M:Nat)):=rf.cell (i:=1) (by omega)
 have q2:w1.cell? ⟨w.heap.size,2,none⟩=some (.slice A k c):=rf.cell (i:=2) (by omega)
 have q3:w1.cell? ⟨w.heap.size,3,none⟩=some (.int .i64 (N:Nat)):=rf.cell (i:=3) (by omega)
 have q4:w1.cell? ⟨w.heap.size,4,none⟩=some (.slice T n d):=rf.cell (i:=4) (by omega)
 go_wp2_with fail
 refine (yaQ P M m A k c N T n d V U l uc u w1 (HC.out.on hB) (HU.out.on hB) hn).mono ?_
 rintro e w2 ⟨v,rfl,hv,kb⟩
 have HV:=hid hv
 replace rf:=zab rf kb;replace hB:=onS hB kb;clear kb hv q0 q1 q2 q3 q4
 by_cases hv0:v=0
 ·subst hv0
  have HLN:Hid (l=N/\AllIn (P ^ M) l u):=by
   rcases HV.out with ⟨_,h9⟩ | ⟨h1,⟨_,h9⟩ | ⟨h2,_⟩⟩
   ·cases h9
   ·cases h9
   ·exact ⟨h1,h2⟩
  have q0:w2.cell? ⟨w.heap.size,0,none⟩=some (.int .i64 (P:Nat)):=rf.cell (i:=0) (by omega)
  have q1:w2.cell? ⟨w.heap.size,1,none⟩=some (.int .i64 (M:Nat)):=rf.cell (i:=1) (by omega)
  have q2:w2.cell? ⟨w.heap.size,2,none⟩=some (.slice A k c):=rf.cell (i:=2) (by omega)
  have q4:w2.cell? ⟨w.heap.size,4,none⟩=some (.slice T n d):=rf.cell (i:=4) (by omega)
  have hln:=HLN.out.1
  subst hln
  go_wp2_with fail
  have hin:=HLN.out.2
  have huR:IntsR w2 w2.heap.size U l (fun i=>(((u i).toNat:Nat):Int)):=(HU.out.on hB).congr fun i hi=>by have:=(hin i hi).1; show u i=(((u i).toNat:Nat):Int); omega
  refine (ybp P M m A k c l T n d V U uc (fun i=>(u i).toNat) w2 (HC.out.on hB) huR fun i hi=>by have:=hin i hi; omega).mono ?_
  rintro e w3 ⟨b,rfl,hb,kb⟩
  have HBB:=hid hb
  replace hB:=onS hB kb;clear kb hb huR hin q0 q1 q2 q4 rf
  go_wp2
  go_ret2
  exact ⟨hB,b,0,rfl,HV.out,fun _=>HBB.out,fun h=>absurd rfl h⟩
 ·have hvn:(v != 0)=true:=by simpa using hv0
  have HV0:=hid hv0
  clear hv0 rf
  go_wp2
  go_ret2
  exact ⟨hB,false,v,rfl,HV.out,fun h=>absurd h HV0.out,fun _=>rfl⟩
theorem yaZ {C:Nat->Nat->Int} {x:Nat->Nat} {m:Nat} (h:∀ i,i<m->0<=C i (x i)/\C i (x i)<=2147483648):∀ k,k<=m->0<=costW C x k/\costW C x k<=(k:Int)*2147483648
 | 0,_=>by show (0:Int)<=0/\(0:Int)<=_; omega
 | k+1,hk=>by
  have h1:=yaZ h k (by omega)
  have h2:=h k (by omega)
  show 0<=costW C x k+C k (x k)/\costW C x k+C k (x k)<=((k+1:Nat):Int)*2147483648
  omega
theorem yab (CA:Option Addr) (m cc:Nat) (lc:Nat->Nat) (C:Nat->Nat->Int) (WA:Option Addr) (l wc:Nat) (x:Nat->Nat) (w:World) (hC:IntRows w CA m lc C) (hx:IntsR w w.heap.size WA l (fun i=>((x i:Nat):Int))) (hl:l<=m) (hl2:l<=64) (hxl:∀ i,i<l->x i<lc i) (hp:PricedP m lc C) :
  Calls Tryz.prog 18 #[.slice CA m cc,.slice WA l wc] w fun e w'=>e=.returned (.int .i64 (costW C x l))/\Below w.heap.size w w':=by
 have HC:=hid hC
 have HX:=hid hx
 have HXL:=hid hxl
 have HB1:Hid (∀ k,k<=l->0<=costW C x k/\costW C x k<=(k:Int)*2147483648):=hid (yaZ fun i hi=>hp i (by omega) (x i) (hxl i hi))
 clear hC hx hxl hp
 go_enter Tryz.func18, Tryz.ntmps18
 go_upto_region 3 with fail
 go_loopg [5,6] l (fun gg sv iv wx=>∃ (i:Nat) (s:Int),iv=.int .i64 (i:Nat)/\sv=.int .i64 s/\i<=l/\l<=i+gg/\Hid (s=costW C x i)/\Below w.heap.size w wx)
 case atStart=>exact ⟨0,0,rfl,rfl,by omega,by omega,hid rfl,Below.refl _ _⟩
 case round =>
  obtain ⟨i,s,rfl,rfl,hi,hig,HS,hBx⟩:=hrel
  have hi0:(0:Int)<=(i:Int):=by omega
  have HB:=hid hBx
  obtain ⟨w3,hw3⟩:∃ X,X=wr:=⟨_,rfl⟩
  subst hw3
  clear hBx
  have hsb:=HB1.out i hi
  rw [<-HS.out] at hsb
  by_cases hlt:i<l
  ·have hlt':(i:Int)<(l:Int):=by omega
   have him:i<m:=by omega
   have him':(i:Int)<(m:Int):=by omega
   obtain ⟨cb,co,RA,rc,hTe,_,c0,h1,h2,h3,h4⟩:=HC.out i him
   subst hTe
   replace c0:=cellS HB.out c0
   obtain ⟨wb,wo,hWe,_,x0⟩:=(HX.out.on HB.out).at hlt
   subst hWe
   have hxi:=HXL.out i hlt
   obtain ⟨xi,hxd⟩:∃ xi,xi=x i:=⟨_,rfl⟩
   rw [<-hxd] at x0 hxi
   obtain ⟨rb,ro,hRe,_,r0⟩:=((show IntsR w w.heap.size RA (lc i) (C i) from h3).on HB.out).at hxi
   subst hRe
   obtain ⟨cv,hcv⟩:∃ cv,cv=C i xi:=⟨_,rfl⟩
   rw [<-hcv] at r0
   obtain ⟨li,hli⟩:∃ li,li=lc i:=⟨_,rfl⟩
   rw [<-hli] at c0 hxi
   have hcb:=HB1.out (i+1) hlt
   have hstep:costW C x (i+1)=s+cv:=by rw [HS.out,hcv,hxd]; rfl
   rw [hstep] at hcb
   have HST:=hid hstep
   have hcb1:0<=s+cv:=hcb.1
   have hcb2:s+cv<=200000000000:=by omega
   clear hcb hsb
   have hsw:IntKind.i64.wrap (s+cv)=s+cv:=IntWalk.i64_in _ (by omega)
   have hx0:(0:Int)<=(xi:Int):=by omega
   have hx1:(xi:Int)<(li:Int):=by omega
   clear h1 h2 h3 h4 hcv hli hxd hstep
   go_upto_region 5 with fail
   refine wp_region_held_drew (S:=fun X=>X.cell? ⟨cb,co+i,none⟩=some (.slice (some ⟨rb,ro,none⟩) li rc)/\X.cell? ⟨wb,wo+i,none⟩=some (.int .i64 (xi:Nat))/\X.cell? ⟨rb,ro+xi,none⟩=some (.int .i64 cv)) (by kernel_rfl) ⟨cellS (Below.refl _ _).drew c0,cellS (Below.refl _ _).drew x0,cellS (Below.refl _ _).drew r0⟩ (fun hHeld=>?_)
   obtain ⟨w4,hw⟩:∃ W,W=World.drew w3:=⟨_,rfl⟩
   have kb:Below w3.heap.size w3 w4:=by rw [hw]; exact (Below.refl _ _).drew
   rw [<-hw] at hHeld ⊢;clear hw c0 x0 r0
   have HB2:=hid (onS HB.out kb)
   clear kb
   refine tkq 0 (h:=tkq 1 (h:=tkq 2 (h:=tkq 3 (h:=tkq 4 (h:=tkq 5 (h:=tkq 6 (h:=tkq 7 (h:=tkq 8 (h:=tkq 9 (h:=tkq 10 (h:=tkq 11 (h:=tkq 12 (h:=?_)))))))))))))
   refine wpAnyH_done (by kernel_rfl) ?_ _
   clear hHeld
   try rw [hsw]
   clear hsw
   go_wp2
   go_roundg (gk - 1)
   case measure=>omega
   case rel=>exact ⟨i+1,s+cv,by go_num,rfl,by omega,by omega,hid HST.out.symm,HB2.out⟩
  ·have hlt':¬ (i:Int)<(l:Int):=by omega
   obtain rfl:l=i:=by omega
   go_wp2
   go_ret
   exact ⟨by rw [<-HS.out]; rfl,HB.out⟩
theorem ya0 (P M:Int) (A:Option Addr) (k c:Nat) (f:Nat->Int) (N:Int) (TC:Option Addr) (n d:Nat) (ln:Nat->Nat) (V:Nat->Nat->Int) (w:World) (hr:IntsR w w.heap.size A k f) (h:IntRows w TC n ln V) :
  Calls Tryz.prog 13 #[.agg #[.int .i64 P,.int .i64 M,.slice A k c,.int .i64 N,.slice TC n d]] w fun e w'=>Below w.heap.size w w'/\∃ b:Bool,e=.returned (.bool b):=by
 have HI:=hid hr
 have HT:=hid h
 clear hr h
 have rf:=zai (w:=w) (a:=.int .i64 P) (b:=.int .i64 M) (c:=.slice A k c) (d:=.int .i64 N) (e:=.slice TC n d) (T := 27)
 have hB:Below w.heap.size w (w.alloc (.cells #[.int .i64 P,.int .i64 M,.slice A k c,.int .i64 N,.slice TC n d] 27)):=(Below.refl _ _).alloc (Nat.le_refl _) _
 obtain ⟨w1,hw1⟩:∃ W,W=w.alloc (.cells #[.int .i64 P,.int .i64 M,.slice A k c,.int .i64 N,.slice TC n d] 27):=⟨_,rfl⟩
 rw [<-hw1] at hB rf
 go_enter Tryz.func13, Tryz.ntmps13
 go_upto_region 1 with fail
 rw [<-hw1];clear hw1
 obtain ⟨b0,hb0⟩:∃ b,b=w.heap.size:=⟨_,rfl⟩
 rw [<-hb0] at rf;rw [<-hb0];clear hb0
 have HBOX:Hid (∀ X,Below w1.heap.size w1 X->(X.cell? ⟨b0,0,none⟩=some (.int .i64 P)/\X.cell? ⟨b0,1,none⟩=some (.int .i64 M)/\X.cell? ⟨b0,2,none⟩=some (.slice A k c)/\X.cell? ⟨b0,3,none⟩=some (.int .i64 N)/\X.cell? ⟨b0,4,none⟩=some (.slice TC n d))):=hid fun X hx =>
  ⟨(zab rf hx).cell (i:=0) (by omega),(zab rf hx).cell (i:=1) (by omega),(zab rf hx).cell (i:=2) (by omega),(zab rf hx).cell (i:=3) (by omega),(zab rf hx).cell (i:=4) (by omega)⟩
 have HB:=hid hB
 clear hB rf
 obtain ⟨q0,q1,q2,q3,q4⟩:=HBOX.out _ (Below.refl _ _)
 go_wp2_with fail
 refine (yaL P M A k c f N TC n d ln V w1 (HI.out.on HB.out) (HT.out.on HB.out)).mono ?_
 rintro e w2 ⟨kb,b,rfl,_⟩
 have KB:=hid kb
 clear kb q0 q1 q2 q3 q4
 cases b with
 | true =>
  go_wp2
  go_ret
  exact ⟨onS HB.out KB.out,true,rfl⟩
 | false =>
  obtain ⟨q0,q1,q2,q3,q4⟩:=HBOX.out _ KB.out
  go_wp2_with fail
  refine (zfj 4096 P M A k c f N TC n d ln V w2 (HI.out.on (onS HB.out KB.out)) (HT.out.on (onS HB.out KB.out)) (by omega)).mono ?_
  rintro e w3 ⟨v,rfl,_,kb⟩
  replace KB:=hid (onS KB.out kb);clear kb q0 q1 q2 q3 q4
  go_wp2
  go_ret
  exact ⟨onS HB.out KB.out,_,rfl⟩
theorem ya1 {P M : Int} {A : Option Addr} {k : Nat} {f : Nat → Int} {N : Int} {TC : Option Addr} {n : Nat} {ln : Nat → Nat} {V : Nat → Nat → Int} {m : Nat} {lc : Nat → Nat} {C : Nat → Nat → Int} {w0 w w' : World} {e : Ending} {v : Int} (hr : IntsR w0 w0.heap.size A k f) (h : IntRows w0 TC n ln V)
    (h1:DecPost P M k f N n ln V m lc C w e w') (h2:ArgsV P M k f N n ln V m lc C v) :
    (v ≠ 0 ∧ e = .returned (.tuple #[.slice none 0 0, .int .i64 0, .int .i64 v])) ∨ (v = 0 ∧ FirstErr (CodeErrs P M k f N n ln V) 0 ∧ ∃ P' M' N' : Nat, P = P' ∧ M = M' ∧ N = N' ∧ TabOk (P' ^ M') N' m lc ∧ PricedP m lc C ∧
      ∃ g x,e=.returned (.tuple #[.slice (some ⟨g,0,none⟩) N' N',.int .i64 (costW C x N'),.int .i64 0])/\w'.rowIs g 3 N' (fun i=>.int .i64 ((x i:Nat):Int))/\w.heap.size<=g/\InSp (P' ^ M') (addF P' M') (mulF P' M' fun i=>(f i).toNat) n N' (natT V) x /\
           ∀ z,InSp (P' ^ M') (addF P' M') (mulF P' M' fun i=>(f i).toNat) n N' (natT V) z->costW C x N'<=costW C z N'/\(costW C z N'=costW C x N'->(∀ t,t<N'->x t=z t)∨LexLt (fun t=>((x t:Nat):Int)) (fun t=>((z t:Nat):Int)) N')):=by
  obtain ⟨_,u,hu,h1⟩:=h1
  obtain ⟨u2,hu2,h2⟩:=h2
  obtain rfl:u=u2:=FirstErr.unique hu hu2
  rcases h1 with ⟨h0,rfl⟩ | ⟨rfl,P',M',N',rfl,rfl,rfl,h1⟩
  · rcases h2 with ⟨_,rfl⟩ | ⟨h3,_⟩
    · exact .inl ⟨h0,rfl⟩
    · exact absurd h3 h0
  · rcases h2 with ⟨h3,_⟩ | ⟨_,P2,M2,N2,e1,e2,e3,h2⟩
    · exact absurd rfl h3
    · obtain rfl:P'=P2:=by omega
      obtain rfl:M'=M2:=by omega
      obtain rfl:N'=N2:=by omega
      rcases h1 with ⟨h3,rfl⟩ | ⟨h3,h4,rfl⟩ | ⟨h3,h4,pv,R,hSF,hSP,hDI,h1⟩
      · rcases h2 with ⟨_,rfl⟩ | ⟨h5,_⟩ | ⟨h5,_⟩
        · exact .inl ⟨by omega,rfl⟩
        · exact absurd h5 h3
        · exact absurd h5 h3
      · rcases h2 with ⟨h5,_⟩ | ⟨_,_,rfl⟩ | ⟨_,h5,_⟩
        · exact absurd h3 h5
        · exact .inl ⟨by omega,rfl⟩
        · exact absurd h5 h4
      · rcases h2 with ⟨h5,_⟩ | ⟨_,h5,_⟩ | ⟨_,_,pr,se,hp,hs,h2⟩
        · exact absurd h3 h5
        · exact absurd h4 h5
        · obtain ⟨P2,M2,N2,e1,e2,e3,hC⟩:=zb5 hr h hu
          obtain rfl:P'=P2:=by omega
          obtain rfl:M'=M2:=by omega
          obtain rfl:N'=N2:=by omega
          have hsz:=ybo (fieldLaws hC.fld) hSF hC.rref.choose_spec.lt hSP hDI hp hs
          rcases h1 with ⟨h5,rfl⟩ | ⟨h5,h6⟩
          · rcases h2 with ⟨h7,_⟩ | ⟨_,rfl⟩
            · exact absurd (hsz.1 h7) h5
            · exact .inl ⟨by omega,rfl⟩
          · rcases h2 with ⟨_,rfl⟩ | ⟨h7,_⟩
            · exact .inr ⟨rfl,hu,P',M',N',rfl,rfl,rfl,h3,h4,h6⟩
            · exact absurd (hsz.2 h5) h7
theorem LexLt.irr {f g:Nat->Int} {n:Nat} (h:LexLt f g n) (he:∀ t,t<n->f t=g t):False:=by
 obtain ⟨i,hi,_,h3⟩:=h
 have:=he i hi
 omega
theorem LexLt.asymm {f g:Nat->Int} {n:Nat} (h:LexLt f g n) (h':LexLt g f n):False:=by
 obtain ⟨i,hi,h2,h3⟩:=h
 obtain ⟨j,hj,k2,k3⟩:=h'
 rcases Nat.lt_trichotomy i j with g1 | g1 | g1
 ·have:=k2 i g1; omega
 ·subst g1; omega
 ·have:=h2 j g1; omega
theorem yah (P M:Int) (A:Option Addr) (k c:Nat) (f:Nat->Int) (N:Int) (TC:Option Addr) (n d:Nat) (ln:Nat->Nat) (V:Nat->Nat->Int) (CA:Option Addr) (m cc:Nat) (lc:Nat->Nat) (C:Nat->Nat->Int) (UA:Option Addr) (l uc:Nat) (ms:Nat->Int) (w:World) (hr:IntsR w w.heap.size A k f) (h:IntRows w TC n ln V) (hC:IntRows w CA m lc C) (hu:IntsR w w.heap.size UA l ms) (hl:l<=9223372036854775807) :
  Calls Tryz.prog 3 #[.agg #[.int .i64 P,.int .i64 M,.slice A k c,.int .i64 N,.slice TC n d],.slice CA m cc,.slice UA l uc] w fun e w'=>e=.returned (.bool true)/\Below w.heap.size w w':=by
 have HI:=hid hr
 have HT:=hid h
 have HCC:=hid hC
 have HMS:=hid hu
 clear hr h hC hu
 have rf:=zai (w:=w) (a:=.int .i64 P) (b:=.int .i64 M) (c:=.slice A k c) (d:=.int .i64 N) (e:=.slice TC n d) (T := 27)
 have hB:Below w.heap.size w (w.alloc (.cells #[.int .i64 P,.int .i64 M,.slice A k c,.int .i64 N,.slice TC n d] 27)):=(Below.refl _ _).alloc (Nat.le_refl _) _
 obtain ⟨w1,hw1⟩:∃ W,W=w.alloc (.cells #[.int .i64 P,.int .i64 M,.slice A k c,.int .i64 N,.slice TC n d] 27):=⟨_,rfl⟩
 rw [<-hw1] at hB rf
 go_enter Tryz.func3, Tryz.ntmps3
 go_upto_region 1 with fail
 rw [<-hw1];clear hw1
 obtain ⟨b0,hb0⟩:∃ b,b=w.heap.size:=⟨_,rfl⟩
 rw [<-hb0] at rf;rw [<-hb0];clear hb0
 have HBOX:Hid (∀ X,Below w1.heap.size w1 X->(X.cell? ⟨b0,0,none⟩=some (.int .i64 P)/\X.cell? ⟨b0,1,none⟩=some (.int .i64 M)/\X.cell? ⟨b0,2,none⟩=some (.slice A k c)/\X.cell? ⟨b0,3,none⟩=some (.int .i64 N)/\X.cell? ⟨b0,4,none⟩=some (.slice TC n d))):=hid fun X hx =>
  ⟨(zab rf hx).cell (i:=0) (by omega),(zab rf hx).cell (i:=1) (by omega),(zab rf hx).cell (i:=2) (by omega),(zab rf hx).cell (i:=3) (by omega),(zab rf hx).cell (i:=4) (by omega)⟩
 have HB:=hid hB
 clear hB rf
 obtain ⟨q0,q1,q2,q3,q4⟩:=HBOX.out _ (Below.refl _ _)
 go_wp2_with fail
 refine (ya0 P M A k c f N TC n d ln V w1 (HI.out.on HB.out) (HT.out.on HB.out)).mono ?_
 rintro e w2 ⟨kb,b,rfl⟩
 have KB:=hid kb
 clear kb q0 q1 q2 q3 q4
 cases b with
 | false =>
  go_wp2_with fail
  refine (yac _).mono ?_
  rintro e w3 ⟨rfl,kb⟩
  replace KB:=hid (onS KB.out kb);clear kb
  go_wp2
  go_ret
  exact ⟨rfl,onS HB.out KB.out⟩
 | true =>
  obtain ⟨q0,q1,q2,q3,q4⟩:=HBOX.out _ KB.out
  go_wp2_with fail
  refine (yax P M A k c f N TC n d ln V CA m cc lc C w2 (HI.out.on (onS HB.out KB.out)) (HT.out.on (onS HB.out KB.out)) (HCC.out.on (onS HB.out KB.out))).mono ?_
  rintro e w3 hdec
  have kb:=hdec.1
  have hform:∃ (GA:Option Addr) (gn gc:Nat) (cst ev:Int),e=.returned (.tuple #[.slice GA gn gc,.int .i64 cst,.int .i64 ev]):=by
   rcases hdec.2 with ⟨u,_,⟨_,h⟩ | ⟨_,P',M',N',_,_,_,⟨_,h⟩ | ⟨_,_,h⟩ | ⟨_,_,pv,R,_,_,_,⟨_,h⟩ | ⟨_,g,x,h,_⟩⟩⟩⟩ <;> exact ⟨_,_,_,_,_,h⟩
  obtain ⟨GA,gn,gc,cst,ev,rfl⟩:=hform
  have HD:=hid hdec
  have K3:=hid kb
  replace KB:=hid (onS KB.out kb);clear kb hdec q0 q1 q2 q3 q4
  obtain ⟨q0,q1,q2,q3,q4⟩:=HBOX.out _ KB.out
  go_wp2_with fail
  refine (yay P M A k c f N TC n d ln V CA m cc lc C w3 (HI.out.on (onS HB.out KB.out)) (HT.out.on (onS HB.out KB.out)) (HCC.out.on (onS HB.out KB.out))).mono ?_
  rintro e w4 ⟨kb,v,rfl,hv⟩
  have hcase:=ya1 HI.out HT.out HD.out hv
  have HKB:=hid kb
  replace KB:=hid (onS KB.out kb);clear kb hv HD q0 q1 q2 q3 q4
  rcases hcase with ⟨hv0,he⟩ | ⟨rfl,hU,P',M',N',rfl,rfl,rfl,hTO,hPR,g,x,he,hrow,hg,hin,hopt⟩
  ·have he2:(GA=none/\gn=0/\gc=0)/\cst=0/\ev=v:=by simpa using he
   obtain ⟨⟨rfl,rfl,rfl⟩,rfl,rfl⟩:=he2
   have hne:(ev != ev)=false:=by simp
   have hnz:(ev != 0)=true:=by simpa using hv0
   clear he hv0
   go_wp2_with fail
   refine (yac _).mono ?_
   rintro e w5 ⟨rfl,kb⟩
   replace KB:=hid (onS KB.out kb);clear kb
   go_wp2
   go_ret
   exact ⟨rfl,onS HB.out KB.out⟩
  ·have he2:(GA=some ⟨g,0,none⟩/\gn=N'/\gc=N')/\cst=costW C x N'/\ev=0:=by simpa using he
   obtain ⟨⟨rfl,rfl,rfl⟩,hcst,rfl⟩:=he2
   have HCST:=hid hcst
   have HU:=hid hU
   have HTO:=hid hTO
   have HPR:=hid hPR
   have HIN:=hid hin
   have HOPT:=hid hopt
   have HG:=hid (zab hrow HKB.out)
   obtain ⟨P2,M2,N2,e1,e2,e3,hC⟩:=zb5 HI.out HT.out HU.out
   obtain rfl:P'=P2:=by omega
   obtain rfl:M'=M2:=by omega
   obtain rfl:gc=N2:=by omega
   have HC:=hid hC
   have hN64:=hC.ln2
   clear he hcst hU hTO hPR hin hopt hrow hg hC e1 e2 e3 HKB K3
   have hne:((0:Int) != 0)=false:=by simp
   go_wp2_with fail
   refine (yac _).mono ?_
   rintro e w5 ⟨rfl,kb⟩
   replace HG:=hid (zab HG.out kb);replace KB:=hid (onS KB.out kb);clear kb
   have HXQ:Hid (∀ j,j<gc->x j<P' ^ M'):=hid fun j hj=>HIN.out.lt (fieldLaws HC.out.fld) hj
   have HXI:Hid (IntsR w5 w5.heap.size (some ⟨g,0,none⟩) gc (fun i=>((x i:Nat):Int))):=hid (zaH HG.out)
   obtain ⟨q0,q1,q2,q3,q4⟩:=HBOX.out _ KB.out
   go_wp2_with fail
   refine (ybc P' M' (fun i=>(f i).toNat) A k c gc TC n d (natT V) (some ⟨g,0,none⟩) gc gc (fun i=>((x i:Nat):Int)) w5 (HC.out.on (onS HB.out KB.out)) HXI.out (by omega)).mono ?_
   rintro e w6 ⟨kb,b,v,rfl,hv,hb,_⟩
   obtain rfl:v=0:=FirstErr.unique hv (.inr ⟨rfl,.inr ⟨fun i hi=>by have:=HXQ.out i hi; show 0<=((x i:Nat):Int)/\((x i:Nat):Int)<_; omega,rfl⟩⟩)
   have hbt:b=true:=(hb rfl).2 (by simp only [Int.toNat_natCast]; exact HIN.out)
   subst hbt
   replace HG:=hid (zab HG.out kb);replace HXI:=hid (HXI.out.on kb);replace KB:=hid (onS KB.out kb);clear kb hv hb q0 q1 q2 q3 q4
   have hml:gc<=m:=by have:=HTO.out.1; omega
   have HXL:Hid (∀ i,i<gc->x i<lc i):=hid fun i hi=>by rw [HTO.out.2 i (by omega)]; exact HXQ.out i hi
   go_wp2_with fail
   refine (yab CA m cc lc C (some ⟨g,0,none⟩) gc gc x w6 (HCC.out.on (onS HB.out KB.out)) HXI.out hml hN64 HXL.out HPR.out).mono ?_
   rintro e w7 ⟨he,kb⟩
   rw [<-HCST.out] at he
   subst he
   replace HXI:=hid (HXI.out.on kb);replace KB:=hid (onS KB.out kb);clear kb
   have hcc:(cst != cst)=false:=by simp
   obtain ⟨q0,q1,q2,q3,q4⟩:=HBOX.out _ KB.out
   go_wp2_with fail
   refine (yaC P' M' (fun i=>(f i).toNat) A k c gc TC n d (natT V) UA l uc ms w7 (HC.out.on (onS HB.out KB.out)) (by have:=HC.out.n_le; omega) (HMS.out.on (onS HB.out KB.out)) hl).mono ?_
   rintro e w8 ⟨kb,hcase⟩
   replace HXI:=hid (HXI.out.on kb);replace KB:=hid (onS KB.out kb);clear kb q0 q1 q2 q3 q4 hcc
   rcases hcase with ⟨v,hv0,rfl,_⟩ | ⟨_,hmsq,g2,rfl,_,hrow⟩
   ·have hnz:(v != 0)=true:=by simpa using hv0
    go_wp2
    go_ret
    exact ⟨rfl,onS HB.out KB.out⟩
   ·obtain ⟨z,hz⟩:∃ z:Nat->Nat,z=fun j=>spE (addF P' M') (mulF P' M' fun i=>(f i).toNat) (natT V) (fun i=>(ms i).toNat) n j:=⟨_,rfl⟩
    have HZI:Hid (InSp (P' ^ M') (addF P' M') (mulF P' M' fun i=>(f i).toNat) n gc (natT V) z):=hid ⟨fun i=>(ms i).toNat,fun i hi=>by have:=hmsq i hi; show (ms i).toNat<_; omega,fun j _=>by rw [hz]⟩
    have HZR:Hid (IntsR w8 w8.heap.size (some ⟨g2,0,none⟩) gc (fun i=>((z i:Nat):Int))):=hid (by rw [hz]; exact zaH hrow)
    have HZL:Hid (∀ i,i<gc->z i<lc i):=hid fun i hi=>by rw [HTO.out.2 i (by omega)]; exact HZI.out.lt (fieldLaws HC.out.fld) hi
    obtain ⟨hle,heq⟩:=HOPT.out z HZI.out
    rw [<-HCST.out] at hle heq
    obtain ⟨cz,hcz⟩:∃ cz,cz=costW C z gc:=⟨_,rfl⟩
    rw [<-hcz] at hle heq
    have HCZ:=hid hcz
    have HEQ:=hid heq
    clear hcz heq hrow hz hmsq
    go_wp2_with fail
    refine (yab CA m cc lc C (some ⟨g2,0,none⟩) gc gc z w8 (HCC.out.on (onS HB.out KB.out)) HZR.out hml hN64 HZL.out HPR.out).mono ?_
    rintro e w9 ⟨he,kb⟩
    rw [<-HCZ.out] at he
    subst he
    replace HXI:=hid (HXI.out.on kb);replace HZR:=hid (HZR.out.on kb);replace KB:=hid (onS KB.out kb);clear kb
    by_cases hgt:cz > cst
    ·have hgd:decide (cz > cst)=true:=by simp; omega
     go_wp2
     go_ret
     exact ⟨rfl,onS HB.out KB.out⟩
    ·obtain rfl:cz=cst:=by omega
     have HE2:=hid (HEQ.out rfl)
     have hgd:decide (cz > cz)=false:=by simp
     have hee:(cz == cz)=true:=by simp
     go_wp2_with fail
     refine (yaq (some ⟨g,0,none⟩) (some ⟨g2,0,none⟩) gc gc gc (fun i=>((x i:Nat):Int)) (fun i=>((z i:Nat):Int)) w9 HXI.out HZR.out (by omega)).mono ?_
     rintro e w10 ⟨r,rfl,hrc,kb⟩
     have hr0:r<=0:=by
      rcases hrc with ⟨h1,_⟩ | ⟨_,h2⟩ | ⟨h1,_⟩
      ·omega
      ·rcases HE2.out with h3 | h3
       ·exact (h2.irr fun t ht=>by show ((z t:Nat):Int)=_; rw [h3 t ht]).elim
       ·exact (h2.asymm h3).elim
      ·omega
     have hrd:decide (r<=0)=true:=by simp; omega
     replace KB:=hid (onS KB.out kb);clear kb hrc
     go_wp2
     go_ret
     exact ⟨rfl,onS HB.out KB.out⟩
theorem viterbiDecodes_law {H:Type} {enc:TypeId × Value->H} {w:World} {cs:Array Value} {v u:Value}
  (h:Sees enc Tryz.prog w 0 (fun _=>true) true 27 cs.toList) (hv:Sees enc Tryz.prog w 0 (fun _=>true) true 25 [v]) (hu:Sees enc Tryz.prog w 0 (fun _=>true) true 22 [u]) :
  Calls Tryz.prog 3 #[.agg cs,v,u] w fun e w'=>e=.returned (.bool true)/\Below w.heap.size w w':=by
 obtain ⟨cs⟩:=cs
 obtain ⟨P,M,A,k,c1,N,T1,n,d,f,ln,V,rfl,_,_,_,_,_,_,hr,ht⟩:=zhH h
 obtain ⟨CA,m,cc,lc,C,e,_,_,hR⟩:=zgU hv
 injection e with e _
 subst e
 obtain ⟨UA,l,uc,ms,e2,hl1,hl2,hI,_⟩:=zez Tryz.underlying22 Tryz.underlying3 (by kernel_rfl) hu
 injection e2 with e2 _
 subst e2
 exact yah P M A k c1 f N T1 n d ln V CA m cc lc C UA l uc ms w hr ht hR hI (by unfold maxLen at hl2; omega)
theorem yaO {q n x i:Nat} (h:i<n):msgD q (n+1) x i=msgD q n (x / q) i:=by
 unfold msgD
 rw [show n+1 - 1 - i=(n - 1 - i)+1 by omega,zc5]
theorem ya2 {q n x:Nat}:msgD q (n+1) x n=x % q:=by
 unfold msgD
 rw [show n+1 - 1 - n=0 by omega,zcm]
theorem yaJ {q:Nat} (hq:0<q):∀ {n s t:Nat},s<t->t<q ^ n->∃ i,i<n/\(∀ j,j<i->msgD q n s j=msgD q n t j)/\msgD q n s i<msgD q n t i
 | 0,s,t,h,ht=>by rw [Nat.pow_zero] at ht; omega
 | n + 1, s, t, h, ht => by
  have ht2:t / q<q ^ n:=Nat.div_lt_of_lt_mul (by rw [Nat.mul_comm,<-Nat.pow_succ]; exact ht)
  by_cases e:s / q=t / q
  ·refine ⟨n,by omega,fun j hj=>by rw [yaO hj,yaO hj,e],?_⟩
   rw [ya2,ya2]
   have h1:=Nat.div_add_mod s q
   have h2:=Nat.div_add_mod t q
   rw [e] at h1
   omega
  ·have hlt:s / q<t / q:=by
    have:=Nat.div_le_div_right (c:=q) (Nat.le_of_lt h)
    omega
   obtain ⟨i,h1,h2,h3⟩:=yaJ hq hlt ht2
   exact ⟨i,by omega,fun j hj=>by rw [yaO (by omega),yaO (by omega)]; exact h2 j hj,by rw [yaO h1,yaO h1]; exact h3⟩
section
variable {q n N:Nat} {add mul:Nat->Nat->Nat} {V:Nat->Nat->Nat}
theorem ya3 (hL:FieldLaws q add mul) (hV:RrefN q n N V) {s t:Nat} (h:s<t) (ht:t<q ^ n) :
  LexLt (fun j=>((spE add mul V (msgD q n s) n j:Nat):Int)) (fun j=>((spE add mul V (msgD q n t) n j:Nat):Int)) N:=by
 have hq:0<q:=by have:=hL.two; omega
 obtain ⟨pv,hE⟩:=hV
 obtain ⟨i,hi,h1,h2⟩:=yaJ hq h ht
 refine ⟨pv i,hE.pvlt i hi,fun j hj=>?_,?_⟩
 ·show ((spE add mul V (msgD q n s) n j:Nat):Int)=((spE add mul V (msgD q n t) n j:Nat):Int)
  rw [zgv n fun u hu=>?_]
  by_cases g:u<i
  ·rw [h1 u g]
  ·have hlead:V u j=0:=hE.lead u hu j (by
    by_cases e:u=i
    ·rw [e]; exact hj
    ·have:=hE.inc i u (by omega) hu
     omega)
   rw [hlead,hL.mulZero (zdU hq),hL.mulZero (zdU hq)]
 ·show ((spE add mul V (msgD q n s) n (pv i):Nat):Int)<((spE add mul V (msgD q n t) n (pv i):Nat):Int)
  rw [hE.spE_pv hL (fun _ _=>zdU hq) hi,hE.spE_pv hL (fun _ _=>zdU hq) hi]
  omega
theorem ybq {x:Nat->Nat} (hx:InSp q add mul n N V x):∃ t,t<q ^ n/\∀ j,j<N->x j=spE add mul V (msgD q n t) n j:=by
 obtain ⟨c,h1,h2⟩:=hx
 refine ⟨valN q (fun j=>c (n - 1 - j)) n,za1 fun i hi=>h1 _ (by omega),fun j hj=>?_⟩
 rw [h2 j hj]
 refine zgv n fun u hu=>?_
 unfold msgD
 rw [zaW (fun i hi=>h1 _ (by omega)) _ (by omega),show n - 1 - (n - 1 - u)=u by omega]
theorem ybu (hL:FieldLaws q add mul) (t:Nat):InSp q add mul n N V (fun j=>spE add mul V (msgD q n t) n j):=⟨msgD q n t,fun _ _=>zdU (by have:=hL.two; omega),fun _ _=>rfl⟩
theorem yaP (hL:FieldLaws q add mul) (hV:RrefN q n N V) {C:Nat->Nat->Int} {x:Nat->Nat} (hx:InSp q add mul n N V x)
  (hopt:∀ z,InSp q add mul n N V z->costW C x N<=costW C z N/\(costW C z N=costW C x N->(∀ t,t<N->x t=z t)∨LexLt (fun t=>((x t:Nat):Int)) (fun t=>((z t:Nat):Int)) N))
  {b:Nat} (hb:b<q ^ n) (hmin:∀ t,t<q ^ n->costW C (fun j=>spE add mul V (msgD q n b) n j) N<=costW C (fun j=>spE add mul V (msgD q n t) n j) N)
  (hfirst:∀ t,t<b->costW C (fun j=>spE add mul V (msgD q n b) n j) N<costW C (fun j=>spE add mul V (msgD q n t) n j) N) :
  costW C x N=costW C (fun j=>spE add mul V (msgD q n b) n j) N/\∀ j,j<N->x j=spE add mul V (msgD q n b) n j:=by
 obtain ⟨t,ht,hxt⟩:=ybq hx
 have e1:costW C x N=costW C (fun j=>spE add mul V (msgD q n t) n j) N:=yag N hxt
 have h1:=hmin t ht
 have h2:=hopt _ (ybu (N:=N) hL b)
 have e2:costW C x N=costW C (fun j=>spE add mul V (msgD q n b) n j) N:=by omega
 refine ⟨e2,?_⟩
 rcases h2.2 e2.symm with h3 | h3
 ·exact h3
 ·rcases Nat.lt_trichotomy t b with g | g | g
  ·have:=hfirst t g; omega
  ·subst g; exact hxt
  ·have h4:=ya3 hL hV g ht
   exfalso
   have h5:LexLt (fun j=>((spE add mul V (msgD q n b) n j:Nat):Int)) (fun j=>((x j:Nat):Int)) N:=by
    obtain ⟨i,k1,k2,k3⟩:=h4
    exact ⟨i,k1,fun j hj=>by
     have:=k2 j hj
     show _=((x j:Nat):Int)
     rw [hxt j (by omega)]; exact this,by
     show _<((x i:Nat):Int)
     rw [hxt i k1]; exact k3⟩
   exact h5.asymm h3
end
theorem yaE (WA:Option Addr) (mw wc N:Nat) (Wd:Nat->Nat->Nat) (CA:Option Addr) (m cc:Nat) (lc:Nat->Nat) (C:Nat->Nat->Int) (w:World) (hW:IntRows w WA mw (fun _=>N) (fun t j=>((Wd t j:Nat):Int))) (hC:IntRows w CA m lc C) (h1:1<=mw) (hmw:mw<=1048576) (hN:N<=m) (hN2:N<=64) (hl:∀ t,t<mw->∀ j,j<N->Wd t j<lc j) (hp:PricedP m lc C) :
  Calls Tryz.prog 23 #[.slice WA mw wc,.slice CA m cc] w fun e w'=>Below w.heap.size w w'/\∃ b BA bc,b<mw/\e=.returned (.tuple #[.slice BA N bc,.int .i64 (costW C (Wd b) N)])/\IntsR w' w'.heap.size BA N (fun j=>((Wd b j:Nat):Int)) /\
   (∀ t,t<mw->costW C (Wd b) N<=costW C (Wd t) N)/\∀ t,t<b->costW C (Wd b) N<costW C (Wd t) N:=by
 have HW:=hid hW
 have HCC:=hid hC
 have HLL:=hid hl
 have HPR:=hid hp
 clear hW hC hl hp
 go_enter Tryz.func23, Tryz.ntmps23
 have hz0:(0:Int)<(mw:Int):=by omega
 obtain ⟨b1,o1,RA,rc,hTe,_,x0,_,_,hrow,_⟩:=HW.out 0 (by omega)
 subst hTe
 rw [Nat.add_zero] at x0
 have HROW:Hid (IntsR w w.heap.size RA N (fun j=>((Wd 0 j:Nat):Int))):=hid hrow
 clear hrow
 go_upto_region 3 with fail
 clear x0
 go_loopg [6,7] mw (fun gg bv iv wx=>∃ (i b:Nat) (RA:Option Addr) (rc:Nat),iv=.int .i64 (i:Nat)/\bv=.slice RA N rc/\1<=i/\i<=mw/\mw<=i+gg/\b<i/\Hid (IntsR w w.heap.size RA N (fun j=>((Wd b j:Nat):Int)))/\Hid ((∀ t,t<i->costW C (Wd b) N<=costW C (Wd t) N)/\∀ t,t<b->costW C (Wd b) N<costW C (Wd t) N)/\Below w.heap.size w wx)
 case atStart=>exact ⟨1,0,RA,rc,rfl,rfl,by omega,by omega,by omega,by omega,HROW,hid ⟨fun t ht=>(by rw [show t=0 by omega]; exact Int.le_refl _),fun t ht=>absurd ht (by omega)⟩,Below.refl _ _⟩
 case round =>
  clear HROW
  obtain ⟨i,b,RA,rc,rfl,rfl,hi1,hi,hig,hb,HROW,HMIN,hBx⟩:=hrel
  have hi0:(0:Int)<=(i:Int):=by omega
  have HB:=hid hBx
  obtain ⟨w3,hw3⟩:∃ X,X=wr:=⟨_,rfl⟩
  subst hw3
  clear hBx
  by_cases hlt:i<mw
  ·have hlt':(i:Int)<(mw:Int):=by omega
   obtain ⟨b2,o2,RB,rd,hTe,_,x0,_,_,hrow,_⟩:=HW.out i hlt
   injection hTe with hTe
   injection hTe with hT1 hT2
   subst hT1 hT2
   replace x0:=cellS HB.out x0
   have HRB:Hid (IntsR w w.heap.size RB N (fun j=>((Wd i j:Nat):Int))):=hid hrow
   clear hrow
   obtain ⟨ci,hci⟩:∃ ci,ci=costW C (Wd i) N:=⟨_,rfl⟩
   obtain ⟨cb,hcb⟩:∃ cb,cb=costW C (Wd b) N:=⟨_,rfl⟩
   have HCI:=hid hci
   have HCB:=hid hcb
   clear hci hcb
   go_wp2_with fail
   refine (yab CA m cc lc C RB N rd (Wd i) w3 (HCC.out.on HB.out) (HRB.out.on HB.out) hN hN2 (HLL.out i hlt) HPR.out).mono ?_
   rintro e w4 ⟨he,kb⟩
   rw [<-HCI.out] at he
   subst he
   replace x0:=cellS kb x0;replace HB:=hid (onS HB.out kb);clear kb
   go_wp2_with fail
   refine (yab CA m cc lc C RA N rc (Wd b) w4 (HCC.out.on HB.out) (HROW.out.on HB.out) hN hN2 (HLL.out b (by omega)) HPR.out).mono ?_
   rintro e w5 ⟨he,kb⟩
   rw [<-HCB.out] at he
   subst he
   replace x0:=cellS kb x0;replace HB:=hid (onS HB.out kb);clear kb
   by_cases hc:ci<cb
   ·have hcd:decide (ci<cb)=true:=by simp; omega
    have HMIN2:Hid ((∀ t,t<i+1->costW C (Wd i) N<=costW C (Wd t) N)/\∀ t,t<i->costW C (Wd i) N<costW C (Wd t) N):=hid (by
     have h1:=HCI.out
     have h2:=HCB.out
     refine ⟨fun t ht=>?_,fun t ht=>?_⟩
     ·by_cases e:t=i
      ·rw [e]; exact Int.le_refl _
      ·have:=HMIN.out.1 t (by omega); omega
     ·have:=HMIN.out.1 t (by omega); omega)
    go_wp2
    go_roundg (gk - 1)
    case measure=>omega
    case rel=>exact ⟨i+1,i,RB,rd,by go_num,rfl,by omega,by omega,by omega,by omega,HRB,HMIN2,HB.out⟩
   ·have hcd:decide (ci<cb)=false:=by simp; omega
    have HMIN2:Hid ((∀ t,t<i+1->costW C (Wd b) N<=costW C (Wd t) N)/\∀ t,t<b->costW C (Wd b) N<costW C (Wd t) N):=hid (by
     have h1:=HCI.out
     have h2:=HCB.out
     refine ⟨fun t ht=>?_,HMIN.out.2⟩
     by_cases e:t=i
     ·rw [e]; omega
     ·exact HMIN.out.1 t (by omega))
    clear x0
    go_wp2
    go_roundg (gk - 1)
    case measure=>omega
    case rel=>exact ⟨i+1,b,RA,rc,by go_num,rfl,by omega,by omega,by omega,by omega,HROW,HMIN2,HB.out⟩
  ·have hlt':¬ (i:Int)<(mw:Int):=by omega
   obtain rfl:mw=i:=by omega
   obtain ⟨cb,hcb⟩:∃ cb,cb=costW C (Wd b) N:=⟨_,rfl⟩
   have HCB:=hid hcb
   clear hcb
   go_wp2_with fail
   refine (yab CA m cc lc C RA N rc (Wd b) w3 (HCC.out.on HB.out) (HROW.out.on HB.out) hN hN2 (HLL.out b (by omega)) HPR.out).mono ?_
   rintro e w5 ⟨he,kb⟩
   rw [<-HCB.out] at he
   subst he
   replace HB:=hid (onS HB.out kb);clear kb
   go_wp2
   go_ret2
   exact ⟨HB.out,b,RA,rc,hb,by rw [<-HCB.out]; rfl,HROW.out.on HB.out,HMIN.out.1,HMIN.out.2⟩
theorem yak (P M:Int) (A:Option Addr) (k c:Nat) (f:Nat->Int) (N:Int) (TC:Option Addr) (n d:Nat) (ln:Nat->Nat) (V:Nat->Nat->Int) (CA:Option Addr) (m cc:Nat) (lc:Nat->Nat) (C:Nat->Nat->Int) (w:World) (hr:IntsR w w.heap.size A k f) (h:IntRows w TC n ln V) (hC:IntRows w CA m lc C) :
  Calls Tryz.prog 4 #[.agg #[.int .i64 P,.int .i64 M,.slice A k c,.int .i64 N,.slice TC n d],.slice CA m cc] w fun e w'=>e=.returned (.bool true)/\Below w.heap.size w w':=by
 have HI:=hid hr
 have HT:=hid h
 have HCC:=hid hC
 clear hr h hC
 have rf:=zai (w:=w) (a:=.int .i64 P) (b:=.int .i64 M) (c:=.slice A k c) (d:=.int .i64 N) (e:=.slice TC n d) (T := 27)
 have hB:Below w.heap.size w (w.alloc (.cells #[.int .i64 P,.int .i64 M,.slice A k c,.int .i64 N,.slice TC n d] 27)):=(Below.refl _ _).alloc (Nat.le_refl _) _
 obtain ⟨w1,hw1⟩:∃ W,W=w.alloc (.cells #[.int .i64 P,.int .i64 M,.slice A k c,.int .i64 N,.slice TC n d] 27):=⟨_,rfl⟩
 rw [<-hw1] at hB rf
 go_enter Tryz.func4, Tryz.ntmps4
 go_upto_region 1 with fail
 rw [<-hw1];clear hw1
 obtain ⟨b0,hb0⟩:∃ b,b=w.heap.size:=⟨_,rfl⟩
 rw [<-hb0] at rf;rw [<-hb0];clear hb0
 have HBOX:Hid (∀ X,Below w1.heap.size w1 X->(X.cell? ⟨b0,0,none⟩=some (.int .i64 P)/\X.cell? ⟨b0,1,none⟩=some (.int .i64 M)/\X.cell? ⟨b0,2,none⟩=some (.slice A k c)/\X.cell? ⟨b0,3,none⟩=some (.int .i64 N)/\X.cell? ⟨b0,4,none⟩=some (.slice TC n d))):=hid fun X hx =>
  ⟨(zab rf hx).cell (i:=0) (by omega),(zab rf hx).cell (i:=1) (by omega),(zab rf hx).cell (i:=2) (by omega),(zab rf hx).cell (i:=3) (by omega),(zab rf hx).cell (i:=4) (by omega)⟩
 have HB:=hid hB
 clear hB rf
 go_wp2_with fail
 refine (yac _).mono ?_
 rintro e w2 ⟨rfl,kb⟩
 have KB:=hid kb
 clear kb
 obtain ⟨q0,q1,q2,q3,q4⟩:=HBOX.out _ KB.out
 go_wp2_with fail
 refine (yay P M A k c f N TC n d ln V CA m cc lc C w2 (HI.out.on (onS HB.out KB.out)) (HT.out.on (onS HB.out KB.out)) (HCC.out.on (onS HB.out KB.out))).mono ?_
 rintro e w3 ⟨kb,v,rfl,hv⟩
 have HV:=hid hv
 replace KB:=hid (onS KB.out kb);clear kb hv q0 q1 q2 q3 q4
 obtain ⟨q0,q1,q2,q3,q4⟩:=HBOX.out _ KB.out
 by_cases hv0:v=0
 rotate_left
 ·have hnz:(v != 0)=true:=by simpa using hv0
  go_wp2
  go_ret
  exact ⟨rfl,onS HB.out KB.out⟩
 subst hv0
 have hzz:((0:Int) != 0)=false:=by simp
 go_wp2_with fail
 refine (zfj 512 P M A k c f N TC n d ln V w3 (HI.out.on (onS HB.out KB.out)) (HT.out.on (onS HB.out KB.out)) (by omega)).mono ?_
 rintro e w4 ⟨cv,rfl,hcv,kb⟩
 replace KB:=hid (onS KB.out kb);clear kb q0 q1 q2 q3 q4
 rcases hcv with ⟨rfl,_⟩ | ⟨hU,hcnt,hcv⟩
 ·have h00:((0:Int) == 0)=true:=by simp
  go_wp2
  go_ret
  exact ⟨rfl,onS HB.out KB.out⟩
 have HU:=hid hU
 have HCNT:=hid hcnt
 have hcz:(cv == 0)=false:=by
  have:0<(P.toNat ^ M.toNat) ^ n:=by
   obtain ⟨P2,M2,N2,e1,e2,e3,hC⟩:=zb5 HI.out HT.out HU.out
   subst e1 e2
   have:=(fieldLaws hC.fld).two
   simp only [Int.toNat_natCast]
   exact Nat.pow_pos (by omega)
  simp
  omega
 clear hU hcnt hcv
 obtain ⟨q0,q1,q2,q3,q4⟩:=HBOX.out _ KB.out
 go_wp2_with fail
 refine (yax P M A k c f N TC n d ln V CA m cc lc C w4 (HI.out.on (onS HB.out KB.out)) (HT.out.on (onS HB.out KB.out)) (HCC.out.on (onS HB.out KB.out))).mono ?_
 rintro e w5 hdec
 have kb:=hdec.1
 rcases ya1 HI.out HT.out hdec HV.out with ⟨h0,_⟩ | ⟨_,_,P',M',N',rfl,rfl,rfl,hTO,hPR,g,x,rfl,hrow,hg,hin,hopt⟩
 ·exact absurd rfl h0
 obtain ⟨P2,M2,N2,e1,e2,e3,hC⟩:=zb5 HI.out HT.out HU.out
 obtain rfl:P'=P2:=by omega
 obtain rfl:M'=M2:=by omega
 obtain rfl:N'=N2:=by omega
 have HC:=hid hC
 have hN64:=hC.ln2
 have HTO:=hid hTO
 have HPR:=hid hPR
 have HIN:=hid hin
 have HOPT:=hid hopt
 have HG:Hid (IntsR w5 w5.heap.size (some ⟨g,0,none⟩) N' (fun i=>((x i:Nat):Int))):=hid (zaH hrow)
 obtain ⟨cst,hcst⟩:∃ s,s=costW C x N':=⟨_,rfl⟩
 rw [<-hcst]
 have HCST:=hid hcst
 replace KB:=hid (onS KB.out kb);clear kb hdec hTO hPR hin hopt hrow hg hC e1 e2 e3 hcst q0 q1 q2 q3 q4
 have hsz:(P' ^ M') ^ n<=512:=by have:=HCNT.out; simpa only [Int.toNat_natCast] using this
 obtain ⟨q0,q1,q2,q3,q4⟩:=HBOX.out _ KB.out
 go_wp2_with fail
 refine (yaK P' M' (fun i=>(f i).toNat) A k c N' TC n d (natT V) w5 (HC.out.on (onS HB.out KB.out)) (by omega)).mono ?_
 rintro e w6 ⟨lv,rfl,hM,kb⟩
 obtain ⟨LA,lcp,hlv⟩:=hM.shape
 subst hlv
 have hL:=fieldLaws HC.out.fld
 have hq2:=hL.two
 have hmr:=hM.rd HC.out.fld.1.2.2.2 (fun i _ j _=>zbb hL _ _ _)
 obtain ⟨mw,hmw⟩:∃ mw,mw=(P' ^ M') ^ n:=⟨_,rfl⟩
 have hmw1:1<=mw:=by rw [hmw]; exact Nat.pow_pos (by omega)
 rw [<-hmw] at hsz hmr ⊢
 have HMW:=hid hmw
 have HWR:Hid (IntRows w6 LA mw (fun _=>N') (fun t j=>((spE (addF P' M') (mulF P' M' fun i=>(f i).toNat) (natT V) (msgD (P' ^ M') n t) n j:Nat):Int))):=hid hmr
 replace HG:=hid (HG.out.on kb);replace KB:=hid (onS KB.out kb)
 have HL:=hid hL
 clear kb hM hmr hmw hL q0 q1 q2 q3 q4
 have hNm:N'<=m:=by have:=HTO.out.1; omega
 go_wp2_with fail
 refine (yaE LA mw lcp N' (fun t j=>spE (addF P' M') (mulF P' M' fun i=>(f i).toNat) (natT V) (msgD (P' ^ M') n t) n j) CA m cc lc C w6 HWR.out (HCC.out.on (onS HB.out KB.out)) hmw1 (by omega) hNm hN64 (fun t _ j hj=>by rw [HTO.out.2 j (by omega)]; exact zbb HL.out _ _ _) HPR.out).mono ?_
 rintro e w7 ⟨kb,b,BA,bc,hb,rfl,hBI,hmin,hfirst⟩
 rw [HMW.out] at hb hmin
 obtain ⟨hc1,hc2⟩:=yaP HL.out HC.out.rref HIN.out HOPT.out hb hmin hfirst
 rw [<-hc1,<-HCST.out]
 have HBI:Hid (IntsR w7 w7.heap.size BA N' (fun i=>((x i:Nat):Int))):=hid (hBI.congr fun t ht=>by rw [hc2 t ht])
 replace HG:=hid (HG.out.on kb);replace KB:=hid (onS KB.out kb);clear kb hb hmin hfirst hBI hc1 hc2
 have h00:((0:Int) == 0)=true:=by simp
 have hcc:(cst == cst)=true:=by simp
 go_wp2_with fail
 refine (yaB (some ⟨g,0,none⟩) BA N' N' bc (fun i=>((x i:Nat):Int)) w7 HG.out HBI.out (by omega)).mono ?_
 rintro e w8 ⟨rfl,kb⟩
 replace KB:=hid (onS KB.out kb);clear kb
 go_wp2
 go_ret
 exact ⟨rfl,onS HB.out KB.out⟩
theorem viterbiLeast_law {H:Type} {enc:TypeId × Value->H} {w:World} {cs:Array Value} {v:Value}
  (h:Sees enc Tryz.prog w 0 (fun _=>true) true 27 cs.toList) (hv:Sees enc Tryz.prog w 0 (fun _=>true) true 25 [v]) :
  Calls Tryz.prog 4 #[.agg cs,v] w fun e w'=>e=.returned (.bool true)/\Below w.heap.size w w':=by
 obtain ⟨cs⟩:=cs
 obtain ⟨P,M,A,k,c1,N,T1,n,d,f,ln,V,rfl,_,_,_,_,_,_,hr,ht⟩:=zhH h
 obtain ⟨CA,m,cc,lc,C,e,_,_,hR⟩:=zgU hv
 injection e with e _
 subst e
 exact yak P M A k c1 f N T1 n d ln V CA m cc lc C w hr ht hR
end Go.Proofs.YtgekjfpapmlndaaGreat